/- Buffer: add; a buffer as a whole. Own work of this session. -/
import Derived.Test.YtphnfleopkcmlaaB5
set_option linter.unusedVariables false
namespace Go.Hw
open Go

theorem Kp.dec {S : Nat → Prop} {H0 H : Hp} (h : Kp S H0 H) {T : Nat → Prop} (hT : ∀ b, S b → T b) : Kp T H0 H := h.mono fun b _ hb => hT b hb

section
variable {F : Nat → Prop} {H : Hp} {g nb : Nat} {N : ML Mk (Option Nat)} {A : List Ch} {hl : Nat → Nat} {c : Ch} {stages raised : Value} {rs : Sl} {R : List (Option (Nat × Ch))} {Q : Int → Hp → Prop}

/-- A new way is laid, a run begun. -/
theorem c35 (r : Row H g 71 [stages, raised, .map (some nb), Sl.v rs]) (fg : F g) (h : WI F H nb N A hl) (full : Full N A) (new : ∀ c' ∈ A, c'.hd.num ≠ c.hd.num) (hw : Row H c.hd.ad 79 (c.row 0)) (wnew : ¬ F c.hd.ad)
    (hver : Lst iF H c.hd.sl c.hd.ver ∧ c.hd.ver.getLast? = some (c.hd.num : Int) ∧ c.hd.ver.length ≤ 16) (rl : Lst pF H rs (R.map rp)) (rf : ∀ b, rs.at b → F b) (rlen : R.length ≤ 1048575) (rn : ∀ p, some p ∈ R → Run F H p)
    (G : Nat → Prop) (hG : ∀ b, G b ↔ F b ∨ b = c.hd.ad ∨ c.hd.sl.at b)
    (hQ : ∀ H' N' rs' b, H.size ≤ b → b < H'.size → Row H' g 71 [stages, raised, .map (some nb), Sl.v rs'] → WI (Ext G H.size H'.size) H' nb N' (c :: A) (one1 hl c.hd.num) → Full N' (c :: A) → Lst pF H' rs' ((lay R (b, c)).2.map rp) → (∀ b, rs'.at b → Ext G H.size H'.size b) →
      (∀ p, some p ∈ (lay R (b, c)).2 → Run (Ext G H.size H'.size) H' p) → Kp G H H' → (∀ b l, Row H b 83 l → Row H' b 83 l) → Q (lay R (b, c)).1 H') :
    F35 (some ⟨g, 0, none⟩) c.hd.mark.1 c.hd.mark.2 c.hd.p H Q := by
  intro H1 e1
  have k1 := (Kp.refl No H).push' e1
  have s1 := size_push' e1
  have m1 : Row H1 H.size 32 [.int .i64 c.hd.mark.1, .int .i64 c.hd.mark.2] := Row.new' e1
  have w1 := k1.row hw id
  refine ⟨_, rfl, w1.some (i := 4) (by simp [Ch.row]), w1.frz 4, fun H5 e5 => ?_⟩
  have w5 : Row H5 c.hd.ad 79 (c.row 1) := w1.set' (i := 4) e5
  have k5 : Kp (fun b => b = c.hd.ad) H1 H5 := (Kp.refl _ _).set' e5 (.inl rfl)
  have s5 := size_set' e5
  have r5 := (k1.row r id).set_ne' e5 ((k1.row r id).ne_type w1 (by decide))
  have m5 := m1.set_ne' e5 (m1.ne_type w1 (by decide))
  have h5 : WI F H5 nb N A (one1 hl c.hd.num) := ((h.no k1).kp k5 fun b hb hh => wnew (hh ▸ hb)).hlc fun c' hc' => (if_neg (new c' hc')).symm
  have v5 := (hver.1.kp k1 fun _ _ => id).kp k5 fun b hb hh => (hver.1.row hb).elim fun _ hr => hr.ne_type hw (by decide) hh
  have l5 := (rl.kp k1 fun _ _ => id).kp k5 fun b hb hh => wnew (hh ▸ rf b hb)
  have rn5 : ∀ p, some p ∈ R → Run F H5 p := fun p hp => ⟨(rn p hp).1, k5.row (k1.row (rn p hp).2 id) fun hh => wnew (hh ▸ (rn p hp).1)⟩
  have kr5 : ∀ b l, Row H b 83 l → Row H5 b 83 l := fun b l hr => k5.row (k1.row hr id) fun hh => (k1.row hr id).ne_type w1 (by decide) hh
  have kp5 : Kp G H H5 := (k1.dec fun _ h => h.elim).trans k5 fun b hb => .inl ((hG b).2 (.inr (.inl hb)))
  have adn : ∀ c' ∈ A, c'.hd.ad ≠ c.hd.ad := fun c' hc' hh => wnew (hh ▸ (h.row c' hc').1)
  have hlt : ∀ b, G b → b < H.size := fun b hb => by
    rcases (hG b).1 hb with hb | hb | hb
    · exact h.lt b hb
    · exact hb ▸ hw.lt
    · exact hver.1.lt hb
  obtain ⟨cm, hcm⟩ := h5.cm
  refine ⟨_, rfl, _, r5.cell_of (i := 2) rfl, fun hh => (by cases hh), fun _ => ⟨_, rfl, _, r5.cell_of (i := 2) rfl, _, _, m5.all, N, cm, MapK.of hcm, fun hh => ?_, fun hh => ?_⟩⟩
  · have hk : c.hd.mark ∉ mkeys N := fun hk => by
      obtain ⟨ib, _, _, hg, _⟩ := h5.atm hk
      have hh : ((mget N c.hd.mark).getD none).isNone = true := hh
      rw [hg] at hh
      cases hh
    refine ⟨_, rfl, _, r5.cell_of (i := 2) rfl, _, _, m5.all, fun H46 e46 => ?_⟩
    have s46 := size_push' e46
    have k46 : Kp No H5 H46 := (Kp.refl No _).push' e46
    refine ⟨(k46.row m5 id).all, (k46.row r5 id).cell_of (i := 2) rfl, nb, N, cm, rfl, MapK.of (hcm.kp k46 id), fun H50 e50 => ?_⟩
    obtain ⟨h50, k50⟩ := h5.addN hk hcm e46 e50
    have s50 := size_seto' e50
    have nr := map_norow hcm
    have sub : ∀ b, (F b ∨ b = H5.size) → Ext G H.size H50.size b := fun b hb => by
      rcases hb with hb | hb
      · exact .inl ((hG b).2 (.inl hb))
      · exact .inr ⟨by omega, by omega⟩
    have subG : ∀ b, G b → Ext G H.size H50.size b := fun b hb => .inl hb
    have h50' := h50.mono sub fun b hb => by
      rcases hb with hb | hb
      · have := hlt b hb; omega
      · omega
    have kE : ∀ {H' : Hp}, H50.size ≤ H'.size → ∀ b, Ext (Ext G H.size H50.size) H50.size H'.size b → Ext G H.size H'.size b := fun hs b hb => by
      rcases hb with (hb | hb) | hb
      · exact .inl hb
      · exact .inr ⟨by omega, by omega⟩
      · exact .inr ⟨by omega, by omega⟩
    refine c35_2 (F := Ext G H.size H50.size) (k50.row r5 fun hh => nr _ _ _ hh r5) (sub _ (.inl fg)) h50' (fun e he => ?_) ?_ new adn (subG _ ((hG _).2 (.inr (.inl rfl)))) (k50.row w5 fun hh => nr _ _ _ hh w5) ⟨v5.kp k50 fun b hb hh => (v5.row hb).elim fun _ hr => nr _ _ _ hh hr, hver.2.1, hver.2.2, fun b hb => subG _ ((hG b).2 (.inr (.inr hb)))⟩
      (k50.row m5 fun hh => nr _ _ _ hh m5) (l5.kp k50 fun b hb hh => (l5.row hb).elim fun _ hr => nr _ _ _ hh hr) (fun b hb => sub _ (.inl (rf b hb))) rlen (fun p hp => ⟨sub _ (.inl (rn5 p hp).1), k50.row (rn5 p hp).2 fun hh => nr _ _ _ hh (rn5 p hp).2⟩) ?_
    · rw [mput_new hk, List.mem_append, List.mem_singleton] at he
      rcases he with he | rfl
      · exact .inr (full e he)
      · exact .inl rfl
    · rw [mkeys_mput, if_neg hk]; simp
    · intro H' rs' b hb1 hb2 q1 q2 q3 q4 q5 q6 q7 q8
      have hs := q7.size
      refine hQ H' _ rs' b (by omega) hb2 q1 (q2.mono (kE hs) fun b hb => ?_) q3 q4 (fun b hb => kE hs b (q5 b hb)) (fun p hp => ⟨kE hs _ (q6 p hp).1, (q6 p hp).2⟩) ((kp5.trans k50 fun b hb => .inl (hb ▸ (hG _).2 (.inl h5.fn))).trans q7 fun b hb => ?_) (fun b l hr => q8 b l (k50.row (kr5 b l hr) fun hh => nr _ _ _ hh (kr5 b l hr)))
      · rcases hb with hb | hb
        · have := hlt b hb; omega
        · omega
      · rcases hb with hb | hb
        · exact .inl hb
        · exact .inr hb.1
  · have hk : c.hd.mark ∈ mkeys N := by
      rw [← mget_mem]
      have hh : ((mget N c.hd.mark).getD none).isNone = false := hh
      cases hm : mget N c.hd.mark with
      | none => rw [hm] at hh; cases hh
      | some v => exact ⟨v, rfl⟩
    have sub : ∀ b, F b → G b := fun b hb => (hG b).2 (.inl hb)
    refine c35_2 (F := G) r5 (sub _ fg) (h5.mono sub fun b hb => by have := hlt b hb; omega) (fun e he => .inr (full e he)) hk new adn ((hG _).2 (.inr (.inl rfl))) w5 ⟨v5, hver.2.1, hver.2.2, fun b hb => (hG b).2 (.inr (.inr hb))⟩ m5 l5 (fun b hb => sub _ (rf b hb)) rlen
      (fun p hp => ⟨sub _ (rn5 p hp).1, (rn5 p hp).2⟩) ?_
    intro H' rs' b hb1 hb2 q1 q2 q3 q4 q5 q6 q7 q8
    have hs := q7.size
    have kE : ∀ b, Ext G H5.size H'.size b → Ext G H.size H'.size b := fun b hb => by
      rcases hb with hb | hb
      · exact .inl hb
      · exact .inr ⟨by omega, by omega⟩
    refine hQ H' _ rs' b (by omega) hb2 q1 (q2.mono kE fun b hb => ?_) q3 q4 (fun b hb => kE b (q5 b hb)) (fun p hp => ⟨kE _ (q6 p hp).1, (q6 p hp).2⟩) (kp5.trans q7 fun b hb => .inl hb) (fun b l hr => q8 b l (kr5 b l hr))
    rcases hb with hb | hb
    · have := hlt b hb; omega
    · omega
end

/-! ## a buffer -/
structure BJ (F : Nat → Prop) (H : Hp) (g : Nat) (st : Int) (n raised nb : Nat) (N : ML Mk (Option Nat)) (A : List Ch) (hl : Nat → Nat) (rs : Sl) (R : List (Option (Nat × Ch))) : Prop where
  row : Row H g 71 [.int .i64 st, .int .i64 raised, .map (some nb), Sl.v rs]
  fg : F g
  st1 : 1 ≤ st ∧ st ≤ 8
  rz : raised ≤ n
  wi : WI F H nb N A hl
  full : Full N A
  wp : WP A (ends R) hl
  bd : ∀ c ∈ A, c.hd.num ≤ raised ∧ 0 ≤ c.hd.mark.1 ∧ c.hd.mark.1 < st ∧ (c.hd.ver.length : Int) = c.hd.mark.1 + 1 ∧ hl c.hd.num ≤ n
  rl : Lst pF H rs (R.map rp)
  rf : ∀ b, rs.at b → F b
  rlen : R.length ≤ n
  rn : ∀ p, some p ∈ R → Run F H p
  ra : ∀ p, some p ∈ R → p.2 ∈ A

def Ch.marks (c : Ch) : List Mk := c.hd.mark :: c.tl.map (·.mark)
abbrev Fn := Nat → Option (List Mk)
def rows (R : List (Option (Nat × Ch))) : Fn := fnOf (R.map (Option.map fun p => p.2.marks))

/-- A buffer on the heap, seen from outside: at each handle a row of marks, the last first. -/
def BI (F : Nat → Prop) (H : Hp) (g : Nat) (st : Int) (n : Nat) (f : Fn) : Prop := ∃ raised nb N A hl rs R, BJ F H g st n raised nb N A hl rs R ∧ f = rows R

theorem BJ.kp {F S : Nat → Prop} {H H' : Hp} {g : Nat} {st : Int} {n raised nb : Nat} {N : ML Mk (Option Nat)} {A : List Ch} {hl : Nat → Nat} {rs : Sl} {R : List (Option (Nat × Ch))} (h : BJ F H g st n raised nb N A hl rs R) (k : Kp S H H') (hs : ∀ b, F b → ¬ S b) : BJ F H' g st n raised nb N A hl rs R :=
  ⟨k.row h.row (hs _ h.fg), h.fg, h.st1, h.rz, h.wi.kp k hs, h.full, h.wp, h.bd, h.rl.kp k fun b hb => hs b (h.rf b hb), h.rf, h.rlen, fun p hp => ⟨(h.rn p hp).1, k.row (h.rn p hp).2 (hs _ (h.rn p hp).1)⟩, h.ra⟩
theorem BI.kp {F S : Nat → Prop} {H H' : Hp} {g : Nat} {st : Int} {n : Nat} {f : Fn} (h : BI F H g st n f) (k : Kp S H H') (hs : ∀ b, F b → ¬ S b) : BI F H' g st n f := by
  obtain ⟨_, _, _, _, _, _, _, h1, h2⟩ := h
  exact ⟨_, _, _, _, _, _, _, h1.kp k hs, h2⟩
theorem BI.lt {F : Nat → Prop} {H : Hp} {g : Nat} {st : Int} {n : Nat} {f : Fn} (h : BI F H g st n f) : ∀ b, F b → b < H.size := by
  obtain ⟨_, _, _, _, _, _, _, h1, h2⟩ := h
  exact h1.wi.lt
theorem BI.more {F : Nat → Prop} {H : Hp} {g : Nat} {st : Int} {n n' : Nat} {f : Fn} (h : BI F H g st n f) (hn : n ≤ n') : BI F H g st n' f := by
  obtain ⟨_, _, _, _, _, _, _, h1, h2⟩ := h
  exact ⟨_, _, _, _, _, _, _, ⟨h1.row, h1.fg, h1.st1, Nat.le_trans h1.rz hn, h1.wi, h1.full, h1.wp, fun c hc => by have := h1.bd c hc; exact ⟨this.1, this.2.1, this.2.2.1, this.2.2.2.1, by omega⟩, h1.rl, h1.rf, Nat.le_trans h1.rlen hn, h1.rn, h1.ra⟩, h2⟩
end Go.Hw
