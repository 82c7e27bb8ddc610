/- The hand: all is written over. The law: left, asked. The law: one call. The law: every call, in every order. Own work of this session. -/
import Derived.Test.YtfkhglkcplnppaaDoorK9
set_option linter.unusedVariables false
namespace Go.Hw
open Go

section
variable {H H' : Hp} {t k pt hb x : Nat} {P : Sl} {S : List Sl} {s : Sl}
theorem Slot.same {b : Nat} {l l' : List Value} (h : Slot H t k s) (r : Row H b t l) (r' : Row H' b t l') (hl : l'.length = l.length) (kk : Kp (fun x => x = b) H H') : Slot H' t k s := by
 obtain ⟨l0, o⟩ := h
 rcases o with ⟨rfl, rfl⟩ | ⟨b', sp, g1, g2, g3, g4, g5⟩
 ·exact Slot.nil _ _ _
 ·by_cases e : b' = b
  ·subst e
   have e1 := (g2.inj r).1
   refine ⟨l'.take (s.n * k), .inr ⟨b', l'.drop (s.n * k), g1, by rw [List.take_append_drop]; exact r', ?_, by rw [List.take_append_drop, hl, ← e1]; exact g4, g5⟩⟩
   rw [List.length_take, hl, ← e1, g4]
   exact Nat.min_eq_left (Nat.mul_le_mul_right _ g5.1)
  ·exact ⟨l0, .inr ⟨b', sp, g1, kk.row g2 e, g3, g4, g5⟩⟩
theorem Slot.put (h : Slot H t k s) {j : Nat} (hj : j < s.n) {row : List Value} (hrow : row.length = k) : ∃ b l, s.b = some ⟨b, 0, none⟩ ∧ Row H b t l ∧ mayw H ((⟨b, 0, none⟩ : Addr).add (j * k)) k 0 ∧
  ∀ H', H' = sets H ((⟨b, 0, none⟩ : Addr).add (j * k)) row 0 → ∃ l', Row H' b t l' ∧ l'.length = l.length ∧ Kp (fun x => x = b) H H' := by
 obtain ⟨l0, o⟩ := h
 rcases o with ⟨rfl, rfl⟩ | ⟨b, sp, g1, g2, g3, g4, g5, g6⟩
 ·exact absurd hj (Nat.not_lt_zero _)
 ·have hm : j * k + k ≤ s.c * k := by rw [← Nat.succ_mul]; exact Nat.mul_le_mul_right _ (by omega)
  refine ⟨b, _, g1, g2, ?_, fun H' e => ?_⟩
  ·rw [add_mk, Nat.zero_add]; exact g2.mayw (by omega)
  ·rw [add_mk, Nat.zero_add] at e
   exact ⟨_, g2.sets' e (by omega), length_over _ _ _ (by omega), (Kp.refl (fun x => x = b) H).sets' e (.inl rfl)⟩
theorem Slot.put1 (h : Slot H t 1 s) {j : Nat} (hj : j < s.n) {v : Value} : ∃ b l, s.b = some ⟨b, 0, none⟩ ∧ Row H b t l ∧ (cell H ((⟨b, 0, none⟩ : Addr).add (j * 1))).isSome = true ∧ frz H ((⟨b, 0, none⟩ : Addr).add (j * 1)) = false ∧
  ∀ H', H' = setc H ((⟨b, 0, none⟩ : Addr).add (j * 1)) v → ∃ l', Row H' b t l' ∧ l'.length = l.length ∧ Kp (fun x => x = b) H H' := by
 obtain ⟨l0, o⟩ := h
 rcases o with ⟨rfl, rfl⟩ | ⟨b, sp, g1, g2, g3, g4, g5, g6⟩
 ·exact absurd hj (Nat.not_lt_zero _)
 ·have ea : (⟨b, 0, none⟩ : Addr).add (j * 1) = ⟨b, j, none⟩ := by rw [add_mk, Nat.zero_add, Nat.mul_one]
  refine ⟨b, _, g1, g2, by rw [ea]; exact g2.some (by omega), by rw [ea]; exact g2.frz _, fun H' e => ?_⟩
  rw [ea] at e
  exact ⟨_, g2.set' e, List.length_set .., (Kp.refl (fun x => x = b) H).set' e (.inl rfl)⟩
theorem Slot.nle (h : Slot H t k s) : s.n ≤ 9223372036854775807 := by
 obtain ⟨l0, o⟩ := h
 rcases o with ⟨rfl, rfl⟩ | ⟨b, sp, g1, g2, g3, g4, g5, g6⟩
 ·exact Nat.zero_le _
 ·omega
theorem Pool.same {b : Nat} {l l' : List Value} (p : Pool pt t k H P S) (hpt : pt ≠ t) (r : Row H b t l) (r' : Row H' b t l') (hl : l'.length = l.length) (kk : Kp (fun x => x = b) H H') : Pool pt t k H' P S :=
 ⟨p.lst.kp kk fun b' h e => by obtain ⟨sp, h⟩ := p.lst.row h; subst e; exact hpt (h.inj r).2, fun i s hs => (p.own i s hs).same r r' hl kk, p.dis⟩

def OvG (fo co : Addr → Addr) (k : Nat) (row : List Value) (p0 : Option Addr) (C : Hp → Prop) (H : Hp) : Prop :=
 ∀ X2 : Int → Hp → Prop, (∀ (y2 : Int) (H_2 : Hp), (∃ a4 : Addr, p0 = some a4 ∧ ∃ x7 : Int, cell H_2 (co a4) = some (iv x7) ∧
  (decide (y2 < x7) = true → ∀ X4 : Int → Hp → Prop, (∀ (y11 : Int) (H_4 : Hp), (∃ a14 : Addr, p0 = some a14 ∧ ∃ x17 : Sl, cell H_4 (fo a14) = some (Sl.v x17) ∧ ∃ a18 : Addr, x17.b = some a18 ∧ (0 : Int) ≤ y2 ∧ y2 < (x17.n : Int) ∧
   ∃ x23 : Sl, cell H_4 (Addr.add a18 (y2.toNat * 1)) = some (Sl.v x23) ∧
   (decide (y11 < (x23.n : Int)) = true → ∃ a25 : Addr, p0 = some a25 ∧ ∃ x28 : Sl, cell H_4 (fo a25) = some (Sl.v x28) ∧ ∃ a29 : Addr, x28.b = some a29 ∧ (0 : Int) ≤ y2 ∧ y2 < (x28.n : Int) ∧
    ∃ x34 : Sl, cell H_4 (Addr.add a29 (y2.toNat * 1)) = some (Sl.v x34) ∧ ∃ a35 : Addr, x34.b = some a35 ∧ (0 : Int) ≤ y11 ∧ y11 < (x34.n : Int) ∧
    mayw H_4 (Addr.add a35 (y11.toNat * k)) k 0 ∧ ∀ H39 : Hp, H39 = sets H_4 (Addr.add a35 (y11.toNat * k)) row 0 → X4 (IntKind.i64.wrap (y11 + 1)) H39) ∧
   (decide (y11 < (x23.n : Int)) = false → X2 (IntKind.i64.wrap (y2 + 1)) H_4)) → X4 y11 H_4) → X4 0 H_2) ∧
  (decide (y2 < x7) = false → C H_2)) → X2 y2 H_2) → X2 0 H
theorem over_pool {fo co : Addr → Addr} {fi ci : Nat} {R row : List Value} {C : Hp → Prop} (hr : Row H hb 32 R) (hfo : fo ⟨hb, 0, none⟩ = ⟨hb, fi, none⟩) (hco : co ⟨hb, 0, none⟩ = ⟨hb, ci, none⟩) (hf : R[fi]? = some (Sl.v P)) (hc : R[ci]? = some (iv (x : Int)))
  (p : Pool pt t k H P S) (h32 : t ≠ 32) (hpt : pt ≠ t) (hx : x ≤ S.length) (hS : S.length ≤ 1099511627776) (hrow : row.length = k) (hC : ∀ H', Pool pt t k H' P S → Kp (fun b => ∃ (i : Nat) (s : Sl), S[i]? = some s ∧ s.at b) H H' → C H') : OvG fo co k row (some ⟨hb, 0, none⟩) C H := by
 intro X2 hX2
 have hns : ∀ b, (∃ (i : Nat) (s : Sl), S[i]? = some s ∧ s.at b) → ∃ l, Row H b t l := fun b ⟨i, s, h1, h2⟩ => (p.own i s h1).row h2
 have nhb : ¬ ∃ (i : Nat) (s : Sl), S[i]? = some s ∧ s.at hb := fun h => by obtain ⟨l, h⟩ := hns _ h; exact h32 (h.inj hr).2
 suffices G : ∀ (d i : Nat) (H' : Hp), i + d = x → Pool pt t k H' P S → Kp (fun b => ∃ (i : Nat) (s : Sl), S[i]? = some s ∧ s.at b) H H' → X2 (i : Int) H' from G x 0 H (by omega) p (Kp.refl _ _)
 intro d
 induction d with
 | zero =>
  intro i H' hi p' k'
  refine hX2 _ _ ⟨_, rfl, _, by rw [hco]; exact (k'.row hr nhb).cell_of hc, fun g => absurd (of_decide_eq_true g) (by omega), fun _ => hC H' p' k'⟩
 | succ d ih =>
  intro i H' hi p' k'
  refine hX2 _ _ ⟨_, rfl, _, by rw [hco]; exact (k'.row hr nhb).cell_of hc, fun _ => ?_, fun g => absurd (of_decide_eq_false g) (by omega)⟩
  intro X4 hX4
  obtain ⟨s, hs⟩ : ∃ s, S[i]? = some s := ⟨_, List.getElem?_eq_getElem (by omega)⟩
  have snle := (p.own i s hs).nle
  suffices G2 : ∀ (e j : Nat) (H'' : Hp), j + e = s.n → Pool pt t k H'' P S → Kp (fun b => ∃ (i : Nat) (s : Sl), S[i]? = some s ∧ s.at b) H H'' → X4 (j : Int) H'' from G2 s.n 0 H' (by omega) p' k'
  intro e
  induction e with
  | zero =>
   intro j H'' hj p'' k''
   obtain ⟨a, ha, h0, h1, ca⟩ := rdAt p''.lst.rd hs
   refine hX4 _ _ ⟨_, rfl, P, by rw [hfo]; exact (k''.row hr nhb).cell_of hf, a, ha, h0, h1, s, ca, fun g => absurd (of_decide_eq_true g) (by omega), fun _ => ?_⟩
   rw [wr (by omega) (by omega), show ((i : Int) + 1) = ((i + 1 : Nat) : Int) by omega]
   exact ih (i + 1) H'' (by omega) p'' k''
  | succ e ih2 =>
   intro j H'' hj p'' k''
   obtain ⟨a, ha, h0, h1, ca⟩ := rdAt p''.lst.rd hs
   have rr := (k''.row hr nhb).cell_of hf
   obtain ⟨b, l, hb1, hb2, hb3, hb4⟩ := (p''.own i s hs).put (j := j) (by omega) hrow
   have jt : ((j : Nat) : Int).toNat = j := by omega
   refine hX4 _ _ ⟨_, rfl, P, by rw [hfo]; exact rr, a, ha, h0, h1, s, ca, fun _ => ⟨_, rfl, P, by rw [hfo]; exact rr, a, ha, h0, h1, s, ca, _, hb1, by omega, by omega, ?_⟩, fun g => absurd (of_decide_eq_false g) (by omega)⟩
   rw [jt]
   refine ⟨hb3, fun H39 e39 => ?_⟩
   obtain ⟨l', hl1, hl2, hl3⟩ := hb4 H39 e39
   rw [wr (by omega) (by omega), show ((j : Int) + 1) = ((j + 1 : Nat) : Int) by omega]
   exact ih2 (j + 1) H39 (by omega) (p''.same hpt hb2 hl1 hl2 hl3) (k''.trans hl3 fun b' h => .inl ⟨i, s, hs, by subst h; exact hb1⟩)
def OvS (fo : Addr → Addr) (W : Hp → Addr → (Hp → Prop) → Prop) (k : Nat) (p0 : Option Addr) (C : Hp → Prop) (H : Hp) : Prop :=
 ∀ X : Int → Hp → Prop, (∀ (y : Int) (H_1 : Hp), (∃ a208 : Addr, p0 = some a208 ∧ ∃ x211 : Sl, cell H_1 (fo a208) = some (Sl.v x211) ∧
  (decide (y < (x211.n : Int)) = true → ∃ a213 : Addr, p0 = some a213 ∧ ∃ x216 : Sl, cell H_1 (fo a213) = some (Sl.v x216) ∧ ∃ a217 : Addr, x216.b = some a217 ∧ (0 : Int) ≤ y ∧ y < (x216.n : Int) ∧
   W H_1 (Addr.add a217 (y.toNat * k)) (fun H' => X (IntKind.i64.wrap (y + 1)) H')) ∧
  (decide (y < (x211.n : Int)) = false → C H_1)) → X y H_1) → X 0 H
theorem over_own {fo : Addr → Addr} {W : Hp → Addr → (Hp → Prop) → Prop} {fi : Nat} {R : List Value} {C : Hp → Prop} (hr : Row H hb 32 R) (hfo : fo ⟨hb, 0, none⟩ = ⟨hb, fi, none⟩) (hf : R[fi]? = some (Sl.v s)) (hs : Slot H t k s) (h32 : t ≠ 32)
  (hW : ∀ (H1 : Hp) (j : Nat) (K : Hp → Prop), Slot H1 t k s → j < s.n → (∀ b l l' H2, s.b = some ⟨b, 0, none⟩ → Row H1 b t l → Row H2 b t l' → l'.length = l.length → Kp (fun x => x = b) H1 H2 → K H2) → ∀ b, s.b = some ⟨b, 0, none⟩ → W H1 ((⟨b, 0, none⟩ : Addr).add (j * k)) K)
  (hC : ∀ H', Slot H' t k s → Kp s.at H H' → C H') : OvS fo W k (some ⟨hb, 0, none⟩) C H := by
 intro X hX
 have nhb : ¬ s.at hb := fun h => by obtain ⟨l, h⟩ := hs.row h; exact h32 (h.inj hr).2
 have snle := hs.nle
 suffices G : ∀ (d i : Nat) (H' : Hp), i + d = s.n → Slot H' t k s → Kp s.at H H' → X (i : Int) H' from G s.n 0 H (by omega) hs (Kp.refl _ _)
 intro d
 induction d with
 | zero =>
  intro i H' hi p' k'
  exact hX _ _ ⟨_, rfl, s, by rw [hfo]; exact (k'.row hr nhb).cell_of hf, fun g => absurd (of_decide_eq_true g) (by omega), fun _ => hC H' p' k'⟩
 | succ d ih =>
  intro i H' hi p' k'
  have it : ((i : Nat) : Int).toNat = i := by omega
  have rr := (k'.row hr nhb).cell_of hf
  obtain ⟨l0, o⟩ := p'
  rcases o with ⟨rfl, rfl⟩ | ⟨b, sp, g1, g2, g3, g4, g5⟩
  ·exact absurd hi (by show ¬ i + (d + 1) = 0; omega)
  ·refine hX _ _ ⟨_, rfl, s, by rw [hfo]; exact rr, fun _ => ⟨_, rfl, s, by rw [hfo]; exact rr, _, g1, by omega, by omega, ?_⟩, fun g => absurd (of_decide_eq_false g) (by omega)⟩
   rw [it]
   have p' : Slot H' t k s := ⟨l0, .inr ⟨b, sp, g1, g2, g3, g4, g5⟩⟩
   refine hW H' i _ p' (by omega) (fun b' l l' H2 e r r' hl kk => ?_) b g1
   rw [wr (by omega) (by omega), show ((i : Int) + 1) = ((i + 1 : Nat) : Int) by omega]
   exact ih (i + 1) H2 (by omega) (p'.same r r' hl kk) (k'.trans kk fun b'' h => .inl (by subst h; exact e))
end
section
variable {H0 H : Hp} {hb : Nat} {h : Hd} {S : Ss}
theorem c36 {Q : Hp → Prop} (hi : HI H0 H hb h S) (ho : HO H0 H hb h S) (hQ : ∀ H', HI H0 H' hb { h with nx := 0, nv := 0, ne := 0, na := 0 } S → HO H0 H' hb { h with nx := 0, nv := 0, ne := 0, na := 0 } S → KT kty H H' → Q H') : F36 (some ⟨hb, 0, none⟩) H Q := by
 have ktm : ∀ {H1 H2 : Hp} {t : Nat}, KT [t] H1 H2 → t ∈ kty → KT kty H1 H2 := fun k h => k.mono fun t ht => by simp at ht; subst ht; exact h
 have fr : ∀ {P : Sl} {L : List Sl} {b : Nat}, (∃ (i : Nat) (s : Sl), L[i]? = some s ∧ s.at b) → Fr hb P L 0 b := fun ⟨i, s, h1, h2⟩ => .inr (.inr ⟨i, s, Nat.zero_le _, h1, h2⟩)
 show OvG (fun a => a) (fun a => a.add 7) 10 (eR 99 0 0 0 bE false bE 0 bE Sl.nil) (some ⟨hb, 0, none⟩) (fun H => F36_1 Q (some ⟨hb, 0, none⟩) H) H
 refine over_pool (fi := 0) (ci := 7) hi.row rfl (by rw [add_mk, Nat.zero_add]) rfl rfl hi.px (by decide) (by decide) hi.nx hi.mx rfl fun H1 p1 k1 => ?_
 have kt1 : KT [41] H H1 := KT.of k1 fun b ⟨i, s, h1, h2⟩ => by obtain ⟨l, g⟩ := (hi.px.own i s h1).row h2; exact ⟨41, l, by simp, g⟩
 have hi1 : HI H0 H1 hb h S := ⟨hi.k0.trans k1 fun b g => .inr (hi.lo b (.inl (fr g))), kt1.row hi.row (by decide), p1, kt1.pool hi.pv (by decide) (by decide), kt1.pool hi.pe (by decide) (by decide), kt1.pool hi.pa (by decide) (by decide), hi.lo, hi.nx, hi.nv, hi.ne, hi.na, hi.mx, hi.mv, hi.me, hi.ma⟩
 have ho1 : HO H0 H1 hb h S := ⟨ho.vr.imp fun _ o => kt1.own o (by decide), ho.bd.imp fun _ o => kt1.own o (by decide), ho.ty.imp fun _ o => kt1.own o (by decide), ho.lo, ho.nb⟩
 show OvG (fun a => a.add 1) (fun a => a.add 8) 4 (vR 99 0 bE false) (some ⟨hb, 0, none⟩) (fun H => F36_5 Q (some ⟨hb, 0, none⟩) H) H1
 refine over_pool (fi := 1) (ci := 8) hi1.row (by rw [add_mk, Nat.zero_add]) (by rw [add_mk, Nat.zero_add]) rfl rfl hi1.pv (by decide) (by decide) hi1.nv hi1.mv rfl fun H2 p2 k2 => ?_
 have kt2 : KT [38] H1 H2 := KT.of k2 fun b ⟨i, s, h1, h2⟩ => by obtain ⟨l, g⟩ := (hi1.pv.own i s h1).row h2; exact ⟨38, l, by simp, g⟩
 have hi2 : HI H0 H2 hb h S := ⟨hi1.k0.trans k2 fun b g => .inr (hi.lo b (.inr (.inl (fr g)))), kt2.row hi1.row (by decide), kt2.pool hi1.px (by decide) (by decide), p2, kt2.pool hi1.pe (by decide) (by decide), kt2.pool hi1.pa (by decide) (by decide), hi.lo, hi.nx, hi.nv, hi.ne, hi.na, hi.mx, hi.mv, hi.me, hi.ma⟩
 have ho2 : HO H0 H2 hb h S := ⟨ho1.vr.imp fun _ o => kt2.own o (by decide), ho1.bd.imp fun _ o => kt2.own o (by decide), ho1.ty.imp fun _ o => kt2.own o (by decide), ho.lo, ho.nb⟩
 show OvG (fun a => a.add 2) (fun a => a.add 9) 3 (tR S_kept 0 Sl.nil) (some ⟨hb, 0, none⟩) (fun H => F36_9 Q (some ⟨hb, 0, none⟩) H) H2
 refine over_pool (fi := 2) (ci := 9) hi2.row (by rw [add_mk, Nat.zero_add]) (by rw [add_mk, Nat.zero_add]) rfl rfl hi2.pe (by decide) (by decide) hi2.ne hi2.me rfl fun H3 p3 k3 => ?_
 have kt3 : KT [36] H2 H3 := KT.of k3 fun b ⟨i, s, h1, h2⟩ => by obtain ⟨l, g⟩ := (hi2.pe.own i s h1).row h2; exact ⟨36, l, by simp, g⟩
 have hi3 : HI H0 H3 hb h S := ⟨hi2.k0.trans k3 fun b g => .inr (hi.lo b (.inr (.inr (.inl (fr g))))), kt3.row hi2.row (by decide), kt3.pool hi2.px (by decide) (by decide), kt3.pool hi2.pv (by decide) (by decide), p3, kt3.pool hi2.pa (by decide) (by decide), hi.lo, hi.nx, hi.nv, hi.ne, hi.na, hi.mx, hi.mv, hi.me, hi.ma⟩
 have ho3 : HO H0 H3 hb h S := ⟨ho2.vr.imp fun _ o => kt3.own o (by decide), ho2.bd.imp fun _ o => kt3.own o (by decide), ho2.ty.imp fun _ o => kt3.own o (by decide), ho.lo, ho.nb⟩
 show OvG (fun a => a.add 3) (fun a => a.add 10) 2 [(sv S_kept), (iv 2)] (some ⟨hb, 0, none⟩) (fun H => F36_13 Q (some ⟨hb, 0, none⟩) H) H3
 refine over_pool (fi := 3) (ci := 10) hi3.row (by rw [add_mk, Nat.zero_add]) (by rw [add_mk, Nat.zero_add]) rfl rfl hi3.pa (by decide) (by decide) hi3.na hi3.ma rfl fun H4 p4 k4 => ?_
 have kt4 : KT [83] H3 H4 := KT.of k4 fun b ⟨i, s, h1, h2⟩ => by obtain ⟨l, g⟩ := (hi3.pa.own i s h1).row h2; exact ⟨83, l, by simp, g⟩
 have hi4 : HI H0 H4 hb h S := ⟨hi3.k0.trans k4 fun b g => .inr (hi.lo b (.inr (.inr (.inr (fr g))))), kt4.row hi3.row (by decide), kt4.pool hi3.px (by decide) (by decide), kt4.pool hi3.pv (by decide) (by decide), kt4.pool hi3.pe (by decide) (by decide), p4, hi.lo, hi.nx, hi.nv, hi.ne, hi.na, hi.mx, hi.mv, hi.me, hi.ma⟩
 have ho4 : HO H0 H4 hb h S := ⟨ho3.vr.imp fun _ o => kt4.own o (by decide), ho3.bd.imp fun _ o => kt4.own o (by decide), ho3.ty.imp fun _ o => kt4.own o (by decide), ho.lo, ho.nb⟩
 show OvS (fun a => a.add 4) (fun H a K => (cell H a).isSome = true ∧ frz H a = false ∧ ∀ H181 : Hp, H181 = setc H a (sv S_kept) → K H181) 1 (some ⟨hb, 0, none⟩) (fun H => F36_17 Q (some ⟨hb, 0, none⟩) H) H4
 refine over_own (fi := 4) (t := 9) hi4.row (by rw [add_mk, Nat.zero_add]) rfl ho4.vr (by decide) (fun H1 j K p hj hK b hb' => ?_) fun H5 p5 k5 => ?_
 ·obtain ⟨b', l, g1, g2, g3, g4, g5⟩ := p.put1 hj (v := sv S_kept)
  rw [g1] at hb'; injection hb' with hb'; injection hb' with hb'; subst hb'
  exact ⟨g3, g4, fun H2 e => by obtain ⟨l', g6, g7, g8⟩ := g5 H2 e; exact hK b' l l' H2 g1 g2 g6 g7 g8⟩
 have kt5 : KT [9] H4 H5 := KT.of k5 fun b g => by obtain ⟨l, g⟩ := ho4.vr.row g; exact ⟨9, l, by simp, g⟩
 have hi5 : HI H0 H5 hb h S := hi4.kp k5 (fun b hf g => by obtain ⟨l, g⟩ := ho4.vr.row g; exact hi4.nz g (by decide) hf) fun b g => ho.lo b (.inl g)
 have ho5 : HO H0 H5 hb h S := ⟨p5, ho4.bd.imp fun _ o => kt5.own o (by decide), ho4.ty.imp fun _ o => kt5.own o (by decide), ho.lo, ho.nb⟩
 show OvS (fun a => a.add 5) (fun H a K => (cell H a).isSome = true ∧ frz H a = false ∧ ∀ H181 : Hp, H181 = setc H a sN → K H181) 1 (some ⟨hb, 0, none⟩) (fun H => F36_19 Q (some ⟨hb, 0, none⟩) H) H5
 refine over_own (fi := 5) (t := 49) hi5.row (by rw [add_mk, Nat.zero_add]) rfl ho5.bd (by decide) (fun H1 j K p hj hK b hb' => ?_) fun H6 p6 k6 => ?_
 ·obtain ⟨b', l, g1, g2, g3, g4, g5⟩ := p.put1 hj (v := sN)
  rw [g1] at hb'; injection hb' with hb'; injection hb' with hb'; subst hb'
  exact ⟨g3, g4, fun H2 e => by obtain ⟨l', g6, g7, g8⟩ := g5 H2 e; exact hK b' l l' H2 g1 g2 g6 g7 g8⟩
 have kt6 : KT [49] H5 H6 := KT.of k6 fun b g => by obtain ⟨l, g⟩ := ho5.bd.row g; exact ⟨49, l, by simp, g⟩
 have hi6 : HI H0 H6 hb h S := hi5.kp k6 (fun b hf g => ho.nb b g hf) fun b g => ho.lo b (.inr (.inl g))
 have ho6 : HO H0 H6 hb h S := ⟨ho5.vr.imp fun _ o => kt6.own o (by decide), p6, ho5.ty.imp fun _ o => kt6.own o (by decide), ho.lo, ho.nb⟩
 show OvS (fun a => a.add 6) (fun H a K => mayw H a 2 0 ∧ ∀ H221 : Hp, H221 = sets H a [(sv S_kept), sN] 0 → K H221) 2 (some ⟨hb, 0, none⟩) (fun H => F36_21 Q (some ⟨hb, 0, none⟩) H) H6
 refine over_own (fi := 6) (t := 86) hi6.row (by rw [add_mk, Nat.zero_add]) rfl ho6.ty (by decide) (fun H1 j K p hj hK b hb' => ?_) fun H7 p7 k7 => ?_
 ·obtain ⟨b', l, g1, g2, g3, g5⟩ := p.put hj (row := [(sv S_kept), sN]) rfl
  rw [g1] at hb'; injection hb' with hb'; injection hb' with hb'; subst hb'
  exact ⟨g3, fun H2 e => by obtain ⟨l', g6, g7, g8⟩ := g5 H2 e; exact hK b' l l' H2 g1 g2 g6 g7 g8⟩
 have kt7 : KT [86] H6 H7 := KT.of k7 fun b g => by obtain ⟨l, g⟩ := ho6.ty.row g; exact ⟨86, l, by simp, g⟩
 have hi7 : HI H0 H7 hb h S := hi6.kp k7 (fun b hf g => by obtain ⟨l, g⟩ := ho6.ty.row g; exact hi6.nz g (by decide) hf) fun b g => ho.lo b (.inr (.inr g))
 have ho7 : HO H0 H7 hb h S := ⟨ho6.vr.imp fun _ o => kt7.own o (by decide), ho6.bd.imp fun _ o => kt7.own o (by decide), p7, ho.lo, ho.nb⟩
 have n7 : 7 < h.row.length := by show 7 < 11; decide
 refine ⟨_, rfl, ?_⟩
 rw [add_mk, Nat.zero_add]
 refine ⟨hi7.row.some (by show 7 < 11; decide), hi7.row.frz _, fun H8 e8 => ⟨_, rfl, ?_⟩⟩
 have r8 : Row H8 hb 32 { h with nx := 0 }.row := hi7.row.set' e8
 rw [add_mk, Nat.zero_add]
 refine ⟨r8.some (by show 8 < 11; decide), r8.frz _, fun H9 e9 => ⟨_, rfl, ?_⟩⟩
 have r9 : Row H9 hb 32 { h with nx := 0, nv := 0 }.row := r8.set' e9
 rw [add_mk, Nat.zero_add]
 refine ⟨r9.some (by show 9 < 11; decide), r9.frz _, fun H10 e10 => ⟨_, rfl, ?_⟩⟩
 have r10 : Row H10 hb 32 { h with nx := 0, nv := 0, ne := 0 }.row := r9.set' e10
 rw [add_mk, Nat.zero_add]
 refine ⟨r10.some (by show 10 < 11; decide), r10.frz _, fun H11 e11 => ?_⟩
 have r11 : Row H11 hb 32 { h with nx := 0, nv := 0, ne := 0, na := 0 }.row := r10.set' e11
 have k11 : Kp (fun x => x = hb) H7 H11 := ((((Kp.refl (fun x => x = hb) H7).set' e8 (.inl rfl)).set' e9 (.inl rfl)).set' e10 (.inl rfl)).set' e11 (.inl rfl)
 have kt11 : KT [32] H7 H11 := KT.of k11 fun b g => ⟨32, _, by simp, g ▸ hi7.row⟩
 refine hQ H11 ⟨hi7.k0.trans k11 fun b g => .inr (by subst g; exact hi.lo _ (.inl (.inl rfl))), r11, kt11.pool hi7.px (by decide) (by decide), kt11.pool hi7.pv (by decide) (by decide), kt11.pool hi7.pe (by decide) (by decide), kt11.pool hi7.pa (by decide) (by decide), hi.lo, Nat.zero_le _, Nat.zero_le _, Nat.zero_le _, Nat.zero_le _, hi.mx, hi.mv, hi.me, hi.ma⟩
  ⟨ho7.vr.imp fun _ o => kt11.own o (by decide), ho7.bd.imp fun _ o => kt11.own o (by decide), ho7.ty.imp fun _ o => kt11.own o (by decide), ho.lo, ho.nb⟩
  (KT.trans (ktm kt1 (by decide)) (KT.trans (ktm kt2 (by decide)) (KT.trans (ktm kt3 (by decide)) (KT.trans (ktm kt4 (by decide)) (KT.trans (ktm kt5 (by decide)) (KT.trans (ktm kt6 (by decide)) (KT.trans (ktm kt7 (by decide)) (ktm kt11 (by decide)))))))))
end

abbrev X24 := Sl → Int → Hp → (Int → Hp → Prop) → Prop
def W24 (X : X24) (f : Fo) : Prop := ∀ (H : Hp) (q : Sl) (n : Int) (Q : Int → Hp → Prop), Ex (fun _ => True) H q f → f.nodes ≤ 4194304 → (∀ r H', Kp No H H' → Q r H') → X q n H Q
def A24 (X : X24) : Fo → Prop
 | .nil => True
 | .cons _ k s => W24 X k ∧ A24 X s
theorem step24 {X : X24} (hX : ∀ p0 p1 H Q, F24b X p0 p1 H Q → X p0 p1 H Q) {f : Fo} (hA : A24 X f) : W24 X f := by
 intro H q n Q hex hfn hQ
 refine hX _ _ _ _ ?_
 have hqn := hex.n
 have hl := f.len_le
 intro X2 hX2
 suffices G : ∀ (g : Fo), A24 X g → ∀ (i : Nat) (n : Int) (H' : Hp), i + g.len = f.len → g.nodes ≤ 4194304 → FoA (fun _ => True) H' q.b i g → Kp No H H' → X2 n (i : Int) H' from G f hA 0 n H (by omega) hfn hex.f (Kp.refl _ _)
 intro g
 induction g with
 | nil =>
  intro _ i n H' hi hgn hf k
  simp only [Fo.len] at hi
  exact hX2 _ _ _ ⟨fun g => absurd (of_decide_eq_true g) (by omega), fun _ => hQ n H' k⟩
 | cons r kd s _ ih =>
  intro ⟨wk, wks⟩ i n H' hi hgn ⟨a, q0, ea, _, hc, hqn0, hfk, hfs⟩ k
  simp only [Fo.len] at hi
  simp only [Fo.nodes] at hgn
  refine hX2 _ _ _ ⟨fun _ => ⟨fun _ => ⟨a, ea, by omega, by omega, q0, ?_, ?_⟩, fun _ => hQ n H' k⟩, fun g => absurd (of_decide_eq_false g) (by omega)⟩
  ·rw [show ((i : Nat) : Int).toNat = i from by omega]
   exact cellz1 (cells_sub (i := 9) (m := [Sl.v q0]) hc rfl)
  ·refine wk H' q0 _ _ ⟨hqn0, hfk⟩ (by omega) fun r15 H13 k13 => ?_
   rw [wr (by omega) (by omega), show ((i : Int) + 1) = ((i + 1 : Nat) : Int) by omega]
   exact ih wks (i + 1) r15 H13 (by omega) (by omega) (hfs.step k13 fun _ _ _ => ⟨id, trivial⟩) (k.no2 k13)
theorem Ex.tr {A : Nat → Prop} {H : Hp} {q : Sl} {f : Fo} (h : Ex A H q f) : Ex (fun _ => True) H q f := ⟨h.n, h.f.step (Kp.refl No _) fun _ _ _ => ⟨id, trivial⟩⟩
theorem c24 {A : Nat → Prop} {H : Hp} {q : Sl} {f : Fo} {n : Int} {Q : Int → Hp → Prop} (hex : Ex A H q f) (hfn : f.nodes ≤ 4194304) (hQ : ∀ r H', Kp No H H' → Q r H') : F24 q n H Q := by
 intro X hX
 have all : ∀ f : Fo, W24 X f ∧ A24 X f := by
  intro f
  induction f with
  | nil => exact ⟨step24 hX trivial, trivial⟩
  | cons r k s ihk ihs => exact ⟨step24 hX ⟨ihk.1, ihs.2⟩, ihk.1, ihs.2⟩
 exact (all f).1 H q n Q hex.tr hfn hQ

structure OpM where
 kind : Int
 ev : EvM
 name : ByteArray
 r : ER
 kd : Fo
 conds : Fo
 env : EnvM
structure OpS where
 (vals q cs p0 p1 p5 p6 : Sl)
def OpM.row (o : OpM) (s : OpS) : List Value := [iv o.kind, sv o.ev.ty, iv o.ev.time, Sl.v s.vals, sv o.name, iv o.r.k, iv o.r.o, iv o.r.vk, iv o.r.vi, sv o.r.vs, bv o.r.vb, sv o.r.v, iv o.r.p, sv o.r.a, Sl.v s.q, Sl.v s.cs, Sl.v s.p0, Sl.v s.p1, sv o.env.it, sv o.env.now.ty, iv o.env.now.time, Sl.v s.p5, Sl.v s.p6]
structure OpH (H : Hp) (o : OpM) (s : OpS) : Prop where
 ev : RdL vF H s.vals o.ev.vals
 e : Ex (fun b => b < H.size) H s.q o.kd
 c : Ex (fun b => b < H.size) H s.cs o.conds
 env : EnvC H s.p0 s.p1 o.env.it o.env.now.ty o.env.now.time s.p5 s.p6 o.env
 rng : ∀ l ∈ o.env.bound, ∀ e ∈ l, RngE e
 ne : o.kd.nodes ≤ 2097152
 nc : o.conds.nodes ≤ 2097152
 lv : o.ev.vals.length ≤ lim
 lb : o.env.bound.length ≤ lim
 lbv : ∀ evs ∈ o.env.bound, ∀ e ∈ evs, e.vals.length ≤ lim
 lbe : ∀ evs ∈ o.env.bound, evs.length ≤ lim
 ln : o.env.now.vals.length ≤ lim
 lt : ∀ t ∈ o.env.types, t.2.length ≤ lim
 tot : totE o.env.bound ≤ lim
theorem Fo.small_of : ∀ {f : Fo}, f.nodes ≤ 4194304 → f.small
 | .nil, _ => trivial
 | .cons _ k s, h => by
  simp only [Fo.nodes] at h
  exact ⟨by omega, Fo.small_of (by omega)⟩
theorem veq' (v : VT) : (decide (v.k = v.k) && (decide (v.n = v.n) && (seq v.s v.s && (v.b == v.b)))) = true := by simp [seq_self]
section
variable {H0 H : Hp} {o : OpM} {s : OpS}
theorem c25 {Q : Bool → Hp → Prop} (ho : OpH H0 o s) (hw : WantsH H0) (k0 : Kp No H0 H) (hQ : ∀ H', Kp No H H' → Q true H') :
  F25 o.kind o.ev.ty o.ev.time s.vals o.name o.r.k o.r.o o.r.vk o.r.vi o.r.vs o.r.vb o.r.v o.r.p o.r.a s.q s.cs s.p0 s.p1 o.env.it o.env.now.ty o.env.now.time s.p5 s.p6 H Q := by
 intro H1 e1
 have k1 : Kp No H H1 := (Kp.refl _ _).push' e1
 have r1 : Row H1 H.size 45 (o.row s) := Row.new' e1
 have kk := k0.no2 k1
 have ne := ho.ne
 have nc := ho.nc
 have cl := o.conds.len_le
 have cE : ∀ {Hx}, Kp No H1 Hx → cells Hx (Addr.add ⟨H.size, 0, none⟩ 5) (o.r.row s.q) 0 := fun k => rowcs (i := 5) (m := o.r.row s.q) (k.row r1 id) rfl
 have cV : ∀ {Hx}, Kp No H1 Hx → cells Hx (Addr.add ⟨H.size, 0, none⟩ 16) (envRow s.p0 s.p1 o.env.it o.env.now.ty o.env.now.time s.p5 s.p6) 0 := fun k => rowcs (i := 16) (m := envRow s.p0 s.p1 o.env.it o.env.now.ty o.env.now.time s.p5 s.p6) (k.row r1 id) rfl
 refine ⟨_, r1.cell_of (i := 0) rfl, fun _ => ?_, fun _ => ⟨fun _ => ?_, fun _ => hQ H1 k1⟩⟩
 ·refine ⟨_, _, _, _, _, _, _, _, _, _, cE (Kp.refl _ _), _, _, _, _, _, _, _, cV (Kp.refl _ _), c32 (ho.env.no kk) ho.rng (ho.e.tr.no kk) (by omega) fun H25 k25 H32 e32 => ?_⟩
  have k32 : Kp No H1 H32 := k25.push' e32
  have r32 := Row.new' e32
  refine ⟨r32.mayw (by simp), fun H34 e34 => ?_⟩
  have r34 : Row H34 H25.size 38 (topP o.env o.r o.kd).1.row := r32.fill' e34 rfl
  have k34 : Kp No H1 H34 := k32.sets' e34 (.inr k25.size)
  refine ⟨_, _, _, _, _, _, _, _, _, _, cE k34, _, _, _, _, _, _, _, cV k34, c22 (ho.env.no (kk.no2 k34)).h (hw.no (kk.no2 k34)) (ho.e.tr.no (kk.no2 k34)) (by omega) fun H56 k56 H63 e63 => ?_⟩
  have k63 : Kp No H34 H63 := k56.push' e63
  have r63 := Row.new' e63
  refine ⟨r63.mayw (by simp), fun H65 e65 => ?_⟩
  have r65 : Row H65 H56.size 38 (topP o.env o.r o.kd).1.row := r63.fill' e65 rfl
  have k65 : Kp No H34 H65 := k63.sets' e65 (.inr k56.size)
  refine ⟨_, _, _, _, r65.all, _, _, _, _, (k65.row r34 id).all, fun _ => ?_, fun g => ?_⟩
  ·rw [decide_eq_true rfl]; exact hQ H65 (k1.no2 (k34.no2 k65))
  ·rw [veq'] at g; cases g
 ·refine ⟨_, rowc (i := 15) r1 rfl, _, _, _, _, _, _, _, cV (Kp.refl _ _), c34 (ho.env.no kk) ho.rng (ho.c.tr.no kk) (Fo.small_of (by omega)) (by omega) fun H91 k91 => ⟨_, rowc (i := 15) (k91.row r1 id) rfl, _, _, _, _, _, _, _, cV k91, c21 (ho.env.no (kk.no2 k91)).h (hw.no (kk.no2 k91)) (ho.c.tr.no (kk.no2 k91)) (Fo.small_of (by omega)) (by omega) fun H104 k104 => ?_⟩⟩
  rw [beq_self_eq_true]; exact hQ H104 (k1.no2 (k91.no2 k104))
end

section
variable {H0 H : Hp} {hb : Nat} {h : Hd} {S : Ss} {o : OpM} {s : OpS}
def Rdy (H0 H : Hp) (hb : Nat) : Prop := ∃ h S, HI H0 H hb h S ∧ HO H0 H hb h S ∧ h.nx = 0 ∧ h.nv = 0 ∧ h.ne = 0 ∧ h.na = 0
theorem c9c {ob cb : Nat} {vals v' b' types' : Sl} {Q : Bool → Hp → Prop} (hop : OpH H0 o s) (hi : HI H0 H hb h S) (ho : HO H0 H hb h S) (le : LEnv H hb h S o.env vals) (rop : Row H ob 45 (o.row s)) (rcp : Row H cb 43 (envRow v' b' o.env.it o.env.now.ty o.env.now.time vals types'))
  (hQ : ∀ H', Rdy H0 H' hb → Q true H') : F9_3 Q (some ⟨hb, 0, none⟩) ⟨ob, 0, none⟩ ⟨cb, 0, none⟩ true H := by
 refine ⟨_, _, _, _, _, _, _, rowcs (i := 16) (m := envRow s.p0 s.p1 o.env.it o.env.now.ty o.env.now.time s.p5 s.p6) rop rfl, _, _, _, _, _, _, _, rcp.all, c35 hi.row hi.pa.lst le (hop.env.no hi.k0).h hop.lbv hop.ln hop.lb fun H388 k388 => c36 (hi.no k388) (ho.no k388) fun H391 hi' ho' _ => ⟨fun _ => hQ H391 ⟨_, _, hi', ho', rfl, rfl, rfl, rfl⟩, fun h => (by cases h)⟩⟩
theorem c9b {ob : Nat} {Q : Bool → Hp → Prop} (hop : OpH H0 o s) (hw : WantsH H0) (hi : HI H0 H hb h S) (ho : HO H0 H hb h S) (z1 : h.nx = 0) (z2 : h.nv = 0) (z3 : h.ne = 0) (z4 : h.na = 0) (rop : Row H ob 45 (o.row s)) (hQ : ∀ H', Rdy H0 H' hb → Q true H') (b : Bool) :
  F9_2 Q (some ⟨hb, 0, none⟩) ⟨ob, 0, none⟩ b H := by
 have tot : totE o.env.bound ≤ 4194304 := hop.tot
 have lb : o.env.bound.length ≤ 4194304 := hop.lb
 have ne := hop.ne
 have nc := hop.nc
 have env0 := hop.env.h
 have cl := o.conds.len_le
 refine ⟨fun _ => ⟨_, _, _, _, _, _, _, _, _, _, _, _, _, _, _, _, _, _, _, _, _, _, _, rop.all, c25 hop hw hi.k0 fun H89 k89 => hQ H89 ⟨h, S, hi.no k89, ho.no k89, z1, z2, z3, z4⟩⟩, fun _ => ?_⟩
 refine ⟨_, _, _, _, _, _, _, rowcs (i := 16) (m := envRow s.p0 s.p1 o.env.it o.env.now.ty o.env.now.time s.p5 s.p6) rop rfl, ?_⟩
 refine c26 hi ho env0 hop.lbv hop.ln hop.lb hop.lbe hop.lt z4 (by omega) (by omega) fun v' b' vals' types' H100 h1 S1 hi1 ho1 nx1 nv1 le1 eqs kt1 H109 e109 => ?_
 obtain ⟨ev, eb, et⟩ := eqs
 have k109 : Kp No H100 H109 := (Kp.refl _ _).push' e109
 have r109 := Row.new' e109
 refine ⟨r109.mayw (by simp), fun H111 e111 => ?_⟩
 have rcp : Row H111 H100.size 43 (envRow v' b' o.env.it o.env.now.ty o.env.now.time vals' types') := r109.fill' e111 rfl
 have k111 : Kp No H100 H111 := k109.sets' e111 (.inr (Nat.le_refl _))
 have rop1 := k111.row (kt1.row rop (by decide)) id
 have hi1 := hi1.no k111
 have ho1 := ho1.no k111
 have le1 := le1.no k111
 have mx := hi1.mx
 have mv := hi1.mv
 have nv := hi1.nv
 have eEnv : ∀ {Hx hx Sx}, LEnv Hx hb hx Sx o.env vals' → hx.vr = h1.vr → hx.bd = h1.bd → hx.ty = h1.ty → EnvH Hx v' b' o.env.it o.env.now.ty o.env.now.time vals' types' o.env := fun le e1 e2 e3 => by
  have := le.envH env0.vs hop.lb hop.lbe env0.types.small hop.lt
  rw [e1, e2, e3, ← ev, ← eb, ← et] at this
  exact this
 refine ⟨o.kind, rop1.cell_of (i := 0) rfl, fun _ => ?_, fun _ => ⟨fun _ => ?_, fun _ => ⟨fun _ => ?_, fun _ => c9c hop hi1 ho1 le1 rop1 rcp hQ⟩⟩⟩
 ·-- an attribute
  refine ⟨_, _, _, rowcs (i := 1) (m := [sv o.ev.ty, iv o.ev.time, Sl.v s.vals]) rop1 rfl, ?_⟩
  refine c27 (h := h1) hi1.row hi1.pv hi1.nv hi1.mv (fun H' k => hop.ev.kp0 (hi1.k0.trans k fun b hb => .inr (hi1.lo b (.inr (.inl (hb.fr.le (Nat.zero_le _))))))) hop.lv fun s1 H124 P' V' r124 p124 hx124 hS124 g124 lv124 H129 e129 => ?_
  obtain ⟨hi2, ad2⟩ := hi1.v r124 p124 hx124 (by omega) g124
  have ho2 := ho1.advH hi1 ad2 rfl rfl rfl
  have le2 := le1.advH hi1 ad2 rfl rfl rfl rfl
  have kt2 := ad2.kt hi1
  have rop2 := kt2.row rop1 (by decide)
  have rcp2 := kt2.row rcp (by decide)
  have lv2 := LG.wide hi2 lv124
  have k129 : Kp No H124 H129 := (Kp.refl _ _).push' e129
  have r129 := Row.new' e129
  refine ⟨r129.mayw (by simp), fun H131 e131 => ?_⟩
  have r131 : Row H131 H124.size 36 (tR o.ev.ty o.ev.time s1) := r129.fill' e131 rfl
  have k131 : Kp No H124 H131 := k129.sets' e131 (.inr (Nat.le_refl _))
  refine ⟨_, _, _, r131.all, _, rowc (i := 4) (k131.row rop2 id) rfl, types', rowc (i := 6) (k131.row rcp2 id) rfl, ?_⟩
  refine c28 (ev := o.ev) (T := o.env.types) (lv2.no k131).rd ((eEnv le2 rfl rfl rfl).types.no k131) fun H142 k142 H149 e149 => ?_
  have k142' := k131.no2 k142
  have k149 : Kp No H124 H149 := k142'.push' e149
  have r149 := Row.new' e149
  refine ⟨r149.mayw (by simp), fun H151 e151 => ?_⟩
  have r151 : Row H151 H142.size 38 (attrP o.env.types o.ev o.name).1.row := r149.fill' e151 rfl
  have k151 : Kp No H124 H151 := k149.sets' e151 (.inr k142'.size)
  refine ⟨_, _, _, rowcs (i := 1) (m := [sv o.ev.ty, iv o.ev.time, Sl.v s.vals]) (k151.row rop2 id) rfl, _, rowc (i := 4) (k151.row rop2 id) rfl, s.p6, by rw [add_mk, add_mk]; exact (k151.row rop2 id).cell_of rfl, ?_⟩
  refine c29 (ev := o.ev) (T := o.env.types) (hop.ev.kp0 (hi2.k0.no2 k151)) (env0.types.no (hi2.k0.no2 k151)) fun H162 k162 H169 e169 => ?_
  have k162' := k151.no2 k162
  have k169 : Kp No H124 H169 := k162'.push' e169
  have r169 := Row.new' e169
  refine ⟨r169.mayw (by simp), fun H171 e171 => ?_⟩
  have r171 : Row H171 H162.size 38 (attrP o.env.types o.ev o.name).1.row := r169.fill' e171 rfl
  have k171 : Kp No H124 H171 := k169.sets' e171 (.inr k162'.size)
  have k1512 : Kp No H151 H171 := (k162.push' e169).sets' e171 (.inr k162.size)
  have k1312 : Kp No H131 H171 := ((k142.push' e149).sets' e151 (.inr k142.size)).no2 k1512
  refine ⟨_, _, _, _, (k1512.row r151 id).all, _, _, _, _, r171.all, fun _ => ⟨fun _ => ⟨_, _, _, rowcs (i := 1) (m := [sv o.ev.ty, iv o.ev.time, Sl.v s.vals]) (k171.row rop2 id) rfl, _, _, _, (k1312.row r131 id).all, ?_⟩, fun g => absurd rfl (of_decide_eq_false g)⟩, fun g => ?_⟩
  ·refine c30 (e := o.ev) (hop.ev.kp0 (hi2.k0.no2 k171)) ⟨rfl, rfl, lv2.no k171⟩ hop.lv fun H196 k196 => ?_
   have kf := k171.no2 k196
   exact c9c hop (hi2.no kf) (ho2.no kf) (le2.no kf) (kf.row rop2 id) (kf.row rcp2 id) hQ
  ·rw [veq'] at g; cases g
 ·-- an expression
  refine ⟨_, _, _, _, _, _, _, _, _, _, rowcs (i := 5) (m := o.r.row s.q) rop1 rfl, fun H212 e212 => ?_⟩
  have k212 : Kp No H111 H212 := (Kp.refl _ _).push' e212
  have rbx : Row H212 H111.size 41 (o.r.row s.q) := Row.new' e212
  have hi1' := hi1.no k212
  have loF : ∀ b, Fr hb h1.px S1.x h1.nx b → b < H111.size ∧ H0.size ≤ b := fun b hf => ⟨hi1.px.lt hi1.row hf, hi1.lo b (.inl (hf.le (Nat.zero_le _)))⟩
  have kid : FoA (fun b => ¬ Fr hb h1.px S1.x h1.nx b) H212 s.q.b 0 o.kd := hop.e.f.step (hi1'.k0) fun b hl _ => ⟨id, fun hf => by have := (loF b hf).2; omega⟩
  refine c31 (f := .cons o.r o.kd .nil) hi1'.row hi1'.px hi1'.nx hi1'.mx (by simp only [Fo.nodes]; omega) rfl ⟨⟨H111.size, 0, none⟩, s.q, rfl, fun hf => by have := (loF _ hf).1; exact Nat.lt_irrefl _ this, by rw [add_mk]; exact rbx.cells rfl, hop.e.n, kid, trivial⟩ (by simp only [Fo.nodes]; omega) fun s1 H214 P' V' n' r214 p214 en' hx214 hS214 g214 lx214 => ?_
  simp only [Fo.nodes] at en'
  obtain ⟨hi2, ad2⟩ := hi1'.x r214 p214 hx214 (by omega) g214
  have ho2 := (ho1.no k212).advH hi1' ad2 rfl rfl rfl
  have le2 := (le1.no k212).advH hi1' ad2 rfl rfl rfl rfl
  have kt2 := ad2.kt hi1'
  have rop2 := kt2.row (k212.row rop1 id) (by decide)
  have rcp2 := kt2.row (k212.row rcp id) (by decide)
  have ex2 := lx214.ex
  obtain ⟨a, q1, ea, _, hc, hq1, hfk, _⟩ := ex2.f
  have hsn : s1.n = 1 := ex2.n
  have hal : (a.add (0 * 10)).block < H214.size := cells_block hc (fun h => by cases h)
  have nine4 : ∀ (w : Nat) (Hx : Hp), Row Hx w 38 (topP o.env o.r o.kd).1.row → Kp No H214 Hx → F9_4 Q (some ⟨hb, 0, none⟩) ⟨ob, 0, none⟩ ⟨H100.size, 0, none⟩ s1 ⟨w, 0, none⟩ (topP o.env o.r o.kd).2 Hx := fun w Hx rw1 kx => by
   have k0 := hi2.k0.no2 kx
   refine ⟨_, _, _, _, _, _, _, _, _, _, rowcs (i := 5) (m := o.r.row s.q) (kx.row rop2 id) rfl, _, _, _, _, _, _, _, rowcs (i := 16) (m := envRow s.p0 s.p1 o.env.it o.env.now.ty o.env.now.time s.p5 s.p6) (kx.row rop2 id) rfl, c32 (hop.env.no k0) hop.rng (hop.e.tr.no k0) (by omega) fun H291 k291 H298 e298 => ?_⟩
   have k298 : Kp No Hx H298 := k291.push' e298
   have r298 := Row.new' e298
   refine ⟨r298.mayw (by simp), fun H300 e300 => ?_⟩
   have r300 : Row H300 H291.size 38 (topP o.env o.r o.kd).1.row := r298.fill' e300 rfl
   have k300 : Kp No Hx H300 := k298.sets' e300 (.inr k291.size)
   have kk := kx.no2 k300
   refine ⟨_, _, _, _, (k300.row rw1 id).all, _, _, _, _, r300.all, fun _ => ⟨fun _ => ⟨_, _, _, _, _, _, _, _, _, _, rowcs (i := 5) (m := o.r.row s.q) (kk.row rop2 id) rfl, fun H328 e328 => ?_⟩, fun g => absurd rfl (of_decide_eq_false g)⟩, fun g => ?_⟩
   ·have k328 : Kp No H300 H328 := (Kp.refl _ _).push' e328
    have rb2 : Row H328 H300.size 41 (o.r.row s.q) := Row.new' e328
    have kk2 := kk.no2 k328
    refine c33 (f := .cons o.r o.kd .nil) (A0 := fun _ => True) ⟨rfl, ⟨⟨H300.size, 0, none⟩, s.q, rfl, trivial, by rw [add_mk]; exact rb2.cells rfl, hop.e.n, hop.e.f.step (hi2.k0.no2 kk2) fun _ _ _ => ⟨id, trivial⟩, trivial⟩⟩ (lx214.step kk2 fun b l _ h => ⟨id, h⟩) (by simp only [Fo.nodes]; omega) fun H330 k330 => ?_
    have kf := kk2.no2 k330
    exact c9c hop (hi2.no kf) (ho2.no kf) (le2.no kf) (kf.row rop2 id) (kf.row rcp2 id) hQ
   ·rw [veq'] at g; cases g
  have ca : ∀ {Hx}, Kp No H214 Hx → cells Hx (a.add ((0 : Int).toNat * 10)) (o.r.row q1) 0 := fun kx => kx.cells hal id hc
  refine ⟨a, ea, Int.le_refl _, by omega, _, _, _, _, _, _, _, _, _, _, ca (Kp.refl _ _), _, _, _, _, _, _, _, rcp2.all, ?_, fun H258 e258 => ?_⟩
  ·refine c22 (eEnv le2 rfl rfl rfl) (hw.no hi2.k0) ⟨hq1, hfk⟩ (by omega) fun H244 k244 H251 e251 => ?_
   have k251 : Kp No H214 H251 := k244.push' e251
   have r251 := Row.new' e251
   refine ⟨r251.mayw (by simp), fun H253 e253 => ?_⟩
   exact nine4 _ H253 (r251.fill' e253 rfl) (k251.sets' e253 (.inr k244.size))
  ·have k258 : Kp No H214 H258 := (Kp.refl _ _).push' e258
   have r258 := Row.new' e258
   refine ⟨(k258.row rcp2 id).all, ca k258, c22 ((eEnv le2 rfl rfl rfl).no k258) (hw.no (hi2.k0.no2 k258)) ⟨hq1, hfk.step k258 fun _ _ _ => ⟨id, trivial⟩⟩ (by omega) fun H262 k262 => ?_⟩
   have r262 := k262.row r258 id
   refine ⟨r262.mayw (by simp), fun H269 e269 => ?_⟩
   exact nine4 _ H269 (r262.fill' e269 rfl) ((k258.no2 k262).sets' e269 (.inr (Nat.le_refl _)))
 ·-- conditions
  refine ⟨s.cs, rowc (i := 15) rop1 rfl, ?_⟩
  have loF : ∀ b, Fr hb h1.px S1.x h1.nx b → H0.size ≤ b := fun b hf => hi1.lo b (.inl (hf.le (Nat.zero_le _)))
  refine c31 (f := o.conds) hi1.row hi1.px hi1.nx hi1.mx (by omega) hop.c.n (hop.c.f.step hi1.k0 fun b hl _ => ⟨id, fun hf => by have := loF b hf; omega⟩) (by omega) fun s1 H336 P' V' n' r336 p336 en' hx336 hS336 g336 lx336 => ?_
  obtain ⟨hi2, ad2⟩ := hi1.x r336 p336 hx336 (by omega) g336
  have ho2 := ho1.advH hi1 ad2 rfl rfl rfl
  have le2 := le1.advH hi1 ad2 rfl rfl rfl rfl
  have kt2 := ad2.kt hi1
  have rop2 := kt2.row rop1 (by decide)
  have rcp2 := kt2.row rcp (by decide)
  have cV : ∀ {Hx}, Kp No H336 Hx → cells Hx (Addr.add ⟨ob, 0, none⟩ 16) (envRow s.p0 s.p1 o.env.it o.env.now.ty o.env.now.time s.p5 s.p6) 0 := fun k => rowcs (i := 16) (m := envRow s.p0 s.p1 o.env.it o.env.now.ty o.env.now.time s.p5 s.p6) (k.row rop2 id) rfl
  refine ⟨_, _, _, _, _, _, _, rcp2.all, s.cs, rowc (i := 15) rop2 rfl, _, _, _, _, _, _, _, cV (Kp.refl _ _), c21 (eEnv le2 rfl rfl rfl) (hw.no hi2.k0) lx336.ex (Fo.small_of (by omega)) (by omega) fun H357 k357 => ⟨cV k357, rowc (i := 15) (k357.row rop2 id) rfl, ?_⟩⟩
  have k0 := hi2.k0.no2 k357
  refine c34 (hop.env.no k0) hop.rng (hop.c.tr.no k0) (Fo.small_of (by omega)) (by omega) fun H362 k362 => ⟨fun _ => ⟨s.cs, rowc (i := 15) ((k357.no2 k362).row rop2 id) rfl, ?_⟩, fun g => ?_⟩
  ·have kk := k357.no2 k362
   refine c33 (f := o.conds) (hop.c.tr.no (hi2.k0.no2 kk)) (lx336.step kk fun b l _ h => ⟨id, h⟩) (by omega) fun H369 k369 => ?_
   have kf := kk.no2 k369
   exact c9c hop (hi2.no kf) (ho2.no kf) (le2.no kf) (kf.row rop2 id) (kf.row rcp2 id) hQ
  ·rw [beq_self_eq_true] at g; cases g
theorem c9 {Q : Bool → Hp → Prop} (hop : OpH H0 o s) (hw : WantsH H0) (hr : Rdy H0 H hb) (hQ : ∀ H', Rdy H0 H' hb → Q true H') :
  F9 (some ⟨hb, 0, none⟩) o.kind o.ev.ty o.ev.time s.vals o.name o.r.k o.r.o o.r.vk o.r.vi o.r.vs o.r.vb o.r.v o.r.p o.r.a s.q s.cs s.p0 s.p1 o.env.it o.env.now.ty o.env.now.time s.p5 s.p6 H Q := by
 obtain ⟨h, S, hi, ho, z1, z2, z3, z4⟩ := hr
 intro H1 e1
 have k1 : Kp No H H1 := (Kp.refl _ _).push' e1
 have r1 : Row H1 H.size 45 (o.row s) := Row.new' e1
 have ne := hop.ne
 have nc := hop.nc
 have two : ∀ (b : Bool) (Hx : Hp), Kp No H1 Hx → F9_2 Q (some ⟨hb, 0, none⟩) ⟨H.size, 0, none⟩ b Hx := fun b Hx k => c9b hop hw (hi.no (k1.no2 k)) (ho.no (k1.no2 k)) z1 z2 z3 z4 (k.row r1 id) hQ b
 have boxE : ∀ {Hx H2 : Hp}, Kp No H1 Hx → H2 = Array.push Hx (.cells (eR o.r.k o.r.o o.r.vk o.r.vi o.r.vs o.r.vb o.r.v o.r.p o.r.a s.q).toArray 41) → Ex (fun _ => True) H2 (Sl.mk (some ⟨Hx.size, 0, none⟩) 1 1) (.cons o.r o.kd .nil) := fun {Hx H2} k e => by
  have kx : Kp No Hx H2 := (Kp.refl _ _).push' e
  have rb : Row H2 Hx.size 41 (o.r.row s.q) := Row.new' e
  exact ⟨rfl, ⟨⟨Hx.size, 0, none⟩, s.q, rfl, trivial, by rw [add_mk]; exact rb.cells rfl, hop.e.n, hop.e.f.step (hi.k0.no2 (k1.no2 (k.no2 kx))) fun _ _ _ => ⟨id, trivial⟩, trivial⟩⟩
 have one : ∀ (b : Bool) (Hx : Hp), Kp No H1 Hx → F9_1 Q (some ⟨hb, 0, none⟩) ⟨H.size, 0, none⟩ b Hx := fun b Hx k => by
  refine ⟨fun _ => hQ Hx ⟨h, S, hi.no (k1.no2 k), ho.no (k1.no2 k), z1, z2, z3, z4⟩, fun _ => ⟨o.kind, (k.row r1 id).cell_of (i := 0) rfl, fun _ => ⟨_, _, _, _, _, _, _, _, _, _, rowcs (i := 5) (m := o.r.row s.q) (k.row r1 id) rfl, fun H51 e51 => ?_⟩, fun _ => two false Hx k⟩⟩
  refine c24 (boxE k e51) (by simp only [Fo.nodes]; omega) fun r55 H53 k53 => ?_
  have kk := k.no2 (((Kp.refl _ _).push' e51 : Kp No Hx H51).no2 k53)
  refine ⟨fun _ => two true H53 kk, fun _ => ⟨s.cs, rowc (i := 15) (kk.row r1 id) rfl, c24 (hop.c.tr.no (hi.k0.no2 (k1.no2 kk))) (by omega) fun r63 H61 k61 => two _ H61 (kk.no2 k61)⟩⟩
 refine ⟨o.kind, r1.cell_of (i := 0) rfl, fun _ => ⟨_, _, _, _, _, _, _, _, _, _, rowcs (i := 5) (m := o.r.row s.q) r1 rfl, fun H20 e20 => ?_⟩, fun _ => one false H1 (Kp.refl _ _)⟩
 refine c24 (boxE (Kp.refl _ _) e20) (by simp only [Fo.nodes]; omega) fun r24 H22 k22 => ?_
 have kk : Kp No H1 H22 := ((Kp.refl _ _).push' e20 : Kp No H1 H20).no2 k22
 refine ⟨fun _ => one true H22 kk, fun _ => ⟨s.cs, rowc (i := 15) (kk.row r1 id) rfl, c24 (hop.c.tr.no (hi.k0.no2 (k1.no2 kk))) (by omega) fun r32 H30 k30 => one _ H30 (kk.no2 k30)⟩⟩
end

def opF : Fmt (OpM × OpS) 45 23 := ⟨fun x => x.1.row x.2, fun _ => rfl, by
 intro x v hv
 unfold OpM.row at hv
 simp only [List.mem_cons, List.not_mem_nil, or_false] at hv
 rcases hv with rfl | rfl | rfl | rfl | rfl | rfl | rfl | rfl | rfl | rfl | rfl | rfl | rfl | rfl | rfl | rfl | rfl | rfl | rfl | rfl | rfl | rfl | rfl <;> rfl, by decide⟩
section
variable {H : Hp}
theorem c3 {p0 : Sl} {L : List (OpM × OpS)} {Q : Bool → Hp → Prop} (hw : WantsH H) (hops : RdL opF H p0 L) (hL : L.length ≤ 4194304) (hop : ∀ x ∈ L, OpH H x.1 x.2) (hQ : ∀ H', Kp No H H' → Q true H') : F3 p0 H Q := by
 have hn := hops.n
 refine c8 hw fun H1 k1 => ⟨fun h => (by cases h), fun _ => fun H5 e5 => ?_⟩
 have k5 : Kp No H H5 := k1.push' e5
 have r5 : Row H5 H1.size 32 (Hd.row ⟨Sl.nil, Sl.nil, Sl.nil, Sl.nil, Sl.nil, Sl.nil, Sl.nil, 0, 0, 0, 0⟩) := Row.new' e5
 have s1 := k1.size
 have pool : ∀ (pt t k : Nat), Pool pt t k H5 Sl.nil [] := fun pt t k => ⟨Lst.nil _ _, fun i s h => by simp at h, fun i j s s' b h => by simp at h⟩
 have frn : ∀ {x b : Nat}, Fr H1.size Sl.nil [] x b → b = H1.size := fun {x b} h => by
  rcases h with h | h | ⟨i, s, _, h, _⟩
  ·exact h
  ·cases h
  ·simp at h
 have rdy : Rdy H H5 H1.size := ⟨⟨Sl.nil, Sl.nil, Sl.nil, Sl.nil, Sl.nil, Sl.nil, Sl.nil, 0, 0, 0, 0⟩, ⟨[], [], [], []⟩, ⟨k5, r5, pool _ _ _, pool _ _ _, pool _ _ _, pool _ _ _, fun b h => by
   rcases h with h | h | h | h <;> (have := frn h; omega), Nat.zero_le _, Nat.zero_le _, Nat.zero_le _, Nat.zero_le _, Nat.zero_le _, Nat.zero_le _, Nat.zero_le _, Nat.zero_le _⟩,
  ⟨Slot.nil _ _ _, Slot.nil _ _ _, Slot.nil _ _ _, fun b h => (by rcases h with h | h | h <;> cases h), fun b h => (by cases h)⟩, rfl, rfl, rfl, rfl⟩
 intro X1 hX1
 suffices G : ∀ (d i : Nat) (H' : Hp), i + d = L.length → Rdy H H' H1.size → X1 (i : Int) H' from G L.length 0 H5 (by omega) rdy
 intro d
 induction d with
 | zero =>
  intro i H' hi hr
  obtain ⟨h, S, hI, _⟩ := hr
  exact hX1 _ _ ⟨fun g => absurd (of_decide_eq_true g) (by omega), fun _ => hQ H' hI.k0⟩
 | succ d ih =>
  intro i H' hi hr
  obtain ⟨x, gx⟩ : ∃ x, L[i]? = some x := ⟨_, List.getElem?_eq_getElem (by omega)⟩
  have hr' := hr
  obtain ⟨h, S, hI, _⟩ := hr'
  obtain ⟨a, ha, hlt, hcs⟩ := (hops.kp0 hI.k0).get gx
  refine hX1 _ _ ⟨fun _ => ⟨a, ha, by omega, by omega, _, _, _, _, _, _, _, _, _, _, _, _, _, _, _, _, _, _, _, _, _, _, _, by rw [show ((i : Nat) : Int).toNat = i from by omega]; exact hcs, ?_⟩, fun g => absurd (of_decide_eq_false g) (by omega)⟩
  refine c9 (o := x.1) (s := x.2) (hop x (List.mem_of_getElem? gx)) hw hr fun H39 hr39 => ⟨fun h => (by cases h), fun _ => ?_⟩
  rw [wr (by omega) (by omega), show ((i : Int) + 1) = ((i + 1 : Nat) : Int) by omega]
  exact ih (i + 1) H39 (by omega) hr39
end
end Go.Hw
