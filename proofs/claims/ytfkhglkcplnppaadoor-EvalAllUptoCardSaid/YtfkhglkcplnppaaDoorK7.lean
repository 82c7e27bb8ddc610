/- The hand: surroundings, their first parts. The hand: are the surroundings as they were? Own work of this session. -/
import Derived.Test.YtfkhglkcplnppaaDoorK5
set_option linter.unusedVariables false
namespace Go.Hw
open Go

theorem totE_drop {L : List (List EvM)} {i : Nat} {l : List EvM} (h : L[i]? = some l) : totE (L.drop i) = l.length + totE (L.drop (i + 1)) ∧ (L.drop i).length = 1 + (L.drop (i + 1)).length := by
 obtain ⟨hi, rfl⟩ := List.getElem?_eq_some_iff.1 h
 rw [List.drop_eq_getElem_cons hi]
 exact ⟨rfl, by rw [List.length_cons]; omega⟩
section
variable {H0 H H' : Hp} {hb : Nat} {h h' : Hd} {S S' : Ss} {p0 p1 : Sl} {p2 p3 : ByteArray} {p4 : Int} {p5 p6 : Sl} {m : EnvM}
theorem HO.no (ho : HO H0 H hb h S) (k : Kp No H H') : HO H0 H' hb h S := ⟨ho.vr.kp k fun _ _ => id, ho.bd.kp k fun _ _ => id, ho.ty.kp k fun _ _ => id, ho.lo, ho.nb⟩
theorem c26b {H : Hp} {e r : Nat} {h : Hd} {S : Ss} {vs : Sl} {Q : Q26} (hi : HI H0 H hb h S) (hbd : Slot H 49 1 h.bd) (htyS : Slot H 86 2 h.ty) (hblo : ∀ b, h.bd.at b → H0.size ≤ b) (htlo : ∀ b, h.ty.at b → H0.size ≤ b) (hnb : ∀ b, h.bd.at b → ¬ FZ hb h S b) (lvr : LVr H vs m.vars) (hvl : ∀ b, vs.at b → H0.size ≤ b) (re : Row H e 43 (envRow p0 p1 p2 p3 p4 p5 p6)) (rr : Row H r 43 (envRow Sl.nil Sl.nil bE bE 0 Sl.nil Sl.nil)) (hel : H0.size ≤ e) (hrl : H0.size ≤ r) (her : e ≠ r)
  (henv : EnvH H0 p0 p1 p2 p3 p4 p5 p6 m) (hv : ∀ evs ∈ m.bound, ∀ e ∈ evs, e.vals.length ≤ lim) (hnv : m.now.vals.length ≤ lim) (hbn : m.bound.length ≤ lim) (hel' : ∀ evs ∈ m.bound, evs.length ≤ lim) (htl' : ∀ t ∈ m.types, t.2.length ≤ lim) (hna : h.na = 0) (hM : h.nv + totE m.bound + 1 ≤ 1099511627776) (hM' : h.ne + m.bound.length ≤ 1099511627776)
  (hQ : ∀ v' b' vals' types' H' h' S', HI H0 H' hb h' S' → HO H0 H' hb h' S' → h'.nx = h.nx → h'.nv = h.nv + totE m.bound + 1 → LEnv H' hb h' S' m vals' → (v' = Sl.mk h'.vr.b m.vars.length h'.vr.c ∧ b' = Sl.mk h'.bd.b m.bound.length h'.bd.c ∧ types' = Sl.mk h'.ty.b m.types.length h'.ty.c) → KT (43 :: kty) H H' → Q v' b' p2 p3 p4 vals' types' H') :
  F26_1 Q (some ⟨hb, 0, none⟩) ⟨e, 0, none⟩ ⟨r, 0, none⟩ vs H := by
 obtain ⟨Ls, hLs, hLl, hLe⟩ := henv.bound
 have hbn : m.bound.length ≤ 4194304 := hbn
 have bn : p1.n = m.bound.length := by rw [hLs.n, hLl]
 have hs := hi.k0.size
 have heh : e ≠ hb := fun g => by subst g; exact absurd (re.inj hi.row).2 (by decide)
 have hrh : r ≠ hb := fun g => by subst g; exact absurd (rr.inj hi.row).2 (by decide)
 have vt : ∀ b, vs.at b → ∃ l, Row H b 9 l := fun b g => by
  obtain ⟨bv, cv, rfl, _, _, hr⟩ := lvr
  rw [sl_at g]; exact ⟨_, hr⟩
 refine ⟨_, rfl, ?_⟩
 rw [add_mk, Nat.zero_add]
 refine ⟨hi.row.some (by show 4 < 11; decide), hi.row.frz _, fun H49 e49 => ?_⟩
 have r49 : Row H49 hb 32 { h with vr := vs, bd := h.bd, ty := h.ty }.row := hi.row.set' e49
 have k49 : Kp (fun x => x = hb) H H49 := (Kp.refl (fun x => x = hb) H).set' e49 (.inl rfl)
 have kt49 : KT [32] H H49 := KT.of k49 fun b g => ⟨32, _, by simp, g ▸ hi.row⟩
 have hi49 := hi.fld k49 r49
 have bd49 : Slot H49 49 1 h.bd := hbd.imp fun _ o => kt49.own o (by decide)
 refine ⟨_, rfl, h.bd, by rw [add_mk, Nat.zero_add]; exact r49.cell_of rfl, Nat.le_refl _, Nat.zero_le _, Nat.le_refl _, p1, rowc (i := 1) (kt49.row re (by decide)) rfl, ?_⟩
 refine app1 (F := slF) (bytes := 24) bd49 (hLs.kp0 hi49.k0) rfl (by omega) (by omega) fun r64 H62 hr62 k62 ha62 => ?_
 have kt62 : KT [49] H49 H62 := KT.of k62 fun b g => by obtain ⟨l, g⟩ := bd49.row g; exact ⟨49, l, by simp, g⟩
 refine ⟨by rw [add_mk, Nat.zero_add]; exact (kt62.row r49 (by decide)).cell_of rfl, ?_⟩
 refine app0 (F := slF) (bytes := 24) (z := Sl.nil) (K2 := fun y H => F26_L4 Q (some ⟨hb, 0, none⟩) ⟨e, 0, none⟩ ⟨r, 0, none⟩ vs y 0 H) hr62 (by omega) (by omega) fun bb cb spb H68 hcb hmb hrowb hlenb k68 hb68 => ?_
 rw [hLl] at hcb
 have kB : Kp h.bd.at H49 H68 := k62.trans k68 fun b g => ha62 b g
 have hbb : h.bd.at bb ∨ H49.size ≤ bb := hb68.elim (ha62 bb) fun g => .inr (by have := k62.size; omega)
 have kt68 : KT [49] H49 H68 := KT.of kB fun b g => by obtain ⟨l, g⟩ := bd49.row g; exact ⟨49, l, by simp, g⟩
 have hi68 : HI H0 H68 hb { h with vr := vs } S := hi49.kp kB (fun b hf g => hnb b g hf) fun b g => hblo b g
 have nz : ¬ FZ hb { h with vr := vs } S bb := fun hf => hbb.elim (fun g => hnb bb g hf) fun g => by have := hi49.ltz hf; omega
 have hbbl : H0.size ≤ bb := hbb.elim (fun g => hblo bb g) fun g => by have := kt49.size; omega
 have re68 := kt68.row (kt49.row re (by decide)) (by decide)
 have rr68 := kt68.row (kt49.row rr (by decide)) (by decide)
 intro X4 hX4
 suffices G : ∀ (d i : Nat) (B : List Sl) (rest : List Value) (h' : Hd) (S' : Ss) (H' : Hp), i + d = cb → B.length = i → rest.length = d → Row H' bb 49 (B.flatMap slF.f ++ rest) → HI H0 H' hb h' S' → h'.vr = vs → h'.bd = h.bd → h'.ty = h.ty → h'.nx = h.nx → h'.na = h.na →
   h'.nv + totE (m.bound.drop i) = h.nv + totE m.bound → h'.ne + (m.bound.drop i).length = h.ne + m.bound.length → ¬ FZ hb h' S' bb →
   (∀ (j : Nat) (s : Sl) (evs : List EvM), B[j]? = some s → m.bound[j]? = some evs → LR (fun b => ¬ FH hb h' S' b) H' s evs) →
   (∀ (j : Nat) (s : Sl), B[j]? = some s → m.bound.length ≤ j → ∃ b', s = Sl.mk (some ⟨b', 0, none⟩) 1 1 ∧ ¬ FH hb h' S' b' ∧ Row H' b' 36 (tR S_mark 0 Sl.nil)) → KT hty H68 H' → X4 (i : Int) H' by
  have hfl := fl_len slF.len Ls
  rw [Nat.mul_one] at hfl hlenb
  refine G cb 0 [] (Ls.flatMap slF.f ++ spb) { h with vr := vs } S H68 (by omega) rfl hlenb hrowb hi68 rfl rfl rfl rfl rfl rfl rfl nz (fun j s evs hs => by simp at hs) (fun j s hs => by simp at hs) (KT.refl _ _)
 intro d
 induction d with
 | zero =>
  intro i B rest h' S' H' hd hB hrest hrow hi' e1 e2 e3 e4 e5 e6 e7 nz' hLR hMk kt
  have : rest = [] := List.length_eq_zero_iff.1 hrest
  subst this
  rw [List.append_nil] at hrow
  have hd0 : m.bound.drop i = [] := List.drop_eq_nil_of_le (by omega)
  rw [hd0] at e6 e7
  simp only [totE, List.length_nil, Nat.add_zero] at e6 e7
  have kty0 : ∀ {t : Nat} {b : Nat} {l : List Value}, Row H b t l → t ∉ [32] → t ∉ [49] → t ∉ hty → Row H' b t l := fun r h1 h2 h3 => kt.row (kt68.row (kt49.row r h1) h2) h3
  refine hX4 _ _ ⟨fun g => absurd (of_decide_eq_true g) (by show ¬ (i : Int) < (cb : Int); omega), fun _ => ?_⟩
  refine c26c (h := h') hi' (fun b g => hblo b (e2 ▸ g)) (by rw [e3]; exact htyS.imp fun _ o => kt.own (kt68.own (kt49.own o (by decide)) (by decide)) (by decide)) (fun b g => htlo b (e3 ▸ g)) ?_ ⟨bb, cb, B, rfl, by omega, hmb, fun g => nz' g.z, hrow, by omega, hLR, hMk⟩ (fun b g => by rw [sl_at g]; exact nz') e1 hvl (fun b g => by rw [sl_at g]; exact hbbl)
   (kty0 re (by decide) (by decide) (by decide)) (kty0 rr (by decide) (by decide) (by decide)) hel hrl her henv hnv hbn hel' htl' (by rw [e5]; exact hna) (by omega) fun v' b' vals' types' Hf hf Sf g1 g2 g3 g4 g5 g6 g7 _ => ?_
  ·obtain ⟨bv, cv, rfl, h1, h2, h3⟩ := lvr
   exact ⟨bv, cv, rfl, h1, h2, kty0 h3 (by decide) (by decide) (by decide)⟩
  ·refine hQ v' b' vals' types' Hf hf Sf g1 g2 (by omega) (by omega) g5 g6 (KT.trans (kt49.mono fun t ht => ?_) (KT.trans (kt68.mono fun t ht => ?_) (KT.trans (kt.mono fun t ht => List.mem_cons_of_mem _ (List.mem_cons_of_mem _ (List.mem_cons_of_mem _ ht))) g7)))
   ·simp at ht; subst ht; decide
   ·simp at ht; subst ht; decide
 | succ d ih =>
  intro i B rest h' S' H' hd hB hrest hrow hi' e1 e2 e3 e4 e5 e6 e7 nz' hLR hMk kt
  have it : ((i : Nat) : Int).toNat * 1 = i := by omega
  obtain ⟨v, rest, rfl⟩ : ∃ v r, rest = v :: r := by
   match rest, hrest with
   | v :: r, _ => exact ⟨v, r, rfl⟩
  have hrest : rest.length = d := by simpa using hrest
  have re' := kt.row re68 (by decide)
  have hbl := fl_len slF.len B
  rw [Nat.mul_one] at hbl
  have hbs := hrow.lt
  have put : ∀ (s : Sl) (h2 : Hd) (S2 : Ss) (H1 : Hp), HI H0 H1 hb h2 S2 → h2.vr = vs → h2.bd = h.bd → h2.ty = h.ty → h2.nx = h.nx → h2.na = h.na → h2.nv + totE (m.bound.drop (i + 1)) = h.nv + totE m.bound → h2.ne + (m.bound.drop (i + 1)).length = h.ne + m.bound.length → ¬ FZ hb h2 S2 bb → Row H1 bb 49 (B.flatMap slF.f ++ v :: rest) →
    (∀ (j : Nat) (s : Sl) (evs : List EvM), B[j]? = some s → m.bound[j]? = some evs → LR (fun b => ¬ FH hb h2 S2 b) H1 s evs) →
    (∀ (j : Nat) (s : Sl), B[j]? = some s → m.bound.length ≤ j → ∃ b', s = Sl.mk (some ⟨b', 0, none⟩) 1 1 ∧ ¬ FH hb h2 S2 b' ∧ Row H1 b' 36 (tR S_mark 0 Sl.nil)) →
    (∀ evs, m.bound[i]? = some evs → LR (fun b => ¬ FH hb h2 S2 b) H1 s evs) → (m.bound.length ≤ i → ∃ b', s = Sl.mk (some ⟨b', 0, none⟩) 1 1 ∧ ¬ FH hb h2 S2 b' ∧ Row H1 b' 36 (tR S_mark 0 Sl.nil)) → KT hty H68 H1 →
    ∃ a98 : Addr, (Sl.mk (some ⟨bb, 0, none⟩) cb cb).b = some a98 ∧ (0 : Int) ≤ (i : Int) ∧ (i : Int) < ((Sl.mk (some ⟨bb, 0, none⟩) cb cb).n : Int) ∧ (
    (cell H1 (Addr.add a98 ((i : Int).toNat * 1))).isSome = true ∧ frz H1 (Addr.add a98 ((i : Int).toNat * 1)) = false ∧ ∀ H102 : Hp, H102 = setc H1 (Addr.add a98 ((i : Int).toNat * 1)) (Sl.v s) → X4 (IntKind.i64.wrap ((i : Int) + 1)) H102) := by
   intro s h2 S2 H1 hi1 f1 f2 f3 f4 f5 f6 f7 nz1 hrow1 hLR1 hMk1 hs1 hs2 kt1
   refine ⟨_, rfl, by omega, by show (i : Int) < (cb : Int); omega, ?_⟩
   rw [it, add_mk, Nat.zero_add]
   refine ⟨hrow1.some (by rw [List.length_append, List.length_cons]; omega), hrow1.frz _, fun H102 e102 => ?_⟩
   rw [← hB] at e102
   have r102 := set_end hrow1 e102
   have k102 : Kp (fun x => x = bb) H1 H102 := (Kp.refl (fun x => x = bb) H1).set' e102 (.inl rfl)
   have a102 : AdvT hb H1 h2 S2 H102 h2 S2 49 := AdvT.of k102 fun b g => by subst g; exact ⟨_, hrow1⟩
   rw [wr (by omega) (by omega), show ((i : Int) + 1) = ((i + 1 : Nat) : Int) by omega]
   refine ih (i + 1) (B ++ [s]) rest h2 S2 H102 (by omega) (by rw [List.length_append, hB]; rfl) hrest r102 (hi1.kp k102 (fun b hf g => nz1 (g ▸ hf)) fun b g => by subst g; exact hbbl) f1 f2 f3 f4 f5 f6 f7 nz1 (fun j s' evs hs he => ?_) (fun j s' hs hj => ?_) (kt1.trans (KT.of k102 fun b g => ⟨49, _, by decide, g ▸ hrow1⟩))
   ·by_cases hj : j < B.length
    ·rw [List.getElem?_append_left hj] at hs
     exact (hLR1 j s' evs hs he).advT a102 (by decide) (by decide)
    ·rw [List.getElem?_append_right (by omega)] at hs
     have hj1 : j - B.length < 1 := (List.getElem?_eq_some_iff.1 hs).1
     rw [show j - B.length = 0 from by omega] at hs
     simp only [List.getElem?_cons_zero, Option.some.injEq] at hs
     subst hs
     exact (hs1 evs (by rw [show i = j from by omega]; exact he)).advT a102 (by decide) (by decide)
   ·have go : (∃ b', s' = Sl.mk (some ⟨b', 0, none⟩) 1 1 ∧ ¬ FH hb h2 S2 b' ∧ Row H1 b' 36 (tR S_mark 0 Sl.nil)) → ∃ b', s' = Sl.mk (some ⟨b', 0, none⟩) 1 1 ∧ ¬ FH hb h2 S2 b' ∧ Row H102 b' 36 (tR S_mark 0 Sl.nil) := fun ⟨b', g1, g2, g3⟩ => ⟨b', g1, (a102.row g3 g2 (by decide)).2, (a102.row g3 g2 (by decide)).1⟩
    by_cases hj' : j < B.length
    ·rw [List.getElem?_append_left hj'] at hs
     exact go (hMk1 j s' hs hj)
    ·rw [List.getElem?_append_right (by omega)] at hs
     have hj1 : j - B.length < 1 := (List.getElem?_eq_some_iff.1 hs).1
     rw [show j - B.length = 0 from by omega] at hs
     simp only [List.getElem?_cons_zero, Option.some.injEq] at hs
     subst hs
     exact go (hs2 (by omega))
  refine hX4 _ _ ⟨fun _ => ⟨p1, rowc (i := 1) re' rfl, fun g => ?_, fun g => ?_⟩, fun g => absurd (of_decide_eq_false g) (by show ¬ ¬ (i : Int) < (cb : Int); omega)⟩
  ·have g := of_decide_eq_true g
   intro H96 e96
   have k96 : Kp No H' H96 := (Kp.refl _ _).push' e96
   have d0 : m.bound.drop i = [] := List.drop_eq_nil_of_le (by omega)
   have d1 : m.bound.drop (i + 1) = [] := List.drop_eq_nil_of_le (by omega)
   refine put _ h' S' H96 (hi'.no k96) e1 e2 e3 e4 e5 (by rw [d1, ← d0]; exact e6) (by rw [d1, ← d0]; exact e7) nz' (k96.row hrow id) (fun j s evs hs he => (hLR j s evs hs he).no k96) (fun j s hs hj => ?_) (fun evs he => ?_) (fun _ => ⟨H'.size, rfl, fun hf => ?_, Row.new' e96⟩) (kt.trans (KT.no k96))
   ·obtain ⟨b', g1, g2, g3⟩ := hMk j s hs hj
    exact ⟨b', g1, g2, k96.row g3 id⟩
   ·have := (List.getElem?_eq_some_iff.1 he).1; omega
   ·have := hi'.ltz hf.z; omega
  ·have g := of_decide_eq_false g
   obtain ⟨evs, ge⟩ : ∃ l, m.bound[i]? = some l := ⟨_, List.getElem?_eq_getElem (by omega)⟩
   obtain ⟨s0, gs⟩ : ∃ s, Ls[i]? = some s := ⟨_, List.getElem?_eq_getElem (by omega)⟩
   obtain ⟨t1, t2⟩ := totE_drop ge
   obtain ⟨a, ha, ha0, ha1, hac⟩ := rdAt (pt := 49) (show RdL (slP 49) H' p1 Ls from hLs.kp0 hi'.k0) gs
   refine ⟨p1, rowc (i := 1) re' rfl, a, ha, ha0, ha1, s0, hac, ?_⟩
   refine c39 hi' (hLe i s0 evs gs ge) (hv evs (List.mem_of_getElem? ge)) (by omega) (by omega) fun s H114 P' V' S2 hi2 ad lr => ?_
   refine put s _ S2 H114 hi2 e1 e2 e3 e4 e5 (by show h'.nv + evs.length + _ = _; omega) (by show h'.ne + 1 + _ = _; omega) (fun hf => (ad.z bb hf).elim nz' fun g => by omega) (ad.k.row hrow fun hf => nz' hf.z) (fun j s evs hs he => (hLR j s evs hs he).advH ad) (fun j s hs hj => ?_) (fun evs' he => ?_) (fun hle => absurd (List.getElem?_eq_some_iff.1 ge).1 (by omega)) (kt.trans (ad.kt hi'))
   ·obtain ⟨b', g1, g2, g3⟩ := hMk j s hs hj
    obtain ⟨g4, g5⟩ := (ad.advT 9).row g3 g2 (by decide)
    exact ⟨b', g1, g5, g4⟩
   ·rw [ge] at he; injection he with he; subst he; exact lr

theorem c26 {Q : Q26} (hi : HI H0 H hb h S) (ho : HO H0 H hb h S) (henv : EnvH H0 p0 p1 p2 p3 p4 p5 p6 m) (hv : ∀ evs ∈ m.bound, ∀ e ∈ evs, e.vals.length ≤ lim) (hnv : m.now.vals.length ≤ lim) (hbn : m.bound.length ≤ lim) (hel' : ∀ evs ∈ m.bound, evs.length ≤ lim) (htl' : ∀ t ∈ m.types, t.2.length ≤ lim) (hna : h.na = 0)
  (hM : h.nv + totE m.bound + 1 ≤ 1099511627776) (hM' : h.ne + m.bound.length ≤ 1099511627776)
  (hQ : ∀ v' b' vals' types' H' h' S', HI H0 H' hb h' S' → HO H0 H' hb h' S' → h'.nx = h.nx → h'.nv = h.nv + totE m.bound + 1 → LEnv H' hb h' S' m vals' → (v' = Sl.mk h'.vr.b m.vars.length h'.vr.c ∧ b' = Sl.mk h'.bd.b m.bound.length h'.bd.c ∧ types' = Sl.mk h'.ty.b m.types.length h'.ty.c) → KT (43 :: kty) H H' → Q v' b' p2 p3 p4 vals' types' H') :
  F26 (some ⟨hb, 0, none⟩) p0 p1 p2 p3 p4 p5 p6 H Q := by
 intro H1 e1 H3 e3
 have k1 : Kp No H H1 := (Kp.refl _ _).push' e1
 have k3 : Kp No H H3 := k1.push' e3
 have s1 := size_push' e1
 have s3 := size_push' e3
 have hs := hi.k0.size
 have re : Row H3 H.size 43 (envRow p0 p1 p2 p3 p4 p5 p6) := (Row.new' e1).push' e3
 have rr : Row H3 H1.size 43 (envRow Sl.nil Sl.nil bE bE 0 Sl.nil Sl.nil) := Row.new' e3
 have hi3 := hi.no k3
 have ho3 := ho.no k3
 have pn := henv.vars.n
 have vs : m.vars.length ≤ 4194304 := henv.vs
 refine ⟨_, rfl, h.vr, by rw [add_mk, Nat.zero_add]; exact hi3.row.cell_of rfl, Nat.le_refl _, Nat.zero_le _, Nat.le_refl _, p0, re.cell_of (i := 0) rfl, ?_⟩
 refine app1 (F := sF) (bytes := 16) ho3.vr (henv.vars.kp0 hi3.k0) rfl (by omega) (by omega) fun r16 H14 hr14 k14 ha14 => ?_
 have kt14 : KT [9] H3 H14 := KT.of k14 fun b g => by obtain ⟨l, g⟩ := ho3.vr.row g; exact ⟨9, l, by simp, g⟩
 refine ⟨by rw [add_mk, Nat.zero_add]; exact (kt14.row hi3.row (by decide)).cell_of rfl, ?_⟩
 refine app0 (F := sF) (bytes := 16) (z := E) (K2 := fun y H20 => ∃ x32 : Sl, cell H20 ⟨H.size, 0, none⟩ = some (Sl.v x32) ∧ (F26_L2 Q (some ⟨hb, 0, none⟩) ⟨H.size, 0, none⟩ ⟨H1.size, 0, none⟩ y ((x32).n : Int) H20)) hr14 (by omega) (by omega) fun bv cv spv H20 hcv hmv hrowv hlenv k20 hb20 => ?_
 have kV : Kp h.vr.at H3 H20 := k14.trans k20 fun b g => ha14 b g
 have hbv : h.vr.at bv ∨ H3.size ≤ bv := hb20.elim (ha14 bv) fun g => .inr (by have := k14.size; omega)
 have kt20 : KT [9] H3 H20 := KT.of kV fun b g => by obtain ⟨l, g⟩ := ho3.vr.row g; exact ⟨9, l, by simp, g⟩
 have hfl := fl_len sF.len m.vars
 rw [List.length_append, hfl] at hlenv
 refine ⟨p0, (kt20.row re (by decide)).cell_of (i := 0) rfl, ?_⟩
 intro X2 hX2
 rw [pn]
 refine fill1 (n0 := 0) (t := 9) (b := bv) (c := cv) (fun _ => sv S_mark) (s := Sl.mk (some ⟨bv, 0, none⟩) cv cv) rfl rfl hmv (C := F26_1 Q (some ⟨hb, 0, none⟩) ⟨H.size, 0, none⟩ ⟨H1.size, 0, none⟩ (Sl.mk (some ⟨bv, 0, none⟩) cv cv)) (fun y H _ g => hX2 _ _ g) (cv - m.vars.length) m.vars.length (m.vars.flatMap sF.f) spv H20 (Nat.zero_le _) (by omega) (by omega) (by omega) hrowv fun H2 r2 k2 => ?_
 have k2' : Kp h.vr.at H3 H2 := kV.trans k2 fun b e => by subst e; exact hbv
 have kt2 : KT [9] H3 H2 := KT.of k2' fun b g => by obtain ⟨l, g⟩ := ho3.vr.row g; exact ⟨9, l, by simp, g⟩
 have hi2 : HI H0 H2 hb h S := hi3.kp k2' (fun b hf g => by obtain ⟨l, g⟩ := ho3.vr.row g; exact hi3.nz g (by decide) hf) fun b g => ho.lo b (.inl g)
 have hbvl : H0.size ≤ bv := hbv.elim (fun g => ho.lo bv (.inl g)) fun g => by omega
 have bd2 : Slot H2 49 1 h.bd := ho3.bd.imp fun _ o => kt2.own o (by decide)
 have ty2 : Slot H2 86 2 h.ty := ho3.ty.imp fun _ o => kt2.own o (by decide)
 have her : H.size ≠ H1.size := by omega
 refine c26b hi2 bd2 ty2 (fun b g => ho.lo b (.inr (.inl g))) (fun b g => ho.lo b (.inr (.inr g))) ho.nb ⟨bv, cv, rfl, hcv, hmv, r2⟩ (fun b g => by rw [sl_at g]; exact hbvl) (kt2.row re (by decide)) (kt2.row rr (by decide)) hs (by omega) her henv hv hnv hbn hel' htl' hna hM hM' fun v' b' vals' types' Hf hf Sf g1 g2 g3 g4 g5 g6 g7 => ?_
 exact hQ v' b' vals' types' Hf hf Sf g1 g2 g3 g4 g5 g6 (KT.trans (KT.no k3) (KT.trans (kt2.mono fun t ht => by simp at ht; subst ht; decide) g7))
end

theorem cellz1 {H : Hp} {a : Addr} {x : Value} (c : cells H a [x] 0) : cell H a = some x := by
 have e : a.add 0 = a := by obtain ⟨b, o, x⟩ := a; cases x <;> simp [Addr.add]
 have := c.1
 rwa [e] at this
section
variable {H : Hp} {hb : Nat} {h : Hd} {S : Ss} {p0 p1 : Sl} {p2 p3 : ByteArray} {p4 : Int} {p5 p6 : Sl} {m : EnvM}
theorem c35 {vals q0 q1 q6 : Sl} {Q : Bool → Hp → Prop} (hr : Row H hb 32 h.row) (hpa : Lst (slP 84) H h.pa S.a) (le : LEnv H hb h S m vals) (henv : EnvH H p0 p1 p2 p3 p4 p5 p6 m) (hv : ∀ evs ∈ m.bound, ∀ e ∈ evs, e.vals.length ≤ lim) (hnv : m.now.vals.length ≤ lim) (hbn : m.bound.length ≤ lim)
  (hQ : ∀ H', Kp No H H' → Q true H') : F35 (some ⟨hb, 0, none⟩) p0 p1 p2 p3 p4 p5 p6 q0 q1 p2 p3 p4 vals q6 H Q := by
 intro H1 e1 H3 e3
 have k1 : Kp No H H1 := (Kp.refl _ _).push' e1
 have k3 : Kp No H H3 := k1.push' e3
 have rn : Row H3 H.size 43 (envRow p0 p1 p2 p3 p4 p5 p6) := (Row.new' e1).push' e3
 have rx : Row H3 H1.size 43 (envRow q0 q1 p2 p3 p4 vals q6) := Row.new' e3
 have hvs : m.vars.length ≤ 4194304 := henv.vs
 have hbn : m.bound.length ≤ 4194304 := hbn
 have pn := henv.vars.n
 obtain ⟨Ls, hLs, hLl, hLe⟩ := henv.bound
 have bn : p1.n = m.bound.length := by rw [hLs.n, hLl]
 have e3' := henv.nty
 have e4' := henv.ntime
 have two : ∀ H2, Kp No H H2 → Row H2 H.size 43 (envRow p0 p1 p2 p3 p4 p5 p6) → F35_2 Q (some ⟨hb, 0, none⟩) ⟨H.size, 0, none⟩ true H2 := fun H2 k2 rn => by
  obtain ⟨b, c, B, eb, hc, hmx, _, hrow, hBl, hLR, hMk⟩ := le.bd
  have hbd : ∀ {Hx}, Kp No H Hx → cell Hx ((⟨hb, 0, none⟩ : Addr).add 5) = some (Sl.v (Sl.mk (some ⟨b, 0, none⟩) c c)) := fun k => by rw [← eb, add_mk, Nat.zero_add]; exact (k.row hr id).cell_of rfl
  intro X7 hX7
  suffices G : ∀ (d i : Nat) (H' : Hp), i + d = c → Kp No H2 H' → X7 true (i : Int) H' from G c 0 H2 (by omega) (Kp.refl _ _)
  intro d
  induction d with
  | zero =>
   intro i H' hi k
   exact hX7 _ _ _ ⟨_, rfl, _, hbd (k2.no2 k), fun g => absurd (of_decide_eq_true g) (by show ¬ (i : Int) < (c : Int); omega), fun _ => hQ H' (k2.no2 k)⟩
  | succ d ih =>
   intro i H' hi k
   have it : ((i : Nat) : Int).toNat = i := by omega
   have kk := k2.no2 k
   have rn' := k.row rn id
   obtain ⟨s, gs⟩ : ∃ s, B[i]? = some s := ⟨_, List.getElem?_eq_getElem (by omega)⟩
   have cs : ∀ {Hx}, Kp No H Hx → cell Hx ((⟨b, 0, none⟩ : Addr).add ((i : Int).toNat * 1)) = some (Sl.v s) := fun kx => by
    rw [it, add_mk]
    refine cellz1 ((kx.row hrow id).cells ?_)
    have := lk_lo (R := []) slF gs
    rw [List.append_nil] at this
    rw [Nat.zero_add, Nat.add_zero]; exact this
   have nx : ∀ H'', Kp No H2 H'' → X7 true (IntKind.i64.wrap ((i : Int) + 1)) H'' := fun H'' k'' => by
    rw [wr (by omega) (by omega), show ((i : Int) + 1) = ((i + 1 : Nat) : Int) by omega]
    exact ih (i + 1) H'' (by omega) k''
   refine hX7 _ _ _ ⟨_, rfl, _, hbd kk, fun _ => ⟨fun _ => ⟨p1, rowc (i := 1) rn' rfl, fun g => ?_, fun g => ?_⟩, fun h => (by cases h)⟩, fun g => absurd (of_decide_eq_false g) (by show ¬ ¬ (i : Int) < (c : Int); omega)⟩
   ·have g := of_decide_eq_true g
    obtain ⟨evs, ge⟩ : ∃ l, m.bound[i]? = some l := ⟨_, List.getElem?_eq_getElem (by omega)⟩
    obtain ⟨s0, gs0⟩ : ∃ s, Ls[i]? = some s := ⟨_, List.getElem?_eq_getElem (by omega)⟩
    obtain ⟨a, ha, ha0, ha1, hac⟩ := rdAt (pt := 49) (show RdL (slP 49) H' p1 Ls from hLs.kp0 kk) gs0
    refine ⟨p1, rowc (i := 1) rn' rfl, a, ha, ha0, ha1, s0, hac, _, rfl, _, hbd kk, _, rfl, by omega, by show (i : Int) < (c : Int); omega, s, cs kk, ?_⟩
    refine c54 ((hLe i s0 evs gs0 ge).no kk) ((hLR i s evs gs ge).no kk) (hv evs (List.mem_of_getElem? ge)) fun H111 k111 => ⟨hbd (kk.no2 k111), rowc (i := 1) (k111.row rn' id) rfl, ?_⟩
    exact nx H111 (k.no2 k111)
   ·have g := of_decide_eq_false g
    obtain ⟨b', rfl, _, hrb⟩ := hMk i s gs (by omega)
    refine ⟨_, rfl, _, hbd kk, _, rfl, by omega, by show (i : Int) < (c : Int); omega, _, cs kk, fun _ => ⟨_, rfl, _, hbd kk, _, rfl, by omega, by show (i : Int) < (c : Int); omega, _, cs kk, _, rfl, Int.le_refl _, by show (0 : Int) < ((1 : Nat) : Int); omega, S_mark, ?_, ?_⟩, fun g2 => absurd rfl (of_decide_eq_false g2)⟩
    ·exact (cellz3 (a := (⟨b', 0, none⟩ : Addr).add ((0 : Int).toNat * 3)) (by rw [add_mk]; exact (kk.row hrb id).cells rfl)).1
    ·rw [seq_self]
     exact nx H' k
 have one : ∀ H2, Kp No H H2 → Row H2 H.size 43 (envRow p0 p1 p2 p3 p4 p5 p6) → F35_1 Q (some ⟨hb, 0, none⟩) ⟨H.size, 0, none⟩ true H2 := fun H2 k2 rn => by
  obtain ⟨b, c, eb, hc, hmx, hrow⟩ := le.vr
  have hvr : ∀ {Hx}, Kp No H Hx → cell Hx ((⟨hb, 0, none⟩ : Addr).add 4) = some (Sl.v (Sl.mk (some ⟨b, 0, none⟩) c c)) := fun k => by rw [← eb, add_mk, Nat.zero_add]; exact (k.row hr id).cell_of rfl
  intro X3 hX3
  suffices G : ∀ (d i : Nat), i + d = c → X3 true (i : Int) H2 from G c 0 (by omega)
  intro d
  induction d with
  | zero =>
   intro i hi
   exact hX3 _ _ _ ⟨_, rfl, _, hvr k2, fun g => absurd (of_decide_eq_true g) (by show ¬ (i : Int) < (c : Int); omega), fun _ => two H2 k2 rn⟩
  | succ d ih =>
   intro i hi
   have it : ((i : Nat) : Int).toNat = i := by omega
   have five : ∀ x, ((m.vars.flatMap sF.f ++ mks sMk m.vars.length (c - m.vars.length)).drop (i * 1)).take 1 = [sv x] → F35_5 Q X3 (some ⟨hb, 0, none⟩) ⟨H.size, 0, none⟩ true (i : Int) x H2 := fun x hx => by
    refine ⟨fun _ => ⟨_, rfl, _, hvr k2, _, rfl, by omega, by show (i : Int) < (c : Int); omega, x, ?_, ?_⟩, fun h => (by cases h)⟩
    ·rw [it, add_mk]
     exact cellz1 ((k2.row hrow id).cells (by rw [Nat.zero_add, Nat.add_zero]; exact hx))
    ·show X3 (seq x x) (IntKind.i64.wrap ((i : Int) + 1)) H2
     rw [seq_self, wr (by omega) (by omega), show ((i : Int) + 1) = ((i + 1 : Nat) : Int) by omega]
     exact ih (i + 1) (by omega)
   refine hX3 _ _ _ ⟨_, rfl, _, hvr k2, fun _ => ⟨p0, rn.cell_of (i := 0) rfl, fun g => ?_, fun g => ?_⟩, fun g => absurd (of_decide_eq_false g) (by show ¬ ¬ (i : Int) < (c : Int); omega)⟩
   ·have g := of_decide_eq_true g
    obtain ⟨x, gx⟩ : ∃ x, m.vars[i]? = some x := ⟨_, List.getElem?_eq_getElem (by omega)⟩
    obtain ⟨a, ha, hlt, hcs⟩ := (henv.vars.kp0 k2).get gx
    exact ⟨p0, rn.cell_of (i := 0) rfl, a, ha, by omega, by omega, x, by rw [it]; exact cellz1 hcs, five x (lk_lo sF gx)⟩
   ·have g := of_decide_eq_false g
    exact five S_mark (lk_hi sF sMk_len (by omega) (by omega))
 refine ⟨_, rowc (i := 2) rn rfl, _, rowc (i := 2) rx rfl, fun _ => ⟨p3, p4, p5, rowcs (i := 3) (m := [.string p3, .int .i64 p4, Sl.v p5]) rn rfl, p3, p4, vals, rowcs (i := 3) (m := [.string p3, .int .i64 p4, Sl.v vals]) rx rfl, ?_⟩, fun g => ?_⟩
 ·have hn := le.now
  subst e3' e4'
  refine c30 (e := m.now) (henv.nvals.kp0 k3) ⟨rfl, rfl, hn.2.2.no k3⟩ hnv fun H21 k21 => ⟨fun _ => ⟨p6, rowc (i := 6) (k21.row rn id) rfl, ?_⟩, fun h => (by cases h)⟩
  have k21' := k3.no2 k21
  refine c53 (k21'.row hr id) (hpa.kp k21' fun _ _ => id) (le.ty.no k21') (henv.types.no k21') fun H28 k28 => one H28 (k21'.no2 k28) ((k21.no2 k28).row rn id)
 ·rw [seq_self] at g; cases g
end
end Go.Hw
