/- Lists that were handed out, written full: grow, whole. Own work of this session. -/
import Derived.Test.YtjeponambmjhcaaE3
set_option linter.unusedVariables false
namespace Go.Hw
open Go

theorem RdL.pre {α : Type} {t k : Nat} {F : Fmt α t k} {H : Hp} {s r : Sl} {L M : List α} (h : RdL F H r (L ++ M)) (hb : r.b = s.b) (hn : s.n = L.length) : RdL F H s L := by
  refine ⟨hn, ?_⟩
  have hr := h.r
  rw [hb] at hr
  cases hs : s.b with
  | none =>
    rw [hs] at hr
    have : (L ++ M).flatMap F.f = [] := hr
    rw [List.flatMap_append] at this
    exact (List.append_eq_nil_iff.1 this).1
  | some a =>
    rw [hs] at hr
    have := cells_sub (i := 0) (m := L.flatMap F.f) hr (by rw [List.flatMap_append, List.drop_zero, List.take_left])
    rw [show a.add 0 = a from by unfold Addr.add; simp] at this
    exact this

theorem rep_snoc {α : Type} (n : Nat) (x : α) : List.replicate n x ++ [x] = List.replicate (n + 1) x := by
  rw [← List.replicate_succ' ]

theorem Own.nc {H : Hp} {t k : Nat} {s : Sl} {l : List Value} (h : Own H t k s l) : s.n ≤ s.c ∧ s.c ≤ 9223372036854775807 := by
  rcases h with ⟨rfl, _⟩ | ⟨_, _, _, _, _, _, h1, h2⟩
  · exact ⟨Nat.le_refl _, by decide⟩
  · exact ⟨h1, h2⟩

/-- One list of values is written on, in its place. -/
theorem c33_vals {H : Hp} {hh i : Nat} {vs v : Sl} {P : List (Sl × Sl)} {c1 c2 c3 c4 : Value} {Q : Hp → Prop} {X : Int → Hp → Prop} (r : Row H hh 45 [Sl.v vs, c1, c2, c3, c4]) (hvs : Lst (sF 30) H vs (prs P)) (hp : P[i]? = some (v, Sl.nil)) (hv : Lst vF H v (List.replicate v.n (mkv i))) (hvn : v.n ≤ 1099511627776) (hil : i ≤ 1099511627776)
    (hvvs : ∀ b, v.at b → ¬ vs.at b)
    (hQ : ∀ H' g, Kp v.at H H' → RdL vF H' v (List.replicate v.n (mkv i)) → RdL vF H' g (List.replicate g.n (mkv i)) → (∀ b, g.blk b → v.blk b) → g.n ≤ 9223372036854775807 → F33_3 Q X (some ⟨hh, 0, none⟩) ((2 * i : Nat) : Int) g H') : F33_L4 Q X (some ⟨hh, 0, none⟩) ((2 * i : Nat) : Int) v 0 H := by
  intro Y hY
  have hnc := hv.own.nc
  have hget : (prs P)[2 * i]? = some v := by rw [prs_even, hp]; rfl
  suffices G : ∀ (d : Nat) (H1 : Hp) (j : Nat) (g : Sl), (j : Int) + d = (if (70000 : Int) < (v.c : Int) - v.n then 70000 else (v.c : Int) - v.n) → Kp v.at H H1 → Lst vF H1 g (List.replicate (v.n + j) (mkv i)) → g.b = v.b → g.c = v.c → Y g j H1 from
    G (if 70000 < v.c - v.n then 70000 else v.c - v.n) H 0 v (by split <;> split <;> omega) (Kp.refl _ _) (by simpa using hv) rfl rfl
  intro d
  induction d with
  | zero =>
    intro H1 j g hj k hg hgb hgc
    have r1 := k.row r (hv.ne r (by decide))
    have hvs1 := hvs.kp k (fun b hb hb' => hvvs b hb' hb)
    obtain ⟨a, ha, hi0, ca⟩ := hvs1.rd.get hget
    have hvsn := hvs1.n
    have hgn := hg.n
    simp only [List.length_replicate] at hgn
    have r0 := r1.cell_of (i := 0) rfl
    have c0 : cell H1 (a.add (((2 * i : Nat) : Int).toNat * 1)) = some (Sl.v v) := ca.1
    refine hY _ _ _ ⟨_, rfl, _, r0, a, ha, by omega, by omega, _, c0, _, rfl, _, r0, a, ha, by omega, by omega, _, c0, ?_⟩
    rw [wr (x := (v.c : Int) - v.n) (by omega) (by omega)]
    refine ⟨c0, r0, c0, r0, fun hb => absurd (of_decide_eq_true hb) (by split at hj <;> split <;> omega), fun _ => ?_⟩
    refine hQ H1 g k ?_ (by rw [hgn]; exact hg.rd) (fun b ⟨a, ha, hab⟩ => ⟨a, by rw [← hgb]; exact ha, hab⟩) (by have := hg.own.nc; omega)
    rw [← List.replicate_append_replicate] at hg
    exact hg.rd.pre hgb (by simp)
  | succ d ih =>
    intro H1 j g hj k hg hgb hgc
    have r1 := k.row r (hv.ne r (by decide))
    have hvs1 := hvs.kp k (fun b hb hb' => hvvs b hb' hb)
    obtain ⟨a, ha, hi0, ca⟩ := hvs1.rd.get hget
    have hvsn := hvs1.n
    have hgn := hg.n
    simp only [List.length_replicate] at hgn
    have r0 := r1.cell_of (i := 0) rfl
    have c0 : cell H1 (a.add (((2 * i : Nat) : Int).toNat * 1)) = some (Sl.v v) := ca.1
    have hjb : (j : Int) < (if (70000 : Int) < (v.c : Int) - v.n then 70000 else (v.c : Int) - v.n) := by omega
    have hjc : v.n + j + 1 ≤ v.c := by split at hjb <;> omega
    have hj7 : j < 70000 := by split at hjb <;> omega
    refine hY _ _ _ ⟨_, rfl, _, r0, a, ha, by omega, by omega, _, c0, _, rfl, _, r0, a, ha, by omega, by omega, _, c0, ?_⟩
    rw [wr (x := (v.c : Int) - v.n) (by omega) (by omega)]
    refine ⟨c0, r0, c0, r0, fun _ => ?_, fun hb => absurd (of_decide_eq_false hb) (by split at hjb <;> split <;> omega)⟩
    rw [tdiv_two, wr (x := (i : Int)) (by omega) (by omega)]
    refine c15 fun H2 k2 H3 e3 => ?_
    have k3 := k2.push' e3
    have b3 : Row H3 H2.size 49 (vF.f (mkv i)) := Row.new' e3
    refine (hg.kp k3 fun _ _ => id).append1x b3 rfl (by simp; omega) (by simp; omega) fun g4 H4 h4 k4 hn4 ho4 hin4 => ?_
    have hin := hin4 (by simp; omega)
    show Y _ _ _
    rw [wr (by omega) (by omega)]
    rw [rep_snoc] at h4
    have hgat : ∀ b, g.at b → v.at b := fun b hb => by unfold Sl.at at *; rw [← hgb]; exact hb
    exact ih H4 (j + 1) g4 (by push_cast; omega) ((k.trans k3 fun _ => False.elim).trans k4 fun b hb => .inl (hgat b hb)) h4 (hin.1.trans hgb) (hin.2.trans hgc)

/-- One list of events is written on, in its place. -/
theorem c33_evs {H : Hp} {hh i : Nat} {vs v : Sl} {P : List (Sl × Sl)} {c0 c2 c3 c4 : Value} {Q : Hp → Prop} {X : Int → Hp → Prop} (r : Row H hh 45 [c0, Sl.v vs, c2, c3, c4]) (hvs : Lst (sF 50) H vs (prs P)) (hp : P[i]? = some (v, Sl.nil)) (hv : Lst eF H v (List.replicate v.n (mke i))) (hvn : v.n ≤ 1099511627776) (hil : i ≤ 1099511627776)
    (hvvs : ∀ b, v.at b → ¬ vs.at b)
    (hQ : ∀ H' g, Kp v.at H H' → RdL eF H' v (List.replicate v.n (mke i)) → RdL eF H' g (List.replicate g.n (mke i)) → (∀ b, g.blk b → v.blk b) → g.n ≤ 9223372036854775807 → F33_7 Q X (some ⟨hh, 0, none⟩) ((2 * i : Nat) : Int) g H') : F33_L8 Q X (some ⟨hh, 0, none⟩) ((2 * i : Nat) : Int) v 0 H := by
  intro Y hY
  have hnc := hv.own.nc
  have hget : (prs P)[2 * i]? = some v := by rw [prs_even, hp]; rfl
  suffices G : ∀ (d : Nat) (H1 : Hp) (j : Nat) (g : Sl), (j : Int) + d = (if (70000 : Int) < (v.c : Int) - v.n then 70000 else (v.c : Int) - v.n) → Kp v.at H H1 → Lst eF H1 g (List.replicate (v.n + j) (mke i)) → g.b = v.b → g.c = v.c → Y g j H1 from
    G (if 70000 < v.c - v.n then 70000 else v.c - v.n) H 0 v (by split <;> split <;> omega) (Kp.refl _ _) (by simpa using hv) rfl rfl
  intro d
  induction d with
  | zero =>
    intro H1 j g hj k hg hgb hgc
    have r1 := k.row r (hv.ne r (by decide))
    have hvs1 := hvs.kp k (fun b hb hb' => hvvs b hb' hb)
    obtain ⟨a, ha, hi0, ca⟩ := hvs1.rd.get hget
    have hvsn := hvs1.n
    have hgn := hg.n
    simp only [List.length_replicate] at hgn
    have r0 := r1.cell_of (i := 1) rfl
    have c0 : cell H1 (a.add (((2 * i : Nat) : Int).toNat * 1)) = some (Sl.v v) := ca.1
    refine hY _ _ _ ⟨_, rfl, _, r0, a, ha, by omega, by omega, _, c0, _, rfl, _, r0, a, ha, by omega, by omega, _, c0, ?_⟩
    rw [wr (x := (v.c : Int) - v.n) (by omega) (by omega)]
    refine ⟨c0, r0, c0, r0, fun hb => absurd (of_decide_eq_true hb) (by split at hj <;> split <;> omega), fun _ => ?_⟩
    refine hQ H1 g k ?_ (by rw [hgn]; exact hg.rd) (fun b ⟨a, ha, hab⟩ => ⟨a, by rw [← hgb]; exact ha, hab⟩) (by have := hg.own.nc; omega)
    rw [← List.replicate_append_replicate] at hg
    exact hg.rd.pre hgb (by simp)
  | succ d ih =>
    intro H1 j g hj k hg hgb hgc
    have r1 := k.row r (hv.ne r (by decide))
    have hvs1 := hvs.kp k (fun b hb hb' => hvvs b hb' hb)
    obtain ⟨a, ha, hi0, ca⟩ := hvs1.rd.get hget
    have hvsn := hvs1.n
    have hgn := hg.n
    simp only [List.length_replicate] at hgn
    have r0 := r1.cell_of (i := 1) rfl
    have c0 : cell H1 (a.add (((2 * i : Nat) : Int).toNat * 1)) = some (Sl.v v) := ca.1
    have hjb : (j : Int) < (if (70000 : Int) < (v.c : Int) - v.n then 70000 else (v.c : Int) - v.n) := by omega
    have hjc : v.n + j + 1 ≤ v.c := by split at hjb <;> omega
    have hj7 : j < 70000 := by split at hjb <;> omega
    refine hY _ _ _ ⟨_, rfl, _, r0, a, ha, by omega, by omega, _, c0, _, rfl, _, r0, a, ha, by omega, by omega, _, c0, ?_⟩
    rw [wr (x := (v.c : Int) - v.n) (by omega) (by omega)]
    refine ⟨c0, r0, c0, r0, fun _ => ?_, fun hb => absurd (of_decide_eq_false hb) (by split at hjb <;> split <;> omega)⟩
    rw [tdiv_two, wr (x := (i : Int)) (by omega) (by omega), wr (x := -1 - (i : Int)) (by omega) (by omega)]
    intro H3 e3
    have k3 := (Kp.refl No H1).push' e3
    have b3 : Row H3 H1.size 32 (eF.f (mke i)) := Row.new' e3
    refine (hg.kp k3 fun _ _ => id).append1x b3 rfl (by simp; omega) (by simp; omega) fun g4 H4 h4 k4 hn4 ho4 hin4 => ?_
    have hin := hin4 (by simp; omega)
    show Y _ _ _
    rw [wr (by omega) (by omega)]
    rw [rep_snoc] at h4
    have hgat : ∀ b, g.at b → v.at b := fun b hb => by unfold Sl.at at *; rw [← hgb]; exact hb
    exact ih H4 (j + 1) g4 (by push_cast; omega) ((k.trans k3 fun _ => False.elim).trans k4 fun b hb => .inl (hgat b hb)) h4 (hin.1.trans hgb) (hin.2.trans hgc)

theorem c33 {H : Hp} {hh : Nat} {PV PE : List (Sl × Sl)} {av ae : Nat} {F : Nat → Prop} {Q : Hp → Prop} (hs : HS H hh PV PE av ae F) (hav : av ≤ PV.length) (hae : ae ≤ PE.length) (hPV : PV.length ≤ 1099511627776) (hPE : PE.length ≤ 1099511627776)
    (hQ : ∀ H' PV' PE', HS H' hh PV' PE' PV'.length PE'.length F → Kp F H H' → PV'.length = PV.length → PE'.length = PE.length → Q H') : F33 (some ⟨hh, 0, none⟩) H Q := by
  obtain ⟨vs, es, sz, DV, DE, r, kv, ke, dj, nv, ne, f, lt⟩ := hs
  have hhF : F hh := (f hh).2 (.inl rfl)
  have fV : ∀ b, DV b → F b := fun b hb => (f b).2 (.inr (.inl hb))
  have fE : ∀ b, DE b → F b := fun b hb => (f b).2 (.inr (.inr hb))
  refine ⟨_, rfl, by omega, by decide, _, r.cell_of (i := 3) rfl, fun X hX => ?_⟩
  suffices G : ∀ (d : Nat) (H1 : Hp) (i : Nat) (PV1 : List (Sl × Sl)), i + d = PV.length → PV1.length = PV.length → Kp F H H1 → Row H1 hh 45 [Sl.v vs, Sl.v es, .int .i64 sz, .int .i64 ((2 * av : Nat) : Int), .int .i64 ((2 * ae : Nat) : Int)] → Kept (u := 30) vF mkv H1 vs PV1 i DV → Kept (u := 50) eF mke H1 es PE ae DE → X ((2 * i : Nat) : Int) H1 from
    G (PV.length - av) H av PV (by omega) rfl (Kp.refl _ _) r kv ke
  intro d
  induction d with
  | zero =>
    intro H1 i PV1 hi hl1 k1 r1 kv1 ke1
    have hvn := kv1.lst.n
    rw [prs_len] at hvn
    refine hX _ _ ⟨_, rfl, _, r1.cell_of (i := 0) rfl, fun hb => absurd (of_decide_eq_true hb) (by omega), fun _ => ⟨_, rfl, by omega, by decide, _, r1.cell_of (i := 4) rfl, fun Y hY => ?_⟩⟩
    have hie : i = PV1.length := by omega
    subst hie
    suffices G : ∀ (d : Nat) (H2 : Hp) (j : Nat) (PE1 : List (Sl × Sl)), j + d = PE.length → PE1.length = PE.length → Kp F H H2 → Row H2 hh 45 [Sl.v vs, Sl.v es, .int .i64 sz, .int .i64 ((2 * av : Nat) : Int), .int .i64 ((2 * ae : Nat) : Int)] → Kept (u := 30) vF mkv H2 vs PV1 PV1.length DV → Kept (u := 50) eF mke H2 es PE1 j DE → Y ((2 * j : Nat) : Int) H2 from
      G (PE.length - ae) H1 ae PE (by omega) rfl k1 r1 kv1 ke1
    intro d
    induction d with
    | zero =>
      intro H2 j PE1 hj hl2 k2 r2 kv2 ke2
      have hen := ke2.lst.n
      have hvn := kv2.lst.n
      rw [prs_len] at hen hvn
      have hje : j = PE1.length := by omega
      subst hje
      refine hY _ _ ⟨_, rfl, _, r2.cell_of (i := 1) rfl, fun hb => absurd (of_decide_eq_true hb) (by omega), fun _ => ⟨_, rfl, _, r2.cell_of (i := 0) rfl, _, rfl, _, r2.cell_of (i := 1) rfl, _, rfl, r2.mayw (m := 2) (o := 3) (i := 0) (by simp), fun H3 e3 => ?_⟩⟩
      have r3 := r2.sets' (oo := 3) e3 (by simp)
      have k3 := (Kp.refl (fun b => b = hh) H2).sets' e3 (.inl rfl)
      refine hQ H3 PV1 PE1 ⟨vs, es, sz, DV, DE, ?_, kv2.kp k3 fun b hb e => nv (e ▸ hb), ke2.kp k3 fun b hb e => ne (e ▸ hb), dj, nv, ne, f, fun b hb => ?_⟩ (k2.sets' e3 (.inl hhF)) hl1 hl2
      · rw [hvn, hen] at r3
        exact r3
      · have := lt b hb
        have := k2.size
        have := k3.size
        omega
    | succ d ih =>
      intro H2 j PE1 hj hl2 k2 r2 kv2 ke2
      have hen := ke2.lst.n
      rw [prs_len] at hen
      have hx : PE1[j]? = some (PE1[j]'(by omega)) := List.getElem?_eq_getElem (by omega)
      generalize PE1[j]'(by omega) = p at hx
      have hnew := ke2.new j p hx (Nat.le_refl _)
      obtain ⟨v, w⟩ := p
      have hw : w = Sl.nil := hnew.2
      subst hw
      have hget : (prs PE1)[2 * j]? = some v := by rw [prs_even, hx]; rfl
      obtain ⟨a, ha, hi0, ca⟩ := ke2.lst.rd.get hget
      have c0 : cell H2 (a.add (((2 * j : Nat) : Int).toNat * 1)) = some (Sl.v v) := ca.1
      have hvD : ∀ b, v.at b → DE b := fun b hb => (ke2.fp b).2 (.inr ⟨_, List.mem_of_getElem? hx, .inl (Sl.blk_of_at hb)⟩)
      have hesD : ∀ b, es.at b → DE b := fun b hb => (ke2.fp b).2 (.inl hb)
      refine hY _ _ ⟨_, rfl, _, r2.cell_of (i := 1) rfl, fun _ => ⟨_, rfl, _, r2.cell_of (i := 1) rfl, a, ha, by omega, by omega, _, c0, ?_⟩, fun hb => absurd (of_decide_eq_false hb) (by omega)⟩
      refine c33_evs r2 ke2.lst hx hnew.1 (ke2.sh _ (List.mem_of_getElem? hx)).1 (by omega) (fun b hb => ke2.own _ (List.mem_of_getElem? hx) b (.inl (Sl.blk_of_at hb))) fun H3 g k3 hv3 hg3 hgv hgn => ?_
      obtain ⟨_, a', ha', hn', hmay, hset⟩ := ke2.grown hx k3 hv3 hg3 hgv hgn (fun b hb => by have := lt b (fE b hb); have := k2.size; omega)
      have r3 := k3.row r2 (fun hb => ne (hvD _ hb))
      have hwi : IntKind.i64.wrap (((2 * j : Nat) : Int) + 1) = ((2 * j + 1 : Nat) : Int) := wr (by omega) (by omega)
      refine ⟨_, rfl, _, r3.cell_of (i := 1) rfl, a', ha', ?_⟩
      rw [hwi]
      refine ⟨by omega, by omega, hmay.1.1, hmay.1.2, fun H4 e4 => ?_⟩
      obtain ⟨ke4, k4⟩ := hset H4 e4
      have kv4 := (kv2.kp k3 fun b hb hb' => dj b hb (hvD b hb')).kp k4 fun b hb hb' => dj b hb (hesD b hb')
      have hw2 : IntKind.i64.wrap (((2 * j : Nat) : Int) + 2) = ((2 * (j + 1) : Nat) : Int) := by rw [wr (by omega) (by omega)]; omega
      rw [hw2]
      exact ih H4 (j + 1) (PE1.set j (v, g)) (by omega) (by simpa using hl2) ((k2.trans k3 fun b hb => .inl (fE b (hvD b hb))).trans k4 fun b hb => .inl (fE b (hesD b hb))) (k4.row r3 fun hb => ne (hesD _ hb)) kv4 ke4
  | succ d ih =>
    intro H1 i PV1 hi hl1 k1 r1 kv1 ke1
    have hvn := kv1.lst.n
    rw [prs_len] at hvn
    have hx : PV1[i]? = some (PV1[i]'(by omega)) := List.getElem?_eq_getElem (by omega)
    generalize PV1[i]'(by omega) = p at hx
    have hnew := kv1.new i p hx (Nat.le_refl _)
    obtain ⟨v, w⟩ := p
    have hw : w = Sl.nil := hnew.2
    subst hw
    have hget : (prs PV1)[2 * i]? = some v := by rw [prs_even, hx]; rfl
    obtain ⟨a, ha, hi0, ca⟩ := kv1.lst.rd.get hget
    have c0 : cell H1 (a.add (((2 * i : Nat) : Int).toNat * 1)) = some (Sl.v v) := ca.1
    have hvD : ∀ b, v.at b → DV b := fun b hb => (kv1.fp b).2 (.inr ⟨_, List.mem_of_getElem? hx, .inl (Sl.blk_of_at hb)⟩)
    have hvsD : ∀ b, vs.at b → DV b := fun b hb => (kv1.fp b).2 (.inl hb)
    refine hX _ _ ⟨_, rfl, _, r1.cell_of (i := 0) rfl, fun _ => ⟨_, rfl, _, r1.cell_of (i := 0) rfl, a, ha, by omega, by omega, _, c0, ?_⟩, fun hb => absurd (of_decide_eq_false hb) (by omega)⟩
    refine c33_vals r1 kv1.lst hx hnew.1 (kv1.sh _ (List.mem_of_getElem? hx)).1 (by omega) (fun b hb => kv1.own _ (List.mem_of_getElem? hx) b (.inl (Sl.blk_of_at hb))) fun H3 g k3 hv3 hg3 hgv hgn => ?_
    obtain ⟨_, a', ha', hn', hmay, hset⟩ := kv1.grown hx k3 hv3 hg3 hgv hgn (fun b hb => by have := lt b (fV b hb); have := k1.size; omega)
    have r3 := k3.row r1 (fun hb => nv (hvD _ hb))
    have hwi : IntKind.i64.wrap (((2 * i : Nat) : Int) + 1) = ((2 * i + 1 : Nat) : Int) := wr (by omega) (by omega)
    refine ⟨_, rfl, _, r3.cell_of (i := 0) rfl, a', ha', ?_⟩
    rw [hwi]
    refine ⟨by omega, by omega, hmay.1.1, hmay.1.2, fun H4 e4 => ?_⟩
    obtain ⟨kv4, k4⟩ := hset H4 e4
    have ke4 := (ke1.kp k3 fun b hb hb' => dj b (hvD b hb') hb).kp k4 fun b hb hb' => dj b (hvsD b hb') hb
    have hw2 : IntKind.i64.wrap (((2 * i : Nat) : Int) + 2) = ((2 * (i + 1) : Nat) : Int) := by rw [wr (by omega) (by omega)]; omega
    rw [hw2]
    exact ih H4 (i + 1) (PV1.set i (v, g)) (by omega) (by simpa using hl1) ((k1.trans k3 fun b hb => .inl (fV b (hvD b hb))).trans k4 fun b hb => .inl (fV b (hvsD b hb))) (k4.row r3 fun hb => nv (hvsD _ hb)) kv4 ke4

theorem rep_get {α : Type} {n j : Nat} {x : α} (h : j < n) : (List.replicate n x)[j]? = some x := by simp [h]

theorem c17 {H : Hp} {hh : Nat} {PV PE : List (Sl × Sl)} {av ae : Nat} {F : Nat → Prop} {Q : Bool → Hp → Prop} (hs : HS H hh PV PE av ae F) (hPV : PV.length ≤ 1099511627776) (hPE : PE.length ≤ 1099511627776)
    (hQ : ∀ H', Kp No H H' → Q true H') : F17 (some ⟨hh, 0, none⟩) H Q := by
  obtain ⟨vs, es, sz, DV, DE, r, kv, ke, dj, nv, ne, f, lt⟩ := hs
  have hvn := kv.lst.n
  have hen := ke.lst.n
  rw [prs_len] at hvn hen
  intro X hX
  suffices G : ∀ (d : Nat) (H1 : Hp) (i : Nat), i + d = vs.n → Kp No H H1 → X i H1 from G vs.n H 0 (by omega) (Kp.refl _ _)
  intro d
  induction d with
  | zero =>
    intro H1 i hi k1
    have r1 := k1.row r id
    refine hX _ _ ⟨_, rfl, _, r1.cell_of (i := 0) rfl, fun hb => absurd (of_decide_eq_true hb) (by omega), fun _ => ?_⟩
    intro Y hY
    suffices G : ∀ (d : Nat) (H2 : Hp) (i : Nat), i + d = es.n → Kp No H H2 → Y i H2 from G es.n H1 0 (by omega) k1
    intro d
    induction d with
    | zero =>
      intro H2 i hi k2
      exact hY _ _ ⟨_, rfl, _, (k2.row r id).cell_of (i := 1) rfl, fun hb => absurd (of_decide_eq_true hb) (by omega), fun _ => hQ H2 k2⟩
    | succ d ih =>
      intro H2 i hi k2
      have r2 := k2.row r id
      have ke2 := ke.kp k2 fun _ _ => id
      have hx : (prs PE)[i]? = some ((prs PE)[i]'(by rw [prs_len]; omega)) := List.getElem?_eq_getElem (by rw [prs_len]; omega)
      generalize (prs PE)[i]'(by rw [prs_len]; omega) = g at hx
      obtain ⟨p, hp, hpg⟩ := prs_get hx
      have hold := ke.old _ p hp
      have hgr : RdL eF H g (List.replicate g.n (mke (i / 2))) ∧ g.n ≤ 9223372036854775807 := by
        have := ke.sh p (List.mem_of_getElem? hp)
        rcases hpg with rfl | rfl
        · exact ⟨hold.1, by omega⟩
        · exact ⟨hold.2, this.2⟩
      refine hY _ _ ⟨_, rfl, _, r2.cell_of (i := 1) rfl, fun _ => ?_, fun hb => absurd (of_decide_eq_false hb) (by omega)⟩
      intro Z hZ
      suffices G : ∀ (d : Nat) (H3 : Hp) (j : Nat), j + d = g.n → Kp No H H3 → Z j H3 from G g.n H2 0 (by omega) k2
      intro d
      induction d with
      | zero =>
        intro H3 j hj k3
        have r3 := k3.row r id
        obtain ⟨a, ha, hi0, ca⟩ := (ke.kp k3 fun _ _ => id).lst.rd.get hx
        have c0 : cell H3 (a.add ((i : Int).toNat * 1)) = some (Sl.v g) := ca.1
        refine hZ _ _ ⟨_, rfl, _, r3.cell_of (i := 1) rfl, a, ha, by omega, by omega, _, c0, fun hb => absurd (of_decide_eq_true hb) (by omega), fun _ => ?_⟩
        show Y _ _
        rw [wr (by omega) (by omega)]
        exact ih H3 (i + 1) (by omega) k3
      | succ d ihj =>
        intro H3 j hj k3
        have r3 := k3.row r id
        obtain ⟨a, ha, hi0, ca⟩ := (ke.kp k3 fun _ _ => id).lst.rd.get hx
        have c0 : cell H3 (a.add ((i : Int).toNat * 1)) = some (Sl.v g) := ca.1
        obtain ⟨a', ha', hj0, ca'⟩ := (hgr.1.kp0 k3).get (rep_get (n := g.n) (j := j) (x := mke (i / 2)) (by omega))
        have r1' := r3.cell_of (i := 1) rfl
        refine hZ _ _ ⟨_, rfl, _, r1', a, ha, by omega, by omega, _, c0, fun _ => ⟨_, rfl, _, r1', a, ha, by omega, by omega, _, c0, a', ha', by omega, by omega, _, _, _, ca', fun H4 e4 => ?_⟩, fun hb => absurd (of_decide_eq_false hb) (by omega)⟩
        have b4 := Row.new' e4
        refine ⟨b4.mayall, fun H5 e5 => ?_⟩
        have b5 := b4.fill' e5 rfl
        have k5 := (k3.push' e4).sets' e5 (.inr k3.size)
        have hd2 : Int.tdiv (i : Int) 2 = ((i / 2 : Nat) : Int) := rfl
        refine ⟨_, b5.cell_of (i := 0) rfl, fun hq => ?_, fun _ => ⟨_, b5.cell_of (i := 1) rfl, fun hq => ?_, fun _ => ⟨_, b5.cell_of (i := 2) rfl, ?_⟩⟩⟩
        · simp [mke, seq_refl] at hq
        · have hq := of_decide_eq_true hq
          rw [hd2, wr (x := ((i / 2 : Nat) : Int)) (by omega) (by omega), wr (by omega) (by omega)] at hq
          exact absurd rfl hq
        · refine ⟨fun hq => absurd rfl (of_decide_eq_true hq), fun _ => ?_⟩
          rw [wr (by omega) (by omega)]
          exact ihj H5 (j + 1) (by omega) k5
  | succ d ih =>
    intro H1 i hi k1
    have r1 := k1.row r id
    have hx : (prs PV)[i]? = some ((prs PV)[i]'(by rw [prs_len]; omega)) := List.getElem?_eq_getElem (by rw [prs_len]; omega)
    generalize (prs PV)[i]'(by rw [prs_len]; omega) = g at hx
    obtain ⟨p, hp, hpg⟩ := prs_get hx
    have hold := kv.old _ p hp
    have hgr : RdL vF H g (List.replicate g.n (mkv (i / 2))) ∧ g.n ≤ 9223372036854775807 := by
      have := kv.sh p (List.mem_of_getElem? hp)
      rcases hpg with rfl | rfl
      · exact ⟨hold.1, by omega⟩
      · exact ⟨hold.2, this.2⟩
    refine hX _ _ ⟨_, rfl, _, r1.cell_of (i := 0) rfl, fun _ => ?_, fun hb => absurd (of_decide_eq_false hb) (by omega)⟩
    intro Z hZ
    suffices G : ∀ (d : Nat) (H3 : Hp) (j : Nat), j + d = g.n → Kp No H H3 → Z j H3 from G g.n H1 0 (by omega) k1
    intro d
    induction d with
    | zero =>
      intro H3 j hj k3
      have r3 := k3.row r id
      obtain ⟨a, ha, hi0, ca⟩ := (kv.kp k3 fun _ _ => id).lst.rd.get hx
      have c0 : cell H3 (a.add ((i : Int).toNat * 1)) = some (Sl.v g) := ca.1
      refine hZ _ _ ⟨_, rfl, _, r3.cell_of (i := 0) rfl, a, ha, by omega, by omega, _, c0, fun hb => absurd (of_decide_eq_true hb) (by omega), fun _ => ?_⟩
      show X _ _
      rw [wr (by omega) (by omega)]
      exact ih H3 (i + 1) (by omega) k3
    | succ d ihj =>
      intro H3 j hj k3
      have r3 := k3.row r id
      obtain ⟨a, ha, hi0, ca⟩ := (kv.kp k3 fun _ _ => id).lst.rd.get hx
      have c0 : cell H3 (a.add ((i : Int).toNat * 1)) = some (Sl.v g) := ca.1
      obtain ⟨a', ha', hj0, ca'⟩ := (hgr.1.kp0 k3).get (rep_get (n := g.n) (j := j) (x := mkv (i / 2)) (by omega))
      have r0' := r3.cell_of (i := 0) rfl
      have hd2 : Int.tdiv (i : Int) 2 = ((i / 2 : Nat) : Int) := rfl
      refine hZ _ _ ⟨_, rfl, _, r0', a, ha, by omega, by omega, _, c0, fun _ => ⟨_, rfl, _, r0', a, ha, by omega, by omega, _, c0, a', ha', by omega, by omega, _, _, _, _, ca', ?_⟩, fun hb => absurd (of_decide_eq_false hb) (by omega)⟩
      rw [hd2, wr (x := ((i / 2 : Nat) : Int)) (by omega) (by omega)]
      refine c15 fun H4 k4 => ?_
      have k04 := k3.trans k4 fun _ => False.elim
      obtain ⟨a2, ha2, _, ca2⟩ := (hgr.1.kp0 k04).get (rep_get (n := g.n) (j := j) (x := mkv (i / 2)) (by omega))
      have e2 : a2 = a' := by rw [ha'] at ha2; exact (Option.some.inj ha2).symm
      subst e2
      obtain ⟨a3, ha3, _, ca3⟩ := (kv.kp k04 fun _ _ => id).lst.rd.get hx
      have e3 : a3 = a := by rw [ha] at ha3; exact (Option.some.inj ha3).symm
      subst e3
      refine ⟨ca2, ca3.1, (k04.row r id).cell_of (i := 0) rfl, fun hq => ?_, fun _ => ?_⟩
      · simp [mkv, seq_refl] at hq
      · rw [wr (by omega) (by omega)]
        exact ihj H4 (j + 1) (by omega) k04

end Go.Hw
