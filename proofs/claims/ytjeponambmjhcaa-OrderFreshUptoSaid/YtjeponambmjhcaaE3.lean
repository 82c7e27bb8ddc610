/- Lists that were handed out, written full: fill, grow, whole. Own work of this session. -/
import Derived.Test.YtjeponambmjhcaaE2
set_option linter.unusedVariables false
namespace Go.Hw
open Go

/-- One list of values is written full. -/
theorem c32_vals {H : Hp} {hh : Nat} {vs v : Sl} {V : List VT} {P : List (Sl × Sl)} {c1 c2 c3 c4 : Value} {l : Sl} {i0 : Int} {Q : Hp → Prop} {X : Int → Hp → Prop} (r : Row H hh 45 [Sl.v vs, c1, c2, c3, c4]) (hvs : vs.n = 2 * P.length) (hPl : P.length ≤ 1099511627776) (hv : Lst vF H v V) (hVl : V.length ≤ 1048576)
    (hQ : ∀ H', Lst vF H' v (List.replicate v.n (mkv P.length)) → Kp v.at H H' → F32_4 Q X (some ⟨hh, 0, none⟩) l i0 v H') : F32_L5 Q X (some ⟨hh, 0, none⟩) l i0 v 0 H := by
  intro Y hY
  have hn := hv.n
  suffices G : ∀ (d : Nat) (H1 : Hp) (j : Nat), j + d = V.length → Kp v.at H H1 → Lst vF H1 v (List.replicate j (mkv P.length) ++ V.drop j) → Y j H1 from G V.length H 0 (by omega) (Kp.refl _ _) (by simpa using hv)
  intro d
  induction d with
  | zero =>
    intro H1 j hj k h1
    refine hY _ _ ⟨fun hb => absurd (of_decide_eq_true hb) (by omega), fun _ => hQ H1 ?_ k⟩
    rw [List.drop_eq_nil_of_le (by omega), List.append_nil] at h1
    rw [show v.n = j from by omega]
    exact h1
  | succ d ih =>
    intro H1 j hj k h1
    have r1 := k.row r (hv.ne r (by decide))
    refine hY _ _ ⟨fun _ => ⟨_, rfl, _, r1.cell_of (i := 0) rfl, ?_⟩, fun hb => absurd (of_decide_eq_false hb) (by omega)⟩
    have hw : IntKind.i64.wrap (Int.tdiv ((vs.n : Nat) : Int) 2) = (P.length : Int) := by rw [hvs, tdiv_two]; exact wr (by omega) (by omega)
    rw [hw]
    refine c15 fun H2 k2 => ?_
    have h2 := h1.kp k2 fun _ _ => id
    obtain ⟨a, ha, hat, hjn, hmay, hset⟩ := h2.set (i := j) (by simp; omega) (mkv P.length)
    refine ⟨a, ha, by omega, by omega, hmay, fun H3 e3 => ?_⟩
    obtain ⟨h3, k3⟩ := hset H3 e3
    rw [set_rep _ _ _ (by omega)] at h3
    show Y _ _
    rw [wr (by omega) (by omega)]
    exact ih H3 (j + 1) (by omega) ((k.trans k2 fun _ => False.elim).trans k3 fun _ => .inl) h3

theorem drop_cons {α : Type} {E : List α} {i : Nat} {x : α} (hx : E[i]? = some x) : E.drop i = x :: E.drop (i + 1) := by
  obtain ⟨h, rfl⟩ := List.getElem?_eq_some_iff.1 hx
  exact List.drop_eq_getElem_cons h

theorem c32 {H : Hp} {hh : Nat} {PV PE : List (Sl × Sl)} {av ae : Nat} {F R : Nat → Prop} {l : Sl} {evs : List EV} {Q : Hp → Prop} (hs : HS H hh PV PE av ae F) (hr : AnsF H R l evs) (hFR : ∀ b, F b → ¬ R b) (hel : evs.length ≤ 1048576) (hPV : PV.length + evs.length ≤ 1099511627776) (hPE : PE.length ≤ 1099511627776)
    (hQ : ∀ H' PV' PE' F', HS H' hh PV' PE' av ae F' → Kp (fun b => F b ∨ R b) H H' → (∀ b, F' b → F b ∨ R b ∨ H.size ≤ b) → PV'.length ≤ PV.length + evs.length → PE'.length ≤ PE.length + 1 → PV.length ≤ PV'.length → PE.length ≤ PE'.length → Q H') : F32 (some ⟨hh, 0, none⟩) l H Q := by
  obtain ⟨E, hl, hv, hd, he, hRf⟩ := hr
  have hlE : E.length = evs.length := by have := congrArg List.length he; simpa using this
  have hln := hl.n
  intro X hX
  suffices G : ∀ (d : Nat) (H1 : Hp) (i : Nat) (PV1 : List (Sl × Sl)) (F1 : Nat → Prop), i + d = E.length → HS H1 hh PV1 PE av ae F1 → Kp (fun b => F b ∨ R b) H H1 → (∀ b, F1 b → F b ∨ R b ∨ H.size ≤ b) → PV1.length ≤ PV.length + i → PV.length ≤ PV1.length → Lst eF H1 l E → Vals H1 (E.drop i) → (∀ b, F1 b → ¬ l.at b) → (∀ x ∈ E.drop i, ∀ b, x.sl.at b → ¬ F1 b) → X i H1 from
    G E.length H 0 PV F (by omega) hs (Kp.refl _ _) (fun b => .inl) (by omega) (Nat.le_refl _) hl (by simpa using hv) (fun b hb hb' => hFR b hb ((hRf b).2 (.inl hb'))) (fun x hx b hb hF => hFR b hF ((hRf b).2 (.inr ⟨x, by simpa using hx, hb⟩)))
  intro d
  induction d with
  | zero =>
    intro H1 i PV1 F1 hi hs1 k1 hF1 hP1 hP2 hl1 hv1 hFl hFE
    refine hX _ _ ⟨fun hb => absurd (of_decide_eq_true hb) (by omega), fun _ => ?_⟩
    obtain ⟨vs, es, sz, DV, DE, r, kv, ke, dj, nv, ne, f, lt⟩ := hs1
    have hesn := ke.lst.n
    rw [prs_len] at hesn
    refine ⟨_, rfl, _, r.cell_of (i := 1) rfl, fun H2 e2 => ?_⟩
    have b2 := Row.new' e2
    have s2 := size_push' e2
    refine ⟨b2.mayall, fun H3 e3 => ?_⟩
    have hw : IntKind.i64.wrap (-1 - IntKind.i64.wrap (Int.tdiv ((es.n : Nat) : Int) 2)) = -1 - (PE.length : Int) := by
      rw [hesn, tdiv_two, wr (x := (PE.length : Int)) (by omega) (by omega)]; exact wr (by omega) (by omega)
    rw [hw] at e3
    have b3 : Row H3 H1.size 32 (eF.f (mke PE.length)) := b2.fill' e3 rfl
    have k13 : Kp No H1 H3 := ((Kp.refl No H1).push' e2).sets' e3 (.inr (Nat.le_refl _))
    have hs3 : HS H3 hh PV1 PE av ae F1 := HS.no ⟨vs, es, sz, DV, DE, r, kv, ke, dj, nv, ne, f, lt⟩ k13
    have hl3 := hl1.kp k13 fun _ _ => id
    have k03 := k1.trans k13 fun _ => False.elim
    have hRl : ∀ b, l.at b → R b := fun b hb => (hRf b).2 (.inl hb)
    intro Y hY
    suffices G : ∀ (d : Nat) (H4 : Hp) (j : Nat), j + d = E.length → Kp l.at H3 H4 → Lst eF H4 l (List.replicate j (mke PE.length) ++ E.drop j) → Y j H4 from G E.length H3 0 (by omega) (Kp.refl _ _) (by simpa using hl3)
    intro d
    induction d with
    | zero =>
      intro H4 j hj k4 h4
      refine hY _ _ ⟨fun hb => absurd (of_decide_eq_true hb) (by omega), fun _ => ?_⟩
      rw [List.drop_eq_nil_of_le (by omega), List.append_nil, show j = l.n from by omega] at h4
      obtain ⟨vs, es, sz, DV, DE, r, kv, ke, dj, nv, ne, f, lt⟩ := hs3.kp k4 hFl
      have sk1 := k1.size
      have sk3 := k13.size
      have sk4 := k4.size
      refine ⟨_, rfl, _, r.cell_of (i := 2) rfl, _, rfl, r.some (i := 2) (by simp), r.frz 2, fun H5 e5 => ?_⟩
      have r5 := r.set' e5
      have k5 := (Kp.refl (fun b => b = hh) H4).set' e5 (.inl rfl)
      have kv5 := kv.kp k5 fun b hb e => nv (e ▸ hb)
      have ke5 := ke.kp k5 fun b hb e => ne (e ▸ hb)
      have hhF : F1 hh := (f hh).2 (.inl rfl)
      have hhF0 : F hh ∨ R hh ∨ H.size ≤ hh := hF1 _ hhF
      have k04 : Kp (fun b => F b ∨ R b) H H4 := k03.trans k4 fun b hb => .inl (.inr (hRl b hb))
      have k05 : Kp (fun b => F b ∨ R b) H H5 := k04.set' e5 (by rcases hhF0 with h | h | h; exact .inl (.inl h); exact .inl (.inr h); exact .inr h)
      have hl5 := h4.kp k5 fun b hb e => hFl hh hhF (e ▸ hb)
      have lt5 : ∀ b, F1 b → b < H5.size := fun b hb => by have := lt b hb; have := k5.size; omega
      refine ⟨_, rfl, _, r5.cell_of (i := 2) rfl, fun _ => ?_, fun _ => ?_⟩
      · refine ⟨_, rfl, _, r5.cell_of (i := 1) rfl, fun H6 e6 => ?_⟩
        have k6 := (Kp.refl No H5).push' e6
        have s6 := size_push' e6
        have b6 : Row H6 H5.size 50 [Sl.v l, Sl.v Sl.nil] := Row.new' e6
        refine (ke5.kp k6 fun _ _ => id).append (hl5.kp k6 fun _ _ => id) (fun b hb hD => hFl b ((f b).2 (.inr (.inr hD))) hb) b6 hPE (fun b hb => by have := lt5 b ((f b).2 (.inr (.inr hb))); omega) (by decide) (by omega) fun es' H7 DE' ke7 k7 hD7 => ?_
        have r6 := r5.push' e6
        have hesD : ∀ b, es.at b → DE b := fun b hb => (ke5.fp b).2 (.inl hb)
        have r7 := k7.row r6 (fun hb => ne (hesD _ hb))
        refine ⟨_, rfl, r7.some (i := 1) (by simp), r7.frz 1, fun H8 e8 => ?_⟩
        have r8 := r7.set' e8
        have k8 := (Kp.refl (fun b => b = hh) H7).set' e8 (.inl rfl)
        have sk5 := k5.size
        have sk7 := k7.size
        have hDE' : ∀ b, DE' b → DE b ∨ l.at b ∨ H6.size ≤ b := hD7
        have hhlt := r5.lt
        have ne' : ¬ DE' hh := fun h => by
          rcases hDE' hh h with h | h | h
          · exact ne h
          · exact hFl hh hhF h
          · omega
        have kv7 := (kv5.kp k6 fun _ _ => id).kp k7 fun b hb hb' => dj b hb (hesD b hb')
        have kv8 := kv7.kp k8 fun b hb e => nv (e ▸ hb)
        have ke8 := ke7.kp k8 fun b hb e => ne' (e ▸ hb)
        have k08 : Kp (fun b => F b ∨ R b) H H8 := by
          refine ((k05.trans k6 fun _ => False.elim).trans k7 fun b hb => ?_).set' e8 (by rcases hhF0 with h | h | h; exact .inl (.inl h); exact .inl (.inr h); exact .inr h)
          rcases hF1 b ((f b).2 (.inr (.inr (hesD b hb)))) with h | h | h
          · exact .inl (.inl h)
          · exact .inl (.inr h)
          · exact .inr h
        have lt8 : ∀ b, b = hh ∨ DV b ∨ DE' b → b < H8.size := fun b hb => by
          have sk8 := k8.size
          rcases hb with h | h | h
          · omega
          · have := lt5 b ((f b).2 (.inr (.inl h))); omega
          · rcases (ke8.fp b).1 h with h | ⟨p, hp, h⟩
            · exact ke8.lst.lt h
            · rcases hDE' b ((ke8.fp b).2 (.inr ⟨p, hp, h⟩)) with h' | h' | h'
              · have := lt5 b ((f b).2 (.inr (.inr h'))); omega
              · have := hl5.lt h'; omega
              · obtain ⟨j, hj⟩ := List.getElem?_of_mem hp
                by_cases hjl : j < PE.length
                · rw [List.getElem?_append_left hjl] at hj
                  have := lt5 b ((f b).2 (.inr (.inr ((ke5.fp b).2 (.inr ⟨p, List.mem_of_getElem? hj, h⟩))))); omega
                · rw [List.getElem?_append_right (by omega)] at hj
                  have := (List.getElem?_eq_some_iff.1 hj)
                  have h0 : j - PE.length = 0 := by have := this.1; simp at this; omega
                  rw [h0] at hj
                  simp at hj
                  subst hj
                  rcases h with h | h
                  · have := hl5.lt (hl5.at_of_blk h); omega
                  · obtain ⟨a, ha, _⟩ := h; cases ha
        refine hQ H8 PV1 (PE ++ [(l, Sl.nil)]) (fun b => b = hh ∨ DV b ∨ DE' b) ⟨vs, es', _, DV, DE', r8, kv8, ke8, fun b hb hb' => ?_, nv, ne', fun _ => Iff.rfl, lt8⟩ k08 (fun b hb => ?_) (by omega) (by simp) hP2 (by simp)
        · rcases hDE' b hb' with h | h | h
          · exact dj b hb h
          · exact hFl b ((f b).2 (.inr (.inl hb))) h
          · have := lt5 b ((f b).2 (.inr (.inl hb))); omega
        · rcases hb with h | h | h
          · exact h ▸ hhF0
          · exact hF1 b ((f b).2 (.inr (.inl h)))
          · rcases hDE' b h with h | h | h
            · exact hF1 b ((f b).2 (.inr (.inr h)))
            · exact .inr (.inl (hRl b h))
            · exact .inr (.inr (by omega))
      · refine hQ H5 PV1 PE F1 ⟨vs, es, _, DV, DE, r5, kv5, ke5, dj, nv, ne, f, lt5⟩ k05 hF1 (by omega) (by omega) hP2 (Nat.le_refl _)
    | succ d ih =>
      intro H4 j hj k4 h4
      have b4 := k4.row b3 (fun hb => by have := hl3.lt hb; have := hl1.lt hb; omega)
      obtain ⟨a, ha, hat, hjn, hmay, hset⟩ := h4.set (i := j) (by simp; omega) (mke PE.length)
      refine hY _ _ ⟨fun _ => ⟨_, _, _, b4.all, a, ha, by omega, by omega, hmay, fun H5 e5 => ?_⟩, fun hb => absurd (of_decide_eq_false hb) (by omega)⟩
      obtain ⟨h5, k5⟩ := hset H5 e5
      rw [set_rep _ _ _ (by omega)] at h5
      rw [wr (by omega) (by omega)]
      exact ih H5 (j + 1) (by omega) (k4.trans k5 fun _ => .inl) h5
  | succ d ih =>
    intro H1 i PV1 F1 hi hs1 k1 hF1 hP1 hP2 hl1 hv1 hFl hFE
    have hx : E[i]? = some (E[i]'(by omega)) := List.getElem?_eq_getElem (by omega)
    generalize E[i]'(by omega) = x at hx
    obtain ⟨a, ha, hi0, ca⟩ := hl1.rd.get hx
    have hdr := drop_cons hx
    have hxd : x ∈ E.drop i := by rw [hdr]; exact List.mem_cons_self ..
    have hxE := List.mem_of_getElem? hx
    have hxv := hv1 x hxd
    have hxF := hFE x hxd
    have ca' : cell H1 ((a.add ((i : Int).toNat * 3)).add 2) = some (Sl.v x.sl) := ca.2.2.1
    refine hX _ _ ⟨fun _ => ⟨a, ha, by omega, by omega, _, ca', ?_⟩, fun hb => absurd (of_decide_eq_false hb) (by omega)⟩
    obtain ⟨vs, es, sz, DV, DE, r, kv, ke, dj, nv, ne, f, lt⟩ := hs1
    have hvsn := kv.lst.n
    rw [prs_len] at hvsn
    have hRx : ∀ b, x.sl.at b → R b := fun b hb => (hRf b).2 (.inr ⟨x, hxE, hb⟩)
    have hlx : ∀ b, l.at b → ¬ x.sl.at b := fun b hb => hl1.disj hxv.1 (by decide) hb
    -- the others lie apart of x
    have hdx : ∀ y ∈ E.drop (i + 1), ∀ b, y.sl.at b → ¬ x.sl.at b := fun y hy b hb hb' => by
      have := hd.sublist (List.drop_sublist i E)
      rw [hdr] at this
      exact (List.pairwise_cons.1 this).1 y hy b hb' hb
    refine c32_vals r hvsn (by omega) hxv.1 hxv.2 fun H2 hx2 k2 => ?_
    obtain ⟨vs, es, sz, DV, DE, r, kv, ke, dj, nv, ne, f, lt2⟩ : HS H2 hh PV1 PE av ae F1 := HS.kp ⟨vs, es, sz, DV, DE, r, kv, ke, dj, nv, ne, f, lt⟩ k2 fun b hb hb' => hxF b hb' hb
    have hl2 := hl1.kp k2 hlx
    have hv2 : Vals H2 (E.drop (i + 1)) := Vals.kpF (fun y hy => hv1 y (by rw [hdr]; exact List.mem_cons_of_mem _ hy)) k2 hdx
    have hhF : F1 hh := (f hh).2 (.inl rfl)
    have hhF0 : F hh ∨ R hh ∨ H.size ≤ hh := hF1 _ hhF
    have k02 : Kp (fun b => F b ∨ R b) H H2 := k1.trans k2 fun b hb => .inl (.inr (hRx b hb))
    have sk1 := k1.size
    have sk2 := k2.size
    refine ⟨_, rfl, _, r.cell_of (i := 2) rfl, _, rfl, r.some (i := 2) (by simp), r.frz 2, fun H5 e5 => ?_⟩
    have r5 := r.set' e5
    have k5 := (Kp.refl (fun b => b = hh) H2).set' e5 (.inl rfl)
    have sk5 := k5.size
    have kv5 := kv.kp k5 fun b hb e => nv (e ▸ hb)
    have ke5 := ke.kp k5 fun b hb e => ne (e ▸ hb)
    have k05 : Kp (fun b => F b ∨ R b) H H5 := k02.set' e5 (by rcases hhF0 with h | h | h; exact .inl (.inl h); exact .inl (.inr h); exact .inr h)
    have hx5 := hx2.kp k5 fun b hb e => hxF hh (e ▸ hb) hhF
    have hl5 := hl2.kp k5 fun b hb e => hFl hh hhF (e ▸ hb)
    have hv5 : Vals H5 (E.drop (i + 1)) := hv2.kpF k5 fun y hy b hb e => hFE y (by rw [hdr]; exact List.mem_cons_of_mem _ hy) hh (e ▸ hb) hhF
    have lt5 : ∀ b, F1 b → b < H5.size := fun b hb => by have := lt2 b hb; omega
    have hFE' : ∀ y ∈ E.drop (i + 1), ∀ b, y.sl.at b → ¬ F1 b := fun y hy => hFE y (by rw [hdr]; exact List.mem_cons_of_mem _ hy)
    refine ⟨_, rfl, _, r5.cell_of (i := 2) rfl, fun _ => ?_, fun _ => ?_⟩
    · refine ⟨_, rfl, _, r5.cell_of (i := 0) rfl, fun H6 e6 => ?_⟩
      have k6 := (Kp.refl No H5).push' e6
      have s6 := size_push' e6
      have b6 : Row H6 H5.size 30 [Sl.v x.sl, Sl.v Sl.nil] := Row.new' e6
      refine (kv5.kp k6 fun _ _ => id).append (hx5.kp k6 fun _ _ => id) (fun b hb hD => hxF b hb ((f b).2 (.inr (.inl hD)))) b6 (by omega) (fun b hb => by have := lt5 b ((f b).2 (.inr (.inl hb))); omega) (by decide) (by have := hxv.1.n; have := hxv.2; omega) fun vs' H7 DV' kv7 k7 hD7 => ?_
      have r6 := r5.push' e6
      have hvsD : ∀ b, vs.at b → DV b := fun b hb => (kv5.fp b).2 (.inl hb)
      have r7 := k7.row r6 (fun hb => nv (hvsD _ hb))
      refine ⟨_, rfl, r7.some (i := 0) (by simp), r7.frz 0, fun H8 e8 => ?_⟩
      have r8 := r7.set' e8
      have k8 := (Kp.refl (fun b => b = hh) H7).set' e8 (.inl rfl)
      have sk7 := k7.size
      have sk8 := k8.size
      have hhlt := r5.lt
      have nv' : ¬ DV' hh := fun h => by
        rcases hD7 hh h with h | h | h
        · exact nv h
        · exact hxF hh h hhF
        · omega
      have ke7 := (ke5.kp k6 fun _ _ => id).kp k7 fun b hb hb' => dj b (hvsD b hb') hb
      have kv8 := kv7.kp k8 fun b hb e => nv' (e ▸ hb)
      have ke8 := ke7.kp k8 fun b hb e => ne (e ▸ hb)
      have hvsF : ∀ b, vs.at b → F1 b := fun b hb => (f b).2 (.inr (.inl (hvsD b hb)))
      have k08 : Kp (fun b => F b ∨ R b) H H8 := by
        refine ((k05.trans k6 fun _ => False.elim).trans k7 fun b hb => ?_).set' e8 (by rcases hhF0 with h | h | h; exact .inl (.inl h); exact .inl (.inr h); exact .inr h)
        rcases hF1 b (hvsF b hb) with h | h | h
        · exact .inl (.inl h)
        · exact .inl (.inr h)
        · exact .inr h
      have k58 : Kp (fun b => F1 b) H5 H8 := ((k6.mono fun _ _ => False.elim).trans k7 fun b hb => .inl (hvsF b hb)).set' e8 (.inl hhF)
      have lt8 : ∀ b, b = hh ∨ DV' b ∨ DE b → b < H8.size := fun b hb => by
        rcases hb with h | h | h
        · omega
        · rcases (kv8.fp b).1 h with h' | ⟨p, hp, h'⟩
          · exact kv8.lst.lt h'
          · obtain ⟨j, hj⟩ := List.getElem?_of_mem hp
            by_cases hjl : j < PV1.length
            · rw [List.getElem?_append_left hjl] at hj
              have := lt5 b ((f b).2 (.inr (.inl ((kv5.fp b).2 (.inr ⟨p, List.mem_of_getElem? hj, h'⟩))))); omega
            · rw [List.getElem?_append_right (by omega)] at hj
              have := (List.getElem?_eq_some_iff.1 hj)
              have h0 : j - PV1.length = 0 := by have := this.1; simp at this; omega
              rw [h0] at hj
              simp at hj
              subst hj
              rcases h' with h' | h'
              · have := hx5.lt (hx5.at_of_blk h'); omega
              · obtain ⟨a, ha, _⟩ := h'; cases ha
        · have := lt5 b ((f b).2 (.inr (.inr h))); omega
      rw [show ∀ x : Int, F32_3 Q X (some ⟨hh, 0, none⟩) l x H8 = X (IntKind.i64.wrap (x + 1)) H8 from fun _ => rfl, wr (by omega) (by omega)]
      refine ih H8 (i + 1) (PV1 ++ [(x.sl, Sl.nil)]) (fun b => b = hh ∨ DV' b ∨ DE b) (by omega) ⟨vs', es, _, DV', DE, r8, kv8, ke8, fun b hb hb' => ?_, nv', ne, fun _ => Iff.rfl, lt8⟩ k08 (fun b hb => ?_) (by simp; omega) (by simp; omega) (hl5.kp k58 fun b hb hb' => hFl b hb' hb) (hv5.kpF k58 fun y hy b hb hF => hFE' y hy b hb hF) (fun b hb hlb => ?_) (fun y hy b hb hF => ?_)
      · rcases hD7 b hb with h | h | h
        · exact dj b h hb'
        · exact hxF b h ((f b).2 (.inr (.inr hb')))
        · have := lt5 b ((f b).2 (.inr (.inr hb'))); omega
      · rcases hb with h | h | h
        · exact h ▸ hhF0
        · rcases hD7 b h with h | h | h
          · exact hF1 b ((f b).2 (.inr (.inl h)))
          · exact .inr (.inl (hRx b h))
          · exact .inr (.inr (by omega))
        · exact hF1 b ((f b).2 (.inr (.inr h)))
      · rcases hb with h | h | h
        · exact hFl b (h ▸ hhF) hlb
        · rcases hD7 b h with h | h | h
          · exact hFl b ((f b).2 (.inr (.inl h))) hlb
          · exact hlx b hlb h
          · have := hl5.lt hlb; omega
        · exact hFl b ((f b).2 (.inr (.inr h))) hlb
      · rcases hF with h | h | h
        · exact hFE' y hy b hb (h ▸ hhF)
        · rcases hD7 b h with h | h | h
          · exact hFE' y hy b hb ((f b).2 (.inr (.inl h)))
          · exact hdx y hy b hb h
          · have := (hv5 y hy).1.lt hb; omega
        · exact hFE' y hy b hb ((f b).2 (.inr (.inr h)))
    · rw [show ∀ x : Int, F32_3 Q X (some ⟨hh, 0, none⟩) l x H5 = X (IntKind.i64.wrap (x + 1)) H5 from fun _ => rfl, wr (by omega) (by omega)]
      exact ih H5 (i + 1) PV1 F1 (by omega) ⟨vs, es, _, DV, DE, r5, kv5, ke5, dj, nv, ne, f, lt5⟩ k05 hF1 (by omega) hP2 hl5 hv5 hFl hFE'

end Go.Hw
