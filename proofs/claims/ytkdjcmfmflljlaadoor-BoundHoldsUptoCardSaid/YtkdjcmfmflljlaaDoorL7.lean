/- BoundHolds's function answers true. Own work of this session. -/
import Derived.Test.YtkdjcmfmflljlaaDoorS3
import Derived.Test.YtkdjcmfmflljlaaDoorWalkE
set_option linter.unusedVariables false
namespace Go.Hw
open Go

section
variable {H H0 : Hp} {V U : Nat → VT} {rels : List RelM} {and : List Bool}
/-- A value laid at its place among the six. -/
theorem vals_put {H' : Hp} {b : Nat} (h : Row H b 26 (valsRow V)) {i : Int} (hi : 0 ≤ i ∧ i < 6) (v : VT) :
    mayw H (Addr.add ⟨b, 0, none⟩ (i.toNat * 4)) 4 0 ∧ (H' = sets H (Addr.add ⟨b, 0, none⟩ (i.toNat * 4)) v.row 0 → Row H' b 26 (valsRow fun j => if j = i.toNat then v else V j)) := by
  obtain ⟨h1, h2⟩ := hi
  rw [add_mk]
  have : i = 0 ∨ i = 1 ∨ i = 2 ∨ i = 3 ∨ i = 4 ∨ i = 5 := by omega
  rcases this with rfl | rfl | rfl | rfl | rfl | rfl
  all_goals exact ⟨h.mayw (by simp), fun e => h.sets' e (by simp)⟩
theorem vals_num {H' : Hp} {b : Nat} (h : Row H b 26 (valsRow V)) {i : Int} (hi : 0 ≤ i ∧ i < 6) (n : Int) :
    cell H (Addr.add (Addr.add ⟨b, 0, none⟩ (i.toNat * 4)) 1) = some (.int .i64 (vi V i).n) ∧ frz H (Addr.add (Addr.add ⟨b, 0, none⟩ (i.toNat * 4)) 1) = false ∧ (H' = setc H (Addr.add (Addr.add ⟨b, 0, none⟩ (i.toNat * 4)) 1) (.int .i64 n) → Row H' b 26 (valsRow fun j => if j = i.toNat then { V j with n := n } else V j)) := by
  obtain ⟨h1, h2⟩ := hi
  refine ⟨(vals_at h ⟨h1, h2⟩).2.1, ?_⟩
  rw [add_mk, add_mk]
  have : i = 0 ∨ i = 1 ∨ i = 2 ∨ i = 3 ∨ i = 4 ∨ i = 5 := by omega
  rcases this with rfl | rfl | rfl | rfl | rfl | rfl
  all_goals exact ⟨h.frz _, fun e => h.set' e⟩
theorem c14 {x : RelM} {Q : Bool → Hp → Prop} (hx : TOk x) (hQ : ∀ H', Kp No H H' → Q (cntP x V) H') :
    F14 x.o x.l x.r x.c.k x.c.n x.c.s x.c.b x.f (V 0).k (V 0).n (V 0).s (V 0).b (V 1).k (V 1).n (V 1).s (V 1).b (V 2).k (V 2).n (V 2).s (V 2).b (V 3).k (V 3).n (V 3).s (V 3).b (V 4).k (V 4).n (V 4).s (V 4).b (V 5).k (V 5).n (V 5).s (V 5).b H Q := by
  intro H1 e1 H3 e3
  have k3 : Kp No H H3 := ((Kp.refl No H).push' e1).push' e3
  have x3 : Row H3 H.size 31 (rlF.f x) := (Row.new' e1).push' e3
  have v3 : Row H3 H1.size 26 (valsRow V) := Row.new' e3
  have hq := hQ H3 k3
  have s3 : ∀ b, (b = true ↔ x.f < 2 ∧ x.o ≠ 6) → ¬ (x.o = 7 ∧ x.f < 3) → ¬ (x.f = 2 ∧ x.o ≠ 6) → F14_3 Q ⟨H.size, 0, none⟩ b H3 := fun b hb g1 g2 => by
    unfold cntP at hq
    rw [if_neg g1, if_neg g2] at hq
    refine ⟨fun g => ⟨_, rowc (i := 3) x3 rfl, ?_⟩, fun g => ?_⟩
    · rw [if_pos (hb.1 g)] at hq; exact hq
    · rw [if_neg (fun h => by rw [hb.2 h] at g; cases g)] at hq; exact hq
  have s2 : ∀ b, (b = true ↔ x.f = 2 ∧ x.o ≠ 6) → ¬ (x.o = 7 ∧ x.f < 3) → F14_2 Q ⟨H.size, 0, none⟩ ⟨H1.size, 0, none⟩ b H3 := fun b hb g1 => by
    refine ⟨fun g => ⟨_, rowc (i := 1) x3 rfl, hx.l.1, hx.l.2, _, (vals_at v3 hx.l).1, fun k1 => ⟨_, rowc (i := 2) x3 rfl, hx.r.1, hx.r.2, _, (vals_at v3 hx.r).1, ?_⟩, fun k1 => ?_⟩, fun g => ?_⟩
    · unfold cntP at hq
      rw [if_neg g1, if_pos (hb.1 g), k1] at hq; exact hq
    · unfold cntP at hq
      rw [if_neg g1, if_pos (hb.1 g), k1] at hq; exact hq
    · have g2 : ¬ (x.f = 2 ∧ x.o ≠ 6) := fun h => by rw [hb.2 h] at g; cases g
      refine ⟨_, rowc (i := 7) x3 rfl, fun f => ⟨_, x3.cell_of (i := 0) rfl, s3 _ ?_ g1 g2⟩, fun f => s3 _ ?_ g1 g2⟩
      · rw [decide_eq_true_iff]; exact ⟨fun h => ⟨of_decide_eq_true f, h⟩, fun h => h.2⟩
      · exact ⟨fun h => (by cases h), fun h => absurd h.1 (of_decide_eq_false f)⟩
  have s1 : ∀ b, (b = true ↔ x.o = 7 ∧ x.f < 3) → F14_1 Q ⟨H.size, 0, none⟩ ⟨H1.size, 0, none⟩ b H3 := fun b hb => by
    refine ⟨fun g => ?_, fun g => ?_⟩
    · unfold cntP at hq
      rw [if_pos (hb.1 g)] at hq; exact hq
    · have g1 : ¬ (x.o = 7 ∧ x.f < 3) := fun h => by rw [hb.2 h] at g; cases g
      refine ⟨_, rowc (i := 7) x3 rfl, fun f => ⟨_, x3.cell_of (i := 0) rfl, s2 _ ?_ g1⟩, fun f => s2 _ ?_ g1⟩
      · rw [decide_eq_true_iff]; exact ⟨fun h => ⟨of_decide_eq_true f, h⟩, fun h => h.2⟩
      · exact ⟨fun h => (by cases h), fun h => absurd h.1 (of_decide_eq_false f)⟩
  refine ⟨_, x3.cell_of (i := 0) rfl, fun f => ⟨_, rowc (i := 7) x3 rfl, s1 _ ?_⟩, fun f => s1 _ ?_⟩
  · rw [decide_eq_true_iff]; exact ⟨fun h => ⟨of_decide_eq_true f, h⟩, fun h => h.2⟩
  · exact ⟨fun h => (by cases h), fun h => absurd h.1 (of_decide_eq_false f)⟩
/-- Would all relations that count hold with one number less? -/
theorem c4_L10 {rl : Sl} {vb lb : Nat} {i : Int} {Q : Bool → Hp → Prop} {X7 : Int → Hp → Prop} (hr : RdL rlF H rl rels) (hn : rels.length ≤ 40) (ht : ∀ x ∈ rels, TOk x) (hw : WantsH H) (hv : Row H vb 26 (valsRow V)) (hu : Row H lb 26 (valsRow U))
    (hno : ∃ x ∈ rels, cntP x V = true ∧ yesP x U = false) (hX : ∀ H', Kp No H H' → F4_8 Q X7 rl ⟨vb, 0, none⟩ i H') : F4_L10 Q X7 rl ⟨vb, 0, none⟩ i ⟨lb, 0, none⟩ true 0 H := by
  have hln := hr.n
  intro X hX'
  suffices ∀ (d k : Nat) b H', k + d = rels.length → b = (rels.take k).all (fun x => !cntP x V || yesP x U) → Kp No H H' → X b k H' from this _ 0 true H (Nat.zero_add _) rfl (Kp.refl _ _)
  intro d
  induction d with
  | zero =>
    intro k b H' hk hb k'
    refine hX' _ _ _ ⟨fun hh => absurd (of_decide_eq_true hh) (by omega), fun _ => ?_⟩
    have hf : b = false := by
      rw [List.take_of_length_le (by omega)] at hb
      obtain ⟨x, hx, h1, h2⟩ := hno
      cases hbb : b with
      | false => rfl
      | true =>
        rw [hbb] at hb
        have := List.all_eq_true.1 hb.symm x hx
        rw [h1, h2] at this; cases this
    exact ⟨fun h => (by rw [hf] at h; cases h), fun _ => hX H' k'⟩
  | succ d ih =>
    intro k b H' hk hb k'
    obtain ⟨x, gx⟩ : ∃ x, rels[k]? = some x := ⟨_, List.getElem?_eq_getElem (by omega)⟩
    have hx := ht x (List.mem_of_getElem? gx)
    obtain ⟨a, ea, han, ca⟩ := (hr.kp0 k').get gx
    have en : ((k : Nat) : Int).toNat = k := by omega
    refine hX' _ _ _ ⟨fun _ => ⟨a, ea, by omega, by omega, _, _, _, _, _, _, _, _, by rw [en]; exact ca, _, _, _, _, _, _, _, _, _, _, _, _, _, _, _, _, _, _, _, _, _, _, _, _, (k'.row hv id).all, c14 hx fun H290 k290 => ?_⟩, fun hh => absurd (of_decide_eq_false hh) (by omega)⟩
    obtain ⟨a', ea', _, ca'⟩ := (hr.kp0 (k'.no2 k290)).get gx
    rw [ea] at ea'; cases ea'
    refine ⟨a, ea, by omega, by omega, _, _, _, _, _, _, _, _, by rw [en]; exact ca', _, _, _, _, _, _, _, _, _, _, _, _, _, _, _, _, _, _, _, _, _, _, _, _, ((k'.no2 k290).row hu id).all, c8 hx (hw.no (k'.no2 k290)) fun H331 k331 => ?_⟩
    have step : ∀ b', b' = (b && (!cntP x V || yesP x U)) → F4_11 Q X7 X rl ⟨vb, 0, none⟩ i ⟨lb, 0, none⟩ k b' H331 := fun b' hb' => by
      unfold F4_11
      rw [wr (by omega) (by omega), show ((k : Int) + 1) = ((k + 1 : Nat) : Int) by omega]
      refine ih (k + 1) b' H331 (by omega) ?_ (k'.no2 (k290.no2 k331))
      rw [take_snoc gx, List.all_append, ← hb, hb']; simp
    refine ⟨fun h1 => ⟨fun h2 => step _ ?_, fun h2 => step _ ?_⟩, fun h1 => step _ ?_⟩
    · rw [h1, h2]; rfl
    · rw [h1, h2]; rfl
    · rw [h1]; rfl
theorem c4_L7 {rl : Sl} {vb : Nat} {Q : Bool → Hp → Prop} (hr : RdL rlF H rl rels) (hn : rels.length ≤ 40) (ht : ∀ x ∈ rels, TOk x) (hw : WantsH H) (hv : Row H vb 26 (valsRow V))
    (hno : ∀ i : Nat, i < 6 → (V i).k = 1 → (minI ≤ (V i).n ∧ (V i).n ≤ maxI) ∧ ((V i).n ≠ minI → ∃ x ∈ rels, cntP x V = true ∧ yesP x (dec V i) = false)) (hQ : ∀ H', Kp No H H' → Q true H') : F4_L7 Q rl ⟨vb, 0, none⟩ 0 H := by
  intro X hX
  suffices ∀ (d i : Nat) H', i + d = 6 → Kp No H H' → X i H' from this 6 0 H rfl (Kp.refl _ _)
  intro d
  induction d with
  | zero =>
    intro i H' hi k
    exact hX _ _ ⟨fun hh => absurd (of_decide_eq_true hh) (by omega), fun _ => hQ H' k⟩
  | succ d ih =>
    intro i H' hi k
    have hi6 : 0 ≤ (i : Int) ∧ (i : Int) < 6 := by omega
    have next : ∀ H'', Kp No H' H'' → F4_8 Q X rl ⟨vb, 0, none⟩ i H'' := fun H'' k' => by
      unfold F4_8
      rw [wr (by omega) (by omega), show ((i : Int) + 1) = ((i + 1 : Nat) : Int) by omega]
      exact ih (i + 1) H'' (by omega) (k.no2 k')
    have v' := k.row hv id
    have hvi := vals_at v' hi6
    refine hX _ _ ⟨fun _ => ⟨hi6.1, hi6.2, _, hvi.1, fun _ => next _ (Kp.refl _ _), fun hk => ⟨hi6.1, hi6.2, _, (vals_num (H' := H') v' hi6 0).1, fun _ => next _ (Kp.refl _ _), fun hm => ⟨_, _, _, _, _, _, _, _, _, _, _, _, _, _, _, _, _, _, _, _, _, _, _, _, v'.all, fun H222 e222 => ?_⟩⟩⟩, fun hh => absurd (of_decide_eq_false hh) (by omega)⟩
    have k222 : Kp No H' H222 := (Kp.refl _ _).push' e222
    have y222 : Row H222 H'.size 26 (valsRow fun _ => zeroV) := Row.new' e222
    refine ⟨y222.mayw (by simp), fun H224 e224 => ?_⟩
    have y224 : Row H224 H'.size 26 (valsRow V) := y222.fill' e224 rfl
    have k224 : Kp No H' H224 := k222.box ((Kp.refl _ _).sets' e224 (.inl rfl)) (Nat.le_refl _)
    have hk1 : (V i).k = 1 := Decidable.not_not.1 (of_decide_eq_false hk)
    have hm1 : (V i).n ≠ minI := of_decide_eq_false hm
    obtain ⟨hrg, hex⟩ := hno i (by omega) hk1
    simp only [minI, maxI] at hrg hm1
    have ev : (vi V (i : Int)).n = (V i).n := rfl
    refine ⟨hi6.1, hi6.2, _, (vals_num (H' := H') y224 hi6 0).1, hi6.1, hi6.2, by rw [(vals_num (H' := H') y224 hi6 0).1]; rfl, (vals_num (H' := H') y224 hi6 0).2.1, fun H233 e233 => ?_⟩
    have y233 := (vals_num y224 hi6 _).2.2 e233
    have k233 : Kp No H' H233 := k224.box (b := H'.size) ((Kp.refl _ _).set' e233 (.inl (by rw [add_mk, add_mk]))) (Nat.le_refl _)
    have eU : (fun j => if j = (i : Int).toNat then { V j with n := IntKind.i64.wrap ((vi V (i : Int)).n - 1) } else V j) = dec V i := by
      funext j
      unfold dec
      rw [show (i : Int).toNat = i by omega]
      by_cases e : j = i
      · rw [if_pos e, if_pos e, ev, wr (by omega) (by omega), e]
      · rw [if_neg e, if_neg e]
    rw [eU] at y233
    exact c4_L10 ((hr.kp0 k).kp0 k233) hn ht ((hw.no k).no k233) (k233.row v' id) y233 (hex hm1) fun H'' k'' => next H'' (k233.no2 k'')
theorem c4_L5 {rl : Sl} {vb : Nat} {Q : Bool → Hp → Prop} (hr : RdL rlF H rl rels) (hn : rels.length ≤ 40) (ht : ∀ x ∈ rels, TOk x) (hw : WantsH H) (hv : Row H vb 26 (valsRow V))
    (hy : ∀ x ∈ rels, cntP x V = true → yesP x V = true)
    (hno : ∀ i : Nat, i < 6 → (V i).k = 1 → (minI ≤ (V i).n ∧ (V i).n ≤ maxI) ∧ ((V i).n ≠ minI → ∃ x ∈ rels, cntP x V = true ∧ yesP x (dec V i) = false)) (hQ : ∀ H', Kp No H H' → Q true H') : F4_L5 Q rl ⟨vb, 0, none⟩ 0 H := by
  have hln := hr.n
  intro X hX
  suffices ∀ (d k : Nat) H', k + d = rels.length → Kp No H H' → X k H' from this _ 0 H (Nat.zero_add _) (Kp.refl _ _)
  intro d
  induction d with
  | zero =>
    intro k H' hk k'
    exact hX _ _ ⟨fun hh => absurd (of_decide_eq_true hh) (by omega), fun _ => c4_L7 (hr.kp0 k') hn ht (hw.no k') (k'.row hv id) hno fun H'' k'' => hQ H'' (k'.no2 k'')⟩
  | succ d ih =>
    intro k H' hk k'
    obtain ⟨x, gx⟩ : ∃ x, rels[k]? = some x := ⟨_, List.getElem?_eq_getElem (by omega)⟩
    have hm := List.mem_of_getElem? gx
    have hx := ht x hm
    obtain ⟨a, ea, han, ca⟩ := (hr.kp0 k').get gx
    have en : ((k : Nat) : Int).toNat = k := by omega
    refine hX _ _ ⟨fun _ => ⟨a, ea, by omega, by omega, _, _, _, _, _, _, _, _, by rw [en]; exact ca, _, _, _, _, _, _, _, _, _, _, _, _, _, _, _, _, _, _, _, _, _, _, _, _, (k'.row hv id).all, c14 hx fun H290 k290 => ?_⟩, fun hh => absurd (of_decide_eq_false hh) (by omega)⟩
    obtain ⟨a', ea', _, ca'⟩ := (hr.kp0 (k'.no2 k290)).get gx
    rw [ea] at ea'; cases ea'
    refine ⟨a, ea, by omega, by omega, _, _, _, _, _, _, _, _, by rw [en]; exact ca', _, _, _, _, _, _, _, _, _, _, _, _, _, _, _, _, _, _, _, _, _, _, _, _, ((k'.no2 k290).row hv id).all, c8 hx (hw.no (k'.no2 k290)) fun H331 k331 => ?_⟩
    have step : F4_6 Q X rl ⟨vb, 0, none⟩ k false H331 := by
      refine ⟨fun h => (by cases h), fun _ => ?_⟩
      rw [wr (by omega) (by omega), show ((k : Int) + 1) = ((k + 1 : Nat) : Int) by omega]
      exact ih (k + 1) H331 (by omega) (k'.no2 (k290.no2 k331))
    refine ⟨fun h1 => ?_, fun h1 => step⟩
    rw [hy x hm h1]; exact step
/-- The six's values, as far as they are asked. -/
def upV (K : List (ER × VT)) (i : Nat) (j : Nat) : VT := if j < i then toldV K j else zeroV
theorem c4_L2 {rl kl sl : Sl} {vb : Nat} {K : List (ER × VT)} {Q : Bool → Hp → Prop} (hk : Lst knF H kl K) (hKl : K.length ≤ 1000000) (hs : RdL eF H sl (sixL.map fun r => (r, Sl.nil))) (hsb : ∀ a, sl.b = some a → a.block ≠ vb) (hv : Row H vb 26 (valsRow fun _ => zeroV)) (hvl : ∀ (i : Int) v, findP K (sixP i) = some v → vld v = true)
    (hQ : ∀ H', Kp (fun x => x = vb) H H' → Row H' vb 26 (valsRow (toldV K)) → F4_1 Q rl ⟨vb, 0, none⟩ H') : F4_L2 Q rl kl ⟨vb, 0, none⟩ sl 0 H := by
  intro X hX
  suffices ∀ (d i : Nat) H', i + d = 6 → Row H' vb 26 (valsRow (upV K i)) → Kp (fun x => x = vb) H H' → X i H' from this 6 0 H rfl hv (Kp.refl _ _)
  intro d
  induction d with
  | zero =>
    intro i H' hi y k
    have e6 : i = 6 := by omega
    subst e6
    exact hX _ _ ⟨fun hh => absurd (of_decide_eq_true hh) (by decide), fun _ => hQ H' k y⟩
  | succ d ih =>
    intro i H' hi y k
    have hi6 : 0 ≤ (i : Int) ∧ (i : Int) < 6 := by omega
    obtain ⟨a, ea, l0, l1, ca⟩ := six_get hi6 (hs.kp k hsb)
    refine hX _ _ ⟨fun _ => ⟨a, ea, l0, l1, _, _, _, _, _, _, _, _, _, _, ca, c12 (hk.kp k fun b hb e => hk.ne hv (by decide) (e ▸ hb)).rd hKl rfl fun H44 k44 H51 e51 => ?_⟩, fun hh => absurd (of_decide_eq_false hh) (by omega)⟩
    have k51 : Kp No H44 H51 := (Kp.refl _ _).push' e51
    have b51 : Row H51 H44.size 25 zeroV.row := Row.new' e51
    refine ⟨b51.mayw (by simp), fun H53 e53 => ?_⟩
    have b53 : Row H53 H44.size 25 ((findP K (sixP i)).getD zeroV).row := b51.fill' e53 rfl
    have k53 : Kp No H44 H53 := k51.box ((Kp.refl _ _).sets' e53 (.inl rfl)) (Nat.le_refl _)
    refine ⟨_, _, _, _, b53.all, c13 fun H61 k61 => ?_⟩
    have kA := k44.no2 (k53.no2 k61)
    have yA := kA.row y id
    have b61 := k61.row b53 id
    have step : F4_3 Q X rl kl ⟨vb, 0, none⟩ sl i ⟨H44.size, 0, none⟩ false H61 := by
      refine ⟨fun h => (by cases h), fun _ => ⟨_, _, _, _, b61.all, hi6.1, hi6.2, (vals_put (H' := H61) yA hi6 zeroV).1, fun H81 e81 => ?_⟩⟩
      have y81 := (vals_put yA hi6 ((findP K (sixP i)).getD zeroV)).2 e81
      have k81 : Kp (fun x => x = vb) H61 H81 := (Kp.refl _ _).sets' e81 (.inl (by rw [add_mk]))
      have eU : (fun j => if j = (i : Int).toNat then (findP K (sixP i)).getD zeroV else upV K i j) = upV K (i + 1) := by
        funext j
        unfold upV
        rw [show (i : Int).toNat = i by omega]
        by_cases e : j = i
        · rw [if_pos e, if_pos (by omega), e]; rfl
        · rw [if_neg e]
          by_cases e2 : j < i
          · rw [if_pos e2, if_pos (by omega)]
          · rw [if_neg e2, if_neg (by omega)]
      rw [eU] at y81
      rw [wr (by omega) (by omega), show ((i : Int) + 1) = ((i + 1 : Nat) : Int) by omega]
      exact ih (i + 1) H81 (by omega) y81 ((k.trans kA fun b h => h.elim).trans k81 fun b h => .inl h)
    cases hf : findP K (sixP i) with
    | none => exact ⟨fun h => (by cases h), fun _ => step⟩
    | some v =>
      refine ⟨fun _ => ?_, fun h => (by cases h)⟩
      have : vld v = true := hvl i v hf
      simp only [Option.getD_some]
      rw [this]; exact step
theorem c4 {p0 p1 : Sl} {rels0 : List RelM} {Q : Bool → Hp → Prop} (hr : RdL rlF H p0 rels0) (ha : RdL boF H p1 and) (hw : WantsH H) (hl : rels0.length ≤ 9223372036854775807) (hal : and.length ≤ 9223372036854775807) (hR : ∀ x ∈ rels0, minI ≤ x.c.n ∧ x.c.n ≤ maxI) (hQ : ∀ H', Kp No H H' → Q true H') :
    F4 p0 p1 H Q := by
  refine c6 fun H1 k1 => ⟨fun h => (by cases h), fun _ => c7 (hr.kp0 k1) hl fun r7 H5 lr br k5 => ?_⟩
  have hok := tidied_ok hR
  generalize tidiedP rels0 = rels at lr hok
  have kA := k1.no2 k5
  refine c10 lr.rd (ha.kp0 kA) hok.n hal hok.t fun r10 W H8 hw' lj k8 => ?_
  have hcok : CondsOk (W.map Prod.snd) := by rw [hw']; exact joined_ok hok
  refine c9 lj.cs hcok (fun hno H11 k11 => ⟨fun _ => ?_, fun h => (by cases h)⟩) fun K kl H11 hK lk bk k11 => ⟨fun h => (by cases h), fun _ H16 e16 => ?_⟩
  · exact hQ H11 (kA.no2 (k8.no2 k11))
  · rw [hw'] at hK
    obtain ⟨g1, g2, g3⟩ := holds_plain hok hK
    have hKl := answer_len (joined_ok (and := and) hok) hK
    have k16 : Kp No H11 H16 := (Kp.refl _ _).push' e16
    have y16 : Row H16 H11.size 26 (valsRow fun _ => zeroV) := Row.new' e16
    refine c11' fun sl H18 hsix hsb k18 => ?_
    have kB := k8.no2 (k11.no2 (k16.no2 k18))
    have lr18 := lr.kp kB fun _ _ => id
    have lk18 := lk.kp (k16.no2 k18) fun _ _ => id
    have y18 := k18.row y16 id
    have h0 := (hw.no (kA.no2 (k8.no2 k11))).size
    have s16 := size_push' e16
    refine c4_L2 lk18 (by omega) hsix (fun a ha e => by have := hsb a ha; omega) y18 g1 fun H' k' y' => ?_
    have kC : Kp No H11 H' := (k16.no2 k18).box k' (Nat.le_refl _)
    exact c4_L5 (lr18.kp k' fun b hb e => lr18.ne y18 (by decide) (e ▸ hb)).rd hok.n hok.t ((hw.no (kA.no2 kB)).kp k' (by show ¬ 0 = H11.size; omega)) y' g2 g3 fun H'' k'' => hQ H'' ((kA.no2 (k8.no2 (k11.no2 kC))).no2 k'')
end
end Go.Hw
