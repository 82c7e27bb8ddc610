/- BoundLeast's function answers true. Own work of this session. -/
import Derived.Test.YtkdjcmfmflljlaaDoorP8
import Derived.Test.YtkdjcmfmflljlaaDoorWalkD
set_option linter.unusedVariables false
namespace Go.Hw
open Go

section
variable {H H0 : Hp} {V : Nat → VT} {rels : List RelM} {and : List Bool}
def VR (V : Nat → VT) : Prop := ∀ i, minI ≤ (V i).n ∧ (V i).n ≤ maxI
theorem sgm_range (h : VR V) (e : ER) : minI ≤ (sgm V e).n ∧ (sgm V e).n ≤ maxI := by
  unfold sgm
  split
  · exact h _
  · decide
theorem side_range (h : RlOk rels) {c : ER × Fo} (hc : c ∈ joinedP rels and) {s : Side} (hs : s ∈ sidesOf c) (hr : isRefP s.r2 = false) : minI ≤ (cval s).n ∧ (cval s).n ≤ maxI := by
  obtain ⟨x, hx, e⟩ := side_rel h hc hs
  have h2 : x.f ≠ 2 := by
    rcases (sideC_spec (h.t x hx) e).2.2 with g | g
    · rw [hr] at g; cases g.1
    · exact g.2
  rw [cval_side (h.t x hx) (h.r x hx) e h2]
  split
  · exact h.r x hx
  · show minI ≤ 0 ∧ 0 ≤ maxI
    decide
theorem ref_six (h : RlOk rels) {e : ER} (he : RefOf (fun s => ∃ c ∈ joinedP rels and, s ∈ sidesOf c) e) : ∃ i : Int, (0 ≤ i ∧ i < 6) ∧ e = sixP i := by
  obtain ⟨s, ⟨c, hc, hs⟩, he⟩ := he
  obtain ⟨x, hx, e'⟩ := side_rel h hc hs
  obtain ⟨g1, _, g2⟩ := sideC_spec (h.t x hx) e'
  rcases he with he | ⟨hr, he⟩
  · exact ⟨x.l, (h.t x hx).l, he.trans g1⟩
  · rcases g2 with g2 | g2
    · exact ⟨x.r, (h.t x hx).r, he.trans g2.2.1⟩
    · rw [g2.1] at hr; cases hr
theorem least_plain (h : RlOk rels) (hV : VR V) (h4 : (V 4).k = 1) (hy : ∀ x ∈ rels, yesP x V = true) : ∃ K, answerP (readS (joinedP rels and)) = some K ∧ ∀ i v, (0 ≤ i ∧ i < 6) → findP K (sixP i) = some v → Below v (vi V i) := by
  obtain ⟨K, hK, hb⟩ := read_complete (σ := sgm V) (joined_ok (and := and) h) (fun c hc s hs hr => side_range h hc hs hr) (sgm_range hV) (fun c hc s hs => by
    obtain ⟨x, hx, e⟩ := side_rel h hc hs
    exact (yes_side (h.t x hx) (h.r x hx) e).1 (hy x hx)) fun e he ht => by
    obtain ⟨i, hi, rfl⟩ := ref_six h he
    rw [six_time hi] at ht
    have : i = 4 := of_decide_eq_true ht
    subst this
    rw [sgm_six hi]
    exact h4
  refine ⟨K, hK, fun i v hi hf => ?_⟩
  unfold findP at hf
  obtain ⟨p, hp, rfl⟩ := Option.map_eq_some_iff.1 hf
  have hm := List.mem_of_find?_eq_some hp
  have hs := List.find?_some hp
  have := hb p hm
  rw [(sameE_iff _ _).1 hs, sgm_six hi] at this
  exact this
theorem answer_len {conds : List (ER × Fo)} (hok : CondsOk conds) {K : List (ER × VT)} (h : answerP (readS conds) = some K) : K.length ≤ 90000 := by
  have sok := readS_ok hok
  obtain ⟨hL, _⟩ := allP_len sok
  unfold answerP at h
  split at h
  · cases h
  · split at h
    · cases h
    · rename_i N W _
      cases h
      have := (tells_len (readS conds) (valuesP (readS conds) N W (readS conds).refs.length) (allP (readS conds)) (List.replicate (readS conds).refs.length 0, [])).2
      simp only [List.length_nil] at this
      unfold toldP
      omega
theorem c3_L3 {vb : Nat} {kl sl : Sl} {K : List (ER × VT)} {Q : Bool → Hp → Prop} (y : Row H vb 26 (valsRow V)) (hk : RdL knF H kl K) (hK : K.length ≤ 1000000) (hs : RdL eF H sl (sixL.map fun r => (r, Sl.nil))) (hb : ∀ i v, (0 ≤ i ∧ i < 6) → findP K (sixP i) = some v → Below v (vi V i)) (hQ : ∀ H', Kp No H H' → Q true H') :
    F3_L3 Q ⟨vb, 0, none⟩ kl sl 0 H := by
  intro X hX
  suffices ∀ (d i : Nat) H', i + d = 6 → Kp No H H' → X i H' from this 6 0 H rfl (Kp.refl _ _)
  intro d
  induction d with
  | zero =>
    intro i H' hi k
    exact hX _ _ ⟨fun hh => absurd (of_decide_eq_true hh) (by omega), fun _ => hQ H' k⟩
  | succ d ih =>
    intro i H' hi k
    have hi6 : 0 ≤ (i : Int) ∧ (i : Int) < 6 := by omega
    obtain ⟨a, ea, l0, l1, ca⟩ := six_get hi6 (hs.kp0 k)
    refine hX _ _ ⟨fun _ => ⟨a, ea, l0, l1, _, _, _, _, _, _, _, _, _, _, ca, c12 (hk.kp0 k) hK rfl fun H113 k113 H120 e120 => ?_⟩, fun hh => absurd (of_decide_eq_false hh) (by omega)⟩
    have k120 : Kp No H113 H120 := (Kp.refl _ _).push' e120
    have b120 : Row H120 H113.size 25 zeroV.row := Row.new' e120
    refine ⟨b120.mayw (by simp), fun H122 e122 => ?_⟩
    have b122 : Row H122 H113.size 25 ((findP K (sixP i)).getD zeroV).row := b120.fill' e122 rfl
    have k122 : Kp No H113 H122 := k120.box ((Kp.refl _ _).sets' e122 (.inl rfl)) (Nat.le_refl _)
    have kA := k.no2 (k113.no2 k122)
    have yA := kA.row y id
    have next : F3_4 Q X ⟨vb, 0, none⟩ kl sl i H122 := by
      unfold F3_4
      rw [wr (by omega) (by omega), show ((i : Int) + 1) = ((i + 1 : Nat) : Int) by omega]
      exact ih (i + 1) H122 (by omega) kA
    have nextf : F3_5 Q X ⟨vb, 0, none⟩ kl sl i false H122 := ⟨fun h => (by cases h), fun _ => next⟩
    have hvi := vals_at yA hi6
    cases hf : findP K (sixP i) with
    | none => exact ⟨fun _ => next, fun h => by cases h⟩
    | some v =>
      rw [hf] at b122
      have hbv := hb i v hi6 hf
      refine ⟨fun h => (by cases h), fun _ => ⟨_, b122.cell_of (i := 0) rfl, hi6.1, hi6.2, _, hvi.1, fun _ => next, fun hkk => ⟨_, b122.cell_of (i := 0) rfl, fun hk1 => ⟨_, rowc (i := 1) b122 rfl, hi6.1, hi6.2, _, hvi.2.1, fun hlt => ?_, fun _ => ?_⟩, fun hk1 => ?_⟩⟩⟩
      · have hkk : v.k = (vi V i).k := Decidable.not_not.1 (of_decide_eq_false hkk)
        have h1 := (hbv hkk).1 (of_decide_eq_true hk1)
        have h2 : (vi V i).n < v.n := of_decide_eq_true hlt
        exact absurd h2 (by omega)
      · have hkk : v.k = (vi V i).k := Decidable.not_not.1 (of_decide_eq_false hkk)
        exact t2 (Kf := fun b => F3_5 Q X ⟨vb, 0, none⟩ kl sl i b H122) b122 yA hi6 hkk hbv nextf
      · have hkk : v.k = (vi V i).k := Decidable.not_not.1 (of_decide_eq_false hkk)
        exact t2 (Kf := fun b => F3_5 Q X ⟨vb, 0, none⟩ kl sl i b H122) b122 yA hi6 hkk hbv nextf
theorem c3 {p0 p1 : Sl} {rels0 : List RelM} {Q : Bool → Hp → Prop} (hr : RdL rlF H p0 rels0) (ha : RdL boF H p1 and) (hw : WantsH H) (hl : rels0.length ≤ 9223372036854775807) (hal : and.length ≤ 9223372036854775807) (hR : ∀ x ∈ rels0, minI ≤ x.c.n ∧ x.c.n ≤ maxI) (hV : VR V) (hQ : ∀ H', Kp No H H' → Q true H') :
    F3 p0 p1 (V 0).k (V 0).n (V 0).s (V 0).b (V 1).k (V 1).n (V 1).s (V 1).b (V 2).k (V 2).n (V 2).s (V 2).b (V 3).k (V 3).n (V 3).s (V 3).b (V 4).k (V 4).n (V 4).s (V 4).b (V 5).k (V 5).n (V 5).s (V 5).b H Q := by
  intro H1 e1
  have k1 : Kp No H H1 := (Kp.refl _ _).push' e1
  have y1 : Row H1 H.size 26 (valsRow V) := Row.new' e1
  refine c6 fun H3 k3 => ⟨fun h => (by cases h), fun _ => c7 (hr.kp0 (k1.no2 k3)) hl fun r9 H7 lr9 br9 k7 => ?_⟩
  have kA := k1.no2 (k3.no2 k7)
  have y7 := (k3.no2 k7).row y1 id
  have s1 := size_push' e1
  have a16 : Addr.add ⟨H.size, 0, none⟩ ((4 : Int).toNat * 4) = ⟨H.size, 16, none⟩ := by rw [add_mk]; rfl
  refine ⟨by decide, by decide, by rw [a16]; exact y7.some (by simp), by rw [a16]; exact y7.frz _, fun H12 e12 => ⟨by decide, by decide, ?_⟩⟩
  rw [a16] at e12
  have y12 := y7.set' e12
  have k12 : Kp (fun x => x = H.size) H7 H12 := (Kp.refl _ _).set' e12 (.inl rfl)
  refine ⟨by rw [a16, add_mk]; exact y12.some (by simp), by rw [a16, add_mk]; exact y12.frz _, fun H18 e18 => ⟨by decide, by decide, ?_⟩⟩
  rw [a16, add_mk] at e18
  have y18 := y12.set' e18
  have k18 : Kp (fun x => x = H.size) H12 H18 := (Kp.refl _ _).set' e18 (.inl rfl)
  refine ⟨by rw [a16, add_mk]; exact y18.some (by simp), by rw [a16, add_mk]; exact y18.frz _, fun H24 e24 => ?_⟩
  rw [a16, add_mk] at e24
  have k24 : Kp (fun x => x = H.size) H18 H24 := (Kp.refl _ _).set' e24 (.inl rfl)
  have y24 : Row H24 H.size 26 (valsRow fun i => if i = 4 then numV (V 4).n else V i) := y18.set' e24
  have kV : Kp (fun x => x = H.size) H7 H24 := (k12.trans k18 fun b h => .inl h).trans k24 fun b h => .inl h
  have kB : Kp No H H24 := kA.box kV (Nat.le_refl _)
  have l24 := lr9.kp kV fun b hb e => by have := br9 b hb; have := k3.size; omega
  have hV' : VR (fun i => if i = 4 then numV (V 4).n else V i) := fun i => by
    by_cases e : i = 4
    · simp only [if_pos e]; exact hV 4
    · simp only [if_neg e]; exact hV i
  have h4' : ((fun i => if i = 4 then numV (V 4).n else V i) 4 : VT).k = 1 := rfl
  generalize (fun i => if i = 4 then numV (V 4).n else V i) = U at y24 hV' h4'
  have hok : RlOk (tidiedP rels0) := by
    refine ⟨by unfold tidiedP; rw [List.length_map, List.length_take]; omega, fun x hx => ?_, fun x hx => ?_⟩
    · obtain ⟨z, _, rfl⟩ := List.mem_map.1 hx; exact tidy_ok z
    · obtain ⟨z, hz, rfl⟩ := List.mem_map.1 hx
      show minI ≤ (if vld z.c = true then z.c else numV 0).n ∧ (if vld z.c = true then z.c else numV 0).n ≤ maxI
      split
      · exact hR z (List.mem_of_mem_take hz)
      · decide
  generalize tidiedP rels0 = rels at l24 hok
  have hn := l24.n
  have hrl := hok.n
  intro X hX
  suffices ∀ (d i : Nat) H', i + d = rels.length → (∀ x ∈ rels.take i, yesP x U = true) → Kp No H24 H' → X i H' from this _ 0 H24 (Nat.zero_add _) (fun x hx => by cases hx) (Kp.refl _ _)
  intro d
  induction d with
  | zero =>
    intro i H' hi hy k
    refine hX _ _ ⟨fun hh => absurd (of_decide_eq_true hh) (by omega), fun _ => ?_⟩
    rw [List.take_of_length_le (by omega)] at hy
    refine c10 (l24.rd.kp0 k) ((ha.kp0 kB).kp0 k) hrl hal hok.t fun r80 W H78 hw' lj k78 => ?_
    obtain ⟨K, hK, hb⟩ := least_plain (and := and) hok hV' h4' hy
    have hcok : CondsOk (W.map Prod.snd) := by rw [hw']; exact joined_ok hok
    have hKl := answer_len (joined_ok (and := and) hok) hK
    refine c9 lj.cs hcok (fun hno => by rw [hw', hK] at hno; cases hno) fun K' kl H81 hK' lk _ k81 => ⟨fun h => (by cases h), fun _ => c11 fun sl H86 hsix k86 => ?_⟩
    rw [hw', hK] at hK'
    cases hK'
    have kC := k.no2 (k78.no2 (k81.no2 k86))
    exact c3_L3 (kC.row y24 id) (lk.rd.kp0 k86) (by omega) hsix hb fun H' k' => hQ H' (kB.no2 (kC.no2 k'))
  | succ d ih =>
    intro i H' hi hy k
    obtain ⟨x, gx⟩ : ∃ x, rels[i]? = some x := ⟨_, List.getElem?_eq_getElem (by omega)⟩
    have htk := take_snoc gx
    have htx := hok.t x (List.mem_of_getElem? gx)
    obtain ⟨a, ea, han, ca⟩ := (l24.rd.kp0 k).get gx
    have en : ((i : Nat) : Int).toNat = i := by omega
    refine hX _ _ ⟨fun _ => ⟨a, ea, by omega, by omega, _, _, _, _, _, _, _, _, by rw [en]; exact ca, _, _, _, _, _, _, _, _, _, _, _, _, _, _, _, _, _, _, _, _, _, _, _, _, (k.row y24 id).all, c8 htx (hw.no (kB.no2 k)) fun H74 k74 => ⟨fun hc => hQ H74 (kB.no2 (k.no2 k74)), fun hc => ?_⟩⟩, fun hh => absurd (of_decide_eq_false hh) (by omega)⟩
    have hc : yesP x U = true := by simpa using hc
    rw [wr (by omega) (by omega), show ((i : Int) + 1) = ((i + 1 : Nat) : Int) by omega]
    refine ih (i + 1) H74 (by omega) (fun z hz => ?_) (k.no2 k74)
    rw [htk] at hz
    rcases List.mem_append.1 hz with hz | hz
    · exact hy z hz
    · rw [List.mem_singleton] at hz; subst hz; exact hc
end
end Go.Hw
