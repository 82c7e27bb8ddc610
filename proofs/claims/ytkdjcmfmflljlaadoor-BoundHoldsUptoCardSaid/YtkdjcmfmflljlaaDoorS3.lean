/- With what is told all relations that count hold, and no number could be one less: plain. Own work of this session. -/
import Derived.Test.YtkdjcmfmflljlaaDoorS2
import Derived.Test.YtkdjcmfmflljlaaDoorP8
set_option linter.unusedVariables false
namespace Go.Hw
open Go

/-- Does a relation count, where these are the values told? -/
def cntP (x : RelM) (V : Nat → VT) : Bool :=
  if x.o = 7 ∧ x.f < 3 then false
  else if x.f = 2 ∧ x.o ≠ 6 then decide ((vi V x.l).k = 1) && decide ((vi V x.r).k = 1)
  else if x.f < 2 ∧ x.o ≠ 6 then decide (x.c.k = 1) else true
def toldV (K : List (ER × VT)) (i : Nat) : VT := (findP K (sixP i)).getD zeroV
section
variable {rels : List RelM} {and : List Bool}
theorem cnt_side {x : RelM} (hx : TOk x) {V : Nat → VT} (h : cntP x V = true) : ∃ s, sideC x = some s ∧ (x.f = 2 → x.o = 6 ∨ ((vi V x.l).k = 1 ∧ (vi V x.r).k = 1)) := by
  unfold cntP at h
  have hf := hx.f
  split at h
  · cases h
  · rename_i g1
    unfold sideC
    by_cases f0 : x.f = 0
    · rw [if_pos f0, if_neg (by omega)]
      have hc : x.o = 6 ∨ x.c.k = 1 := by
        by_cases o6 : x.o = 6
        · exact .inl o6
        · rw [if_neg (by omega), if_pos ⟨by omega, o6⟩] at h; exact .inr (of_decide_eq_true h)
      rw [if_pos hc]
      exact ⟨_, rfl, fun g => by omega⟩
    · rw [if_neg f0]
      by_cases f1 : x.f = 1
      · rw [if_pos f1, if_neg (by omega)]
        have hc : x.o = 6 ∨ x.c.k = 1 := by
          by_cases o6 : x.o = 6
          · exact .inl o6
          · rw [if_neg (by omega), if_pos ⟨by omega, o6⟩] at h; exact .inr (of_decide_eq_true h)
        rw [if_pos hc]
        exact ⟨_, rfl, fun g => by omega⟩
      · rw [if_neg f1]
        by_cases f2 : x.f = 2
        · rw [if_pos f2, if_neg (by omega)]
          refine ⟨_, rfl, fun _ => ?_⟩
          by_cases o6 : x.o = 6
          · exact .inl o6
          · rw [if_pos ⟨f2, o6⟩] at h
            simp only [Bool.and_eq_true, decide_eq_true_eq] at h
            exact .inr h
        · rw [if_neg f2]
          split
          · exact ⟨_, rfl, fun g => absurd g f2⟩
          · exact ⟨_, rfl, fun g => absurd g f2⟩
theorem side_cnt {x : RelM} (hx : TOk x) {V : Nat → VT} {s : Side} (hs : sideC x = some s) (h : x.f = 2 → x.o ≠ 6 → (vi V x.l).k = 1 ∧ (vi V x.r).k = 1) : cntP x V = true := by
  have hf := hx.f
  unfold cntP
  unfold sideC at hs
  by_cases f0 : x.f = 0
  · rw [if_pos f0] at hs
    split at hs
    · cases hs
    · split at hs
      · rename_i g1 g2
        rw [if_neg (by omega), if_neg (by omega)]
        split
        · exact decide_eq_true (by omega)
        · rfl
      · cases hs
  · rw [if_neg f0] at hs
    by_cases f1 : x.f = 1
    · rw [if_pos f1] at hs
      split at hs
      · cases hs
      · split at hs
        · rename_i g1 g2
          rw [if_neg (by omega), if_neg (by omega)]
          split
          · exact decide_eq_true (by omega)
          · rfl
        · cases hs
    · rw [if_neg f1] at hs
      by_cases f2 : x.f = 2
      · rw [if_pos f2] at hs
        split at hs
        · cases hs
        · rw [if_neg (by omega)]
          split
          · rename_i g; rw [decide_eq_true (h f2 g.2).1, decide_eq_true (h f2 g.2).2]; rfl
          · rw [if_neg (by omega)]
      · rw [if_neg (by omega), if_neg (by omega), if_neg (by omega)]
theorem six_toNat {i : Int} (hi : 0 ≤ i ∧ i < 6) : sixP ((i.toNat : Nat) : Int) = sixP i := by rw [show ((i.toNat : Nat) : Int) = i by omega]
theorem holds_plain (h : RlOk rels) {K : List (ER × VT)} (hK : answerP (readS (joinedP rels and)) = some K) :
    (∀ (i : Int) v, findP K (sixP i) = some v → vld v = true) ∧ (∀ x ∈ rels, cntP x (toldV K) = true → yesP x (toldV K) = true) ∧
    ∀ i : Nat, i < 6 → (toldV K i).k = 1 → (minI ≤ (toldV K i).n ∧ (toldV K i).n ≤ maxI) ∧ ((toldV K i).n ≠ minI → ∃ x ∈ rels, cntP x (toldV K) = true ∧ yesP x (dec (toldV K) i) = false) := by
  have hlv := lvs_read (conds := joinedP rels and) fun c hc s hs hr => side_range h hc hs hr
  obtain ⟨τ, T⟩ := answer_sound hlv hK
  have hd := read_dst (joinedP rels and)
  have hS : (sysP (readP (joinedP rels and)).1 (readP (joinedP rels and)).2).refs = (readP (joinedP rels and)).1 := rfl
  have hsp := (read_spec (joinedP rels and)).1
  generalize hR : (readP (joinedP rels and)).1 = R at *
  have hlf := fun l (hl : l ∈ (readP (joinedP rels and)).2.flatMap Prod.fst) => leaf_side (conds := joinedP rels and) hl
  rw [hR] at hlf
  generalize hC : (readP (joinedP rels and)).2 = C at *
  obtain ⟨Tv, Ty, Tk, Tw, Tr, Tm, Tt⟩ := T
  rw [hS] at Tv Tk Tw Tr Tm Tt
  have find_some : ∀ {e : ER} {v : VT}, findP K e = some v → ∃ j, j < R.length ∧ R.getD j zeroE = e ∧ v = τ j := fun {e v} hf => by
    unfold findP at hf
    obtain ⟨p, hp, rfl⟩ := Option.map_eq_some_iff.1 hf
    obtain ⟨j, hj, e2⟩ := Tm p (List.mem_of_find?_eq_some hp)
    have hs := List.find?_some hp
    have hs := (sameE_iff _ _).1 hs
    rw [e2] at hs ⊢
    exact ⟨j, hj, hs, rfl⟩
  have find_of : ∀ {j : Nat}, j < R.length → (R.getD j zeroE, τ j) ∈ K → findP K (R.getD j zeroE) = some (τ j) := fun {j} hj hm => by
    cases hf : findP K (R.getD j zeroE) with
    | none =>
      unfold findP at hf
      have := List.find?_eq_none.1 (Option.map_eq_none_iff.1 hf) _ hm
      exact absurd ((sameE_iff _ _).2 rfl) this
    | some v =>
      obtain ⟨j', hj', e1, rfl⟩ := find_some hf
      rw [hd j' j hj' hj e1]
  have told_of : ∀ {j : Nat} {i : Int}, (0 ≤ i ∧ i < 6) → j < R.length → (R.getD j zeroE, τ j) ∈ K → R.getD j zeroE = sixP i → vi (toldV K) i = τ j := fun {j i} hi hj hm e => by
    unfold vi toldV
    rw [six_toNat hi, ← e, find_of hj hm]; rfl
  have told1 : ∀ {i : Int}, (0 ≤ i ∧ i < 6) → (vi (toldV K) i).k = 1 → ∃ j, j < R.length ∧ R.getD j zeroE = sixP i ∧ vi (toldV K) i = τ j := fun {i} hi hk => by
    unfold vi toldV at hk ⊢
    rw [six_toNat hi] at hk ⊢
    cases hf : findP K (sixP i) with
    | none => rw [hf] at hk; cases hk
    | some v =>
      obtain ⟨j, hj, e1, e2⟩ := find_some hf
      exact ⟨j, hj, e1, e2⟩
  have sg : ∀ (l : Leaf), l ∈ allP (sysP R C) → ∀ {s : Side} {x : RelM}, LeafOf R s l → x ∈ rels → sideC x = some s → ∀ (f : VT → VT) (i : Nat) (jj : Nat), i < 6 → jj < R.length → R.getD jj zeroE = sixP i →
      sgm (fun k => if k = i then f (toldV K k) else toldV K k) s.r1 = (if l.a = jj then f (τ l.a) else τ l.a) ∧ sval (sgm (fun k => if k = i then f (toldV K k) else toldV K k)) s = (if l.two = true then (if l.b = jj then f (τ l.b) else τ l.b) else l.v) := by
    intro l hl s x lo hx hs f i jj hi hjj ejj
    obtain ⟨g1, _, g2⟩ := sideC_spec (h.t x hx) hs
    have one : ∀ {j : Nat} {k : Int}, (0 ≤ k ∧ k < 6) → j < R.length → (R.getD j zeroE, τ j) ∈ K → R.getD j zeroE = sixP k → sgm (fun k => if k = i then f (toldV K k) else toldV K k) (sixP k) = (if j = jj then f (τ j) else τ j) := fun {j k} hk hj hm e => by
      rw [sgm_six hk]
      have ht := told_of hk hj hm e
      unfold vi at ht ⊢
      simp only
      rw [ht]
      have iff : k.toNat = i ↔ j = jj := by
        constructor
        · intro g
          refine hd j jj hj hjj ?_
          rw [e, ejj, show k = ((i : Nat) : Int) by omega]
        · intro g
          subst g
          have := six_inj hk ⟨by omega, by omega⟩ (e.symm.trans ejj)
          omega
      by_cases g : j = jj
      · rw [if_pos (iff.2 g), if_pos g]
      · rw [if_neg (fun g' => g (iff.1 g')), if_neg g]
    constructor
    · rw [g1]
      exact one (h.t x hx).l lo.a.1 (Tt l hl).1 (lo.a.2.trans g1)
    · unfold sval
      rw [← lo.two]
      by_cases h2 : l.two = true
      · rw [if_pos h2, if_pos h2]
        rcases g2 with ⟨_, g2, _⟩ | ⟨g2, _⟩
        · rw [g2]
          exact one (h.t x hx).r (lo.b h2).1 ((Tt l hl).2 h2) ((lo.b h2).2.trans g2)
        · rw [← lo.two, h2] at g2; cases g2
      · rw [if_neg h2, if_neg h2, lo.v (by simpa using h2)]
  refine ⟨fun i v hf => ?_, fun x hx hc => ?_, fun i hi hk => ?_⟩
  · obtain ⟨j, hj, _, rfl⟩ := find_some hf
    exact Tv j hj
  · obtain ⟨s, hs, hkk⟩ := cnt_side (h.t x hx) hc
    obtain ⟨c, hcj, hsc⟩ := rel_side (and := and) h hx hs
    obtain ⟨p, hp, hcond⟩ := hsp.left c hcj
    obtain ⟨l, hlp, lo⟩ := hcond.1.left s hsc
    obtain ⟨g1, _, g2⟩ := sideC_spec (h.t x hx) hs
    have hcount : countsP (sysP R C) l = true := by
      unfold countsP
      by_cases h2 : l.two = true
      · rcases g2 with ⟨g2, g3, _, f2, eo⟩ | ⟨g2, _⟩
        · rcases hkk f2 with o6 | ⟨k1, _⟩
          · rw [lo.o, eo, decide_eq_true o6]; simp
          · obtain ⟨j, hj, ej, et⟩ := told1 (h.t x hx).l k1
            rw [et] at k1
            have : j = l.a := hd j l.a hj lo.a.1 (by rw [ej, lo.a.2, g1])
            subst this
            rw [decide_eq_true ((Tk _ hj).1 k1)]; simp
        · rw [← lo.two, h2] at g2; cases g2
      · rw [show l.two = false by simpa using h2]; rfl
    have hl : l ∈ allP (sysP R C) := List.mem_flatMap.2 ⟨p, hp, List.mem_filter.2 ⟨hlp, hcount⟩⟩
    refine (yes_side (h.t x hx) (h.r x hx) hs).2 ?_
    obtain ⟨e1, e2⟩ := sg l hl lo hx hs id x.l.toNat l.a (by have := (h.t x hx).l; omega) lo.a.1 (by rw [six_toNat (h.t x hx).l, lo.a.2, g1])
    have ide : (fun k => if k = x.l.toNat then id (toldV K k) else toldV K k) = toldV K := funext fun k => by simp only [id, ite_self]
    rw [ide] at e1 e2
    simp only [id, ite_self] at e1 e2
    rw [e1, e2, ← lo.o]
    exact Ty l hl
  · obtain ⟨j, hj, ej, et⟩ := told1 (i := (i : Int)) ⟨by omega, by omega⟩ hk
    have et : toldV K i = τ j := et
    rw [et] at hk ⊢
    refine ⟨Tr j hj hk, fun hm => ?_⟩
    obtain ⟨l, hl, hlk, hlj, hno⟩ := Tw j hj hk hm
    obtain ⟨c, hc, s, hs, lo⟩ := hlf l (mem_all hl).1
    obtain ⟨x, hx, hsx⟩ := side_rel h hc hs
    obtain ⟨g1, _, g2⟩ := sideC_spec (h.t x hx) hsx
    refine ⟨x, hx, side_cnt (h.t x hx) hsx fun f2 o6 => ?_, ?_⟩
    · rcases g2 with ⟨g2, g3, _, _, eo⟩ | ⟨_, g2⟩
      · have h2 : l.two = true := by rw [lo.two]; exact g2
        have hka := (Tk _ lo.a.1).1 hlk
        have hkb : kindP (sysP R C) l.b = 1 := by rw [← (kind_root hlv.v).2 l (mem_all hl).1 h2]; exact hka
        rw [told_of (h.t x hx).l lo.a.1 (Tt l hl).1 (lo.a.2.trans g1), told_of (h.t x hx).r (lo.b h2).1 ((Tt l hl).2 h2) ((lo.b h2).2.trans g3)]
        exact ⟨hlk, (Tk _ (lo.b h2).1).2 hkb⟩
      · exact absurd f2 g2
    · cases hy : yesP x (dec (toldV K) i) with
      | false => rfl
      | true =>
        refine absurd ?_ hno
        have := (yes_side (h.t x hx) (h.r x hx) hsx).1 hy
        obtain ⟨e1, e2⟩ := sg l hl lo hx hsx (fun v => { v with n := v.n - 1 }) i j hi hj ej
        have ed : dec (toldV K) i = fun k => if k = i then (fun v : VT => { v with n := v.n - 1 }) (toldV K k) else toldV K k := rfl
        rw [ed, e1, e2, ← lo.o] at this
        exact this
end
end Go.Hw
