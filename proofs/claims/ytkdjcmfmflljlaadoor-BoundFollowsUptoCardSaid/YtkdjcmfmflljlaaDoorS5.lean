/- BoundFollows, plain: relations of numbers. Own work of this session. -/
import Derived.Test.YtkdjcmfmflljlaaDoorS4
import Derived.Test.YtkdjcmfmflljlaaDoorP8
set_option linter.unusedVariables false
namespace Go.Hw
open Go

def numR (x : RelM) : Bool := if x.f < 3 then (if x.f = 2 then true else decide (x.c.k = 1)) else false
def hstep (and : List Bool) (st : List Bool) (i : Nat) (b : Bool) : List Bool :=
  if st ≠ [] ∧ i < and.length ∧ and.getD i false = true then st.dropLast ++ [st.getLastD false && b] else st ++ [b]
/-- Of each condition: does it hold with the numbers? -/
def hSt (rels : List RelM) (and : List Bool) (V : Nat → VT) : Nat → List Bool
  | 0 => []
  | i + 1 => hstep and (hSt rels and V i) i (yesP (rels.getD i zeroR) V)
theorem All2.unsnoc {α β : Type} {R : α → β → Prop} {a : α} : ∀ {l : List α} {m : List β}, All2 R (l ++ [a]) m → ∃ m' b, m = m' ++ [b] ∧ All2 R l m' ∧ R a b
  | [], _, .cons h .nil => ⟨[], _, rfl, .nil, h⟩
  | x :: l, _, .cons (b := b) h1 h2 => by
    obtain ⟨m', b', e, h3, h4⟩ := h2.unsnoc
    exact ⟨b :: m', b', by rw [e]; rfl, .cons h1 h3, h4⟩
/-- The relations that a condition is made of. -/
def GR (rels : List RelM) (V : Nat → VT) (c : ER × Fo) (b : Bool) : Prop := ∃ g : List RelM, (∀ x ∈ g, x ∈ rels) ∧ leavesP c.1 c.2 = g.map condE ∧ b = g.all fun x => yesP x V
section
variable {rels : List RelM} {and : List Bool} {V : Nat → VT}
theorem held_grp (ht : ∀ x ∈ rels, TOk x) : ∀ i, i ≤ rels.length → All2 (GR rels V) (jSt rels and i) (hSt rels and V i)
  | 0, _ => .nil
  | i + 1, hi => by
    have ih := held_grp ht i (by omega)
    obtain ⟨x, gx⟩ : ∃ x, rels[i]? = some x := ⟨_, List.getElem?_eq_getElem (by omega)⟩
    have hm := List.mem_of_getElem? gx
    have hx := ht x hm
    have gd : rels.getD i zeroR = x := by rw [List.getD_eq_getElem?_getD, gx]; rfl
    rw [jSt, hSt, gd, jstep, hstep]
    have hne : jSt rels and i ≠ [] ↔ hSt rels and V i ≠ [] := by
      have := ih.len
      rw [← List.length_pos_iff, ← List.length_pos_iff, this]
    by_cases hc : jSt rels and i ≠ [] ∧ i < and.length ∧ and.getD i false = true
    · rw [if_pos hc, if_pos ⟨hne.1 hc.1, hc.2⟩]
      obtain ⟨S, c, e⟩ : ∃ S c, jSt rels and i = S ++ [c] := ⟨_, _, (List.dropLast_concat_getLast hc.1).symm⟩
      rw [e] at ih ⊢
      obtain ⟨T, b, e2, h1, g, g1, g2, g3⟩ := ih.unsnoc
      rw [e2, List.dropLast_concat, List.dropLast_concat, List.getLastD_concat, List.getLastD_concat]
      refine h1.snoc ⟨g ++ [x], fun z hz => ?_, ?_, ?_⟩
      · rcases List.mem_append.1 hz with hz | hz
        · exact g1 z hz
        · rw [List.mem_singleton] at hz; subst hz; exact hm
      · rw [leaves_and, g2, leaves_cond hx, List.map_append]; rfl
      · rw [g3, List.all_append]; simp
    · rw [if_neg hc, if_neg (fun h => hc ⟨hne.2 h.1, h.2⟩)]
      exact ih.snoc ⟨[x], fun z hz => by rw [List.mem_singleton] at hz; subst hz; exact hm, by rw [leaves_cond hx]; rfl, by simp⟩
theorem hSt_len (ht : ∀ x ∈ rels, TOk x) {i : Nat} (hi : i ≤ rels.length) : (hSt rels and V i).length = (jSt rels and i).length := (held_grp ht i hi).len.symm
variable {ns : Nat → Int}
/-- The numbers as values of references. -/
def nsg (ns : Nat → Int) (e : ER) : Int := (sgm (fun i => numV (ns i)) e).n
theorem nsg_in (hn : InR ns) : InR (nsg ns) := fun e => by
  unfold nsg sgm
  split
  · exact hn _
  · show minI ≤ 0 ∧ 0 ≤ maxI; decide
theorem num_side (h : RlOk rels) (hn : ∀ x ∈ rels, numR x = true) {x : RelM} (hx : x ∈ rels) {s : Side} (hs : sideC x = some s) (hr : isRefP s.r2 = false) : (cval s).k = 1 ∧ minI ≤ (cval s).n ∧ (cval s).n ≤ maxI := by
  have h2 : x.f ≠ 2 := by
    rcases (sideC_spec (h.t x hx) hs).2.2 with g | g
    · rw [hr] at g; cases g.1
    · exact g.2
  have hnx := hn x hx
  unfold numR at hnx
  split at hnx
  · rename_i g
    have hf := (h.t x hx).f
    rw [cval_side (h.t x hx) (h.r x hx) hs h2, if_pos (by omega)]
    exact ⟨of_decide_eq_true hnx, h.r x hx⟩
  · cases hnx
theorem numC_joined (h : RlOk rels) (hn : ∀ x ∈ rels, numR x = true) : NumC (joinedP rels and) := ⟨joined_ok h, fun c hc s hs hr => by
  obtain ⟨x, hx, e⟩ := side_rel h hc hs
  exact num_side h hn hx e hr⟩
theorem yes_hold (h : RlOk rels) (hn : ∀ x ∈ rels, numR x = true) {x : RelM} (hx : x ∈ rels) {s : Side} (hs : sideC x = some s) : yesP x (fun i => numV (ns i)) = true ↔ HoldS (nsg ns) s := by
  rw [yes_side (h.t x hx) (h.r x hx) hs]
  obtain ⟨c, hc, hsc⟩ := rel_side (and := []) h hx hs
  have hsp := sides_spec hsc
  obtain ⟨g1, _, g2⟩ := sideC_spec (h.t x hx) hs
  have e1 : ∀ {i : Int}, (0 ≤ i ∧ i < 6) → sgm (fun i => numV (ns i)) (sixP i) = numV (nsg ns (sixP i)) := fun {i} hi => by
    unfold nsg
    rw [sgm_six hi]; rfl
  unfold HoldS sval
  rw [g1, e1 (h.t x hx).l]
  by_cases hr : isRefP s.r2 = true
  · rw [if_pos hr, if_pos hr]
    rcases g2 with ⟨_, g2, _⟩ | ⟨g2, _⟩
    · rw [g2, e1 (h.t x hx).r]
      exact YesB.num hsp.1 _ _
    · rw [hr] at g2; cases g2
  · have hr' : isRefP s.r2 = false := by simpa using hr
    rw [if_neg hr, if_neg hr]
    have e := vld_num' (hsp.2 hr').2 (num_side h hn hx hs hr').1
    generalize cval s = v at e
    rw [e]
    exact YesB.num hsp.1 _ _
theorem grp_hold (h : RlOk rels) (hn : ∀ x ∈ rels, numR x = true) {c : ER × Fo} {b : Bool} (g : GR rels (fun i => numV (ns i)) c b) : (b = true → HoldC (nsg ns) c) ∧ (usesP c = true → HoldC (nsg ns) c → b = true) := by
  obtain ⟨g, g1, g2, g3⟩ := g
  constructor
  · intro hb s hs
    unfold sidesOf sidesL at hs
    rw [g2] at hs
    obtain ⟨y, hy, e⟩ := List.mem_filterMap.1 hs
    obtain ⟨x, hx, rfl⟩ := List.mem_map.1 hy
    have hxr := g1 x hx
    rw [solv_cond (h.t x hxr) (h.r x hxr)] at e
    rw [g3] at hb
    exact (yes_hold h hn hxr e).1 (List.all_eq_true.1 hb x hx)
  · intro hu hh
    rw [g3, List.all_eq_true]
    intro x hx
    have hxr := g1 x hx
    unfold usesP at hu
    rw [g2, List.all_eq_true] at hu
    have := hu (condE x) (List.mem_map_of_mem hx)
    rw [solv_cond (h.t x hxr) (h.r x hxr)] at this
    obtain ⟨s, e⟩ := Option.isSome_iff_exists.1 this
    refine (yes_hold h hn hxr e).2 (hh s ?_)
    unfold sidesOf sidesL
    rw [g2]
    exact List.mem_filterMap.2 ⟨condE x, List.mem_map_of_mem hx, by rw [solv_cond (h.t x hxr) (h.r x hxr)]; exact e⟩
theorem held_at (h : RlOk rels) {V : Nat → VT} {j : Nat} (hj : j < (joinedP rels and).length) : GR rels V (cdG (joinedP rels and) j) ((hSt rels and V rels.length).getD j false) := by
  have h2 := held_grp (V := V) (and := and) h.t rels.length (Nat.le_refl _)
  have hl := h2.len
  refine h2.get (i := j) ?_ ?_
  · unfold cdG joinedP at *
    rw [List.getD_eq_getElem?_getD, List.getElem?_eq_getElem hj]; rfl
  · unfold joinedP at hj
    rw [List.getD_eq_getElem?_getD, List.getElem?_eq_getElem (by omega)]; rfl
theorem follows_plain (h : RlOk rels) (hn : ∀ x ∈ rels, numR x = true) (hN : InR ns) :
    ((∀ j, j < (joinedP rels and).length → spC (joinedP rels and) j = false → (hSt rels and (fun i => numV (ns i)) rels.length).getD j false = true) → ∀ j, j < (joinedP rels and).length → (hSt rels and (fun i => numV (ns i)) rels.length).getD j false = true ∨ spC (joinedP rels and) j = false) ∧
    (0 < (joinedP rels and).length → spC (joinedP rels and) 0 = true → (hSt rels and (fun i => numV (ns i)) rels.length).getD 0 false = true) := by
  have hc := numC_joined (and := and) h hn
  constructor
  · intro hh j hj
    cases e : spC (joinedP rels and) j with
    | false => exact .inr rfl
    | true =>
      left
      refine (grp_hold h hn (held_at h hj)).2 (spare_uses hc hj e) (spare_all hc (nsg_in hN) (fun i hi hs => ?_) hj)
      exact (grp_hold h hn (held_at h hi)).1 (hh i hi hs)
  · intro h0 e
    exact (grp_hold h hn (held_at h h0)).2 (spare_uses hc h0 e) (spare_first hc (nsg_in hN) h0 e)
end
end Go.Hw
