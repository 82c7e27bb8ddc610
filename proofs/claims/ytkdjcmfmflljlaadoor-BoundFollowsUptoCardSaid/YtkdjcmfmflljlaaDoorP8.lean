/- The law's relations as conditions: what their leaves say. Own work of this session. -/
import Derived.Test.YtkdjcmfmflljlaaDoorL5
set_option linter.unusedVariables false
namespace Go.Hw
open Go

/-! ## the six -/
theorem six_cases {P : Int → Prop} (h0 : P 0) (h1 : P 1) (h2 : P 2) (h3 : P 3) (h4 : P 4) (h5 : P 5) {i : Int} (hi : 0 ≤ i ∧ i < 6) : P i := by
  have : i = 0 ∨ i = 1 ∨ i = 2 ∨ i = 3 ∨ i = 4 ∨ i = 5 := by omega
  rcases this with rfl | rfl | rfl | rfl | rfl | rfl <;> assumption
theorem six_ref {i : Int} (hi : 0 ≤ i ∧ i < 6) : isRefP (sixP i) = true :=
  six_cases (P := fun i => isRefP (sixP i) = true) (by kernel_rfl) (by kernel_rfl) (by kernel_rfl) (by kernel_rfl) (by kernel_rfl) (by kernel_rfl) hi
theorem six_idx {i : Int} (hi : 0 ≤ i ∧ i < 6) : idxP (sixP i) sixL = some i.toNat :=
  six_cases (P := fun i => idxP (sixP i) sixL = some i.toNat) (by kernel_rfl) (by kernel_rfl) (by kernel_rfl) (by kernel_rfl) (by kernel_rfl) (by kernel_rfl) hi
/-- The six's values, as values of references. -/
def sgm (V : Nat → VT) (e : ER) : VT := match idxP e sixL with | some i => V i | none => zeroV
theorem sgm_six {V : Nat → VT} {i : Int} (hi : 0 ≤ i ∧ i < 6) : sgm V (sixP i) = vi V i := by
  unfold sgm
  rw [six_idx hi]; rfl

/-! ## a relation's leaf -/
theorem lit_ref (v : VT) : isRefP (litP v).1 = false := by
  unfold litP
  split <;> rfl
theorem wrap_neg {n : Int} (h : minI ≤ n ∧ n ≤ maxI) : IntKind.i64.wrap (0 - IntKind.i64.wrap (0 - n)) = n := by
  simp only [minI, maxI] at h
  by_cases e : n = -9223372036854775808
  · subst e; decide
  · rw [wr (x := 0 - n) (by omega) (by omega), wr (by omega) (by omega)]; omega
theorem constE_pos {e : ER} (h1 : e.k = 1) (h2 : vld e.val = true) : constE false e = some e.val := by
  unfold constE
  rw [if_neg (fun h => h h1), if_neg (by rw [h2]; decide), if_neg (fun h => by cases h.1), if_neg (by decide)]
theorem constE_neg {e : ER} (h1 : e.k = 1) (h2 : vld e.val = true) (h3 : e.vk = 1) : constE true e = some (numV (IntKind.i64.wrap (0 - e.vi))) := by
  unfold constE
  rw [if_neg (fun h => h h1), if_neg (by rw [h2]; decide), if_neg (fun h => h.2 h3), if_pos rfl]
theorem const_lit {v : VT} (hv : vld v = true) (hr : minI ≤ v.n ∧ v.n ≤ maxI) : constP (litP v).1 (litP v).2 = some v := by
  unfold litP
  by_cases h : v.k = 1 ∧ v.n < 0
  · rw [if_pos h]
    have hneg : negP (opE 4 1) (.cons (valE (numV (IntKind.i64.wrap (0 - v.n)))) .nil .nil) = true := rfl
    have e : v = numV v.n := by
      rcases vld_cases hv with e | e | e
      · exact e
      · rw [e] at h; cases h.1
      · rw [e] at h; cases h.1
    unfold constP
    rw [hneg, if_pos rfl]
    refine (constE_neg (e := valE (numV (IntKind.i64.wrap (0 - v.n)))) rfl (by simp [valE, ER.val, vld, numV, seq_dec']) rfl).trans ?_
    show some (numV (IntKind.i64.wrap (0 - IntKind.i64.wrap (0 - v.n)))) = some v
    rw [wrap_neg hr, ← e]
  · rw [if_neg h]
    have hneg : negP (valE v) .nil = false := rfl
    unfold constP
    rw [hneg, if_neg (by decide)]
    exact constE_pos (e := valE v) rfl hv
/-- The side that a relation is. -/
def sideC (x : RelM) : Option Side :=
  if x.f = 0 then (if x.o = 7 then none else if x.o = 6 ∨ x.c.k = 1 then some ⟨x.o, sixP x.l, .nil, (litP x.c).1, (litP x.c).2⟩ else none)
  else if x.f = 1 then (if x.o = 7 then none else if x.o = 6 ∨ x.c.k = 1 then some ⟨turnP x.o, sixP x.l, .nil, (litP x.c).1, (litP x.c).2⟩ else none)
  else if x.f = 2 then (if x.o = 7 then none else some ⟨x.o, sixP x.l, .nil, sixP x.r, .nil⟩)
  else if x.f = 3 then some ⟨6, sixP x.l, .nil, valE (truthV true), .nil⟩
  else some ⟨6, sixP x.l, .nil, valE (truthV false), .nil⟩
theorem turn7 {o : Int} (h : 6 ≤ o ∧ o ≤ 11) : turnP o = 0 ↔ o = 7 := by
  unfold turnP
  repeat' split
  all_goals omega
theorem turn6 {o : Int} (h : 6 ≤ o ∧ o ≤ 11) (h7 : o ≠ 7) : turnP o = 6 ↔ o = 6 := by
  unfold turnP
  repeat' split
  all_goals omega
theorem const_truth (b : Bool) : constP (valE (truthV b)) .nil = some (truthV b) := by
  have hv : vld (truthV b) = true := by simp [vld, truthV, seq_dec']
  have hneg : negP (valE (truthV b)) .nil = false := rfl
  unfold constP
  rw [hneg, if_neg (by decide)]
  exact constE_pos (e := valE (truthV b)) rfl hv
theorem op_ref (k o : Int) : isRefP (opE k o) = (decide (k = 2) || decide (k = 3)) := rfl
theorem solv_cond {x : RelM} (hx : TOk x) (hr : minI ≤ x.c.n ∧ x.c.n ≤ maxI) : solvP (condE x).1 (condE x).2 = sideC x := by
  have s1 := six_ref hx.l
  have s2 := six_ref hx.r
  have hc := const_lit hx.c hr
  have hl := lit_ref x.c
  have t7 := turn7 hx.o
  have side5 : ∀ (r1 r2 : ER) (k1 k2 : Fo), sideP (opE 5 x.o) (.cons r1 k1 (.cons r2 k2 .nil)) = if x.o = 7 then none else side2P (opE 5 x.o) (.cons r1 k1 (.cons r2 k2 .nil)) := fun r1 r2 k1 k2 => by
    unfold sideP
    rw [op_ref, if_neg (by decide)]
    have hn : isNotP (opE 5 x.o) (.cons r1 k1 (.cons r2 k2 .nil)) = false := rfl
    rw [hn, if_neg (by decide)]
    have hb : badP (opE 5 x.o) (.cons r1 k1 (.cons r2 k2 .nil)) = decide (turnP x.o = 0) := rfl
    rw [hb]
    by_cases h7 : x.o = 7
    · rw [if_pos h7, decide_eq_true (t7.2 h7), if_pos rfl]
    · rw [if_neg h7, decide_eq_false (fun h => h7 (t7.1 h)), if_neg (by decide)]
  unfold condE sideC
  by_cases f0 : x.f = 0
  · rw [if_pos f0, if_pos f0]
    unfold solvP
    rw [side5]
    by_cases h7 : x.o = 7
    · rw [if_pos h7, if_pos h7]
    · rw [if_neg h7, if_neg h7]
      have e2 : side2P (opE 5 x.o) (.cons (sixP x.l) .nil (.cons (litP x.c).1 (litP x.c).2 .nil)) = some ⟨x.o, sixP x.l, .nil, (litP x.c).1, (litP x.c).2⟩ := by
        unfold side2P
        rw [show Fo.hd (.cons (sixP x.l) .nil (.cons (litP x.c).1 (litP x.c).2 .nil)) = sixP x.l from rfl, s1, if_pos rfl]; rfl
      rw [e2]
      simp only
      rw [hl, if_neg (by decide), hc]
  · rw [if_neg f0, if_neg f0]
    by_cases f1 : x.f = 1
    · rw [if_pos f1, if_pos f1]
      unfold solvP
      rw [side5]
      by_cases h7 : x.o = 7
      · rw [if_pos h7, if_pos h7]
      · rw [if_neg h7, if_neg h7]
        have e2 : side2P (opE 5 x.o) (.cons (litP x.c).1 (litP x.c).2 (.cons (sixP x.l) .nil .nil)) = some ⟨turnP x.o, sixP x.l, .nil, (litP x.c).1, (litP x.c).2⟩ := by
          unfold side2P
          rw [show Fo.hd (.cons (litP x.c).1 (litP x.c).2 (.cons (sixP x.l) .nil .nil)) = (litP x.c).1 from rfl, hl, if_neg (by decide), show Fo.hd (Fo.tl (.cons (litP x.c).1 (litP x.c).2 (.cons (sixP x.l) .nil .nil))) = sixP x.l from rfl, s1, if_pos rfl]; rfl
        rw [e2]
        simp only
        rw [hl, if_neg (by decide), hc]
        simp only
        simp only [turn6 hx.o h7]
    · rw [if_neg f1, if_neg f1]
      by_cases f2 : x.f = 2
      · rw [if_pos f2, if_pos f2]
        unfold solvP
        rw [side5]
        by_cases h7 : x.o = 7
        · rw [if_pos h7, if_pos h7]
        · rw [if_neg h7, if_neg h7]
          have e2 : side2P (opE 5 x.o) (.cons (sixP x.l) .nil (.cons (sixP x.r) .nil .nil)) = some ⟨x.o, sixP x.l, .nil, sixP x.r, .nil⟩ := by
            unfold side2P
            rw [show Fo.hd (.cons (sixP x.l) .nil (.cons (sixP x.r) .nil .nil)) = sixP x.l from rfl, s1, if_pos rfl]; rfl
          rw [e2]
          simp only
          rw [s2, if_pos rfl]
      · rw [if_neg f2, if_neg f2]
        by_cases f3 : x.f = 3
        · rw [if_pos f3, if_pos f3]
          unfold solvP sideP
          rw [s1, if_pos rfl]
          simp only
          rw [show isRefP (valE (truthV true)) = false from rfl, if_neg (by decide), const_truth]
          simp
        · rw [if_neg f3, if_neg f3]
          unfold solvP sideP
          rw [op_ref, if_neg (by decide)]
          have hn : isNotP (opE 4 2) (.cons (sixP x.l) .nil .nil) = true := by
            show (decide ((4 : Int) = 4) && (decide ((2 : Int) = 2) && (decide (1 = 1) && isRefP (sixP x.l)))) = true
            rw [s1]; rfl
          rw [hn, if_pos rfl]
          simp only
          rw [show isRefP (valE (truthV false)) = false from rfl, if_neg (by decide), const_truth]
          simp [Fo.hd, Fo.hdk]
theorem leaves_cond {x : RelM} (hx : TOk x) : leavesP (condE x).1 (condE x).2 = [condE x] := by
  refine leavesP_one fun h => ?_
  have ho := hx.o
  unfold condE at h
  by_cases f0 : x.f = 0
  · rw [if_pos f0] at h
    have : x.o = 12 := h.2.1
    omega
  · rw [if_neg f0] at h
    by_cases f1 : x.f = 1
    · rw [if_pos f1] at h
      have : x.o = 12 := h.2.1
      omega
    · rw [if_neg f1] at h
      by_cases f2 : x.f = 2
      · rw [if_pos f2] at h
        have : x.o = 12 := h.2.1
        omega
      · rw [if_neg f2] at h
        by_cases f3 : x.f = 3
        · rw [if_pos f3] at h
          have : Fo.len .nil = 2 := h.2.2
          cases this
        · rw [if_neg f3] at h
          have : (4 : Int) = 5 := h.1
          cases this
theorem leaves_and (a b : ER × Fo) : leavesP (andE a b).1 (andE a b).2 = leavesP a.1 a.2 ++ leavesP b.1 b.2 := by
  unfold andE
  rw [leavesP, if_pos ⟨rfl, rfl⟩]
theorem jSt_leaves {rels : List RelM} {and : List Bool} (ht : ∀ x ∈ rels, TOk x) : ∀ i, i ≤ rels.length → ((jSt rels and i).flatMap fun c => leavesP c.1 c.2) = (rels.take i).map condE
  | 0, _ => rfl
  | i + 1, hi => by
    have ih := jSt_leaves (and := and) ht i (by omega)
    obtain ⟨x, gx⟩ : ∃ x, rels[i]? = some x := ⟨_, List.getElem?_eq_getElem (by omega)⟩
    have hx := ht x (List.mem_of_getElem? gx)
    have gd : rels.getD i zeroR = x := by rw [List.getD_eq_getElem?_getD, gx]; rfl
    rw [jSt, gd, take_snoc gx, List.map_append, ← ih, jstep]
    split
    · rename_i h
      obtain ⟨S, c, e⟩ : ∃ S c, jSt rels and i = S ++ [c] := ⟨_, _, (List.dropLast_concat_getLast h.1).symm⟩
      rw [e, List.dropLast_concat, List.getLastD_concat, List.flatMap_append, List.flatMap_append, List.append_assoc]
      congr 1
      rw [List.flatMap_cons, List.flatMap_nil, List.append_nil, List.flatMap_cons, List.flatMap_nil, List.append_nil, leaves_and, leaves_cond hx]
      rfl
    · rw [List.flatMap_append, List.flatMap_cons, List.flatMap_nil, List.append_nil, leaves_cond hx]
      rfl
/-- What the law hands in. -/
structure RlOk (rels : List RelM) : Prop where
  n : rels.length ≤ 40
  t : ∀ x ∈ rels, TOk x
  r : ∀ x ∈ rels, minI ≤ x.c.n ∧ x.c.n ≤ maxI
section
variable {rels : List RelM} {and : List Bool}
theorem joined_leaf (h : RlOk rels) {c : ER × Fo} (hc : c ∈ joinedP rels and) {y : ER × Fo} (hy : y ∈ leavesP c.1 c.2) : ∃ x ∈ rels, y = condE x := by
  have := jSt_leaves (and := and) h.t rels.length (Nat.le_refl _)
  rw [List.take_length] at this
  have hm : y ∈ rels.map condE := by
    rw [← this]; exact List.mem_flatMap.2 ⟨c, hc, hy⟩
  obtain ⟨x, hx, e⟩ := List.mem_map.1 hm
  exact ⟨x, hx, e.symm⟩
theorem leaf_joined (h : RlOk rels) {x : RelM} (hx : x ∈ rels) : ∃ c ∈ joinedP rels and, condE x ∈ leavesP c.1 c.2 := by
  have := jSt_leaves (and := and) h.t rels.length (Nat.le_refl _)
  rw [List.take_length] at this
  have hm : condE x ∈ rels.map condE := List.mem_map_of_mem hx
  rw [← this] at hm
  exact List.mem_flatMap.1 hm
theorem side_rel (h : RlOk rels) {c : ER × Fo} (hc : c ∈ joinedP rels and) {s : Side} (hs : s ∈ sidesOf c) : ∃ x ∈ rels, sideC x = some s := by
  obtain ⟨y, hy, e⟩ := List.mem_filterMap.1 hs
  obtain ⟨x, hx, rfl⟩ := joined_leaf h hc hy
  exact ⟨x, hx, by rw [← solv_cond (h.t x hx) (h.r x hx)]; exact e⟩
theorem rel_side (h : RlOk rels) {x : RelM} (hx : x ∈ rels) {s : Side} (hs : sideC x = some s) : ∃ c ∈ joinedP rels and, s ∈ sidesOf c := by
  obtain ⟨c, hc, hl⟩ := leaf_joined (and := and) h hx
  exact ⟨c, hc, List.mem_filterMap.2 ⟨_, hl, by rw [solv_cond (h.t x hx) (h.r x hx)]; exact hs⟩⟩
/-- What a side is of. -/
theorem sideC_spec {x : RelM} (hx : TOk x) {s : Side} (hs : sideC x = some s) : s.r1 = sixP x.l ∧ s.k1.len = 0 ∧ ((isRefP s.r2 = true ∧ s.r2 = sixP x.r ∧ s.k2.len = 0 ∧ x.f = 2 ∧ s.o = x.o) ∨ (isRefP s.r2 = false ∧ x.f ≠ 2)) := by
  unfold sideC at hs
  by_cases f0 : x.f = 0
  · rw [if_pos f0] at hs
    split at hs
    · cases hs
    · split at hs
      · cases hs; exact ⟨rfl, rfl, .inr ⟨lit_ref _, by omega⟩⟩
      · cases hs
  · rw [if_neg f0] at hs
    by_cases f1 : x.f = 1
    · rw [if_pos f1] at hs
      split at hs
      · cases hs
      · split at hs
        · cases hs; exact ⟨rfl, rfl, .inr ⟨lit_ref _, by omega⟩⟩
        · cases hs
    · rw [if_neg f1] at hs
      by_cases f2 : x.f = 2
      · rw [if_pos f2] at hs
        split at hs
        · cases hs
        · cases hs; exact ⟨rfl, rfl, .inl ⟨six_ref hx.r, rfl, rfl, f2, rfl⟩⟩
      · rw [if_neg f2] at hs
        split at hs
        · cases hs; exact ⟨rfl, rfl, .inr ⟨rfl, f2⟩⟩
        · cases hs; exact ⟨rfl, rfl, .inr ⟨rfl, f2⟩⟩
theorem cval_side {x : RelM} (hx : TOk x) (hr : minI ≤ x.c.n ∧ x.c.n ≤ maxI) {s : Side} (hs : sideC x = some s) (h2 : x.f ≠ 2) : cval s = if x.f = 0 ∨ x.f = 1 then x.c else truthV (decide (x.f = 3)) := by
  have hc := const_lit hx.c hr
  unfold sideC at hs
  unfold cval
  by_cases f0 : x.f = 0
  · rw [if_pos f0] at hs
    split at hs
    · cases hs
    · split at hs
      · cases hs
        rw [if_pos (.inl f0)]; simp only; rw [hc]; rfl
      · cases hs
  · rw [if_neg f0] at hs
    by_cases f1 : x.f = 1
    · rw [if_pos f1] at hs
      split at hs
      · cases hs
      · split at hs
        · cases hs
          rw [if_pos (.inr f1)]; simp only; rw [hc]; rfl
        · cases hs
    · rw [if_neg f1, if_neg h2] at hs
      rw [if_neg (fun h => h.elim f0 f1)]
      split at hs
      · rename_i f3
        cases hs
        simp only
        rw [const_truth, decide_eq_true f3]; rfl
      · rename_i f3
        cases hs
        simp only
        rw [const_truth, decide_eq_false f3]; rfl
theorem joined_ok (h : RlOk rels) : CondsOk (joinedP rels and) := by
  have hl := jSt_leaves (and := and) h.t rels.length (Nat.le_refl _)
  rw [List.take_length] at hl
  refine ⟨by have := jSt_len rels and rels.length; have := h.n; unfold joinedP; omega, fun c hc => ?_, fun c hc y hy s hs => ?_⟩
  · have : (leavesP c.1 c.2).length ≤ ((jSt rels and rels.length).flatMap fun c => leavesP c.1 c.2).length := by
      have : ∀ (L : List (ER × Fo)), c ∈ L → (leavesP c.1 c.2).length ≤ (L.flatMap fun c => leavesP c.1 c.2).length := by
        intro L
        induction L with
        | nil => intro h; cases h
        | cons d L ih =>
          intro h
          rw [List.flatMap_cons, List.length_append]
          rcases List.mem_cons.1 h with rfl | h
          · omega
          · have := ih h; omega
      exact this _ hc
    rw [hl, List.length_map] at this
    have := h.n
    omega
  · obtain ⟨x, hx, rfl⟩ := joined_leaf h hc hy
    rw [solv_cond (h.t x hx) (h.r x hx)] at hs
    obtain ⟨_, h1, h2⟩ := sideC_spec (h.t x hx) hs
    refine ⟨h1, fun hr => ?_⟩
    rcases h2 with h2 | h2
    · exact h2.2.2.1
    · rw [h2.1] at hr; cases hr
/-- What holds says that the side does. -/
theorem yes_side {V : Nat → VT} {x : RelM} (hx : TOk x) (hr : minI ≤ x.c.n ∧ x.c.n ≤ maxI) {s : Side} (hs : sideC x = some s) : yesP x V = true ↔ YesB s.o (sgm V s.r1) (sval (sgm V) s) := by
  rw [yesP_iff]
  obtain ⟨e1, _, h2⟩ := sideC_spec hx hs
  rw [e1, sgm_six hx.l]
  have hxl := hx.l
  unfold sval
  by_cases f2 : x.f = 2
  · rcases h2 with ⟨g1, g2, _, _, g5⟩ | ⟨_, g⟩
    · rw [if_pos g1, g2, sgm_six hx.r, g5]
      unfold yesV
      rw [if_neg (by omega), if_neg (by omega), if_pos f2]
      rfl
    · exact absurd f2 g
  · have hr2 : isRefP s.r2 = false := by
      rcases h2 with ⟨_, _, _, g, _⟩ | g
      · exact absurd g f2
      · exact g.1
    rw [if_neg (by rw [hr2]; decide), cval_side hx hr hs f2]
    unfold yesV
    unfold sideC at hs
    by_cases f0 : x.f = 0
    · rw [if_pos f0, if_pos (.inl f0)]
      rw [if_pos f0] at hs
      split at hs
      · cases hs
      · split at hs
        · cases hs; rfl
        · cases hs
    · rw [if_neg f0]
      rw [if_neg f0] at hs
      by_cases f1 : x.f = 1
      · rw [if_pos f1, if_pos (.inr f1)]
        rw [if_pos f1] at hs
        split at hs
        · cases hs
        · rename_i h7
          split at hs
          · cases hs
            have ho : Rop x.o := by have := hx.o; unfold Rop; omega
            constructor
            · exact fun h => YesB.turn ho h
            · intro h
              have := YesB.turn ho.turn.1 h
              rw [ho.turn.2.2] at this
              exact this
          · cases hs
      · rw [if_neg f1, if_neg f2]
        rw [if_neg f1, if_neg f2] at hs
        rw [if_neg (show ¬ (x.f = 0 ∨ x.f = 1) from fun h => h.elim f0 f1)]
        by_cases f3 : x.f = 3
        · rw [if_pos f3] at hs
          cases hs
          rw [if_neg (by omega), decide_eq_true f3]
          constructor
          · intro h
            have e : vi V x.l = truthV true := congrArg Prod.fst h
            rw [e]
            exact (yesB_iff (.inl rfl) _ _).2 ⟨by simp [vld, truthV, seq_dec'], by simp [vld, truthV, seq_dec'], rfl, fun h => absurd rfl h, by rw [cmpV_bool]; exact ⟨fun _ => rfl, (fun h => by cases h), (fun h => by cases h), (fun h => by cases h), fun h => by cases h⟩⟩
          · intro h; rw [h.eq]
        · rw [if_neg f3] at hs
          cases hs
          have f4 : x.f = 4 := by have := hx.f; omega
          rw [if_pos f4, decide_eq_false f3]
          constructor
          · intro h
            have hv : vi V x.l = truthV false := by
              generalize vi V x.l = v at h
              unfold unP at h
              split at h
              · rename_i hf
                exact absurd (congrArg Prod.snd h) hf
              · rename_i hf
                have hf : refusP 2 1 2 v [v] = 0 := Decidable.not_not.1 hf
                rw [refusP, if_neg (by decide), if_neg (by decide)] at hf
                split at hf
                · rename_i hv
                  have hv : vld v = true := by simpa using hv
                  split at hf
                  · rename_i hk
                    have hk : v.k = 3 := by simpa [fitsP, wantOf, wantsL, fitK] using hk
                    rw [if_neg (by decide)] at h
                    have hb : (!v.b) = true := congrArg (fun z : VT × Int => z.1.b) h
                    rcases vld_cases hv with e | e | e
                    · rw [e] at hk; cases hk
                    · rw [e] at hk; cases hk
                    · rw [e]; rw [show v.b = false by simpa using hb]
                  · cases hf
                · cases hf
            rw [hv]
            exact (yesB_iff (.inl rfl) _ _).2 ⟨by simp [vld, truthV, seq_dec'], by simp [vld, truthV, seq_dec'], rfl, fun h => absurd rfl h, by rw [cmpV_bool]; exact ⟨fun _ => rfl, (fun h => by cases h), (fun h => by cases h), (fun h => by cases h), fun h => by cases h⟩⟩
          · intro h; rw [h.eq]; kernel_rfl
theorem answer_len {conds : List (ER × Fo)} (hok : CondsOk conds) {K : List (ER × VT)} (h : answerP (readS conds) = some K) : K.length ≤ 90000 := by
  have sok := readS_ok hok
  obtain ⟨hL, _⟩ := allP_len sok
  unfold answerP at h
  split at h
  · cases h
  · split at h
    · cases h
    · rename_i N W _
      cases h
      have := (tells_len (readS conds) (valuesP (readS conds) N W (readS conds).refs.length) (allP (readS conds)) (List.replicate (readS conds).refs.length 0, [])).2
      simp only [List.length_nil] at this
      unfold toldP
      omega
theorem tidied_ok {rels0 : List RelM} (hR : ∀ x ∈ rels0, minI ≤ x.c.n ∧ x.c.n ≤ maxI) : RlOk (tidiedP rels0) := by
  refine ⟨by unfold tidiedP; rw [List.length_map, List.length_take]; omega, fun x hx => ?_, fun x hx => ?_⟩
  · obtain ⟨z, _, rfl⟩ := List.mem_map.1 hx; exact tidy_ok z
  · obtain ⟨z, hz, rfl⟩ := List.mem_map.1 hx
    show minI ≤ (if vld z.c = true then z.c else numV 0).n ∧ (if vld z.c = true then z.c else numV 0).n ≤ maxI
    split
    · exact hR z (List.mem_of_mem_take hz)
    · decide
end
end Go.Hw
