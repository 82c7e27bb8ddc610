/- Conditions of numbers: what is spare follows; without it the least numbers are the same: plain. Own work of this session. -/
import Derived.Test.YtkdjcmfmflljlaaDoorS2
import Derived.Test.YtkdjcmfmflljlaaDoorL5
set_option linter.unusedVariables false
namespace Go.Hw
open Go

/-- All constants are numbers. -/
structure NumC (conds : List (ER × Fo)) : Prop where
  ok : CondsOk conds
  k : ∀ c ∈ conds, ∀ s ∈ sidesOf c, isRefP s.r2 = false → (cval s).k = 1 ∧ minI ≤ (cval s).n ∧ (cval s).n ≤ maxI
def InR {α : Type} (σ : α → Int) : Prop := ∀ e, minI ≤ σ e ∧ σ e ≤ maxI
def HoldS (σ : ER → Int) (s : Side) : Prop := relI s.o (σ s.r1) (if isRefP s.r2 = true then σ s.r2 else (cval s).n)
def HoldC (σ : ER → Int) (c : ER × Fo) : Prop := ∀ s ∈ sidesOf c, HoldS σ s
/-- A number system: all leaves are of numbers. -/
structure NumS (refs : List ER) (C : List (List Leaf × Bool)) : Prop where
  v : LvsN refs C
  n : refs.length ≤ 100000
  k : ∀ l ∈ C.flatMap Prod.fst, l.two = false → l.v.k = 1
section
variable {refs : List ER} {C : List (List Leaf × Bool)}
theorem NumS.kind (h : NumS refs C) : (sysP refs C).K.any oddP = false ∧ ∀ i, i < refs.length → kindP (sysP refs C) i = 1 := by
  obtain ⟨h1, h2⟩ := kinds_complete h.v.v (κ := fun _ => 1) (fun l hl => ⟨fun _ => rfl, fun ht => (h.k l hl ht).symm⟩) (fun _ _ _ => rfl)
  refine ⟨h1, fun i hi => ?_⟩
  by_cases e : kindP (sysP refs C) i = 1
  · exact e
  · exact (h2 i hi e).symm
theorem NumS.count (h : NumS refs C) {l : Leaf} (ha : l.a < refs.length) : countsP (sysP refs C) l = true := by
  unfold countsP
  rw [h.kind.2 _ ha]; simp
/-- A leaf that numbers may hold. -/
def Lf (refs : List ER) (l : Leaf) : Prop := l.a < refs.length ∧ (l.two = true → l.b < refs.length) ∧ Rop l.o ∧ (l.two = false → l.v = numV l.v.n ∧ minI ≤ l.v.n ∧ l.v.n ≤ maxI)
theorem NumS.lf (h : NumS refs C) {l : Leaf} (hl : l ∈ C.flatMap Prod.fst) : Lf refs l := by
  have h1 := h.v.v.ok l hl
  refine ⟨h1.1, h1.2.1, h.v.o l hl, fun h2 => ?_⟩
  have h3 := h.v.c l hl h2
  exact ⟨vld_num' h3.2.2.2 (h.k l hl h2), h3.2.1, h3.2.2.1⟩
theorem NumS.solve (h : NumS refs C) {t : Nat → Int} (ht : InR t) {L : List Leaf} (hL : ∀ l ∈ L, Lf refs l ∧ HoldsN t l) : (solveP (sysP refs C) L).isSome = true := by
  have hk := h.kind
  obtain ⟨N, W, e, _⟩ := solve_complete (τ := fun i => numV (t i)) h.v h.n hk.1 (fun i _ => ht i) (L := L) fun l hl => by
    obtain ⟨⟨l1, l2, l3, l4⟩, l5⟩ := hL l hl
    refine ⟨⟨l1, l2⟩, l3, h.count l1, ?_, fun h2 => ?_⟩
    · unfold HoldsN at l5
      unfold rhs
      by_cases h2 : l.two = true
      · rw [if_pos h2] at l5 ⊢
        exact (YesB.num l3 _ _).2 l5
      · rw [if_neg h2] at l5 ⊢
        rw [(l4 (by simpa using h2)).1]
        exact (YesB.num l3 _ _).2 l5
    · obtain ⟨e, r⟩ := l4 h2
      have e1 : l.v.k = 1 := by rw [e]; rfl
      exact ⟨.inr e1, r.1, r.2, by rw [hk.2 _ l1, e1]⟩
  rw [e]; rfl
theorem against_or {o x y : Int} (ho : Rop o) (h : ¬ relI o x y) : ∃ op ∈ againstP o, Rop op ∧ relI op x y := by
  unfold relI at h
  rcases ho with rfl | rfl | rfl | rfl | rfl
  · by_cases g : x < y
    · exact ⟨8, by decide, .inr (.inl rfl), by unfold relI; omega⟩
    · exact ⟨10, by decide, .inr (.inr (.inr (.inl rfl))), by unfold relI; omega⟩
  · exact ⟨11, by decide, .inr (.inr (.inr (.inr rfl))), by unfold relI; omega⟩
  · exact ⟨10, by decide, .inr (.inr (.inr (.inl rfl))), by unfold relI; omega⟩
  · exact ⟨9, by decide, .inr (.inr (.inl rfl)), by unfold relI; omega⟩
  · exact ⟨8, by decide, .inr (.inl rfl), by unfold relI; omega⟩
theorem NumS.follows (h : NumS refs C) {kept : List Leaf} {next : Leaf} (hk : ∀ l ∈ kept, Lf refs l) (hn : Lf refs next) (hf : followsP (sysP refs C) kept next = true) {t : Nat → Int} (ht : InR t) (hh : ∀ l ∈ kept, HoldsN t l) : HoldsN t next := by
  apply Classical.byContradiction
  intro hno
  obtain ⟨op, hop, ro, hr⟩ := against_or hn.2.2.1 hno
  have := List.all_eq_true.1 hf op hop
  have hs := h.solve ht (L := kept ++ [{ next with o := op }]) fun l hl => by
    rcases List.mem_append.1 hl with hl | hl
    · exact ⟨hk l hl, hh l hl⟩
    · rw [List.mem_singleton] at hl
      subst hl
      exact ⟨⟨hn.1, hn.2.1, ro, hn.2.2.2⟩, hr⟩
  rw [Option.isNone_iff_eq_none] at this
  rw [this] at hs; cases hs
/-! ## spare -/
def cnd (C : List (List Leaf × Bool)) (j : Nat) : List Leaf × Bool := C.getD j ([], true)
def spB (S : Sys) (j : Nat) : Bool := okSp S (spSt S j).1 (cnd S.conds j)
theorem spSt_two (S : Sys) : ∀ i, (spSt S i).2 = ((List.range i).filter (spB S)).map fun (n : Nat) => (n : Int)
  | 0 => rfl
  | i + 1 => by
    rw [spSt, stepSp, List.range_succ, List.filter_append, List.map_append, ← spSt_two S i]
    by_cases e : spB S i = true
    · rw [if_pos (show okSp S (spSt S i).1 (S.conds.getD i ([], true)) = true from e), List.filter_cons_of_pos e]; rfl
    · rw [if_neg (show ¬ okSp S (spSt S i).1 (S.conds.getD i ([], true)) = true from e), List.filter_cons_of_neg e]; simp
theorem spSt_one (S : Sys) : ∀ i, ∀ l ∈ (spSt S i).1, ∃ j, j < i ∧ spB S j = false ∧ l ∈ (cnd S.conds j).1
  | 0, l, hl => by cases hl
  | i + 1, l, hl => by
    rw [spSt, stepSp] at hl
    by_cases e : spB S i = true
    · rw [if_pos (show okSp S (spSt S i).1 (S.conds.getD i ([], true)) = true from e)] at hl
      obtain ⟨j, hj, r⟩ := spSt_one S i l hl
      exact ⟨j, by omega, r⟩
    · rw [if_neg (show ¬ okSp S (spSt S i).1 (S.conds.getD i ([], true)) = true from e)] at hl
      rcases List.mem_append.1 hl with hl | hl
      · obtain ⟨j, hj, r⟩ := spSt_one S i l hl
        exact ⟨j, by omega, r⟩
      · exact ⟨i, by omega, by simpa using e, (List.mem_filter.1 hl).1⟩
theorem cnd_mem {j : Nat} (hj : j < C.length) : cnd C j ∈ C := by
  unfold cnd
  rw [List.getD_eq_getElem?_getD, List.getElem?_eq_getElem hj]
  exact List.getElem_mem _
theorem NumS.lfc (h : NumS refs C) {j : Nat} (hj : j < C.length) {l : Leaf} (hl : l ∈ (cnd C j).1) : Lf refs l := h.lf (List.mem_flatMap.2 ⟨_, cnd_mem hj, hl⟩)
theorem NumS.spare (h : NumS refs C) {j : Nat} (hj : j < C.length) (hs : spB (sysP refs C) j = true) : (cnd C j).2 = true ∧ ∀ t : Nat → Int, InR t → (∀ l ∈ (spSt (sysP refs C) j).1, HoldsN t l) → ∀ l ∈ (cnd C j).1, HoldsN t l := by
  unfold spB okSp at hs
  simp only [Bool.and_eq_true] at hs
  obtain ⟨⟨h1, h2⟩, h3⟩ := hs
  refine ⟨h1, fun t ht hh l hl => ?_⟩
  have hk : ∀ l ∈ (spSt (sysP refs C) j).1, Lf refs l := fun l hl => by
    obtain ⟨i, hi, _, hm⟩ := spSt_one _ j l hl
    exact h.lfc (by omega) hm
  have hsol := h.solve ht (L := (spSt (sysP refs C) j).1) fun l hl => ⟨hk l hl, hh l hl⟩
  have := List.all_eq_true.1 h3 l (List.mem_filter.2 ⟨hl, h.count (h.lfc hj hl).1⟩)
  rw [hsol] at this
  exact h.follows hk (h.lfc hj hl) (by simpa using this) ht hh
theorem NumS.all (h : NumS refs C) {t : Nat → Int} (ht : InR t) (hh : ∀ j, j < C.length → spB (sysP refs C) j = false → ∀ l ∈ (cnd C j).1, HoldsN t l) {j : Nat} (hj : j < C.length) : ∀ l ∈ (cnd C j).1, HoldsN t l := by
  cases e : spB (sysP refs C) j with
  | false => exact hh j hj e
  | true =>
    refine (h.spare hj e).2 t ht fun l hl => ?_
    obtain ⟨i, hi, hs, hm⟩ := spSt_one _ j l hl
    exact hh i (by omega) hs l hm
end
/-! ## conditions -/
section
variable {conds : List (ER × Fo)}
theorem NumC.sys (h : NumC conds) : NumS (readP conds).1 (readP conds).2 := by
  have hs := RsOk.start.fold (L := conds) h.ok.l
  rw [Nat.zero_add] at hs
  refine ⟨lvs_read fun c hc s hs hr => (h.k c hc s hs hr).2, by have := hs.hi; have := h.ok.n; unfold readP; omega, fun l hl h2 => ?_⟩
  obtain ⟨c, hc, s, hs, lo⟩ := leaf_side hl
  rw [lo.v h2]
  exact (h.k c hc s hs (by rw [← lo.two]; exact h2)).1
theorem NumC.sub (h : NumC conds) {cs : List (ER × Fo)} (hs : ∀ c ∈ cs, c ∈ conds) (hn : cs.length ≤ conds.length) : NumC cs :=
  ⟨⟨by have := h.ok.n; omega, fun c hc => h.ok.l c (hs c hc), fun c hc => h.ok.f c (hs c hc)⟩, fun c hc => h.k c (hs c hc)⟩
theorem All2.len {α β : Type} {R : α → β → Prop} : ∀ {l : List α} {m : List β}, All2 R l m → l.length = m.length
  | _, _, .nil => rfl
  | _, _, .cons _ h => congrArg (· + 1) h.len
theorem All2.get {α β : Type} {R : α → β → Prop} : ∀ {l : List α} {m : List β}, All2 R l m → ∀ {i : Nat} {a : α} {b : β}, l[i]? = some a → m[i]? = some b → R a b
  | _, _, .nil, i, a, b, h, _ => by simp at h
  | _, _, .cons hr h, 0, a, b, h1, h2 => by simp at h1 h2; subst h1 h2; exact hr
  | _, _, .cons hr h, i + 1, a, b, h1, h2 => by simp at h1 h2; exact h.get h1 h2
theorem leaf_hold {refs : List ER} {s : Side} {l : Leaf} (lo : LeafOf refs s l) (σ : ER → Int) : HoldsN (fun i => σ (refs.getD i zeroE)) l ↔ HoldS σ s := by
  unfold HoldsN HoldS
  simp only
  rw [← lo.o, lo.a.2, ← lo.two]
  by_cases h2 : l.two = true
  · rw [if_pos h2, if_pos h2, (lo.b h2).2]
  · rw [if_neg h2, if_neg h2, lo.v (by simpa using h2)]
theorem cond_hold {refs : List ER} {c : ER × Fo} {p : List Leaf × Bool} (h : CondOf refs c p) (σ : ER → Int) : (∀ l ∈ p.1, HoldsN (fun i => σ (refs.getD i zeroE)) l) ↔ HoldC σ c := by
  constructor
  · intro g s hs
    obtain ⟨l, hl, lo⟩ := h.1.left s hs
    exact (leaf_hold lo σ).1 (g l hl)
  · intro g l hl
    obtain ⟨s, hs, lo⟩ := h.1.right l hl
    exact (leaf_hold lo σ).2 (g s hs)
def cdG (conds : List (ER × Fo)) (j : Nat) : ER × Fo := conds.getD j (zeroE, .nil)
theorem cond_at (conds : List (ER × Fo)) {j : Nat} (hj : j < conds.length) : CondOf (readP conds).1 (cdG conds j) (cnd (readP conds).2 j) := by
  have h := (read_spec conds).1
  have hl := h.len
  refine h.get (i := j) ?_ ?_
  · unfold cdG; rw [List.getD_eq_getElem?_getD, List.getElem?_eq_getElem hj]; rfl
  · unfold cnd; rw [List.getD_eq_getElem?_getD, List.getElem?_eq_getElem (by omega)]; rfl
def spC (conds : List (ER × Fo)) (j : Nat) : Bool := spB (readS conds) j
theorem spareP_eq (h : NumC conds) : spareP (readS conds) = ((List.range conds.length).filter (spC conds)).map fun (n : Nat) => (n : Int) := by
  unfold spareP
  rw [if_neg (by rw [show (readS conds).K.any oddP = false from h.sys.kind.1]; decide), spSt_two]
  have := (read_spec conds).1.len
  rw [show (readS conds).conds.length = conds.length from this.symm]
  rfl
theorem spare_all (h : NumC conds) {σ : ER → Int} (hσ : InR σ) (hh : ∀ j, j < conds.length → spC conds j = false → HoldC σ (cdG conds j)) {j : Nat} (hj : j < conds.length) : HoldC σ (cdG conds j) := by
  have hl := (read_spec conds).1.len
  refine (cond_hold (cond_at conds hj) σ).1 (h.sys.all (t := fun i => σ ((readP conds).1.getD i zeroE)) (fun i => hσ _) (fun i hi hs => ?_) (by omega))
  exact (cond_hold (cond_at conds (by omega)) σ).2 (hh i (by omega) hs)
theorem spare_first (h : NumC conds) {σ : ER → Int} (hσ : InR σ) (h0 : 0 < conds.length) (hs : spC conds 0 = true) : HoldC σ (cdG conds 0) := by
  have hl := (read_spec conds).1.len
  exact (cond_hold (cond_at conds h0) σ).1 ((h.sys.spare (by omega) hs).2 _ (fun i => hσ _) fun l hl => by cases hl)
theorem spare_uses (h : NumC conds) {j : Nat} (hj : j < conds.length) (hs : spC conds j = true) : usesP (cdG conds j) = true := by
  have hl := (read_spec conds).1.len
  have := (cond_at conds hj).2
  rw [(h.sys.spare (by omega) hs).1] at this
  exact this.symm
/-! ## solutions -/
theorem Tells.find {S : Sys} {K : List (ER × VT)} {τ : Nat → VT} (T : Tells S K τ) (hd : Dst S.refs) {j : Nat} (hj : j < S.refs.length) (hm : (S.refs.getD j zeroE, τ j) ∈ K) : findP K (S.refs.getD j zeroE) = some (τ j) := by
  cases hf : findP K (S.refs.getD j zeroE) with
  | none =>
    unfold findP at hf
    have := List.find?_eq_none.1 (Option.map_eq_none_iff.1 hf) _ hm
    exact absurd ((sameE_iff _ _).2 rfl) this
  | some v =>
    unfold findP at hf
    obtain ⟨p, hp, rfl⟩ := Option.map_eq_some_iff.1 hf
    obtain ⟨i, hi, e2⟩ := T.m p (List.mem_of_find?_eq_some hp)
    have hs := List.find?_some hp
    have hs := (sameE_iff _ _).1 hs
    rw [e2] at hs ⊢
    rw [hd i j hi hj hs]
/-- The numbers that are told hold. -/
theorem num_sound (h : NumC conds) {K : List (ER × VT)} (hK : answerP (readS conds) = some K) : ∃ σ : ER → Int, InR σ ∧ (∀ c ∈ conds, HoldC σ c) ∧ (∀ e ∈ K, findP K e.1 = some e.2 ∧ e.2 = numV (σ e.1) ∧ RefOf (fun s => ∃ c ∈ conds, s ∈ sidesOf c) e.1) ∧
    ∀ x, RefOf (fun s => ∃ c ∈ conds, s ∈ sidesOf c) x → findP K x = some (numV (σ x)) := by
  have hs := h.sys
  obtain ⟨τ, T⟩ := answer_sound hs.v hK
  have hd : Dst (sysP (readP conds).1 (readP conds).2).refs := read_dst conds
  have hr := (read_spec conds)
  have hkind := hs.kind.2
  have hS : (sysP (readP conds).1 (readP conds).2).refs = (readP conds).1 := rfl
  have tn : ∀ i, i < (readP conds).1.length → τ i = numV (τ i).n ∧ minI ≤ (τ i).n ∧ (τ i).n ≤ maxI := fun i hi => by
    have hk := (T.k i hi).2 (hkind i hi)
    exact ⟨vld_num' (T.v i hi) hk, T.r i hi hk⟩
  have hm : ∀ e ∈ K, ∃ i, i < (readP conds).1.length ∧ e = ((readP conds).1.getD i zeroE, τ i) ∧ findP K e.1 = some e.2 := fun e he => by
    obtain ⟨i, hi, e2⟩ := T.m e he
    refine ⟨i, hi, e2, ?_⟩
    rw [e2] at he ⊢
    exact T.find hd hi he
  refine ⟨fun x => ((findP K x).getD (numV 0)).n, fun x => ?_, fun c hc s hsd => ?_, fun e he => ?_, fun x hx => ?_⟩
  · show minI ≤ ((findP K x).getD (numV 0)).n ∧ ((findP K x).getD (numV 0)).n ≤ maxI
    cases hf : findP K x with
    | none => show minI ≤ 0 ∧ 0 ≤ maxI; decide
    | some v =>
      unfold findP at hf
      obtain ⟨p, hp, rfl⟩ := Option.map_eq_some_iff.1 hf
      obtain ⟨i, hi, e2⟩ := T.m p (List.mem_of_find?_eq_some hp)
      show minI ≤ p.2.n ∧ p.2.n ≤ maxI
      rw [e2]
      exact (tn i hi).2
  · obtain ⟨p, hp, hcond⟩ := hr.1.left c hc
    obtain ⟨l, hl, lo⟩ := hcond.1.left s hsd
    have hla : l ∈ allP (sysP (readP conds).1 (readP conds).2) := List.mem_flatMap.2 ⟨p, hp, List.mem_filter.2 ⟨hl, hs.count lo.a.1⟩⟩
    obtain ⟨t1, t2⟩ := T.t l hla
    have f1 := T.find hd lo.a.1 t1
    have hy := T.y l hla
    rw [(tn _ lo.a.1).1] at hy
    refine (leaf_hold lo _).1 ?_
    unfold HoldsN
    simp only
    rw [hS] at f1
    rw [f1]
    have hro := hs.v.o l (List.mem_flatMap.2 ⟨p, hp, hl⟩)
    unfold rhs at hy
    by_cases h2 : l.two = true
    · have f2 := T.find hd (lo.b h2).1 (t2 h2)
      rw [hS] at f2
      rw [if_pos h2] at hy ⊢
      rw [f2]
      rw [(tn _ (lo.b h2).1).1] at hy
      exact (YesB.num hro _ _).1 hy
    · rw [if_neg h2] at hy ⊢
      rw [(hs.lf (List.mem_flatMap.2 ⟨p, hp, hl⟩)).2.2.2 (by simpa using h2) |>.1] at hy
      exact (YesB.num hro _ _).1 hy
  · obtain ⟨i, hi, e2, hf⟩ := hm e he
    refine ⟨hf, ?_, ?_⟩
    · show e.2 = numV ((findP K e.1).getD (numV 0)).n
      rw [hf]
      rw [e2]
      exact (tn i hi).1
    · rw [e2]
      refine hr.2 _ ?_
      rw [List.getD_eq_getElem?_getD, List.getElem?_eq_getElem hi]
      exact List.getElem_mem _
  · obtain ⟨s, ⟨c, hc, hsd⟩, hx⟩ := hx
    obtain ⟨p, hp, hcond⟩ := hr.1.left c hc
    obtain ⟨l, hl, lo⟩ := hcond.1.left s hsd
    have hla : l ∈ allP (sysP (readP conds).1 (readP conds).2) := List.mem_flatMap.2 ⟨p, hp, List.mem_filter.2 ⟨hl, hs.count lo.a.1⟩⟩
    obtain ⟨t1, t2⟩ := T.t l hla
    have fin : ∀ i, i < (readP conds).1.length → findP K ((readP conds).1.getD i zeroE) = some (τ i) → (readP conds).1.getD i zeroE = x → findP K x = some (numV ((findP K x).getD (numV 0)).n) := fun i hi hf e => by
      rw [← e, hf]
      exact congrArg some (tn i hi).1
    rcases hx with hx | ⟨h2, hx⟩
    · exact fin _ lo.a.1 (T.find hd lo.a.1 t1) (lo.a.2.trans hx.symm)
    · have h2 : l.two = true := by rw [lo.two]; exact h2
      exact fin _ (lo.b h2).1 (T.find hd (lo.b h2).1 (t2 h2)) ((lo.b h2).2.trans hx.symm)
theorem num_complete (h : NumC conds) {σ : ER → Int} (hσ : InR σ) (hh : ∀ c ∈ conds, HoldC σ c) : ∃ K, answerP (readS conds) = some K ∧ ∀ e ∈ K, Below e.2 (numV (σ e.1)) := by
  obtain ⟨K, hK, hb⟩ := read_complete (σ := fun e => numV (σ e)) h.ok (fun c hc s hs hr => (h.k c hc s hs hr).2) (fun e => hσ e) (fun c hc s hs => by
    have hs' := sides_spec hs
    have := hh c hc s hs
    unfold HoldS at this
    unfold sval
    by_cases hr : isRefP s.r2 = true
    · rw [if_pos hr] at this ⊢
      exact (YesB.num hs'.1 _ _).2 this
    · have hr' : isRefP s.r2 = false := by simpa using hr
      rw [if_neg hr] at this ⊢
      rw [vld_num' (hs'.2 hr').2 (h.k c hc s hs hr').1]
      exact (YesB.num hs'.1 _ _).2 this) fun x _ _ => rfl
  exact ⟨K, hK, hb⟩
/-! ## without what is spare -/
def leftP (conds : List (ER × Fo)) : List (ER × Fo) := ((List.range conds.length).filter fun j => !spC conds j).map (cdG conds)
theorem left_mem {c : ER × Fo} : c ∈ leftP conds ↔ ∃ j, j < conds.length ∧ spC conds j = false ∧ cdG conds j = c := by
  unfold leftP
  rw [List.mem_map]
  constructor
  · rintro ⟨j, hj, e⟩
    obtain ⟨h1, h2⟩ := List.mem_filter.1 hj
    exact ⟨j, List.mem_range.1 h1, by simpa using h2, e⟩
  · rintro ⟨j, hj, hs, e⟩
    exact ⟨j, List.mem_filter.2 ⟨List.mem_range.2 hj, by rw [hs]; rfl⟩, e⟩
theorem cdG_mem {j : Nat} (hj : j < conds.length) : cdG conds j ∈ conds := by
  unfold cdG
  rw [List.getD_eq_getElem?_getD, List.getElem?_eq_getElem hj]
  exact List.getElem_mem _
theorem mem_cdG {c : ER × Fo} (hc : c ∈ conds) : ∃ j, j < conds.length ∧ cdG conds j = c := by
  obtain ⟨j, hj, e⟩ := List.mem_iff_getElem.1 hc
  refine ⟨j, hj, ?_⟩
  unfold cdG
  rw [List.getD_eq_getElem?_getD, List.getElem?_eq_getElem hj]; exact e
theorem NumC.left (h : NumC conds) : NumC (leftP conds) := h.sub (fun c hc => by
  obtain ⟨j, hj, _, e⟩ := left_mem.1 hc
  rw [← e]; exact cdG_mem hj) (by
  unfold leftP
  rw [List.length_map]
  have := List.length_filter_le (fun j => !spC conds j) (List.range conds.length)
  rw [List.length_range] at this
  exact this)
theorem left_hold (h : NumC conds) {σ : ER → Int} (hσ : InR σ) : (∀ c ∈ leftP conds, HoldC σ c) ↔ ∀ c ∈ conds, HoldC σ c := by
  constructor
  · intro hh c hc
    obtain ⟨j, hj, rfl⟩ := mem_cdG hc
    exact spare_all h hσ (fun i hi hs => hh _ (left_mem.2 ⟨i, hi, hs, rfl⟩)) hj
  · intro hh c hc
    obtain ⟨j, hj, _, rfl⟩ := left_mem.1 hc
    exact hh _ (cdG_mem hj)
theorem left_same (h : NumC conds) : (answerP (readS conds)).isSome = (answerP (readS (leftP conds))).isSome ∧ ∀ K K', answerP (readS conds) = some K → answerP (readS (leftP conds)) = some K' → ∀ e ∈ K', findP K e.1 = some e.2 := by
  constructor
  · cases h1 : answerP (readS conds) with
    | some K =>
      obtain ⟨σ, s1, s2, _⟩ := num_sound h h1
      obtain ⟨K', hK', _⟩ := num_complete h.left s1 ((left_hold h s1).2 s2)
      rw [hK']; rfl
    | none =>
      cases h2 : answerP (readS (leftP conds)) with
      | none => rfl
      | some K' =>
        obtain ⟨σ, s1, s2, _⟩ := num_sound h.left h2
        obtain ⟨K, hK, _⟩ := num_complete h s1 ((left_hold h s1).1 s2)
        rw [hK] at h1; cases h1
  · intro K K' hK hK' e he
    obtain ⟨σ, s1, s2, s3, s4⟩ := num_sound h hK
    obtain ⟨ρ, r1, r2, r3, r4⟩ := num_sound h.left hK'
    obtain ⟨K2, hK2, b2⟩ := num_complete h.left s1 ((left_hold h s1).2 s2)
    rw [hK'] at hK2; cases hK2
    obtain ⟨K1, hK1, b1⟩ := num_complete h r1 ((left_hold h r1).1 r2)
    rw [hK] at hK1; cases hK1
    obtain ⟨e1, e2, e3⟩ := r3 e he
    have hx : RefOf (fun s => ∃ c ∈ conds, s ∈ sidesOf c) e.1 := by
      obtain ⟨s, ⟨c, hc, hs⟩, hx⟩ := e3
      obtain ⟨j, hj, _, e⟩ := left_mem.1 hc
      exact ⟨s, ⟨c, by rw [← e]; exact cdG_mem hj, hs⟩, hx⟩
    have hf := s4 _ hx
    have l1 : ρ e.1 ≤ σ e.1 := by
      have := b2 e he
      rw [e2] at this
      exact (this rfl).1 rfl
    have l2 : σ e.1 ≤ ρ e.1 := by
      have hf' := hf
      unfold findP at hf'
      obtain ⟨p, hp, ep⟩ := Option.map_eq_some_iff.1 hf'
      have hs := List.find?_some hp
      have hs := (sameE_iff _ _).1 hs
      have := b1 p (List.mem_of_find?_eq_some hp)
      rw [ep, hs] at this
      exact (this rfl).1 rfl
    rw [hf, e2, show σ e.1 = ρ e.1 by omega]
end
end Go.Hw
