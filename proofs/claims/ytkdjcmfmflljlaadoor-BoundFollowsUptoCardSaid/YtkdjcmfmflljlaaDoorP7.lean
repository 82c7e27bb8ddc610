/- What is read is what the conditions' leaves say. Own work of this session. -/
import Derived.Test.YtkdjcmfmflljlaaDoorP5
set_option linter.unusedVariables false
namespace Go.Hw
open Go

inductive All2 {α β : Type} (R : α → β → Prop) : List α → List β → Prop
  | nil : All2 R [] []
  | cons {a b l m} : R a b → All2 R l m → All2 R (a :: l) (b :: m)
theorem All2.mono {α β : Type} {R R' : α → β → Prop} (h : ∀ a b, R a b → R' a b) : ∀ {l : List α} {m : List β}, All2 R l m → All2 R' l m
  | _, _, .nil => .nil
  | _, _, .cons h1 h2 => .cons (h _ _ h1) (h2.mono h)
theorem All2.snoc {α β : Type} {R : α → β → Prop} {a : α} {b : β} (hr : R a b) : ∀ {l : List α} {m : List β}, All2 R l m → All2 R (l ++ [a]) (m ++ [b])
  | _, _, .nil => .cons hr .nil
  | _, _, .cons h1 h2 => .cons h1 (h2.snoc hr)
theorem All2.right {α β : Type} {R : α → β → Prop} : ∀ {l : List α} {m : List β}, All2 R l m → ∀ b ∈ m, ∃ a ∈ l, R a b
  | _, _, .nil, b, h => by cases h
  | _, _, .cons (a := a) h1 h2, b, h => by
    rcases List.mem_cons.1 h with rfl | h
    · exact ⟨a, List.mem_cons_self .., h1⟩
    · obtain ⟨x, hx, hr⟩ := h2.right b h
      exact ⟨x, List.mem_cons_of_mem _ hx, hr⟩
theorem All2.left {α β : Type} {R : α → β → Prop} : ∀ {l : List α} {m : List β}, All2 R l m → ∀ a ∈ l, ∃ b ∈ m, R a b
  | _, _, .nil, b, h => by cases h
  | _, _, .cons (b := b) h1 h2, a, h => by
    rcases List.mem_cons.1 h with rfl | h
    · exact ⟨b, List.mem_cons_self .., h1⟩
    · obtain ⟨x, hx, hr⟩ := h2.left a h
      exact ⟨x, List.mem_cons_of_mem _ hx, hr⟩

def Pre (r r' : List ER) : Prop := ∃ x, r' = r ++ x
theorem Pre.refl (r : List ER) : Pre r r := ⟨[], (List.append_nil r).symm⟩
theorem Pre.trans {a b c : List ER} (h : Pre a b) (g : Pre b c) : Pre a c := by
  obtain ⟨x, rfl⟩ := h; obtain ⟨y, rfl⟩ := g; exact ⟨x ++ y, List.append_assoc ..⟩
theorem Pre.get {a b : List ER} (h : Pre a b) {i : Nat} (hi : i < a.length) : b.getD i zeroE = a.getD i zeroE := by
  obtain ⟨x, rfl⟩ := h
  rw [List.getD_eq_getElem?_getD, List.getElem?_append_left hi, ← List.getD_eq_getElem?_getD]
theorem Pre.len {a b : List ER} (h : Pre a b) : a.length ≤ b.length := by
  obtain ⟨x, rfl⟩ := h; rw [List.length_append]; omega
theorem idxP_get {e : ER} : ∀ {l : List ER} {i : Nat}, idxP e l = some i → l.getD i zeroE = e
  | [], _, h => by cases h
  | x :: l, i, h => by
    rw [idxP] at h
    split at h
    · rename_i hs
      cases h
      exact (sameE_iff x e).1 hs
    · obtain ⟨j, hj, rfl⟩ := Option.map_eq_some_iff.1 h
      show (x :: l).getD (j + 1) zeroE = e
      rw [List.getD_cons_succ]
      exact idxP_get hj
theorem place_spec (refs : List ER) (e : ER) : Pre refs (placeP refs e).1 ∧ (placeP refs e).1.getD (placeP refs e).2 zeroE = e ∧ ∀ x ∈ (placeP refs e).1, x ∈ refs ∨ x = e := by
  unfold placeP
  cases h : idxP e refs with
  | some i => exact ⟨Pre.refl _, idxP_get h, fun x hx => .inl hx⟩
  | none =>
    refine ⟨⟨[e], rfl⟩, ?_, fun x hx => ?_⟩
    · show (refs ++ [e]).getD refs.length zeroE = e
      rw [List.getD_eq_getElem?_getD, List.getElem?_append_right (Nat.le_refl _), Nat.sub_self]; rfl
    · rcases List.mem_append.1 hx with hx | hx
      · exact .inl hx
      · rw [List.mem_singleton] at hx; exact .inr hx
def cval (s : Side) : VT := (constP s.r2 s.k2).getD zeroV
structure LeafOf (refs : List ER) (s : Side) (l : Leaf) : Prop where
  o : l.o = s.o
  a : l.a < refs.length ∧ refs.getD l.a zeroE = s.r1
  two : l.two = isRefP s.r2
  b : l.two = true → l.b < refs.length ∧ refs.getD l.b zeroE = s.r2
  v : l.two = false → l.v = cval s
theorem LeafOf.mono {r r' : List ER} {s : Side} {l : Leaf} (h : LeafOf r s l) (p : Pre r r') : LeafOf r' s l :=
  ⟨h.o, ⟨Nat.lt_of_lt_of_le h.a.1 p.len, by rw [p.get h.a.1]; exact h.a.2⟩, h.two, fun ht => ⟨Nat.lt_of_lt_of_le (h.b ht).1 p.len, by rw [p.get (h.b ht).1]; exact (h.b ht).2⟩, h.v⟩
theorem leafP_spec (refs : List ER) (s : Side) : Pre refs (leafP refs s).1 ∧ LeafOf (leafP refs s).1 s (leafP refs s).2 ∧ ∀ x ∈ (leafP refs s).1, x ∈ refs ∨ x = s.r1 ∨ (isRefP s.r2 = true ∧ x = s.r2) := by
  obtain ⟨p1, g1, m1⟩ := place_spec refs s.r1
  have l1 := (placeP_len refs s.r1).2.2
  unfold leafP
  by_cases hr : isRefP s.r2 = true
  · rw [if_pos hr]
    obtain ⟨p2, g2, m2⟩ := place_spec (placeP refs s.r1).1 s.r2
    have l2 := (placeP_len (placeP refs s.r1).1 s.r2).2.2
    refine ⟨p1.trans p2, ⟨rfl, ⟨Nat.lt_of_lt_of_le l1 p2.len, by simp only; rw [p2.get l1]; exact g1⟩, hr.symm, fun _ => ⟨l2, g2⟩, fun h => by cases h⟩, fun x hx => ?_⟩
    rcases m2 x hx with hx | hx
    · exact (m1 x hx).imp_right .inl
    · exact .inr (.inr ⟨hr, hx⟩)
  · rw [if_neg hr]
    have hr' : isRefP s.r2 = false := by simpa using hr
    exact ⟨p1, ⟨rfl, ⟨l1, g1⟩, hr'.symm, (fun h => by cases h), fun _ => rfl⟩, fun x hx => (m1 x hx).imp_right .inl⟩
def sidesL (L : List (ER × Fo)) : List Side := L.filterMap fun x => solvP x.1 x.2
def sidesOf (c : ER × Fo) : List Side := sidesL (leavesP c.1 c.2)
def allSolv (L : List (ER × Fo)) : Bool := L.all fun x => (solvP x.1 x.2).isSome
/-- A reference of some side. -/
def RefOf (sd : Side → Prop) (x : ER) : Prop := ∃ s, sd s ∧ (x = s.r1 ∨ (isRefP s.r2 = true ∧ x = s.r2))
theorem cfold_spec {refs : List ER} : ∀ {L : List (ER × Fo)} {L0 : List Side} {st : CSt}, Pre refs st.1 → All2 (LeafOf st.1) L0 st.2.1 →
    Pre refs (L.foldl cstep st).1 ∧ All2 (LeafOf (L.foldl cstep st).1) (L0 ++ sidesL L) (L.foldl cstep st).2.1 ∧ (L.foldl cstep st).2.2 = (st.2.2 && allSolv L) ∧ Pre st.1 (L.foldl cstep st).1 ∧ ∀ x ∈ (L.foldl cstep st).1, x ∈ st.1 ∨ RefOf (fun s => s ∈ sidesL L) x
  | [], L0, st, h1, h2 => ⟨h1, by rw [show sidesL [] = [] from rfl, List.append_nil]; exact h2, by simp [allSolv], Pre.refl _, fun x hx => .inl hx⟩
  | x :: L, L0, st, h1, h2 => by
    rw [List.foldl_cons]
    cases hp : solvP x.1 x.2 with
    | none =>
      have e : cstep st x = (st.1, st.2.1, false) := by unfold cstep; rw [hp]
      obtain ⟨a, b, c, d, m⟩ := cfold_spec (refs := refs) (L := L) (L0 := L0) (st := (st.1, st.2.1, false)) h1 h2
      have es : sidesL (x :: L) = sidesL L := by unfold sidesL; rw [List.filterMap_cons_none (f := fun x : ER × Fo => solvP x.1 x.2) hp]
      rw [e, es]
      exact ⟨a, b, by rw [c]; simp [allSolv, hp], d, m⟩
    | some s =>
      have e : cstep st x = ((leafP st.1 s).1, st.2.1 ++ [(leafP st.1 s).2], st.2.2) := by unfold cstep; rw [hp]
      obtain ⟨p, lo, ml⟩ := leafP_spec st.1 s
      obtain ⟨a, b, c, d, m⟩ := cfold_spec (refs := refs) (L := L) (L0 := L0 ++ [s]) (st := ((leafP st.1 s).1, st.2.1 ++ [(leafP st.1 s).2], st.2.2)) (h1.trans p) ((h2.mono fun _ _ h => h.mono p).snoc lo)
      have es : sidesL (x :: L) = s :: sidesL L := by unfold sidesL; rw [List.filterMap_cons_some (f := fun x : ER × Fo => solvP x.1 x.2) hp]
      rw [e, es]
      refine ⟨a, by rw [List.append_assoc] at b; exact b, by rw [c]; simp [allSolv, hp], p.trans d, fun y hy => ?_⟩
      rcases m y hy with hy | ⟨s', hs', hy⟩
      · rcases ml y hy with hy | hy
        · exact .inl hy
        · exact .inr ⟨s, List.mem_cons_self .., hy⟩
      · exact .inr ⟨s', List.mem_cons_of_mem _ hs', hy⟩
def CondOf (refs : List ER) (c : ER × Fo) (p : List Leaf × Bool) : Prop := All2 (LeafOf refs) (sidesOf c) p.1 ∧ p.2 = allSolv (leavesP c.1 c.2)
theorem rfold_spec : ∀ {L L0 : List (ER × Fo)} {st : RSt}, All2 (CondOf st.1) L0 st.2 → All2 (CondOf (L.foldl rstep st).1) (L0 ++ L) (L.foldl rstep st).2 ∧ ∀ x ∈ (L.foldl rstep st).1, x ∈ st.1 ∨ RefOf (fun s => ∃ c ∈ L, s ∈ sidesOf c) x
  | [], L0, st, h => ⟨by rw [List.append_nil]; exact h, fun x hx => .inl hx⟩
  | c :: L, L0, st, h => by
    rw [List.foldl_cons]
    obtain ⟨a, b, cc, d, m⟩ := cfold_spec (refs := st.1) (L := leavesP c.1 c.2) (L0 := []) (st := (st.1, [], true)) (Pre.refl _) .nil
    have hr : CondOf (rstep st c).1 c (readC st.1 c).2 := ⟨b, by rw [show (readC st.1 c).2.2 = _ from cc]; simp⟩
    obtain ⟨r1, r2⟩ := rfold_spec (L := L) (L0 := L0 ++ [c]) (st := rstep st c) ((h.mono fun _ _ h => ⟨h.1.mono fun _ _ h => h.mono d, h.2⟩).snoc hr)
    refine ⟨by rw [List.append_assoc] at r1; exact r1, fun x hx => ?_⟩
    rcases r2 x hx with hx | ⟨s, ⟨c', hc', hs⟩, hx⟩
    · rcases m x hx with hx | ⟨s, hs, hx⟩
      · exact .inl hx
      · exact .inr ⟨s, ⟨c, List.mem_cons_self .., hs⟩, hx⟩
    · exact .inr ⟨s, ⟨c', List.mem_cons_of_mem _ hc', hs⟩, hx⟩
theorem read_spec (conds : List (ER × Fo)) : All2 (CondOf (readP conds).1) conds (readP conds).2 ∧ ∀ x ∈ (readP conds).1, RefOf (fun s => ∃ c ∈ conds, s ∈ sidesOf c) x := by
  obtain ⟨h1, h2⟩ := rfold_spec (L := conds) (L0 := []) (st := ([], [])) .nil
  exact ⟨h1, fun x hx => (h2 x hx).resolve_left (fun h => by cases h)⟩

/-! ## sides -/
theorem turnP_ne {o : Int} (h : turnP o ≠ 0) : Rop o := by
  unfold turnP at h
  unfold Rop
  repeat' split at h
  all_goals first | omega | exact absurd rfl h
theorem sideP_op {r : ER} {kd : Fo} {s : Side} (h : sideP r kd = some s) : Rop s.o := by
  unfold sideP at h
  split at h
  · cases h; exact .inl rfl
  · split at h
    · cases h; exact .inl rfl
    · split at h
      · cases h
      · rename_i hb
        have ht : turnP r.o ≠ 0 := fun e => hb (by unfold badP; rw [e]; simp)
        unfold side2P at h
        split at h
        · cases h; exact turnP_ne ht
        · split at h
          · cases h; exact (turnP_ne ht).turn.1
          · cases h
theorem constE_vld {t : Bool} {e : ER} {c : VT} (h : constE t e = some c) : vld c = true := by
  unfold constE at h
  split at h
  · cases h
  · split at h
    · cases h
    · rename_i hv
      split at h
      · cases h
      · cases h
        by_cases ht : t = true
        · rw [if_pos ht]; simp [vld, numV, seq_dec']
        · rw [if_neg ht]; simpa using hv
theorem solvP_spec {r : ER} {kd : Fo} {s : Side} (h : solvP r kd = some s) : Rop s.o ∧ (isRefP s.r2 = false → (s.o = 6 ∨ (cval s).k = 1) ∧ vld (cval s) = true) := by
  unfold solvP at h
  split at h
  · cases h
  · rename_i s' hs
    split at h
    · rename_i hr
      cases h
      exact ⟨sideP_op hs, fun h => by rw [hr] at h; cases h⟩
    · split at h
      · cases h
      · rename_i c hc
        split at h
        · rename_i ho
          cases h
          refine ⟨sideP_op hs, fun _ => ?_⟩
          unfold cval
          rw [hc]
          exact ⟨ho, constE_vld hc⟩
        · cases h
theorem sides_spec {c : ER × Fo} {s : Side} (h : s ∈ sidesOf c) : Rop s.o ∧ (isRefP s.r2 = false → (s.o = 6 ∨ (cval s).k = 1) ∧ vld (cval s) = true) := by
  obtain ⟨x, _, hx⟩ := List.mem_filterMap.1 h
  exact solvP_spec hx
theorem vld_k {v : VT} (h : vld v = true) : Kn v.k := by
  rcases vld_cases h with e | e | e
  · rw [e]; exact .inl rfl
  · rw [e]; exact .inr (.inl rfl)
  · rw [e]; exact .inr (.inr rfl)
def sval (σ : ER → VT) (s : Side) : VT := if isRefP s.r2 = true then σ s.r2 else cval s
section
variable {conds : List (ER × Fo)}
theorem leaf_side {l : Leaf} (h : l ∈ (readP conds).2.flatMap Prod.fst) : ∃ c ∈ conds, ∃ s ∈ sidesOf c, LeafOf (readP conds).1 s l := by
  obtain ⟨p, hp, hl⟩ := List.mem_flatMap.1 h
  obtain ⟨c, hc, hr⟩ := (read_spec conds).1.right p hp
  obtain ⟨s, hs, hl⟩ := hr.1.right l hl
  exact ⟨c, hc, s, hs, hl⟩
theorem lvs_read (hr : ∀ c ∈ conds, ∀ s ∈ sidesOf c, isRefP s.r2 = false → minI ≤ (cval s).n ∧ (cval s).n ≤ maxI) : LvsN (readP conds).1 (readP conds).2 := by
  refine ⟨⟨fun l hl => ?_, fun l hl ht => ?_⟩, fun l hl => ?_, fun l hl ht => ?_⟩
  · obtain ⟨c, hc, s, hs, lo⟩ := leaf_side hl
    refine ⟨lo.a.1, fun ht => (lo.b ht).1, fun ht => ?_⟩
    have := vld_k ((sides_spec hs).2 (by rw [← lo.two]; exact ht)).2
    rw [lo.v ht]
    rcases this with e | e | e <;> omega
  · obtain ⟨c, hc, s, hs, lo⟩ := leaf_side hl
    rw [lo.v ht]
    exact vld_k ((sides_spec hs).2 (by rw [← lo.two]; exact ht)).2
  · obtain ⟨c, hc, s, hs, lo⟩ := leaf_side hl
    rw [lo.o]; exact (sides_spec hs).1
  · obtain ⟨c, hc, s, hs, lo⟩ := leaf_side hl
    have h2 : isRefP s.r2 = false := by rw [← lo.two]; exact ht
    have := (sides_spec hs).2 h2
    rw [lo.o, lo.v ht]
    exact ⟨this.1, (hr c hc s hs h2).1, (hr c hc s hs h2).2, this.2⟩
/-- Where there are values of the references. -/
theorem read_complete {σ : ER → VT} (hok : CondsOk conds) (hr : ∀ c ∈ conds, ∀ s ∈ sidesOf c, isRefP s.r2 = false → minI ≤ (cval s).n ∧ (cval s).n ≤ maxI) (hσ : ∀ e, minI ≤ (σ e).n ∧ (σ e).n ≤ maxI)
    (hy : ∀ c ∈ conds, ∀ s ∈ sidesOf c, YesB s.o (σ s.r1) (sval σ s)) (ht : ∀ x, RefOf (fun s => ∃ c ∈ conds, s ∈ sidesOf c) x → timeP x = true → (σ x).k = 1) :
    ∃ K, answerP (readS conds) = some K ∧ ∀ e ∈ K, Below e.2 (σ e.1) := by
  have hs := RsOk.start.fold (L := conds) hok.l
  rw [Nat.zero_add] at hs
  have hn : (readP conds).1.length ≤ 100000 := by have := hs.hi; have := hok.n; unfold readP; omega
  obtain ⟨K, hK, hb⟩ := answer_complete (τ := fun i => σ ((readP conds).1.getD i zeroE)) (lvs_read hr) hn (fun i _ => hσ _) (fun l hl => by
    obtain ⟨c, hc, s, hs, lo⟩ := leaf_side hl
    have := hy c hc s hs
    unfold rhs
    simp only
    rw [lo.o, lo.a.2]
    unfold sval at this
    cases h2 : l.two with
    | true => rw [if_pos rfl, (lo.b h2).2]; rw [lo.two] at h2; rw [if_pos h2] at this; exact this
    | false => rw [if_neg (by decide), lo.v h2]; rw [lo.two] at h2; rw [if_neg (by rw [h2]; decide)] at this; exact this) fun i hi h2 => ht _ ((read_spec conds).2 _ (by
      rw [List.getD_eq_getElem?_getD, List.getElem?_eq_getElem hi]
      exact List.getElem_mem _)) h2
  refine ⟨K, hK, fun e he => ?_⟩
  obtain ⟨i, hi, e1, e2⟩ := hb e he
  rw [e1]; exact e2
end
end Go.Hw
