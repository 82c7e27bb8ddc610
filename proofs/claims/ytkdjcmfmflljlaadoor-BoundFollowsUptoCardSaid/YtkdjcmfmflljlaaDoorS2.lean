/- What Solve tells holds, and no number of it may be less: plain. Own work of this session. -/
import Derived.Test.YtkdjcmfmflljlaaDoorS1
import Derived.Test.YtkdjcmfmflljlaaDoorP7
set_option linter.unusedVariables false
namespace Go.Hw
open Go

theorem wput_from {S : Sys} {G : List Nat} : ∀ {L : List Leaf} {st st' : ML Int T4 × Nat}, wput S G L st = some st' →
    ∀ k v, mget st'.1 k = some v → mget st.1 k = some v ∨ ∃ l ∈ L, kindP S l.a ≠ 1 ∧ l.two = false ∧ v = vtT l.v
  | [], st, st', h, k, v, e => by cases h; exact .inl e
  | l :: L, st, st', h, k, v, e => by
    rw [wput] at h
    have up : ∀ {P : Prop}, (P ∨ ∃ l ∈ L, kindP S l.a ≠ 1 ∧ l.two = false ∧ v = vtT l.v) → P ∨ ∃ x ∈ l :: L, kindP S x.a ≠ 1 ∧ x.two = false ∧ v = vtT x.v := fun g => g.imp_right fun ⟨x, hx, r⟩ => ⟨x, List.mem_cons_of_mem _ hx, r⟩
    by_cases hs : l.two = true ∨ kindP S l.a = 1
    · rw [if_pos hs] at h
      exact up (wput_from h k v e)
    · rw [if_neg hs] at h
      split at h
      · cases h
      · rcases wput_from h k v e with g | g
        · rw [mget_mput] at g
          split at g
          · cases g
            refine .inr ⟨l, List.mem_cons_self .., fun e => hs (.inr e), ?_, rfl⟩
            cases h2 : l.two with
            | false => rfl
            | true => exact absurd (.inl h2) hs
          · exact .inl g
        · exact up (.inr g)
theorem vld_num (x : Int) : vld (numV x) = true := by simp [vld, numV, seq_dec']
theorem vld_num' {v : VT} (h : vld v = true) (hk : v.k = 1) : v = numV v.n := by
  rcases vld_cases h with e | e | e
  · exact e
  · rw [e] at hk; cases hk
  · rw [e] at hk; cases hk
theorem YesB.self {v : VT} (h : vld v = true) : YesB 6 v v := by
  have hs := (cmpV_sign h h rfl).2.2 rfl
  exact (yesB_iff (.inl rfl) v v).2 ⟨h, h, rfl, fun g => absurd rfl g, by rw [hs]; exact ⟨fun _ => rfl, fun g => (by cases g), fun g => (by cases g), fun g => (by cases g), fun g => (by cases g)⟩⟩
/-- All that leaves name is told. -/
theorem tells_told {S : Sys} {V : List VT} {L : List Leaf} {n : Nat} (hi : ∀ l ∈ L, l.a < n ∧ (l.two = true → l.b < n)) : ∀ {st : TSt}, st.1.length = n → (∀ i, st.1.getD i 0 ≠ 0 → (S.refs.getD i zeroE, V.getD i zeroV) ∈ st.2) →
    (∀ e ∈ st.2, e ∈ (L.foldl (tellL S V) st).2) ∧ ∀ l ∈ L, (S.refs.getD l.a zeroE, V.getD l.a zeroV) ∈ (L.foldl (tellL S V) st).2 ∧ (l.two = true → (S.refs.getD l.b zeroE, V.getD l.b zeroV) ∈ (L.foldl (tellL S V) st).2) := by
  have one : ∀ {st : TSt} {i : Nat}, i < n → st.1.length = n → (∀ i, st.1.getD i 0 ≠ 0 → (S.refs.getD i zeroE, V.getD i zeroV) ∈ st.2) →
      (tellP S V st i).1.length = n ∧ (∀ j, (tellP S V st i).1.getD j 0 ≠ 0 → (S.refs.getD j zeroE, V.getD j zeroV) ∈ (tellP S V st i).2) ∧ (∀ e ∈ st.2, e ∈ (tellP S V st i).2) ∧ (S.refs.getD i zeroE, V.getD i zeroV) ∈ (tellP S V st i).2 := fun {st i} hin hn h => by
    unfold tellP
    split
    · refine ⟨by rw [List.length_set]; exact hn, fun j hj => ?_, fun e he => List.mem_append_left _ he, List.mem_append_right _ (List.mem_singleton.2 rfl)⟩
      by_cases e : j = i
      · subst e; exact List.mem_append_right _ (List.mem_singleton.2 rfl)
      · rw [getD_set (by omega), if_neg e] at hj
        exact List.mem_append_left _ (h j hj)
    · rename_i g
      exact ⟨hn, h, fun e he => he, h i g⟩
  induction L with
  | nil => intro st hn h; exact ⟨fun e he => he, fun l hl => by cases hl⟩
  | cons l L ih =>
    intro st hn h
    rw [List.foldl_cons]
    obtain ⟨i1, i2⟩ := hi l (List.mem_cons_self ..)
    obtain ⟨a1, a2, a3, a4⟩ := one i1 hn h
    have step : (tellL S V st l).1.length = n ∧ (∀ j, (tellL S V st l).1.getD j 0 ≠ 0 → (S.refs.getD j zeroE, V.getD j zeroV) ∈ (tellL S V st l).2) ∧ (∀ e ∈ st.2, e ∈ (tellL S V st l).2) ∧ (S.refs.getD l.a zeroE, V.getD l.a zeroV) ∈ (tellL S V st l).2 ∧ (l.two = true → (S.refs.getD l.b zeroE, V.getD l.b zeroV) ∈ (tellL S V st l).2) := by
      unfold tellL
      by_cases h2 : l.two = true
      · rw [if_pos h2]
        obtain ⟨b1, b2, b3, b4⟩ := one (i2 h2) a1 a2
        exact ⟨b1, b2, fun e he => b3 e (a3 e he), b3 _ a4, fun _ => b4⟩
      · rw [if_neg h2]
        exact ⟨a1, a2, a3, a4, fun g => absurd g h2⟩
    obtain ⟨b1, b2, b3, b4, b5⟩ := step
    obtain ⟨c1, c2⟩ := ih (fun x hx => hi x (List.mem_cons_of_mem _ hx)) b1 b2
    refine ⟨fun e he => c1 e (b3 e he), fun x hx => ?_⟩
    rcases List.mem_cons.1 hx with rfl | hx
    · exact ⟨c1 _ b4, fun g => c1 _ (b5 g)⟩
    · exact c2 x hx
/-- The values with the number at i one less. -/
def dec (τ : Nat → VT) (i : Nat) (j : Nat) : VT := if j = i then { τ j with n := (τ j).n - 1 } else τ j
section
variable {refs : List ER} {C : List (List Leaf × Bool)}
structure Tells (S : Sys) (K : List (ER × VT)) (τ : Nat → VT) : Prop where
  v : ∀ i, i < S.refs.length → vld (τ i) = true
  y : ∀ l ∈ allP S, YesB l.o (τ l.a) (rhs τ l)
  k : ∀ i, i < S.refs.length → ((τ i).k = 1 ↔ kindP S i = 1)
  w : ∀ i, i < S.refs.length → (τ i).k = 1 → (τ i).n ≠ minI → ∃ l ∈ allP S, (τ l.a).k = 1 ∧ (l.a = i ∨ l.two = true ∧ l.b = i) ∧ ¬ YesB l.o (dec τ i l.a) (rhs (dec τ i) l)
  r : ∀ i, i < S.refs.length → (τ i).k = 1 → minI ≤ (τ i).n ∧ (τ i).n ≤ maxI
  m : ∀ e ∈ K, ∃ i, i < S.refs.length ∧ e = (S.refs.getD i zeroE, τ i)
  t : ∀ l ∈ allP S, (S.refs.getD l.a zeroE, τ l.a) ∈ K ∧ (l.two = true → (S.refs.getD l.b zeroE, τ l.b) ∈ K)
theorem answer_sound {K : List (ER × VT)} (h : LvsN refs C) (hK : answerP (sysP refs C) = some K) : ∃ τ, Tells (sysP refs C) K τ := by
  have hidx : ∀ l ∈ allP (sysP refs C), l.a < (sysP refs C).refs.length ∧ (l.two = true → l.b < (sysP refs C).refs.length) := fun l hl => by
    have := h.v.ok l (mem_all hl).1
    exact ⟨this.1, this.2.1⟩
  unfold answerP at hK
  split at hK
  · cases hK
  · rename_i ho
    have ho : (sysP refs C).K.any oddP = false := by simpa using ho
    obtain ⟨ks1, ks2⟩ := kinds_sound h.v ho
    obtain ⟨kr1, kr2⟩ := kind_root h.v
    split at hK
    · cases hK
    · rename_i N W hsol
      cases hK
      generalize hS : sysP refs C = S at *
      have hr : S.refs = refs := by rw [← hS]; rfl
      unfold solveP at hsol
      split at hsol
      · cases hsol
      · rename_i W' hW
        split at hsol
        · cases hsol
        · rename_i N' hN
          cases hsol
          have hsnd : (numP S (allP S)).none = false → Snd S.refs.length (fun z => False ∨ z ∈ allP S ∧ kindP S z.a = 1) (fun z => z ∈ allP S ∧ kindP S z.a = 1) (numP S (allP S)) := fun hno =>
            Snd.start.fold (fun l hl hk => ⟨hl, hk⟩) hidx (fun l hl hk => by
              have hm : l ∈ C.flatMap Prod.fst := by rw [← hS] at hl; exact (mem_all hl).1
              exact ⟨fun h2 => ⟨(h.c l hm h2).2.1, (h.c l hm h2).2.2.1⟩, h.o l hm⟩) hno
          obtain ⟨_, snd, fix, fit⟩ := settled_snd hsnd hN
          have hws := words_sound hidx hW
          have hwf : ∀ k v, mget W.M k = some v → ∃ l ∈ allP S, kindP S l.a ≠ 1 ∧ l.two = false ∧ v = vtT l.v := fun k v e => by
            unfold wordsP at hW
            split at hW
            · cases hW
            · rename_i st hst
              cases hW
              exact (wput_from hst k v e).resolve_left fun g => by cases g
          have hmem : ∀ l ∈ allP S, l ∈ C.flatMap Prod.fst ∧ countsP S l = true := fun l hl => by rw [← hS] at hl ⊢; exact mem_all hl
          have kv : ∀ i, (valueP S N W i).k = 1 ↔ kindP S i = 1 := fun i => by
            unfold valueP
            by_cases e : kindP S i = 1
            · rw [if_pos e]; exact ⟨fun _ => e, fun _ => rfl⟩
            · rw [if_neg e]
              split
              · rename_i v hv
                obtain ⟨l, hl, h1, h2, rfl⟩ := hwf _ _ hv
                have := ks1 l (hmem l hl).1 h2
                constructor
                · intro g
                  exact absurd (this.trans g) h1
                · intro g; exact absurd g e
              · exact Iff.rfl
          have vv : ∀ i, vld (valueP S N W i) = true := fun i => by
            unfold valueP
            by_cases e : kindP S i = 1
            · rw [if_pos e]; exact vld_num _
            · rw [if_neg e]
              split
              · rename_i v hv
                obtain ⟨l, hl, h1, h2, rfl⟩ := hwf _ _ hv
                exact (h.c l (hmem l hl).1 h2).2.2.2
              · have hkk : kindP S i = 2 ∨ kindP S i = 3 := by
                  unfold kindP at e ⊢
                  split
                  · exact .inl rfl
                  · split
                    · exact .inr rfl
                    · rename_i g1 g2; rw [if_neg g1, if_neg g2] at e; exact absurd rfl e
                rcases hkk with g | g <;> rw [g] <;> first | (simp [vld, seq_dec']; done) | (simp [vld, seq_dec']; exact (by decide : ((0:Nat) : Int) ≤ 256))
          have num : ∀ i, kindP S i = 1 → valueP S N W i = numV (lg N i) := fun i e => by unfold valueP; rw [if_pos e]; rfl
          have cn : ∀ l ∈ allP S, kindP S l.a = 1 → l.two = false → l.v = numV l.v.n := fun l hl hk h2 => by
            have hm := (hmem l hl).1
            exact vld_num' (h.c l hm h2).2.2.2 (by rw [← ks1 l hm h2]; exact hk)
          have kb : ∀ l ∈ allP S, l.two = true → kindP S l.b = kindP S l.a := fun l hl h2 => (kr2 l (hmem l hl).1 h2).symm
          have hV : ∀ i, i < S.refs.length → (valuesP S N W S.refs.length).getD i zeroV = valueP S N W i := fun i hi => values_get hi
          refine ⟨valueP S N W, fun i _ => vv i, fun l hl => ?_, fun i _ => kv i, fun i hi hk hm => ?_, fun i hi hk => ?_, fun e he => ?_, fun l hl => ?_⟩
          · have hR := h.o l (hmem l hl).1
            by_cases hk : kindP S l.a = 1
            · have hh := (snd.c l (.inr ⟨hl, hk⟩)).holds hR (hidx l hl).1 fix fit
              unfold HoldsN at hh
              unfold rhs
              rw [num _ hk]
              by_cases h2 : l.two = true
              · rw [if_pos h2] at hh ⊢
                rw [num _ (by rw [kb l hl h2]; exact hk)]
                exact (YesB.num hR _ _).2 hh
              · rw [if_neg h2] at hh ⊢
                rw [cn l hl hk (by simpa using h2)]
                exact (YesB.num hR _ _).2 hh
            · obtain ⟨w1, w2⟩ := hws l hl hk
              have hc := (hmem l hl).2
              unfold rhs
              by_cases h2 : l.two = true
              · rw [if_pos h2]
                have ho6 : l.o = 6 := by
                  unfold countsP at hc
                  rw [h2] at hc
                  simp [hk] at hc
                  exact hc
                have e : valueP S N W l.b = valueP S N W l.a := by
                  unfold valueP
                  rw [kb l hl h2, w1 h2]
                  rw [if_neg hk, if_neg hk]
                rw [e, ho6]
                exact YesB.self (vv _)
              · rw [if_neg h2]
                have h2 : l.two = false := by simpa using h2
                have e : valueP S N W l.a = l.v := by
                  unfold valueP
                  rw [if_neg hk, w2 h2]
                  rfl
                have hvl := (h.c l (hmem l hl).1 h2)
                have ho6 : l.o = 6 := hvl.1.resolve_right fun g => hk (by rw [ks1 l (hmem l hl).1 h2]; exact g)
                rw [e, ho6]
                exact YesB.self hvl.2.2.2
          · have hk1 := (kv i).1 hk
            rw [num i hk1] at hm
            obtain ⟨l, ⟨hl, hlk⟩, hai, hno⟩ := (snd.w i hi).less hm fix snd.t
            have hR := h.o l (hmem l hl).1
            have ed : ∀ j, kindP S j = 1 → dec (valueP S N W) i j = numV (if j = i then lg N i - 1 else lg N j) := fun j hj => by
              unfold dec
              rw [num j hj]
              by_cases e : j = i
              · subst e; rw [if_pos rfl, if_pos rfl]; rfl
              · rw [if_neg e, if_neg e]
            refine ⟨l, hl, (kv _).2 hlk, hai, fun g => hno ?_⟩
            unfold HoldsN
            unfold rhs at g
            rw [ed _ hlk] at g
            by_cases h2 : l.two = true
            · rw [if_pos h2] at g ⊢
              rw [ed _ (by rw [kb l hl h2]; exact hlk)] at g
              exact (YesB.num hR _ _).1 g
            · rw [if_neg h2] at g ⊢
              rw [cn l hl hlk (by simpa using h2)] at g
              exact (YesB.num hR _ _).1 g
          · rw [num i ((kv i).1 hk)]; exact snd.r i hi
          · obtain ⟨i, hi, e⟩ := tells_mem hidx (st := (List.replicate S.refs.length 0, [])) (fun _ g => by cases g) e he
            exact ⟨i, hi, by rw [e, hV i hi]⟩
          · have hrep : ∀ i, (List.replicate S.refs.length (0 : Int)).getD i 0 = 0 := fun i => by
              rw [List.getD_eq_getElem?_getD, List.getElem?_replicate]; split <;> rfl
            obtain ⟨_, t2⟩ := tells_told (S := S) (V := valuesP S N W S.refs.length) hidx (st := (List.replicate S.refs.length 0, [])) List.length_replicate (fun i g => absurd (hrep i) g)
            obtain ⟨i1, i2⟩ := hidx l hl
            obtain ⟨u1, u2⟩ := t2 l hl
            rw [hV _ i1] at u1
            exact ⟨u1, fun g => by have := u2 g; rw [hV _ (i2 g)] at this; exact this⟩
/-! ## references are told apart -/
def Dst (r : List ER) : Prop := ∀ i j, i < r.length → j < r.length → r.getD i zeroE = r.getD j zeroE → i = j
theorem idxP_no {e : ER} : ∀ {l : List ER}, idxP e l = none → ∀ i, i < l.length → l.getD i zeroE ≠ e
  | [], _, i, hi => absurd hi (Nat.not_lt_zero _)
  | x :: l, h, i, hi => by
    rw [idxP] at h
    split at h
    · cases h
    · rename_i hs
      have h : idxP e l = none := Option.map_eq_none_iff.1 h
      cases i with
      | zero => intro g; exact hs ((sameE_iff _ _).2 g)
      | succ i => rw [List.getD_cons_succ]; exact idxP_no h i (by simpa using hi)
theorem Dst.place {r : List ER} (h : Dst r) (e : ER) : Dst (placeP r e).1 := by
  unfold placeP
  cases hx : idxP e r with
  | some i => exact h
  | none =>
    have hn := idxP_no hx
    intro i j hi hj he
    simp only [List.length_append, List.length_singleton] at hi hj
    have g : ∀ k, k < r.length → (r ++ [e]).getD k zeroE = r.getD k zeroE := fun k hk => by
      rw [List.getD_eq_getElem?_getD, List.getElem?_append_left hk, ← List.getD_eq_getElem?_getD]
    have gl : (r ++ [e]).getD r.length zeroE = e := by
      rw [List.getD_eq_getElem?_getD, List.getElem?_append_right (Nat.le_refl _), Nat.sub_self]; rfl
    simp only at he
    by_cases ei : i = r.length
    · by_cases ej : j = r.length
      · omega
      · subst ei
        rw [gl, g j (by omega)] at he
        exact absurd he.symm (hn j (by omega))
    · by_cases ej : j = r.length
      · subst ej
        rw [gl, g i (by omega)] at he
        exact absurd he (hn i (by omega))
      · rw [g i (by omega), g j (by omega)] at he
        exact h i j (by omega) (by omega) he
theorem Dst.leaf {r : List ER} (h : Dst r) (s : Side) : Dst (leafP r s).1 := by
  unfold leafP
  split
  · exact (h.place _).place _
  · exact h.place _
theorem Dst.cfold : ∀ {L : List (ER × Fo)} {st : CSt}, Dst st.1 → Dst (L.foldl cstep st).1
  | [], _, h => h
  | x :: L, st, h => by
    rw [List.foldl_cons]
    refine Dst.cfold ?_
    unfold cstep
    split
    · exact h
    · exact h.leaf _
theorem Dst.rfold : ∀ {L : List (ER × Fo)} {st : RSt}, Dst st.1 → Dst (L.foldl rstep st).1
  | [], _, h => h
  | x :: L, st, h => by
    rw [List.foldl_cons]
    exact Dst.rfold (Dst.cfold (L := leavesP x.1 x.2) (st := (st.1, [], true)) h)
theorem read_dst (conds : List (ER × Fo)) : Dst (readP conds).1 := Dst.rfold (L := conds) (st := ([], [])) fun i j hi => absurd hi (Nat.not_lt_zero _)
end
end Go.Hw
