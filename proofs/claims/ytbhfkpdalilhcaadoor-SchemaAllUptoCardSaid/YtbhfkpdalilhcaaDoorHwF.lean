/- Regions that draw their order: one order, planned ahead, serves all. Own work of this session, over the kit's 'wpAny', 'YieldsIf'. -/
import Derived.Test.YtbhfkpdalilhcaaDoorHwE
namespace Go.Hw
open Go

section
variable {P : Program} {ops : Array Oper} {Q : Exit → Act → World → Prop} {S S' : Array Bool → World → Prop}

/-- Whatever order is picked from here on, and 'S' holds behind every operation that is carried out. -/
def wpAnyS (P : Program) (ops : Array Oper) (Q : Exit → Act → World → Prop) (S : Array Bool → World → Prop) : Nat → Array Bool → Act → World → Prop
  | 0, listed, a, w => Region.ready .any ops listed = [] ∧ Q .normal a w
  | fuel + 1, listed, a, w =>
    (Region.ready .any ops listed = [] → Q .normal a w) ∧
    ∀ i ∈ Region.ready .any ops listed, wpOp P ops Q i (fun a' w' => S (listed.setIfInBounds i true) w' ∧ wpAnyS P ops Q S fuel (listed.setIfInBounds i true) a' w') a w

theorem wpAny_of_S : ∀ (fuel : Nat) (listed : Array Bool) (a : Act) (w : World), wpAnyS P ops Q S fuel listed a w → wpAny P .any ops Q fuel listed a w
  | 0, _, _, _, h => h
  | fuel + 1, _, _, _, h => ⟨h.1, fun i hi => wpOp_mono (fun a' w' h' => wpAny_of_S fuel _ a' w' h'.2) (h.2 i hi)⟩

theorem wpAnyS_mono (hS : ∀ l w, S l w → S' l w) : ∀ (fuel : Nat) (listed : Array Bool) (a : Act) (w : World), wpAnyS P ops Q S fuel listed a w → wpAnyS P ops Q S' fuel listed a w
  | 0, _, _, _, h => h
  | fuel + 1, _, _, _, h => ⟨h.1, fun i hi => wpOp_mono (fun a' w' h' => ⟨hS _ _ h'.1, wpAnyS_mono hS fuel _ a' w' h'.2⟩) (h.2 i hi)⟩

/-- 's' waits for 'i', outright. -/
def waitsOn (ops : Array Oper) (s i : Nat) : Bool := ((ops[s]?).map (·.after.any fun e => Region.binds .any e && e.on == i)).getD false

def SU (K : List Nat) (S : Array Bool → World → Prop) (w : World) : Prop := ∃ l : Array Bool, (∀ s ∈ K, l.getD s false = false) ∧ S l w

theorem getD_false {l : Array Bool} {s : Nat} (h : l.getD s true = false) : l.getD s false = false := by
  simp only [Array.getD_eq_getD_getElem?] at *
  cases h2 : l[s]? with
  | none => rfl
  | some b => simpa [h2] using h

theorem wpAnyS_first {i : Nat} {oi : Oper} {v : Value} {K : List Nat} (hi : ops[i]? = some oi) (hsel : ∀ (j : Nat) (o : Oper) cs b, ops[j]? = some o → o.op ≠ .select cs b)
    (hQ : ∀ c a w, Q (.panic c) (a.put oi.dst v) w → Q (.panic c) a w) (hSi : ∀ l w, S (l.setIfInBounds i true) w ↔ S l w) (hK : ∀ s ∈ K, waitsOn ops s i = true) :
    ∀ (fuel : Nat) (listed : Array Bool) (a : Act) (w : World),
      (∀ j oj, ops[j]? = some oj → j ≠ i → listed.getD j true = false → (∀ e ∈ oj.after, Region.binds .any e = true → e.on ≠ i) → oi.apart ops oj = true) →
      i ∈ Region.ready .any ops listed → (∀ s ∈ K, listed.getD s false = false) → YieldsIf P ops (SU K S) oi v a → S listed w →
      wpAnyS P ops Q S fuel (listed.setIfInBounds i true) (a.put oi.dst v) w → wpAnyS P ops Q S (fuel + 1) listed a w := by
  intro fuel
  have notK : ∀ (listed : Array Bool) (j : Nat), i ∈ Region.ready .any ops listed → j ∈ Region.ready .any ops listed → (∀ s ∈ K, s ≠ j) := by
    intro listed j hir hj s hs e
    subst e
    have hw := hK s hs
    obtain ⟨_, oj, hoj, hall⟩ := mem_ready.1 hj
    simp only [waitsOn, hoj, Option.map_some, Option.getD_some, Array.any_eq_true'] at hw
    obtain ⟨e, he, hb⟩ := hw
    simp only [Bool.and_eq_true, beq_iff_eq] at hb
    have h1 := hall e he hb.1
    have h0 := (mem_ready.1 hir).1
    rw [hb.2] at h1
    rcases Nat.lt_or_ge i listed.size with h' | h'
    · simp [h'] at h0 h1; rw [h0] at h1; cases h1
    · simp [Array.getElem?_eq_none h'] at h1
  have setK : ∀ (listed : Array Bool) (j : Nat), (∀ s ∈ K, s ≠ j) → (∀ s ∈ K, listed.getD s false = false) → (∀ s ∈ K, (listed.setIfInBounds j true).getD s false = false) := by
    intro listed j hne h s hs
    have h1 := hne s hs
    have h2 := h s hs
    simp only [Array.getD_eq_getD_getElem?] at *
    rw [Array.getElem?_setIfInBounds_ne (Ne.symm h1)]
    exact h2
  induction fuel with
  | zero =>
    intro listed a w _ hr hk hy hS H
    refine ⟨fun h => (by rw [h] at hr; cases hr), fun j hj => ?_⟩
    by_cases hji : j = i
    · subst hji; exact hy.wpOp hi ⟨listed, hk, hS⟩ ⟨(hSi _ _).2 hS, H⟩
    · have := ready_mono hj hji
      rw [H.1] at this
      cases this
  | succ fuel ih =>
    intro listed a w hfree hr hk hy hS H
    refine ⟨fun h => (by rw [h] at hr; cases hr), fun j hj => ?_⟩
    by_cases hji : j = i
    · subst hji; exact hy.wpOp hi ⟨listed, hk, hS⟩ ⟨(hSi _ _).2 hS, H⟩
    · have h1 := H.2 j (ready_mono hj hji)
      obtain ⟨hjun, oj, hoj, hall⟩ := mem_ready.1 hj
      have hnot : ∀ e ∈ oj.after, Region.binds .any e = true → e.on ≠ i := fun e he hb heq => by
        have h1 := hall e he hb
        have h0 := (mem_ready.1 hr).1
        rw [heq] at h1
        rcases Nat.lt_or_ge i listed.size with h' | h'
        · simp [h'] at h0 h1; rw [h0] at h1; cases h1
        · simp [Array.getElem?_eq_none h'] at h1
      have h2 := wpOp_putIf hoj (hfree j oj hoj hji hjun hnot) (fun cs b => hsel i oi cs b hi) (fun cs b => hsel j oj cs b hoj) hQ hy h1
      have hfree' : ∀ k ok, ops[k]? = some ok → k ≠ i → (listed.setIfInBounds j true).getD k true = false →
          (∀ e ∈ ok.after, Region.binds .any e = true → e.on ≠ i) → oi.apart ops ok = true := fun k ok hk hki hun hno => by
        refine hfree k ok hk hki ?_ hno
        by_cases hjk : j = k
        · subst hjk; exact hjun
        · rw [getD_set_ne true hjk] at hun; exact hun
      refine wpOp_mono (fun a' w' h3 => ?_) h2
      have hS' : S (listed.setIfInBounds j true) w'   := (hSi _ _).1 (by rw [Array.setIfInBounds_comm _ _ hji]; exact h3.2.1)
      refine ⟨hS', ih (listed.setIfInBounds j true) a' w' hfree' (ready_mono hr (Ne.symm hji)) (setK _ _ (notK _ _ hr hj) hk) h3.1 hS' ?_⟩
      rw [Array.setIfInBounds_comm _ _ hji]
      exact h3.2.2
end

/-! ## a plan: which operation is taken next; of a load: which ones may not come up ahead of it -/
abbrev Plan := List (Nat × Option (List Nat))

def planOk (ops : Array Oper) : Plan → Array Bool → Bool
  | [], listed => (Region.ready .any ops listed).isEmpty
  | (i, some K) :: rest, listed =>
    (Region.ready .any ops listed).contains i && Region.free .any ops listed i && K.all (fun s => !listed.getD s false && waitsOn ops s i && !rest.any (fun p => p.1 == s && p.2.isSome) && s != i) && planOk ops rest (listed.setIfInBounds i true)
  | (i, none) :: rest, listed => if ops.size ≤ i then true else (Region.ready .any ops listed == [i]) && planOk ops rest (listed.setIfInBounds i true)

abbrev Clauses := List (List Nat × (Hp → Prop))
def SC (C : Clauses) (listed : Array Bool) (H : Hp) : Prop := ∀ c ∈ C, (∀ s ∈ c.1, listed.getD s false = false) → c.2 H

/-- What is asked of the clauses: none of the operations that are still to be taken first ends one. -/
def Apart (C : Clauses) (plan : Plan) : Prop := ∀ c ∈ C, ∀ s ∈ c.1, ∀ p ∈ plan, p.2.isSome = true → s ≠ p.1

def Post.np (Q : Post) : Post
  | .panic _, _, _ => False
  | e, ρ, H => Q e ρ H

def HPlan (P : Program) (w0 : World) (n : Nat) (ops : Array Oper) (Q : Post) (C : Clauses) (plan : Plan) (listed : Array Bool) (ρ : Env) (H : Hp) : Prop :=
  Region.noSelect ops = true → planOk ops plan listed = true → Apart C plan → SC C listed H →
    ∀ a w, Sim n a ρ → Ok w0 w → w.heap = H → wpAnyS P ops (lift w0 n Q.np) (fun l w => Ok w0 w ∧ SC C l w.heap) plan.length listed a w

section
variable {P : Program} {w0 : World} {n : Nat} {ops : Array Oper} {Q : Post} {C : Clauses} {plan : Plan} {listed : Array Bool} {ρ : Env} {H : Hp}

theorem HW.draw {id : Nat} (hm : P.follows .mixedOrders = true) (plan : Plan) (hl : plan.length = ops.size) (hn : Region.noSelect ops = true) (hp : planOk ops plan (Array.replicate ops.size false) = true)
    (h : HPlan P w0 n ops Q [] plan (Array.replicate ops.size false) ρ H) : HW P w0 n (.region id ops true) Q ρ H := by
  intro a w hs ho hh
  have key := h hn hp (fun c hc => by cases hc) (fun c hc => by cases hc) a { w with drawn := w.drawn + 1 } hs (ho.of_eq rfl rfl rfl (KeepsF.refl _)) hh
  rw [hl] at key
  refine wp_mono (wp_region_any hm (wpAny_of_S _ _ _ _ key)) ?_
  rintro e a' w' ⟨h1, ρ', h2, h3⟩
  refine ⟨h1, ρ', h2, ?_⟩
  cases e <;> first | exact h3 | exact h3.elim

theorem HPlan.done (h : Q .normal ρ H) : HPlan P w0 n ops Q C [] listed ρ H := by
  intro _ hp _ _ a w hs ho hh
  simp only [planOk, List.isEmpty_iff] at hp
  exact ⟨hp, ho, ρ, hs, by rw [hh]; exact h⟩

/-- An operation that effects something: it alone may come up. Behind it: what the clauses say of the heap. -/
theorem planOk_op {i : Nat} {o : Oper} {rest : Plan} (hi : ops[i]? = some o) (h : planOk ops ((i, none) :: rest) listed = true) : Region.ready .any ops listed = [i] ∧ planOk ops rest (listed.setIfInBounds i true) = true := by
  have hlt := (Array.getElem?_eq_some_iff.1 hi).1
  rw [planOk, if_neg (by omega)] at h
  simpa only [Bool.and_eq_true, beq_iff_eq] using h

theorem HPlan.op {i : Nat} {o : Oper} {K : Value → Hp → Prop} (hi : ops[i]? = some o) (hd : dstOk n o.dst = true) (hg : o.guard = none) (h : HOp P w0 n o ρ H K)
    (k : ∀ v H', K v H' → SC C (listed.setIfInBounds i true) H' ∧ HPlan P w0 n ops Q C plan (listed.setIfInBounds i true) (ρ.put o.dst v) H') : HPlan P w0 n ops Q C ((i, none) :: plan) listed ρ H := by
  intro hn hp ha hc a w hs ho hh
  replace hp := planOk_op hi hp
  refine ⟨fun h0 => (by rw [hp.1] at h0; cases h0), fun j hj => ?_⟩
  rw [hp.1] at hj
  simp only [List.mem_singleton] at hj
  subst hj
  unfold wpOp
  simp only [hi]
  rw [if_pos (by simp [Region.wanted, hg])]
  refine .inl (h a w hs ho hh _ _ fun v w' ho' hv => ?_)
  obtain ⟨h1, h2⟩ := k v w'.heap hv
  exact ⟨⟨ho', h1⟩, h2 hn hp.2 (fun c hc s hs p hp => ha c hc s hs p (List.mem_cons_of_mem _ hp)) h1 _ _ (hs.put hd v) ho' rfl⟩

theorem HPlan.gop {i j d : Nat} {want : Bool} {o : Oper} {K : Value → Hp → Prop} (hi : ops[i]? = some o) (hd : dstOk n o.dst = true) (hg : o.guard = some (j, want)) (hj : (ops[j]?).bind (·.dst) = some d) (hdn : Nat.blt d n = true) (hb : ρ d = .bool want) (h : HOp P w0 n o ρ H K)
    (k : ∀ v H', K v H' → SC C (listed.setIfInBounds i true) H' ∧ HPlan P w0 n ops Q C plan (listed.setIfInBounds i true) (ρ.put o.dst v) H') : HPlan P w0 n ops Q C ((i, none) :: plan) listed ρ H := by
  intro hn hp ha hc a w hs ho hh
  replace hp := planOk_op hi hp
  refine ⟨fun h0 => (by rw [hp.1] at h0; cases h0), fun j' hj' => ?_⟩
  rw [hp.1] at hj'
  simp only [List.mem_singleton] at hj'
  subst hj'
  unfold wpOp
  simp only [hi]
  rw [if_pos (by rw [wanted_of hs hg hj hdn hb]; simp)]
  refine .inl (h a w hs ho hh _ _ fun v w' ho' hv => ?_)
  obtain ⟨h1, h2⟩ := k v w'.heap hv
  exact ⟨⟨ho', h1⟩, h2 hn hp.2 (fun c hc s hs p hp => ha c hc s hs p (List.mem_cons_of_mem _ hp)) h1 _ _ (hs.put hd v) ho' rfl⟩

/-! ### several may come up: each of them, with a plan of its own behind it -/
def apartK (Ks : List (List Nat)) (plan : Plan) : Bool := Ks.all fun K => K.all fun s => plan.all fun p => !(p.2.isSome && p.1 == s)
theorem Apart.ofK (h : apartK (C.map (·.1)) plan = true) : Apart C plan := by
  intro c hc s hs p hp hpi e
  unfold apartK at h
  have h1 := List.all_eq_true.1 h c.1 (List.mem_map_of_mem hc)
  have h2 := List.all_eq_true.1 (List.all_eq_true.1 h1 s hs) p hp
  simp [hpi, e] at h2

def HBr (P : Program) (w0 : World) (n : Nat) (ops : Array Oper) (Q : Post) (C : Clauses) (m : Nat) (listed : Array Bool) (ρ : Env) (H : Hp) (i : Nat) : Prop :=
  ∀ a w, Sim n a ρ → Ok w0 w → w.heap = H → wpOp P ops (lift w0 n Q.np) i (fun a' w' => (Ok w0 w' ∧ SC C (listed.setIfInBounds i true) w'.heap) ∧ wpAnyS P ops (lift w0 n Q.np) (fun l w => Ok w0 w ∧ SC C l w.heap) m (listed.setIfInBounds i true) a' w') a w

theorem HBr.op {m i : Nat} {o : Oper} {K : Value → Hp → Prop} (p : Plan) (hl : p.length = m) (hn : Region.noSelect ops = true) (hp : planOk ops p (listed.setIfInBounds i true) = true) (ha : apartK (C.map (·.1)) p = true)
    (hi : ops[i]? = some o) (hd : dstOk n o.dst = true) (hg : o.guard = none) (h : HOp P w0 n o ρ H K)
    (k : ∀ v H', K v H' → SC C (listed.setIfInBounds i true) H' ∧ HPlan P w0 n ops Q C p (listed.setIfInBounds i true) (ρ.put o.dst v) H') : HBr P w0 n ops Q C m listed ρ H i := by
  intro a w hs ho hh
  unfold wpOp
  simp only [hi]
  rw [if_pos (by simp [Region.wanted, hg])]
  refine .inl (h a w hs ho hh _ _ fun v w' ho' hv => ?_)
  obtain ⟨h1, h2⟩ := k v w'.heap hv
  refine ⟨⟨ho', h1⟩, ?_⟩
  have := h2 hn hp (Apart.ofK ha) h1 _ _ (hs.put hd v) ho' rfl
  rwa [hl] at this

theorem HPlan.fork {s : Nat} (R : List Nat) (hr : Region.ready .any ops listed = R) (h0 : R ≠ []) (h : ∀ i ∈ R, HBr P w0 n ops Q C plan.length listed ρ H i) : HPlan P w0 n ops Q C ((s, none) :: plan) listed ρ H := by
  intro hn hp ha hc a w hs ho hh
  refine ⟨fun e => absurd (hr.symm.trans e) h0, fun i hi => ?_⟩
  rw [hr] at hi
  exact h i hi a w hs ho hh
theorem HPlan.fork2 {s i j : Nat} (hr : Region.ready .any ops listed = [i, j]) (hi : HBr P w0 n ops Q C plan.length listed ρ H i) (hj : HBr P w0 n ops Q C plan.length listed ρ H j) : HPlan P w0 n ops Q C ((s, none) :: plan) listed ρ H :=
  HPlan.fork [i, j] hr (by simp) fun k hk => by
    simp only [List.mem_cons, List.not_mem_nil, or_false] at hk
    rcases hk with rfl | rfl
    · exact hi
    · exact hj
theorem HPlan.fork3 {s i j k : Nat} (hr : Region.ready .any ops listed = [i, j, k]) (hi : HBr P w0 n ops Q C plan.length listed ρ H i) (hj : HBr P w0 n ops Q C plan.length listed ρ H j) (hk : HBr P w0 n ops Q C plan.length listed ρ H k) : HPlan P w0 n ops Q C ((s, none) :: plan) listed ρ H :=
  HPlan.fork [i, j, k] hr (by simp) fun q hq => by
    simp only [List.mem_cons, List.not_mem_nil, or_false] at hq
    rcases hq with rfl | rfl | rfl
    · exact hi
    · exact hj
    · exact hk

theorem getD_set_other {l : Array Bool} {i s : Nat} (h : s ≠ i) : (l.setIfInBounds i true).getD s false = l.getD s false := by
  simp only [Array.getD_eq_getD_getElem?]
  rw [Array.getElem?_setIfInBounds_ne (Ne.symm h)]

theorem SC.set_iff {C : Clauses} {l : Array Bool} {i : Nat} {H : Hp} (h : ∀ c ∈ C, ∀ s ∈ c.1, s ≠ i) : SC C (l.setIfInBounds i true) H ↔ SC C l H := by
  constructor
  · intro hc c hm hk
    exact hc c hm fun s hs => by rw [getD_set_other (h c hm s hs)]; exact hk s hs
  · intro hc c hm hk
    exact hc c hm fun s hs => by have := hk s hs; rwa [getD_set_other (h c hm s hs)] at this

/-- What it is that an operation which is taken first yields: its value, or nothing where its guard says no. -/
def Yv (P : Program) (ops : Array Oper) (n : Nat) (o : Oper) (ρ : Env) (φ : Hp → Prop) (v : Value) : Prop :=
  (o.guard = none ∧ ∀ H, φ H → HVal P o ρ H v) ∨
  ∃ j want d, o.guard = some (j, want) ∧ (ops[j]?).bind (·.dst) = some d ∧ Nat.blt d n = true ∧
    ((ρ d = .bool want ∧ ∀ H, φ H → HVal P o ρ H v) ∨ ((ρ d = .bool (!want) ∨ ρ d = undef) ∧ v = undef))

theorem HPlan.take {i : Nat} {o : Oper} {v : Value} {K : List Nat} (φ : Hp → Prop) (hi : ops[i]? = some o) (hd : dstOk n o.dst = true) (hy : Yv P ops n o ρ φ v) (hφ : φ H)
    (k : HPlan P w0 n ops Q ((K, φ) :: C) plan (listed.setIfInBounds i true) (ρ.put o.dst v) H) : HPlan P w0 n ops Q C ((i, some K) :: plan) listed ρ H := by
  intro hn hp ha hc a w hs ho hh
  simp only [planOk, Bool.and_eq_true, List.all_eq_true, Bool.not_eq_true', bne_iff_ne, ne_eq] at hp
  obtain ⟨⟨⟨hr, hf⟩, hK⟩, hp⟩ := hp
  have hr' : i ∈ Region.ready .any ops listed := by simpa using hr
  have ha' : Apart ((K, φ) :: C) plan := by
    intro c hc s hs p hpm hpi e
    rcases List.mem_cons.1 hc with rfl | hc
    · have h3 := (hK s hs).1.2
      have : (plan.any fun p => p.1 == s && p.2.isSome) = true := List.any_eq_true.2 ⟨p, hpm, by simp [e, hpi]⟩
      rw [this] at h3
      cases h3
    · exact ha c hc s hs p (List.mem_cons_of_mem _ hpm) hpi e
  have hne : ∀ c ∈ (K, φ) :: C, ∀ s ∈ c.1, s ≠ i := by
    intro c hc s hs
    rcases List.mem_cons.1 hc with rfl | hc
    · exact (hK s hs).2
    · exact ha c hc s hs (i, some K) (by simp) rfl
  have hc' : SC ((K, φ) :: C) listed H := by
    intro c hcm hk
    rcases List.mem_cons.1 hcm with rfl | hcm
    · exact hφ
    · exact hc c hcm hk
  have hc2 := (SC.set_iff (l := listed) (i := i) (H := H) hne).2 hc'
  have key := k hn hp ha' hc2 _ w (hs.put hd v) ho hh
  have weak : ∀ (l : Array Bool) (w : World), (Ok w0 w ∧ SC ((K, φ) :: C) l w.heap) → (Ok w0 w ∧ SC C l w.heap) := fun l w ⟨h1, h2⟩ => ⟨h1, fun c hcm => h2 c (List.mem_cons_of_mem _ hcm)⟩
  refine wpAnyS_mono weak _ _ _ _ ?_
  refine wpAnyS_first (K := K) hi (Region.noSelect_spec hn) (fun c a w h => ?_) (fun l w => ?_) (fun s hs => (hK s hs).1.1.2) _ listed a w (Region.free_spec hi hf) hr' (fun s hs => (hK s hs).1.1.1) ?_ ⟨ho, by rw [hh]; exact hc'⟩ key
  · obtain ⟨_, _, _, h3⟩ := h; exact h3.elim
  · simp only [SC.set_iff (l := l) (i := i) (H := w.heap) hne]
  · rcases hy with ⟨hg, hv⟩ | ⟨j, want, d, hg, hj, hdn, hv | ⟨hv, rfl⟩⟩
    · refine .inl ⟨by simp [Region.wanted, hg], fun w' ⟨l, hk, hl⟩ => ?_⟩
      rw [hs.eval]
      exact hv w'.heap (hl.2 (K, φ) (by simp) hk) w' rfl
    · refine .inl ⟨by rw [wanted_of hs hg hj hdn hv.1]; simp, fun w' ⟨l, hk, hl⟩ => ?_⟩
      rw [hs.eval]
      exact hv.2 w'.heap (hl.2 (K, φ) (by simp) hk) w' rfl
    · refine .inr ⟨?_, rfl⟩
      rcases hv with hv | hv
      · rw [wanted_of hs hg hj hdn hv]; cases want <;> rfl
      · rw [wanted_undef hs hg hj hdn hv]

end
end Go.Hw
