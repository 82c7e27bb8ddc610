/- The reference's functions. Own work of this session. -/
import Derived.Test.YtmjoeilahbfonaaDoorD7
set_option linter.unusedVariables false
namespace Go.Hw
open Go

section
variable {H : Hp} {p q : Sl} {L M : List Int}

theorem c44 {Q : Sl → Hp → Prop} (h : Iv H p L) (hQ : ∀ r H', Lst iF H' r L → Kp No H H' → (∀ b, r.at b → H.size ≤ b) → Q r H') : F44 p H Q := by
  have hn := h.rd.n
  have hl := h.l
  intro X hX
  suffices G : ∀ (d i : Nat) (s : Sl) (H' : Hp), i + d = L.length → Lst iF H' s (L.take i) → (∀ b, s.at b → H.size ≤ b) → Kp No H H' → X s (i : Int) H' from
    G L.length 0 Sl.nil H (by omega) (Lst.nil _ _) (fun b hb => by cases hb) (Kp.refl _ _)
  intro d
  induction d with
  | zero =>
    intro i s H' hi ls hs k
    rw [List.take_of_length_le (by omega)] at ls
    exact hX _ _ _ ⟨fun hh => absurd (of_decide_eq_true hh) (by omega), fun _ => hQ s H' ls k hs⟩
  | succ d ih =>
    intro i s H' hi ls hs k
    have gi : L[i]? = some (L[i]'(by omega)) := List.getElem?_eq_getElem (by omega)
    obtain ⟨a, hab, _, ca⟩ := (h.no k).rd.get gi
    have sk := k.size
    refine hX _ _ _ ⟨fun _ => ⟨a, hab, by omega, by omega, _, ca.1, fun H11 e11 => ?_⟩, fun hh => absurd (of_decide_eq_false hh) (by omega)⟩
    have k11 : Kp No H' H11 := (Kp.refl No _).push' e11
    have bx : Row H11 H'.size 3 (iF.f (L[i]'(by omega))) := Row.new' e11
    have htl : (L.take i).length = i := by rw [List.length_take]; omega
    have s11 := size_push' e11
    refine (ls.kp k11 fun _ _ => id).append1 bx rfl (by omega) (by omega) fun r H13 lr k13 hr => ?_
    rw [wr (by omega) (by omega)]
    refine ih (i + 1) r H13 (by omega) ?_ (fun b hb => ?_) ((k.trans k11 fun _ h => h.elim).trans k13 fun b hb => .inr (hs b hb))
    · have : L.take (i + 1) = L.take i ++ [L[i]'(by omega)] := by simp
      rw [this]; exact lr
    · rcases hr b hb with hb | hb
      · exact hs b hb
      · omega

theorem c45 {Q : Bool → Hp → Prop} (h : Iv H p L) (hQ : Q (valid L) H) : F45 p H Q := by
  have hn := h.rd.n
  have hl := h.l
  have out : ¬ (0 < L.length ∧ L.length ≤ 64) → Q false H := fun hh => by
    have : valid L = false := by
      rw [Bool.eq_false_iff]
      intro hv
      have := valid_mem hv
      exact hh ⟨this.1, this.2.1⟩
    rw [← this]; exact hQ
  refine ⟨fun hh => ⟨fun _ => out fun h => ?_, fun h => (by cases h)⟩, fun hh => ⟨fun h2 => out fun h => ?_, fun h2 => ?_⟩⟩
  · have := of_decide_eq_true hh; omega
  · have := of_decide_eq_true h2; omega
  · have hh := of_decide_eq_false hh
    have h2 := of_decide_eq_false h2
    intro X hX
    suffices G : ∀ (d i : Nat), i + d = L.length → (∀ x ∈ L.take i, 0 ≤ x ∧ x ≤ 2147483647) → X (i : Int) H from G L.length 0 (by omega) (by simp)
    intro d
    induction d with
    | zero =>
      intro i hi ha
      rw [List.take_of_length_le (by omega)] at ha
      have : valid L = true := by
        unfold valid
        simp only [Bool.and_eq_true, decide_eq_true_eq, List.all_eq_true]
        exact ⟨⟨by omega, by omega⟩, ha⟩
      rw [this] at hQ
      exact hX _ _ ⟨fun hh => absurd (of_decide_eq_true hh) (by omega), fun _ => hQ⟩
    | succ d ih =>
      intro i hi ha
      have gi : L[i]? = some (L[i]'(by omega)) := List.getElem?_eq_getElem (by omega)
      obtain ⟨a, hab, _, ca⟩ := h.rd.get gi
      have hmem : L[i]'(by omega) ∈ L := List.getElem_mem _
      have bad : ¬ (0 ≤ L[i]'(by omega) ∧ L[i]'(by omega) ≤ 2147483647) → Q false H := fun hb => by
        have : valid L = false := by
          rw [Bool.eq_false_iff]
          intro hv
          exact hb ((valid_mem hv).2.2 _ hmem)
        rw [← this]; exact hQ
      refine hX _ _ ⟨fun _ => ⟨a, hab, by omega, by omega, _, ca.1, fun h3 => ⟨fun _ => bad fun hb => absurd (of_decide_eq_true h3) (by omega), fun h => (by cases h)⟩, fun h3 => ⟨a, hab, by omega, by omega, _, ca.1, fun h4 => bad fun hb => absurd (of_decide_eq_true h4) (by omega), fun h4 => ?_⟩⟩, fun h => absurd (of_decide_eq_false h) (by omega)⟩
      have h3 := of_decide_eq_false h3
      have h4 := of_decide_eq_false h4
      rw [wr (by omega) (by omega)]
      refine ih (i + 1) (by omega) fun x hx => ?_
      have : L.take (i + 1) = L.take i ++ [L[i]'(by omega)] := by simp
      rw [this] at hx
      rcases List.mem_append.1 hx with hx | hx
      · exact ha x hx
      · rw [List.mem_singleton] at hx
        rw [hx]; omega

theorem c46 {Q : Int → Hp → Prop} (ha : Iv H p L) (hb : Iv H q M) (hQ : Q (cp L M) H) : F46 p q H Q := by
  have hna := ha.rd.n
  have hnb := hb.rd.n
  have hla := ha.l
  have hlb := hb.l
  intro X hX
  suffices G : ∀ (d i : Nat), i + d = min L.length M.length → (∀ j, j < i → L[j]? = M[j]?) → X (i : Int) H from G (min L.length M.length) 0 (by omega) fun j hj => by omega
  intro d
  induction d with
  | zero =>
    intro i hi he
    rw [cp_is he (by omega) (by omega) (by omega)] at hQ
    exact hX _ _ ⟨fun h1 => ⟨fun h2 => absurd (of_decide_eq_true h2) (by have := of_decide_eq_true h1; omega), fun _ => hQ⟩, fun _ => hQ⟩
  | succ d ih =>
    intro i hi he
    have gi : L[i]? = some (L[i]'(by omega)) := List.getElem?_eq_getElem (by omega)
    have gj : M[i]? = some (M[i]'(by omega)) := List.getElem?_eq_getElem (by omega)
    obtain ⟨a, hab, _, ca⟩ := ha.rd.get gi
    obtain ⟨b, hbb, _, cb⟩ := hb.rd.get gj
    refine hX _ _ ⟨fun _ => ⟨fun _ => ⟨a, hab, by omega, by omega, _, ca.1, b, hbb, by omega, by omega, _, cb.1, fun hh => ?_, fun hh => ?_⟩, fun h => absurd (of_decide_eq_false h) (by omega)⟩, fun h => absurd (of_decide_eq_false h) (by omega)⟩
    · have heq := of_decide_eq_true hh
      rw [wr (by omega) (by omega)]
      refine ih (i + 1) (by omega) fun j hj => ?_
      by_cases hji : j = i
      · subst hji; rw [gi, gj, heq]
      · exact he j (by omega)
    · have hne := of_decide_eq_false hh
      rw [cp_is he (by omega) (.inr (.inr (by rw [gi, gj]; intro h; injection h with h; exact hne h))) (by omega)] at hQ
      exact hQ

theorem c35 {Q : Sl → Hp → Prop} (h : Iv H p L) (hQ : ∀ r H', Lst iF H' r (L ++ [0]) → Kp No H H' → (∀ b, r.at b → H.size ≤ b) → Q r H') : F35 p H Q := by
  have hl := h.l
  refine c44 h fun s H1 ls k1 hs => fun H4 e4 => ?_
  have k4 : Kp No H1 H4 := (Kp.refl No _).push' e4
  have bx : Row H4 H1.size 3 (iF.f 0) := Row.new' e4
  have s1 := k1.size
  have s4 := size_push' e4
  refine (ls.kp k4 fun _ _ => id).append1 bx rfl (by omega) (by omega) fun r H6 lr k6 hr => hQ r H6 lr ((k1.trans k4 fun _ h => h.elim).trans k6 fun b hb => .inr (hs b hb)) fun b hb => ?_
  rcases hr b hb with hb | hb
  · exact hs b hb
  · omega

theorem c36 {Q : Sl → Int → Hp → Prop} (h : Iv H p L) (q0 : valid L = false → Q Sl.nil 120 H) (q1 : valid L = true → lastOf L = 2147483647 → ∀ H', Kp No H H' → Q Sl.nil 4 H')
    (q2 : valid L = true → lastOf L ≠ 2147483647 → ∀ r H', Lst iF H' r (L.dropLast ++ [lastOf L + 1]) → Kp No H H' → (∀ b, r.at b → H.size ≤ b) → Q r 0 H') : F36 p H Q := by
  have hl := h.l
  refine c45 h ⟨fun hh => q0 (by simpa using hh), fun hh => ?_⟩
  have hv : valid L = true := by simpa using hh
  obtain ⟨v0, v64, vall⟩ := valid_mem hv
  refine c44 h fun s H1 ls k1 hs => ?_
  have hn := ls.n
  have gl := last_get v0
  have hla := vall _ (List.mem_of_getElem? gl)
  obtain ⟨a, hab, _, ca⟩ := ls.rd.get gl
  have hw : IntKind.i64.wrap ((s.n : Int) - 1) = ((L.length - 1 : Nat) : Int) := by rw [wr (by omega) (by omega)]; omega
  rw [hw]
  refine ⟨a, hab, by omega, by omega, _, ca.1, fun h1 => q1 hv (of_decide_eq_true h1) H1 k1, fun h1 => ?_⟩
  have h1 := of_decide_eq_false h1
  obtain ⟨a2, ha2, hs2, hin2, hz1, hz2, hset⟩ := ls.set1 (i := L.length - 1) (c := 0) (x := lastOf L) (x' := lastOf L + 1) (v := .int .i64 (lastOf L + 1)) gl (by decide) rfl
  have ea : ((a2.add ((L.length - 1) * 1)).add 0) = a2.add ((((L.length - 1 : Nat) : Int)).toNat * 1) := by rw [add_add]; rfl
  rw [ea] at hz1 hz2 hset
  refine ⟨a, hab, by omega, by omega, _, ca.1, a2, ha2, by omega, by omega, hz1, hz2, fun H25 e25 => ?_⟩
  rw [wr (x := lastOf L + 1) (by omega) (by omega)] at e25
  obtain ⟨l25, k25⟩ := hset H25 e25
  rw [List.set_eq_take_append_cons_drop, if_pos (by omega), List.drop_eq_nil_of_le (by omega), ← List.dropLast_eq_take] at l25
  exact q2 hv h1 s H25 l25 (k1.trans k25 fun b hb => .inr (hs b hb)) hs

theorem last_cp {L M : List Int} (h1 : L.length = M.length) (h2 : cp L M + 1 = L.length) : lastOf L ≠ lastOf M := fun e => by
  have g1 := last_get (L := L) (by omega)
  have g2 := last_get (L := M) (by omega)
  refine cp_ne L M (by omega) (by omega) ?_
  rw [show cp L M = L.length - 1 from by omega, g1, show L.length - 1 = M.length - 1 from by omega, g2, e]

theorem c37 {Q : Bool → Hp → Prop} (ha : Iv H p L) (hb : Iv H q M) (hQ : Q (leads L M) H) : F37 p q H Q := by
  have hna := ha.rd.n
  have hnb := hb.rd.n
  have hle := cp_le L M
  have hla := ha.l
  refine c46 ha hb ?_
  have fin : ∀ y : Bool, (y = true ↔ (L.length = 0 ∨ M.length < L.length)) → F37_1 Q p q (cp L M : Int) y H := by
    intro y hy
    unfold leads at hQ
    refine ⟨fun hh => ?_, fun hh => ?_⟩
    · have := hy.1 hh
      have e : (decide (0 < L.length) && decide (L.length ≤ M.length)) = false := by
        rw [Bool.and_eq_false_iff]
        rcases this with h | h
        · exact .inl (decide_eq_false (by omega))
        · exact .inr (decide_eq_false (by omega))
      rw [e] at hQ
      exact hQ
    · have hno : ¬ (L.length = 0 ∨ M.length < L.length) := fun h => by rw [hy.2 h] at hh; cases hh
      rw [decide_eq_true (show 0 < L.length by omega), decide_eq_true (show L.length ≤ M.length by omega)] at hQ
      simp only [Bool.true_and] at hQ
      refine ⟨fun h1 => ?_, fun h1 => ⟨fun h2 => ⟨fun h3 => ?_, fun h3 => ?_⟩, fun h2 => ?_⟩⟩
      · rw [decide_eq_true (show cp L M = L.length by have := of_decide_eq_true h1; omega)] at hQ
        exact hQ
      · have h1 := of_decide_eq_false h1
        have h2 := of_decide_eq_true h2
        have h3 := of_decide_eq_true h3
        rw [wr (by omega) (by omega)] at h3
        have e1 : cp L M = L.length - 1 := by omega
        have e2 : cp L M = M.length - 1 := by omega
        have g1 := last_get (L := L) (by omega)
        have g2 := last_get (L := M) (by omega)
        rw [← e1] at g1
        rw [← e2] at g2
        obtain ⟨a, hab, _, ca⟩ := ha.rd.get g1
        obtain ⟨b, hbb, _, cb⟩ := hb.rd.get g2
        refine ⟨b, hbb, by omega, by omega, _, cb.1, a, hab, by omega, by omega, _, ca.1, ?_⟩
        rw [decide_eq_false (show ¬ cp L M = L.length by omega), decide_eq_true (show L.length = M.length by omega), decide_eq_true (show cp L M + 1 = L.length by omega)] at hQ
        have hne := last_cp (L := L) (M := M) (by omega) (by omega)
        rw [show decide (lastOf L < lastOf M) = decide (lastOf L ≤ lastOf M) from decide_eq_decide.2 (by omega)]
        simpa using hQ
      · have h1 := of_decide_eq_false h1
        have h3 := of_decide_eq_false h3
        rw [wr (by omega) (by omega)] at h3
        rw [decide_eq_false (show ¬ cp L M = L.length by omega), decide_eq_false (show ¬ cp L M + 1 = L.length by omega)] at hQ
        simpa using hQ
      · have h1 := of_decide_eq_false h1
        have h2 := of_decide_eq_false h2
        rw [decide_eq_false (show ¬ cp L M = L.length by omega), decide_eq_false (show ¬ L.length = M.length by omega)] at hQ
        simpa using hQ
  refine ⟨fun h1 => fin _ ⟨fun _ => .inl (by have := of_decide_eq_true h1; omega), fun _ => rfl⟩, fun h1 => fin _ ⟨fun h2 => .inr (by have := of_decide_eq_true h2; omega), fun h2 => decide_eq_true ?_⟩⟩
  have := of_decide_eq_false h1
  omega

theorem c38 {Q : Int → Hp → Prop} (ha : Iv H p L) (hb : Iv H q M) (hQ : Q (compare L M) H) : F38 p q H Q := by
  have hna := ha.rd.n
  have hnb := hb.rd.n
  have hle := cp_le L M
  have hne := cp_ne L M
  refine c46 ha hb ?_
  unfold compare at hQ
  have two : ∀ y : Bool, cp L M < L.length → (y = true ↔ (cp L M = M.length ∨ M.getD (cp L M) 0 < L.getD (cp L M) 0)) → F38_2 Q y H := fun y hlt hy => by
    refine ⟨fun hh => ?_, fun hh => ?_⟩
    · rw [if_pos (by
        rcases hy.1 hh with h | h
        · exact .inr ⟨h, hlt⟩
        · by_cases e : cp L M = M.length
          · exact .inr ⟨e, hlt⟩
          · exact .inl ⟨hlt, by omega, h⟩)] at hQ
      exact hQ
    · have hno : ¬ (cp L M = M.length ∨ M.getD (cp L M) 0 < L.getD (cp L M) 0) := fun h => by rw [hy.2 h] at hh; cases hh
      rw [if_neg (by
        rintro (h | h)
        · exact hno (.inr h.2.2)
        · exact hno (.inl h.1)), if_pos (by omega)] at hQ
      exact hQ
  have fin : ∀ y : Bool, (y = true ↔ (cp L M = L.length ∧ cp L M = M.length)) → F38_1 Q p q (cp L M : Int) y H := fun y hy => by
    refine ⟨fun hh => ?_, fun hh => ⟨fun h1 => ?_, fun h1 => ⟨fun h2 => two true ?_ ⟨fun _ => .inl ?_, fun _ => rfl⟩, fun h2 => ?_⟩⟩⟩
    · have := hy.1 hh
      rw [if_neg (by omega), if_neg (by omega)] at hQ
      exact hQ
    · have h1 := of_decide_eq_true h1
      have hno : ¬ (cp L M = L.length ∧ cp L M = M.length) := fun h => by rw [hy.2 h] at hh; cases hh
      rw [if_neg (by omega), if_pos (by omega)] at hQ
      exact hQ
    · have := of_decide_eq_false h1; omega
    · have := of_decide_eq_true h2; omega
    · have h1 := of_decide_eq_false h1
      have h2 := of_decide_eq_false h2
      have gi : L[cp L M]? = some (L[cp L M]'(by omega)) := List.getElem?_eq_getElem (by omega)
      have gj : M[cp L M]? = some (M[cp L M]'(by omega)) := List.getElem?_eq_getElem (by omega)
      have d1 : L.getD (cp L M) 0 = L[cp L M]'(by omega) := by rw [List.getD_eq_getElem?_getD, gi]; rfl
      have d2 : M.getD (cp L M) 0 = M[cp L M]'(by omega) := by rw [List.getD_eq_getElem?_getD, gj]; rfl
      obtain ⟨a, hab, _, ca⟩ := ha.rd.get gi
      obtain ⟨b, hbb, _, cb⟩ := hb.rd.get gj
      refine ⟨a, hab, by omega, by omega, _, ca.1, b, hbb, by omega, by omega, _, cb.1, two _ (by omega) ?_⟩
      rw [d1, d2]
      exact ⟨fun h => .inr (of_decide_eq_true h), fun h => decide_eq_true (by omega)⟩
  refine ⟨fun h1 => fin _ ⟨fun h2 => ⟨?_, ?_⟩, fun h => decide_eq_true (by omega)⟩, fun h1 => fin _ ⟨fun h => (by cases h), fun h => absurd (of_decide_eq_false h1) (by omega)⟩⟩
  · have := of_decide_eq_true h1; omega
  · have := of_decide_eq_true h2; omega

theorem c39 {Q : ByteArray → Int → Hp → Prop} (h : Iv H p L) (ht : TabH H) (hH : 0 < H.size) (q0 : valid L = false → Q ⟨#[]⟩ 120 H) (q1 : valid L = true → ∀ H', Kp No H H' → Q (bst (sh L)) 0 H') : F39 p H Q := by
  have hn := h.rd.n
  refine c45 h ⟨fun hh => q0 (by simpa using hh), fun hh => ?_⟩
  have hv : valid L = true := by simpa using hh
  obtain ⟨v0, v64, vall⟩ := valid_mem hv
  have g0 : L[0]? = some (L[0]'v0) := List.getElem?_eq_getElem v0
  have hx0 := vall _ (List.getElem_mem (l := L) v0)
  obtain ⟨a, hab, _, ca⟩ := h.rd.get g0
  refine ⟨a, hab, by omega, by omega, _, ca.1, ht, by omega, by omega, fun H11 k11 => ?_⟩
  rw [← bst_dig]
  have t1 : sh (L.take 1) = dig (L[0]'v0) := by
    cases L with
    | nil => simp at v0
    | cons x l => simp [sh]
  intro X hX
  suffices G : ∀ (d i : Nat) (H' : Hp), i + d = L.length → 0 < i → Kp No H H' → X (bst (sh (L.take i))) (i : Int) H' from by
    have := G (L.length - 1) 1 H11 (by omega) (by omega) k11
    rw [t1] at this
    exact this
  intro d
  induction d with
  | zero =>
    intro i H' hi hi0 k
    rw [List.take_of_length_le (by omega)]
    exact hX _ _ _ ⟨fun hh => absurd (of_decide_eq_true hh) (by omega), fun _ => q1 hv H' k⟩
  | succ d ih =>
    intro i H' hi hi0 k
    have gi : L[i]? = some (L[i]'(by omega)) := List.getElem?_eq_getElem (by omega)
    have hx := vall _ (List.getElem_mem (l := L) (n := i) (by omega))
    generalize hxe : L[i]'(by omega) = x at gi hx
    obtain ⟨a, hab, _, ca⟩ := (h.no k).rd.get gi
    have sk := k.size
    have htl : sh (L.take (i + 1)) = sh (L.take i) ++ [46] ++ dig x := by
      have : L.take (i + 1) = L.take i ++ [x] := by rw [← hxe]; simp
      rw [this, sh_snoc, if_neg]
      intro e
      have := congrArg List.length e
      rw [List.length_take, List.length_nil] at this
      omega
    have hsz := sh_len (V := L.take i) fun z hz => vall z (List.mem_of_mem_take hz)
    rw [List.length_take] at hsz
    have hdl := dig_len x (by omega) (by omega)
    refine hX _ _ _ ⟨fun _ => ⟨?_, a, hab, by omega, by omega, _, ca.1, ht.kp k hH id, by omega, by omega, fun H25 k25 => ⟨?_, ?_⟩⟩, fun hh => absurd (of_decide_eq_false hh) (by omega)⟩
    · rw [← bst_point, bst_size, bst_size]
      simp; omega
    · rw [← bst_point, ← bst_append, ← bst_dig, bst_size, bst_size, List.length_append]
      simp; omega
    · rw [← bst_point, ← bst_append, ← bst_dig, ← bst_append, ← htl, wr (by omega) (by omega)]
      exact ih (i + 1) H25 (by omega) (by omega) (k.trans k25 fun _ h => h.elim)
end

/-- bytealg's MaxLen lies where its variable is. -/
def MaxH (H : Hp) : Prop := ∃ m, cell H ⟨1, 0, none⟩ = some (.int .i64 m)
theorem MaxH.size {H : Hp} (h : MaxH H) : 1 < H.size := by
  obtain ⟨m, hm⟩ := h
  by_cases hs : 1 < H.size
  · exact hs
  · unfold cell at hm
    rw [Array.getElem?_eq_none (show H.size ≤ 1 from by omega)] at hm
    simp at hm
theorem MaxH.kp {S : Nat → Prop} {H H' : Hp} (h : MaxH H) (k : Kp S H H') (hs : ¬ S 1) : MaxH H' := by
  have hz := h.size
  obtain ⟨m, hm⟩ := h
  exact ⟨m, (k.cell (a := ⟨1, 0, none⟩) (show 1 < H.size from hz) hs).trans hm⟩

def bF : Fmt ByteArray 9 1 := ⟨fun x => [.string x], fun _ => rfl, by intro x v hv; simp at hv; rcases hv with rfl; rfl, by decide⟩
theorem bF_flat (L : List ByteArray) : L.flatMap bF.f = L.map Value.string := by
  induction L with
  | nil => rfl
  | cons x l ih => rw [List.flatMap_cons, ih]; rfl

theorem bt_get {x : ByteArray} {j : Nat} (h : j < x.size) : bt x j = ((bytes x)[j]'(by rw [bytes_len]; exact h) : Nat) := by
  unfold bt
  rw [dif_pos h]
  simp [bytes]
  rfl

theorem c40 {H : Hp} {s : ByteArray} {Q : Sl → Int → Hp → Prop} (ht : TabH H) (hm : MaxH H) (q0 : rread (bytes s) [0] true = none → ∀ H', Kp No H H' → Q Sl.nil 120 H')
    (q1 : ∀ V, rread (bytes s) [0] true = some V → V.length ≤ 64 → ∀ r H', Lst iF H' r V → Kp No H H' → (∀ b, r.at b → H.size ≤ b) → Q r 0 H') : F40 s H Q := by
  have hH := hm.size
  refine ⟨fun hh => q0 (read_long (by have := of_decide_eq_true hh; omega)) H (Kp.refl _ _), fun hh => ⟨?_, by decide, hm, fun H2 e2 => ?_⟩⟩
  · have := of_decide_eq_false hh; omega
  have h704 : s.size ≤ 704 := by have := of_decide_eq_false hh; omega
  have hcl := Lib.countB_le S__ (by decide) s.size s (Nat.le_refl _)
  have hpl := Lib.splitB_all S__ (by decide) 0 _ s rfl
  have hrv : rvals s = (Lib.splitB S__ 0 (Lib.countB s S__) s).map fun p => pval (bytes p) := rfl
  have hps := piece_size (Lib.countB s S__) s
  generalize Lib.splitB S__ 0 (Lib.countB s S__) s = P at e2 hpl hrv hps
  generalize Lib.countB s S__ = c at e2 hpl hcl
  have k2 : Kp No H H2 := (Kp.refl No _).push' e2
  have s2 := size_push' e2
  have r2 : Row H2 H.size 9 (P.flatMap bF.f) := by
    rw [bF_flat]
    subst e2
    exact Row.newl _ _ _
  have rd2 : RdL bF H2 (Sl.mk (some ⟨H.size, 0, none⟩) (c + 1) (c + 1)) P := r2.rdl hpl.symm (c + 1)
  intro X hX
  suffices G : ∀ (d i : Nat) (v : Sl) (H' : Hp), i + d = P.length → Lst iF H' v ((rvals s).take i) → (∀ b, v.at b → H2.size ≤ b) → Kp No H2 H' → X v (i : Int) H' from
    G P.length 0 Sl.nil H2 (by omega) (Lst.nil _ _) (fun b hb => by cases hb) (Kp.refl _ _)
  have hrl : (rvals s).length = P.length := by rw [hrv, List.length_map]
  intro d
  induction d with
  | zero =>
    intro i v H' hi lv hv k
    rw [List.take_of_length_le (by omega)] at lv
    have kk := k2.trans k fun _ h => h.elim
    have sk := k.size
    have hread := read_ref h704
    have hn := lv.n
    refine hX _ _ _ ⟨fun hh => absurd (of_decide_eq_true hh) (by show ¬ (i : Int) < ((c + 1 : Nat) : Int); omega), fun _ => ?_⟩
    refine c39 (lv.iv (by omega)) (ht.kp kk (by omega) id) (by omega) (fun hval => ⟨fun _ => ⟨fun _ => q0 ?_ H' kk, fun h => (by cases h)⟩, fun h => absurd (of_decide_eq_false h) (by decide)⟩) fun hval H43 k43 => ⟨fun h => absurd rfl (of_decide_eq_true h), fun _ => ⟨fun h1 => q0 ?_ H43 (kk.trans k43 fun _ h => h.elim), fun h1 => q1 (rvals s) ?_ ?_ v H43 (lv.kp k43 fun _ _ => id) (kk.trans k43 fun _ h => h.elim) fun b hb => by have := hv b hb; omega⟩⟩
    · rw [hread, if_neg (fun h => by rw [hval] at h; cases h.1)]
    · rw [hread, if_neg (fun h => by
        rw [h.2, seq_refl] at h1
        cases h1)]
    · have h1 : bst (sh (rvals s)) = s := seq_iff.1 (by simpa using h1)
      rw [hread, if_pos ⟨hval, h1⟩]
    · exact (valid_mem hval).2.1
  | succ d ih =>
    intro i v H' hi lv hv k
    have gi : P[i]? = some (P[i]'(by omega)) := List.getElem?_eq_getElem (by omega)
    have hval : (rvals s)[i]? = some (pval (bytes (P[i]'(by omega)))) := by rw [hrv, List.getElem?_map, gi]; rfl
    have hxs := hps _ (List.getElem_mem (l := P) (n := i) (by omega))
    generalize P[i]'(by omega) = x at gi hval hxs
    obtain ⟨a, hab, _, ca⟩ := (rd2.kp0 k).get gi
    have hab : (some ⟨H.size, 0, none⟩ : Option Addr) = some a := hab
    refine hX _ _ _ ⟨fun _ => ?_, fun hh => absurd (of_decide_eq_false hh) (by show ¬ ¬ (i : Int) < ((c + 1 : Nat) : Int); omega)⟩
    intro X4 hX4
    suffices G : ∀ (d j : Nat), j + d = x.size → X4 (pval ((bytes x).take j)) (j : Int) H' from G x.size 0 (by omega)
    intro d
    have i1 : (i : Int) < ((Sl.mk (some ⟨H.size, 0, none⟩) (c + 1) (c + 1)).n : Int) := by show (i : Int) < ((c + 1 : Nat) : Int); omega
    have hxl := bytes_len x
    induction d with
    | zero =>
      intro j hj
      rw [List.take_of_length_le (by omega)]
      refine hX4 _ _ _ ⟨a, hab, by omega, i1, x, ca.1, fun hh => absurd (of_decide_eq_true hh) (by omega), fun _ H37 e37 => ?_⟩
      have k37 : Kp No H' H37 := (Kp.refl No _).push' e37
      have bx : Row H37 H'.size 3 (iF.f (pval (bytes x))) := Row.new' e37
      have htl : ((rvals s).take i).length = i := by rw [List.length_take]; omega
      have s37 := size_push' e37
      have sk := k.size
      refine (lv.kp k37 fun _ _ => id).append1 bx rfl (by omega) (by omega) fun r H39 lr k39 hr => ?_
      rw [wr (by omega) (by omega)]
      refine ih (i + 1) r H39 (by omega) ?_ (fun b hb => ?_) ((k.trans k37 fun _ h => h.elim).trans k39 fun b hb => .inr (hv b hb))
      · rw [List.take_add_one, hval]; exact lr
      · rcases hr b hb with hb | hb
        · exact hv b hb
        · omega
    | succ d ih4 =>
      intro j hj
      refine hX4 _ _ _ ⟨a, hab, by omega, i1, x, ca.1, fun _ => ⟨a, hab, by omega, i1, x, ca.1, by omega, by omega, ?_⟩, fun hh => absurd (of_decide_eq_false hh) (by omega)⟩
      have hjb : j < (bytes x).length := by omega
      have htk : (bytes x).take (j + 1) = (bytes x).take j ++ [(bytes x)[j]'hjb] := by simp
      have hbt := bt_get (x := x) (j := j) (by omega)
      have hj2 : ((j : Int)).toNat = j := by omega
      have := ih4 (j + 1) (by omega)
      rw [htk, pval_snoc] at this
      unfold pstep at this
      rw [← hbt] at this
      rw [hj2, wr (x := (j : Int) + 1) (by omega) (by omega)]
      exact this
end Go.Hw
