/- dewey: small functions. Own work of this session. -/
import Derived.Test.YtmjoeilahbfonaaDoorWalkC
import Derived.Test.YtmjoeilahbfonaaDoorHwJ
set_option linter.unusedVariables false
namespace Go.Hw
open Go

abbrev No : Nat → Prop := fun _ => False
def iF : Fmt Int 3 1 := ⟨fun x => [.int .i64 x], fun _ => rfl, by intro x v hv; simp at hv; rcases hv with rfl; rfl, by decide⟩
/-- A list of numbers that is read. -/
structure Iv (H : Hp) (s : Sl) (L : List Int) : Prop where
  rd : RdL iF H s L
  c : s.n ≤ s.c
  l : L.length ≤ 2097152
theorem Iv.kp {S : Nat → Prop} {H H' : Hp} {s : Sl} {L : List Int} (h : Iv H s L) (k : Kp S H H') (hs : ∀ a, s.b = some a → ¬ S a.block) : Iv H' s L := ⟨h.rd.kp k hs, h.c, h.l⟩
theorem Iv.no {H H' : Hp} {s : Sl} {L : List Int} (h : Iv H s L) (k : Kp No H H') : Iv H' s L := h.kp k fun _ _ => id
theorem Lst.iv {H : Hp} {s : Sl} {L : List Int} (h : Lst iF H s L) (hl : L.length ≤ 2097152) : Iv H s L := by
  refine ⟨h.rd, ?_, hl⟩
  rcases h.own with ⟨h0, _⟩ | ⟨_, _, _, _, _, _, g5, g6⟩
  · rw [h0]; decide
  · exact g5
theorem Iv.nil (H : Hp) : Iv H Sl.nil [] := (Lst.nil iF H).iv (by decide)

/-! ## what the functions say -/
def valid (L : List Int) : Bool := decide (0 < L.length) && decide (L.length ≤ 64) && L.all fun x => decide (0 ≤ x) && decide (x ≤ 2147483647)
def cp : List Int → List Int → Nat
  | a :: l, b :: m => if a = b then cp l m + 1 else 0
  | _, _ => 0
theorem cp_le : ∀ (a b : List Int), cp a b ≤ a.length ∧ cp a b ≤ b.length
  | [], _ => ⟨Nat.zero_le _, Nat.zero_le _⟩
  | _ :: _, [] => ⟨Nat.zero_le _, Nat.zero_le _⟩
  | a :: l, b :: m => by
    have := cp_le l m
    unfold cp
    split
    · simp; omega
    · simp
theorem cp_eq : ∀ (a b : List Int) (i : Nat), i < cp a b → a[i]? = b[i]?
  | [], _, _, h => by simp [cp] at h
  | _ :: _, [], _, h => by simp [cp] at h
  | a :: l, b :: m, i, h => by
    unfold cp at h
    split at h
    · rename_i e
      subst e
      cases i with
      | zero => rfl
      | succ i => simpa using cp_eq l m i (by omega)
    · omega
theorem cp_ne : ∀ (a b : List Int), cp a b < a.length → cp a b < b.length → a[cp a b]? ≠ b[cp a b]?
  | [], _, h, _ => by simp [cp] at h
  | _ :: _, [], _, h => by simp [cp] at h
  | a :: l, b :: m, h1, h2 => by
    unfold cp at h1 h2 ⊢
    split
    · rename_i e
      rw [if_pos e] at h1 h2
      simp only [List.getElem?_cons_succ]
      exact cp_ne l m (by simpa using h1) (by simpa using h2)
    · rename_i e
      simpa using e
theorem cp_is {a b : List Int} {n : Nat} (he : ∀ i, i < n → a[i]? = b[i]?) (hn : n ≤ a.length) (hs : n = a.length ∨ n = b.length ∨ a[n]? ≠ b[n]?) (hb : n ≤ b.length) : cp a b = n := by
  have := cp_le a b
  rcases Nat.lt_trichotomy (cp a b) n with h | h | h
  · exact absurd (he _ h) (cp_ne a b (by omega) (by omega))
  · exact h
  · rcases hs with hs | hs | hs
    · omega
    · omega
    · exact absurd (cp_eq a b n h) hs

def lastOf (L : List Int) : Int := L.getLastD 0
/-- Does one lead to the other? -/
def leads (a b : List Int) : Bool := decide (0 < a.length) && decide (a.length ≤ b.length) && (decide (cp a b = a.length) || (decide (a.length = b.length) && decide (cp a b + 1 = a.length) && decide (lastOf a ≤ lastOf b)))
def compare (a b : List Int) : Int :=
  if (cp a b < a.length ∧ cp a b < b.length ∧ b.getD (cp a b) 0 < a.getD (cp a b) 0) ∨ (cp a b = b.length ∧ cp a b < a.length) then 1 else if cp a b < b.length then -1 else 0

section
variable {H : Hp} {p q : Sl} {L M : List Int}

theorem c31 {Q : Bool → Hp → Prop} (h : Iv H p L) (hQ : Q (valid L) H) : F31 p H Q := by
  have hn := h.rd.n
  have hl := h.l
  intro X hX
  suffices G : ∀ (d i : Nat), i + d = L.length → (L.take i).all (fun x => decide (0 ≤ x) && decide (x ≤ 2147483647)) = true → X (i : Int) H from G L.length 0 (by omega) (by simp)
  intro d
  induction d with
  | zero =>
    intro i hi ha
    rw [List.take_of_length_le (by omega)] at ha
    refine hX _ _ ⟨fun hh => absurd (of_decide_eq_true hh) (by omega), fun _ => ⟨fun hh => ?_, fun hh => ?_⟩⟩
    · have hh := of_decide_eq_true hh
      have : valid L = decide ((p.n : Int) ≤ 64) := by
        unfold valid
        rw [ha, decide_eq_true (show 0 < L.length by omega)]
        simp; omega
      rw [← this]; exact hQ
    · have hh := of_decide_eq_false hh
      have : valid L = false := by
        unfold valid
        rw [decide_eq_false (show ¬ 0 < L.length by omega)]; rfl
      rw [← this]; exact hQ
  | succ d ih =>
    intro i hi ha
    have gi : L[i]? = some (L[i]'(by omega)) := List.getElem?_eq_getElem (by omega)
    obtain ⟨a, hab, _, ca⟩ := h.rd.get gi
    have hmem : L[i]'(by omega) ∈ L := List.getElem_mem _
    have bad : ¬ (0 ≤ L[i]'(by omega) ∧ L[i]'(by omega) ≤ 2147483647) → Q false H := fun hb => by
      have : valid L = false := by
        unfold valid
        rw [Bool.and_eq_false_iff]
        refine .inr (Bool.eq_false_iff.2 fun hh => hb ?_)
        have := List.all_eq_true.1 hh _ hmem
        simpa using this
      rw [← this]; exact hQ
    refine hX _ _ ⟨fun _ => ⟨a, hab, by omega, by omega, _, ca.1, fun hh => ⟨fun _ => bad fun hb => absurd (of_decide_eq_true hh) (by omega), fun hh => (by cases hh)⟩, fun hh => ⟨fun hh2 => bad fun hb => absurd (of_decide_eq_true hh2) (by omega), fun hh2 => ?_⟩⟩, fun hh => absurd (of_decide_eq_false hh) (by omega)⟩
    have h1 := of_decide_eq_false hh
    have h2 := of_decide_eq_false hh2
    rw [wr (by omega) (by omega)]
    refine ih (i + 1) (by omega) ?_
    have : L.take (i + 1) = L.take i ++ [L[i]'(by omega)] := by simp
    rw [this, List.all_append, ha]
    simp; omega

theorem c32 {Q : Int → Hp → Prop} (ha : Iv H p L) (hb : Iv H q M) (hQ : Q (cp L M) H) : F32 p q H Q := by
  have hna := ha.rd.n
  have hnb := hb.rd.n
  have hla := ha.l
  have hlb := hb.l
  have e : (if (q.n : Int) < (p.n : Int) then (q.n : Int) else (p.n : Int)) = ((min L.length M.length : Nat) : Int) := by split <;> omega
  unfold F32
  rw [e]
  intro X hX
  suffices G : ∀ (d i : Nat), i + d = min L.length M.length → (∀ j, j < i → L[j]? = M[j]?) → X (i : Int) H from G (min L.length M.length) 0 (by omega) fun j hj => by omega
  intro d
  induction d with
  | zero =>
    intro i hi he
    refine hX _ _ ⟨fun hh => absurd (of_decide_eq_true hh) (by omega), fun _ => ?_⟩
    unfold F32_1
    rw [e]
    rw [cp_is he (by omega) (by omega) (by omega)] at hQ
    have : i = min L.length M.length := by omega
    rw [← this]
    exact hQ
  | succ d ih =>
    intro i hi he
    have gi : L[i]? = some (L[i]'(by omega)) := List.getElem?_eq_getElem (by omega)
    have gj : M[i]? = some (M[i]'(by omega)) := List.getElem?_eq_getElem (by omega)
    obtain ⟨a, hab, _, ca⟩ := ha.rd.get gi
    obtain ⟨b, hbb, _, cb⟩ := hb.rd.get gj
    refine hX _ _ ⟨fun _ => ⟨a, hab, by omega, by omega, _, ca.1, b, hbb, by omega, by omega, _, cb.1, fun hh => ?_, fun hh => ?_⟩, fun hh => absurd (of_decide_eq_false hh) (by omega)⟩
    · have hne := of_decide_eq_true hh
      rw [cp_is he (by omega) (.inr (.inr (by rw [gi, gj]; intro h; injection h with h; exact hne h))) (by omega)] at hQ
      exact hQ
    · have heq := of_decide_eq_false hh
      have heq : L[i]'(by omega) = M[i]'(by omega) := by
        by_cases e : L[i]'(by omega) = M[i]'(by omega)
        · exact e
        · exact absurd e heq
      rw [wr (by omega) (by omega)]
      refine ih (i + 1) (by omega) fun j hj => ?_
      by_cases hji : j = i
      · subst hji; rw [gi, gj, heq]
      · exact he j (by omega)

theorem last_get {L : List Int} (h : 0 < L.length) : L[L.length - 1]? = some (lastOf L) := by
  unfold lastOf
  rw [List.getLastD_eq_getLast?, List.getLast?_eq_getElem?, List.getElem?_eq_getElem (by omega)]
  rfl

/-- One place more. -/
theorem c12 {Q : Sl → Hp → Prop} (h : Iv H p L) (hQ : ∀ r H', Lst iF H' r (L ++ [0]) → Kp No H H' → (∀ b, r.at b → H.size ≤ b) → Q r H') : F12 p H Q := by
  have hn := h.rd.n
  have hc := h.c
  have hl := h.l
  refine ⟨by omega, by omega, Nat.zero_le _, Nat.le_refl _, hc, fun H6 e6 => ?_⟩
  have r6 : Row H6 H.size 3 (iF.f 0) := Row.new' e6
  have k6 := (Kp.refl No H).push' e6
  have s6 := size_push' e6
  have hrd : RdL iF H6 (Sl.cut p 1 0 ((p.n : Int)).toNat ((p.n : Int)).toNat) L := by
    have h6 := (h.no k6).rd
    refine ⟨by show ((p.n : Int)).toNat - 0 = _; omega, ?_⟩
    have e : (Sl.cut p 1 0 ((p.n : Int)).toNat ((p.n : Int)).toNat).b = p.b := by
      unfold Sl.cut
      show (if ((p.n : Int)).toNat = 0 then p.b else p.b.map (·.add (0 * 1))) = p.b
      split
      · rfl
      · cases p.b with
        | none => rfl
        | some a => simp [Addr.add]
    rw [e]
    exact h6.r
  refine hrd.grow (Row.rdl1 r6) rfl ?_ (by simp; omega) (by simp; omega) fun r H' l' k' hs' => hQ r H' l' (k6.trans k' fun _ => False.elim) fun b hb => ?_
  · show ((p.n : Int)).toNat - 0 < _
    simp; omega
  · have := hs' b hb; omega

/-- The last place raised. -/
theorem c11 {Q : Sl → Int → Hp → Prop} (h : Iv H p L) (q0 : valid L = false → Q Sl.nil 120 H) (q1 : valid L = true → lastOf L = 2147483647 → Q Sl.nil 4 H)
    (q2 : valid L = true → lastOf L ≠ 2147483647 → ∀ r H', Lst iF H' r (L.dropLast ++ [lastOf L + 1]) → Kp No H H' → (∀ b, r.at b → H.size ≤ b) → Q r 0 H') : F11 p H Q := by
  have hn := h.rd.n
  have hc := h.c
  have hl := h.l
  refine c31 h ⟨fun hh => q0 (by simpa using hh), fun hh => ?_⟩
  have hv : valid L = true := by simpa using hh
  have hv' := hv
  unfold valid at hv'
  simp only [Bool.and_eq_true, decide_eq_true_eq, List.all_eq_true] at hv'
  obtain ⟨⟨h0, h64⟩, hall⟩ := hv'
  have gl := last_get h0
  have hla := hall _ (List.mem_of_getElem? gl)
  obtain ⟨a, hab, _, ca⟩ := h.rd.get gl
  have hw : IntKind.i64.wrap ((p.n : Int) - 1) = ((L.length - 1 : Nat) : Int) := by rw [wr (by omega) (by omega)]; omega
  rw [hw]
  have hw2 : IntKind.i64.wrap (lastOf L + 1) = lastOf L + 1 := wr (by omega) (by omega)
  refine ⟨a, hab, by omega, by omega, _, ca.1, fun hh => q1 hv (of_decide_eq_true hh), fun hh => ?_⟩
  have hne := of_decide_eq_false hh
  refine ⟨by omega, by omega, Nat.zero_le _, Nat.le_refl _, by omega, a, hab, by omega, by omega, _, ca.1, fun H23 e23 => ?_⟩
  rw [hw2] at e23
  have r23 : Row H23 H.size 3 (iF.f (lastOf L + 1)) := Row.new' e23
  have k23 := (Kp.refl No H).push' e23
  have s23 := size_push' e23
  have h23 := h.no k23
  have keep : ∀ {H' : Hp}, Iv H' p L → cell H' (a.add (((L.length - 1 : Nat) : Int).toNat * 1)) = some (.int .i64 (lastOf L)) := fun {H'} h' => by
    obtain ⟨b, hbb, _, cb⟩ := h'.rd.get gl
    rw [hab] at hbb
    injection hbb with hbb
    subst hbb
    exact cb.1
  refine ⟨keep h23, ?_⟩
  have hrd : RdL iF H23 (Sl.cut p 1 0 (((L.length - 1 : Nat) : Int)).toNat (((L.length - 1 : Nat) : Int)).toNat) L.dropLast := by
    have h6 := h23.rd
    refine ⟨by show (((L.length - 1 : Nat) : Int)).toNat - 0 = _; simp, ?_⟩
    have e : (Sl.cut p 1 0 (((L.length - 1 : Nat) : Int)).toNat (((L.length - 1 : Nat) : Int)).toNat).b = p.b := by
      unfold Sl.cut
      show (if (((L.length - 1 : Nat) : Int)).toNat = 0 then p.b else p.b.map (·.add (0 * 1))) = p.b
      split
      · rfl
      · rw [hab]; simp [Addr.add]
    rw [e]
    have hr := h6.r
    rw [hab] at hr ⊢
    have hr : cells H23 a (L.flatMap iF.f) 0 := hr
    show cells H23 a (L.dropLast.flatMap iF.f) 0
    have := cells_sub (i := 0) (m := L.dropLast.flatMap iF.f) hr (by
      rw [List.drop_zero, fl_len iF.len, fl_take iF.len, List.dropLast_eq_take]
      congr 2
      simp)
    rwa [show a.add 0 = a from by unfold Addr.add; simp] at this
  refine hrd.grow (Row.rdl1 r23) rfl ?_ (by simp; omega) (by simp; omega) fun r H' l' k' hs' => ⟨keep (h23.no k'), q2 hv (by simpa using hne) r H' l' (k23.trans k' fun _ => False.elim) fun b hb => ?_⟩
  · show (((L.length - 1 : Nat) : Int)).toNat - 0 < _
    simp
  · have := hs' b hb; omega

theorem c14 {Q : Int → Hp → Prop} (ha : Iv H p L) (hb : Iv H q M) (hQ : Q (compare L M) H) : F14 p q H Q := by
  have hna := ha.rd.n
  have hnb := hb.rd.n
  have hle := cp_le L M
  refine c32 ha hb ?_
  have fin : ∀ y : Bool, (y = true ↔ ((cp L M < L.length ∧ cp L M < M.length ∧ M.getD (cp L M) 0 < L.getD (cp L M) 0) ∨ (cp L M = M.length ∧ cp L M < L.length))) → F14_1 Q q (cp L M : Int) y H := by
    intro y hy
    unfold compare at hQ
    refine ⟨fun hh => ?_, fun hh => ⟨fun h2 => ?_, fun h2 => ?_⟩⟩
    · rw [if_pos (hy.1 hh)] at hQ; exact hQ
    · rw [if_neg (fun h => by rw [hy.2 h] at hh; cases hh), if_pos (by have := of_decide_eq_true h2; omega)] at hQ; exact hQ
    · rw [if_neg (fun h => by rw [hy.2 h] at hh; cases hh), if_neg (by have := of_decide_eq_false h2; omega)] at hQ; exact hQ
  have fin2 : ¬ (cp L M < L.length ∧ cp L M < M.length ∧ M.getD (cp L M) 0 < L.getD (cp L M) 0) → ((decide ((cp L M : Int) = (q.n : Int))) = true → (F14_1 Q q (cp L M : Int) (decide ((cp L M : Int) < (p.n : Int))) H)) ∧ ((decide ((cp L M : Int) = (q.n : Int))) = false → (F14_1 Q q (cp L M : Int) false H)) := by
    intro hno
    refine ⟨fun h1 => fin _ ⟨fun h2 => .inr ?_, fun h2 => ?_⟩, fun h1 => fin _ ⟨fun h2 => (by cases h2), fun h2 => ?_⟩⟩
    · have := of_decide_eq_true h1
      have := of_decide_eq_true h2
      omega
    · rcases h2 with h2 | h2
      · exact absurd h2 hno
      · exact decide_eq_true (by omega)
    · have := of_decide_eq_false h1
      rcases h2 with h2 | h2
      · exact absurd h2 hno
      · omega
  refine ⟨fun h1 => ⟨fun h2 => ?_, fun h2 => fin2 fun hh => absurd (of_decide_eq_false h2) (by omega)⟩, fun h1 => fin2 fun hh => absurd (of_decide_eq_false h1) (by omega)⟩
  have h1 := of_decide_eq_true h1
  have h2 := of_decide_eq_true h2
  have gi : L[cp L M]? = some (L[cp L M]'(by omega)) := List.getElem?_eq_getElem (by omega)
  have gj : M[cp L M]? = some (M[cp L M]'(by omega)) := List.getElem?_eq_getElem (by omega)
  have d1 : L.getD (cp L M) 0 = L[cp L M]'(by omega) := by rw [List.getD_eq_getElem?_getD, gi]; rfl
  have d2 : M.getD (cp L M) 0 = M[cp L M]'(by omega) := by rw [List.getD_eq_getElem?_getD, gj]; rfl
  obtain ⟨a, hab, _, ca⟩ := ha.rd.get gi
  obtain ⟨b, hbb, _, cb⟩ := hb.rd.get gj
  refine ⟨a, hab, by omega, by omega, _, ca.1, b, hbb, by omega, by omega, _, cb.1, fun h3 => fin _ ⟨fun _ => .inl ⟨by omega, by omega, ?_⟩, fun _ => rfl⟩, fun h3 => fin2 fun hh => ?_⟩
  · rw [d1, d2]; exact of_decide_eq_true h3
  · rw [d1, d2] at hh
    exact absurd hh.2.2 (of_decide_eq_false h3)

theorem c30 {Q : Bool → Hp → Prop} (ha : Iv H p L) (hb : Iv H q M) (hQ : Q (leads L M) H) : F30 p q H Q := by
  have hna := ha.rd.n
  have hnb := hb.rd.n
  have hle := cp_le L M
  have hla := ha.l
  refine c32 ha hb ?_
  have fin : ∀ y : Bool, (y = true ↔ (L.length = 0 ∨ M.length < L.length)) → F30_1 Q p q (cp L M : Int) y H := by
    intro y hy
    unfold leads at hQ
    refine ⟨fun hh => ?_, fun hh => ?_⟩
    · have := hy.1 hh
      have e : (decide (0 < L.length) && decide (L.length ≤ M.length)) = false := by
        rw [Bool.and_eq_false_iff]
        rcases this with h | h
        · exact .inl (decide_eq_false (by omega))
        · exact .inr (decide_eq_false (by omega))
      rw [e] at hQ
      exact hQ
    · have hno : ¬ (L.length = 0 ∨ M.length < L.length) := fun h => by rw [hy.2 h] at hh; cases hh
      rw [decide_eq_true (show 0 < L.length by omega), decide_eq_true (show L.length ≤ M.length by omega)] at hQ
      simp only [Bool.true_and] at hQ
      refine ⟨fun h1 => ?_, fun h1 => ⟨fun h2 => ⟨fun h3 => ?_, fun h3 => ?_⟩, fun h2 => ?_⟩⟩
      · rw [decide_eq_true (show cp L M = L.length by have := of_decide_eq_true h1; omega)] at hQ
        exact hQ
      · have h1 := of_decide_eq_false h1
        have h2 := of_decide_eq_true h2
        have h3 := of_decide_eq_true h3
        rw [wr (by omega) (by omega)] at h3
        have e1 : cp L M = L.length - 1 := by omega
        have e2 : cp L M = M.length - 1 := by omega
        have g1 := last_get (L := L) (by omega)
        have g2 := last_get (L := M) (by omega)
        rw [← e1] at g1
        rw [← e2] at g2
        obtain ⟨a, hab, _, ca⟩ := ha.rd.get g1
        obtain ⟨b, hbb, _, cb⟩ := hb.rd.get g2
        refine ⟨b, hbb, by omega, by omega, _, cb.1, a, hab, by omega, by omega, _, ca.1, ?_⟩
        rw [decide_eq_false (show ¬ cp L M = L.length by omega), decide_eq_true (show L.length = M.length by omega), decide_eq_true (show cp L M + 1 = L.length by omega)] at hQ
        simpa using hQ
      · have h1 := of_decide_eq_false h1
        have h3 := of_decide_eq_false h3
        rw [wr (by omega) (by omega)] at h3
        rw [decide_eq_false (show ¬ cp L M = L.length by omega), decide_eq_false (show ¬ cp L M + 1 = L.length by omega)] at hQ
        simpa using hQ
      · have h1 := of_decide_eq_false h1
        have h2 := of_decide_eq_false h2
        rw [decide_eq_false (show ¬ cp L M = L.length by omega), decide_eq_false (show ¬ L.length = M.length by omega)] at hQ
        simpa using hQ
  refine ⟨fun h1 => fin _ ⟨fun _ => .inl (by have := of_decide_eq_true h1; omega), fun _ => rfl⟩, fun h1 => fin _ ⟨fun h2 => .inr (by have := of_decide_eq_true h2; omega), fun h2 => decide_eq_true ?_⟩⟩
  have := of_decide_eq_false h1
  omega
theorem c16 {Q : Bool → Hp → Prop} (ha : Iv H p L) (hb : Iv H q M) (hQ : Q (leads L M) H) : F16 p q H Q := c30 ha hb hQ

theorem list_eq_dec {α : Type} [DecidableEq α] {L M : List α} {i : Nat} (hne : L[i]? ≠ M[i]?) : decide (L = M) = false := by
  rw [decide_eq_false_iff_not]
  intro e
  exact hne (by rw [e])
theorem c15 {Q : Bool → Hp → Prop} (ha : Iv H p L) (hb : Iv H q M) (hQ : Q (decide (L = M)) H) : F15 p q H Q := by
  have hna := ha.rd.n
  have hnb := hb.rd.n
  have hla := ha.l
  refine ⟨fun hh => ?_, fun hh => ?_⟩
  · have hh := of_decide_eq_true hh
    have : L ≠ M := fun e => hh (by rw [hna, hnb, e])
    rwa [decide_eq_false this] at hQ
  · have hh : L.length = M.length := by
      by_cases e : L.length = M.length
      · exact e
      · exact absurd (by rw [hna, hnb]; intro h; exact e (by omega)) (of_decide_eq_false hh)
    intro X hX
    suffices G : ∀ (d i : Nat), i + d = L.length → (∀ j, j < i → L[j]? = M[j]?) → X (i : Int) H from G L.length 0 (by omega) fun j hj => by omega
    intro d
    induction d with
    | zero =>
      intro i hi he
      refine hX _ _ ⟨fun h => absurd (of_decide_eq_true h) (by omega), fun _ => ?_⟩
      have : L = M := List.ext_getElem? fun j => by
        by_cases hj : j < i
        · exact he j hj
        · rw [List.getElem?_eq_none (by omega), List.getElem?_eq_none (by omega)]
      rwa [decide_eq_true this] at hQ
    | succ d ih =>
      intro i hi he
      have gi : L[i]? = some (L[i]'(by omega)) := List.getElem?_eq_getElem (by omega)
      have gj : M[i]? = some (M[i]'(by omega)) := List.getElem?_eq_getElem (by omega)
      obtain ⟨a, hab, _, ca⟩ := ha.rd.get gi
      obtain ⟨b, hbb, _, cb⟩ := hb.rd.get gj
      refine hX _ _ ⟨fun _ => ⟨a, hab, by omega, by omega, _, ca.1, b, hbb, by omega, by omega, _, cb.1, fun h => ?_, fun h => ?_⟩, fun h => absurd (of_decide_eq_false h) (by omega)⟩
      · have hne := of_decide_eq_true h
        rwa [list_eq_dec (i := i) (by rw [gi, gj]; intro h; injection h with h; exact hne h)] at hQ
      · have heq := of_decide_eq_false h
        have heq : L[i]'(by omega) = M[i]'(by omega) := by
          by_cases e : L[i]'(by omega) = M[i]'(by omega)
          · exact e
          · exact absurd e heq
        rw [wr (by omega) (by omega)]
        refine ih (i + 1) (by omega) fun j hj => ?_
        by_cases hji : j = i
        · subst hji; rw [gi, gj, heq]
        · exact he j (by omega)
end
end Go.Hw
