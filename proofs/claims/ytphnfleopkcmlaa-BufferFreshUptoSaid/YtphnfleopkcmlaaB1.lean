/- Buffer: lists of numbers, small functions. Own work of this session. -/
import Derived.Test.YtphnfleopkcmlaaWalkD
import Derived.Test.YtphnfleopkcmlaaHwJ
set_option linter.unusedVariables false
namespace Go.Hw
open Go

abbrev No : Nat → Prop := fun _ => False
abbrev Mk := Int × Int
def iF : Fmt Int 3 1 := ⟨fun x => [.int .i64 x], fun _ => rfl, by intro x v hv; simp at hv; rcases hv with rfl; rfl, by decide⟩
def mF : Fmt Mk 32 2 := ⟨fun x => [.int .i64 x.1, .int .i64 x.2], fun _ => rfl, by intro x v hv; simp at hv; rcases hv with rfl | rfl <;> rfl, by decide⟩
def pF : Fmt (Option Addr) 80 1 := ⟨fun x => [.pointer x], fun _ => rfl, by intro x v hv; simp at hv; rcases hv with rfl; rfl, by decide⟩

theorem c45 {sl : Sl} {L : List Int} {x : Int} {H : Hp} {Q : Int → Hp → Prop} (h : RdL iF H sl L) (hl : L.length ≤ 1048576) (hx : L.getLast? = some x) (hQ : Q x H) : F45 sl H Q := by
  have hn := h.n
  have h0 : L[L.length - 1]? = some x := by rw [← hx, List.getLast?_eq_getElem?]
  have hlt := (List.getElem?_eq_some_iff.1 h0).1
  obtain ⟨a, ha, _, ca⟩ := h.get h0
  have hw : IntKind.i64.wrap ((sl.n : Int) - 1) = ((L.length - 1 : Nat) : Int) := by rw [wr (by omega) (by omega)]; omega
  rw [F45, hw]
  exact ⟨a, ha, by omega, by omega, x, ca.1, hQ⟩

theorem c48 {a b : Sl} {L : List Int} {H : Hp} {Q : Int → Hp → Prop} (ha : RdL iF H a L) (hb : RdL iF H b L) (hl : L.length ≤ 1048576) (hQ : Q L.length H) : F48 a b H Q := by
  have hna := ha.n
  have hnb := hb.n
  have e : (if (b.n : Int) < (a.n : Int) then (b.n : Int) else (a.n : Int)) = (L.length : Int) := by rw [if_neg (by omega)]; omega
  unfold F48
  rw [e]
  intro X hX
  suffices G : ∀ (d i : Nat), i + d = L.length → X i H from G L.length 0 (by omega)
  intro d
  induction d with
  | zero =>
    intro i hi
    refine hX _ _ ⟨fun hb => absurd (of_decide_eq_true hb) (by omega), fun _ => ?_⟩
    unfold F48_1
    rw [e]; exact hQ
  | succ d ih =>
    intro i hi
    have hx : L[i]? = some (L[i]'(by omega)) := List.getElem?_eq_getElem (by omega)
    generalize L[i]'(by omega) = x at hx
    obtain ⟨p, hp, _, cp⟩ := ha.get hx
    obtain ⟨q, hq, _, cq⟩ := hb.get hx
    refine hX _ _ ⟨fun _ => ⟨p, hp, by omega, by omega, x, cp.1, q, hq, by omega, by omega, x, cq.1, fun hb => absurd rfl (of_decide_eq_true hb), fun _ => ?_⟩, fun hb => absurd (of_decide_eq_false hb) (by omega)⟩
    rw [wr (by omega) (by omega)]
    exact ih (i + 1) (by omega)

theorem c47 {a b : Sl} {L : List Int} {H : Hp} {Q : Int → Hp → Prop} (ha : RdL iF H a L) (hb : RdL iF H b L) (hl : L.length ≤ 1048576) (hQ : Q 0 H) : F47 a b H Q := by
  have hna := ha.n
  have hnb := hb.n
  refine c48 ha hb hl ⟨fun h => absurd (of_decide_eq_true h) (by omega), fun _ => ?_⟩
  have no : F47_1 Q b (L.length : Int) false H := ⟨fun h => (by cases h), fun _ => ⟨fun h => absurd (of_decide_eq_true h) (by omega), fun _ => hQ⟩⟩
  refine ⟨fun _ => ?_, fun h => absurd (of_decide_eq_false h) (by omega)⟩
  rw [decide_eq_false (by omega)]
  exact no

/-- The first place without a run. -/
def idx {α : Type} : List (Option α) → Option Nat
  | [] => none
  | none :: _ => some 0
  | some _ :: l => (idx l).map (· + 1)
theorem idx_none {α : Type} {l : List (Option α)} : idx l = none ↔ ∀ x ∈ l, x ≠ none := by
  induction l with
  | nil => simp [idx]
  | cons x l ih =>
    cases x with
    | none => simp [idx]
    | some x => simp [idx, ih]
theorem idx_some {α : Type} {l : List (Option α)} {i : Nat} : idx l = some i → l[i]? = some none ∧ ∀ j, j < i → ∃ x, l[j]? = some (some x) := by
  induction l generalizing i with
  | nil => intro h; cases h
  | cons x l ih =>
    intro h
    cases x with
    | none =>
      injection h with h
      subst h
      exact ⟨rfl, fun j hj => by omega⟩
    | some x =>
      simp only [idx] at h
      obtain ⟨k, hk, rfl⟩ := Option.map_eq_some_iff.1 h
      obtain ⟨h1, h2⟩ := ih hk
      refine ⟨h1, fun j hj => ?_⟩
      cases j with
      | zero => exact ⟨x, rfl⟩
      | succ j => exact h2 j (by omega)

theorem c46 {sl : Sl} {L : List (Option Addr)} {H : Hp} {Q : Int → Hp → Prop} (h : RdL pF H sl L) (hp : ∀ x ∈ L, Plain H x) (hl : L.length ≤ 1048576)
    (h1 : ∀ i : Nat, idx L = some i → Q i H) (h2 : idx L = none → Q (-1) H) : F46 sl none H Q := by
  have hn := h.n
  intro X hX
  suffices G : ∀ (d i : Nat), i + d = L.length → (∀ j, j < i → ∃ x, L[j]? = some (some x)) → X i H from G L.length 0 (by omega) fun j hj => by omega
  intro d
  induction d with
  | zero =>
    intro i hi hb
    refine hX _ _ ⟨fun hh => absurd (of_decide_eq_true hh) (by omega), fun _ => h2 ?_⟩
    rw [idx_none]
    intro x hx
    obtain ⟨j, hj, rfl⟩ := List.getElem_of_mem hx
    obtain ⟨y, hy⟩ := hb j (by omega)
    rw [List.getElem?_eq_getElem hj] at hy
    injection hy with hy
    rw [hy]; simp
  | succ d ih =>
    intro i hi hb
    have hx : L[i]? = some (L[i]'(by omega)) := List.getElem?_eq_getElem (by omega)
    generalize hxe : L[i]'(by omega) = x at hx
    obtain ⟨p, hp', _, cp⟩ := h.get hx
    refine hX _ _ ⟨fun _ => ⟨p, hp', by omega, by omega, x, cp.1, ⟨Plain.none, hp x (List.mem_of_getElem? hx)⟩, fun hh => h1 i ?_, fun hh => ?_⟩, fun hh => absurd (of_decide_eq_false hh) (by omega)⟩
    · have hh := of_decide_eq_true hh
      subst hh
      cases hi' : idx L with
      | none => exact absurd rfl (idx_none.1 hi' none (List.mem_of_getElem? hx))
      | some k =>
        obtain ⟨k1, k2⟩ := idx_some hi'
        rcases Nat.lt_trichotomy k i with hlt | rfl | hlt
        · obtain ⟨y, hy⟩ := hb k hlt
          rw [k1] at hy; cases hy
        · rfl
        · obtain ⟨y, hy⟩ := k2 i hlt
          rw [hx] at hy; cases hy
    · have hh := of_decide_eq_false hh
      rw [wr (by omega) (by omega)]
      refine ih (i + 1) (by omega) fun j hj => ?_
      by_cases hji : j = i
      · subst hji
        cases x with
        | none => exact absurd rfl hh
        | some x => exact ⟨x, hx⟩
      · exact hb j (by omega)

/-- A copy. -/
theorem c39 {sl : Sl} {L : List Int} {H : Hp} {Q : Sl → Hp → Prop} (h : RdL iF H sl L) (hb : sl.b.isNone = false) (hl : L.length ≤ 1048576)
    (hQ : ∀ r H', Lst iF H' r L → Kp No H H' → (∀ b, r.at b → H.size ≤ b) → Q r H') : F39 sl H Q := by
  refine ⟨fun hh => (by rw [hb] at hh; cases hh), fun _ H2 e2 => ?_⟩
  have r2 := Row.new' e2
  have k2 := (Kp.refl No H).push' e2
  have s2 := size_push' e2
  have l2 : Lst iF H2 (Sl.mk (some ⟨H.size, 0, none⟩) 0 0) [] := Lst.empty (sp := []) r2 rfl (by decide)
  refine l2.append (h.kp0 k2) rfl (by simp; omega) (by simp; omega) fun r H' l' k' hs' => ?_
  refine hQ r H' (by simpa using l') (k2.trans k' fun b hb => .inr ?_) fun b hb => ?_
  · injection hb with hb; injection hb with hb; omega
  · rcases hs' b hb with hb | hb
    · injection hb with hb; injection hb with hb; omega
    · omega

/-- One place more. -/
theorem c37 {sl : Sl} {L : List Int} {H : Hp} {Q : Sl → Hp → Prop} (h : Lst iF H sl L) (hl : L.length ≤ 1048576)
    (hQ : ∀ r H', Lst iF H' r (L ++ [0]) → Kp No H H' → (∀ b, r.at b → H.size ≤ b) → Q r H') : F37 sl H Q := by
  have hn := h.n
  have hc : sl.n ≤ sl.c := by
    rcases h.own with ⟨h0, _⟩ | ⟨_, _, _, _, _, _, g5, g6⟩
    · rw [h0]; decide
    · exact g5
  have hi : ((sl.n : Int)).toNat = sl.n := rfl
  refine ⟨by omega, by omega, Nat.zero_le _, Nat.le_refl _, hc, fun H6 e6 => ?_⟩
  have r6 : Row H6 H.size 3 (iF.f 0) := Row.new' e6
  have k6 := (Kp.refl No H).push' e6
  have s6 := size_push' e6
  have hrd : RdL iF H6 (Sl.cut sl 1 0 ((sl.n : Int)).toNat ((sl.n : Int)).toNat) L := by
    have h6 := (h.kp k6 fun _ _ => id).rd
    refine ⟨by show ((sl.n : Int)).toNat - 0 = _; omega, ?_⟩
    have e : (Sl.cut sl 1 0 ((sl.n : Int)).toNat ((sl.n : Int)).toNat).b = sl.b := by
      unfold Sl.cut
      show (if ((sl.n : Int)).toNat = 0 then sl.b else sl.b.map (·.add (0 * 1))) = sl.b
      split
      · rfl
      · cases sl.b with
        | none => rfl
        | some a => simp [Addr.add]
    rw [e]
    exact h6.r
  refine hrd.grow (Row.rdl1 r6) rfl ?_ (by simp; omega) (by simp; omega) fun r H' l' k' hs' => hQ r H' l' (k6.trans k' fun _ => False.elim) fun b hb => ?_
  · show ((sl.n : Int)).toNat - 0 < _
    simp; omega
  · have := hs' b hb; omega

/-- The last place is a number that none has had. -/
theorem c36 {sl : Sl} {L : List Int} {g : Nat} {raised : Int} {stages nbv rsv : Value} {H : Hp} {Q : Sl → Hp → Prop} (r : Row H g 71 [stages, .int .i64 raised, nbv, rsv]) {x : Int} (h : Lst iF H sl (L ++ [x])) (hl : L.length ≤ 1048575) (hr : 0 ≤ raised ∧ raised ≤ 9000000000000000000)
    (hQ : ∀ H', Row H' g 71 [stages, .int .i64 (raised + 1), nbv, rsv] → Lst iF H' sl (L ++ [raised + 1]) → Kp (fun b => b = g ∨ sl.at b) H H' → Q sl H') : F36 (some ⟨g, 0, none⟩) sl H Q := by
  have hn := h.n
  rw [List.length_append, List.length_singleton] at hn
  have h0 : (L ++ [x])[L.length]? = some x := by simp
  refine ⟨fun hh => absurd (of_decide_eq_true hh) (by omega), fun _ => ?_⟩
  refine ⟨_, rfl, raised, r.cell_of (i := 1) rfl, _, rfl, r.some (i := 1) (by simp), r.frz 1, fun H12 e12 => ?_⟩
  rw [wr (by omega) (by omega)] at e12
  have r12 : Row H12 g 71 [stages, .int .i64 (raised + 1), nbv, rsv] := r.set' (i := 1) e12
  have hgs : ¬ sl.at g := h.ne r (by decide)
  have k12 : Kp (fun b => b = g) H H12 := (Kp.refl _ H).set' e12 (.inl rfl)
  have h12 := h.kp k12 fun b hb e => hgs (e ▸ hb)
  obtain ⟨a, ha, hsa, hin, hc, hz, hset⟩ := h12.set1 (i := L.length) (c := 0) (x := x) (x' := raised + 1) (v := .int .i64 (raised + 1)) h0 (by decide) rfl
  have hw : IntKind.i64.wrap ((sl.n : Int) - 1) = (L.length : Int) := by rw [wr (by omega) (by omega)]; omega
  have ea : ((a.add (L.length * 1)).add 0) = a.add ((L.length : Int).toNat * 1) := by rw [add_add]; rfl
  rw [ea] at hc hz hset
  rw [hw]
  refine ⟨_, rfl, _, r12.cell_of (i := 1) rfl, a, ha, by omega, by omega, hc, hz, fun H24 e24 => ?_⟩
  obtain ⟨h24, k24⟩ := hset H24 e24
  have e : (L ++ [x]).set L.length (raised + 1) = L ++ [raised + 1] := by simp
  rw [e] at h24
  refine hQ H24 (k24.row r12 hgs) h24 ((k12.mono fun _ _ h => .inl h).trans k24 fun b hb => .inl (.inr hb))

end Go.Hw
