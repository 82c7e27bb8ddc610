/- The law's small functions; one step of two buffers side by side. Own work of this session. -/
import Derived.Test.YtphnfleopkcmlaaC3
set_option linter.unusedVariables false
namespace Go.Hw
open Go

theorem nodup_le {α : Type} [DecidableEq α] : ∀ {D E : List α}, D.Nodup → (∀ m ∈ D, m ∈ E) → D.length ≤ E.length
  | [], _, _, _ => Nat.zero_le _
  | x :: D, E, h, hs => by
    rw [List.nodup_cons] at h
    have hx := hs x List.mem_cons_self
    have := nodup_le (D := D) (E := E.erase x) h.2 fun m hm => by
      have hne : m ≠ x := fun e => h.1 (e ▸ hm)
      exact (List.mem_erase_of_ne hne).2 (hs m (List.mem_cons_of_mem _ hm))
    rw [List.length_erase_of_mem hx] at this
    have : 0 < E.length := List.length_pos_of_mem hx
    simp only [List.length_cons]
    omega
theorem nodup_len {α : Type} [DecidableEq α] {D E : List α} (h : D.Nodup) (k : E.Nodup) (e : ∀ m, m ∈ D ↔ m ∈ E) : D.length = E.length :=
  Nat.le_antisymm (nodup_le h fun m hm => (e m).1 hm) (nodup_le k fun m hm => (e m).2 hm)

theorem list_eq_dec {α : Type} [DecidableEq α] {L M : List α} (hl : L.length = M.length) {i : Nat} (hi : i < L.length) (hne : L[i]? ≠ M[i]?) : decide (L = M) = false := by
  rw [decide_eq_false_iff_not]
  intro e
  exact hne (by rw [e])

theorem c23 {a b : Sl} {L M : List Mk} {H : Hp} {Q : Bool → Hp → Prop} (ha : RdL mF H a L) (hb : RdL mF H b M) (hl : L.length ≤ 2097152) (hm : M.length ≤ 2097152) (hQ : Q (decide (L = M)) H) : F23 a b H Q := by
  have hna := ha.n
  have hnb := hb.n
  refine ⟨fun hh => ?_, fun hh => ?_⟩
  · have hh := of_decide_eq_true hh
    have : L ≠ M := fun e => hh (by rw [hna, hnb, e])
    rwa [decide_eq_false this] at hQ
  · have hh : L.length = M.length := by
      by_cases e : L.length = M.length
      · exact e
      · exact absurd (by rw [hna, hnb]; intro h; exact e (by omega)) (of_decide_eq_false hh)
    intro X hX
    suffices G : ∀ (d i : Nat), i + d = L.length → (∀ j, j < i → L[j]? = M[j]?) → X (i : Int) H from G L.length 0 (by omega) fun j hj => by omega
    intro d
    induction d with
    | zero =>
      intro i hi he
      refine hX _ _ ⟨fun h => absurd (of_decide_eq_true h) (by omega), fun _ => ?_⟩
      have : L = M := List.ext_getElem? fun j => by
        by_cases hj : j < i
        · exact he j hj
        · rw [List.getElem?_eq_none (by omega), List.getElem?_eq_none (by omega)]
      rwa [decide_eq_true this] at hQ
    | succ d ih =>
      intro i hi he
      have gi : L[i]? = some (L[i]'(by omega)) := List.getElem?_eq_getElem (by omega)
      have gj : M[i]? = some (M[i]'(by omega)) := List.getElem?_eq_getElem (by omega)
      obtain ⟨p, hp, _, cp⟩ := ha.get gi
      obtain ⟨q, hq, _, cq⟩ := hb.get gj
      refine hX _ _ ⟨fun _ => ⟨p, hp, by omega, by omega, _, _, cp, q, hq, by omega, by omega, _, _, cq, fun h => ?_, fun h => ?_⟩, fun h => absurd (of_decide_eq_false h) (by omega)⟩
      · have hne : L[i]'(by omega) ≠ M[i]'(by omega) := fun e => by rw [e] at h; simp at h
        rwa [list_eq_dec hh (i := i) (by omega) (by rw [gi, gj]; intro h; injection h with h; exact hne h)] at hQ
      · have heq : L[i]'(by omega) = M[i]'(by omega) := by
          simp at h
          exact Prod.ext h.1 h.2
        rw [wr (by omega) (by omega)]
        refine ih (i + 1) (by omega) fun j hj => ?_
        by_cases hji : j = i
        · subst hji; rw [gi, gj, heq]
        · exact he j (by omega)

theorem c26 {a b : Sl} {L M : List Int} {H : Hp} {Q : Bool → Hp → Prop} (ha : RdL iF H a L) (hb : RdL iF H b M) (hl : L.length ≤ 2097152) (hm : M.length ≤ 2097152) (hQ : Q (decide (L = M)) H) : F26 a b H Q := by
  have hna := ha.n
  have hnb := hb.n
  refine ⟨fun hh => ?_, fun hh => ?_⟩
  · have hh := of_decide_eq_true hh
    have : L ≠ M := fun e => hh (by rw [hna, hnb, e])
    rwa [decide_eq_false this] at hQ
  · have hh : L.length = M.length := by
      by_cases e : L.length = M.length
      · exact e
      · exact absurd (by rw [hna, hnb]; intro h; exact e (by omega)) (of_decide_eq_false hh)
    intro X hX
    suffices G : ∀ (d i : Nat), i + d = L.length → (∀ j, j < i → L[j]? = M[j]?) → X (i : Int) H from G L.length 0 (by omega) fun j hj => by omega
    intro d
    induction d with
    | zero =>
      intro i hi he
      refine hX _ _ ⟨fun h => absurd (of_decide_eq_true h) (by omega), fun _ => ?_⟩
      have : L = M := List.ext_getElem? fun j => by
        by_cases hj : j < i
        · exact he j hj
        · rw [List.getElem?_eq_none (by omega), List.getElem?_eq_none (by omega)]
      rwa [decide_eq_true this] at hQ
    | succ d ih =>
      intro i hi he
      have gi : L[i]? = some (L[i]'(by omega)) := List.getElem?_eq_getElem (by omega)
      have gj : M[i]? = some (M[i]'(by omega)) := List.getElem?_eq_getElem (by omega)
      obtain ⟨p, hp, _, cp⟩ := ha.get gi
      obtain ⟨q, hq, _, cq⟩ := hb.get gj
      refine hX _ _ ⟨fun _ => ⟨p, hp, by omega, by omega, _, cp.1, q, hq, by omega, by omega, _, cq.1, fun h => ?_, fun h => ?_⟩, fun h => absurd (of_decide_eq_false h) (by omega)⟩
      · have hne := of_decide_eq_true h
        rwa [list_eq_dec hh (i := i) (by omega) (by rw [gi, gj]; intro h; injection h with h; exact hne h)] at hQ
      · have heq := of_decide_eq_false h
        have heq : L[i]'(by omega) = M[i]'(by omega) := by
          by_cases e : L[i]'(by omega) = M[i]'(by omega)
          · exact e
          · exact absurd e heq
        rw [wr (by omega) (by omega)]
        refine ih (i + 1) (by omega) fun j hj => ?_
        by_cases hji : j = i
        · subst hji; rw [gi, gj, heq]
        · exact he j (by omega)

theorem atI_nat {α : Type} (f : Nat → Option α) (i : Nat) : atI f (i : Int) = f i := by
  unfold atI
  rw [if_neg (by omega)]
  rfl

/-- A buffer whose answers the document fixes. -/
theorem c8 {H : Hp} {Q : Bool → Hp → Prop} (hQ : ∀ H', Kp No H H' → Q true H') : F8 H Q := by
  refine c9 (fun h => absurd ⟨by decide, by decide⟩ h) fun _ H1 g b1 k1 => ⟨fun hh => (by cases hh), fun _ => ⟨fun hh => (by cases hh), fun _ => ?_⟩⟩
  have s1 := k1.size
  refine c13 (m := (0, 5)) b1 (by decide) (fun h => absurd rfl h) fun _ H10 i hi b10 k10 => ?_
  have s10 := k10.size
  obtain rfl : i = 0 := IsLeast.un hi ⟨rfl, fun j hj => by omega⟩
  have hf1 : (upd (fun _ => none) 0 (some [((0 : Int), (5 : Int))]) : Fn) 0 = some [(0, 5)] := rfl
  refine c14 (i := ((0 : Nat) : Int)) (m := (1, 7)) b10 (by decide) (fun h => ?_) (fun l ls h hb => ?_) fun l ls h hb H14 k hk b14 k14 => ?_
  · rw [atI_nat, hf1] at h; cases h
  · rw [atI_nat, hf1] at h
    injection h with h
    injection h with h1 h2
    subst h1
    unfold bad at hb
    simp at hb
  rw [atI_nat, hf1] at h
  injection h with h
  injection h with h1 h2
  subst h1 h2
  have s14 := k14.size
  obtain rfl : k = 1 := IsLeast.un hk ⟨rfl, fun j hj => by
    obtain rfl : j = 0 := by omega
    rw [hf1]; simp⟩
  have hf2 : (upd (upd (fun _ => none) 0 (some [((0 : Int), (5 : Int))])) 1 (some [(1, 7), (0, 5)]) : Fn) 1 = some [(1, 7), (0, 5)] := rfl
  refine c22 (i := ((1 : Nat) : Int)) b14 (by decide) (fun h => ?_) fun l h _ H18 r hr hra k18 => ?_
  · rw [atI_nat, hf2] at h; cases h
  rw [atI_nat, hf2] at h
  injection h with h
  subst h
  have s18 := k18.size
  refine c19 (b14.kp k18 fun _ _ => id) fun D hD hDm => ?_
  have hlen : D.length = 2 := by
    refine nodup_len hD (E := [((1 : Int), (7 : Int)), (0, 5)]) (by decide) fun m => (hDm m).trans ⟨fun ⟨i, l, hi, hm⟩ => ?_, fun hm => ⟨1, _, hf2, hm⟩⟩
    unfold upd at hi
    split at hi
    · injection hi with hi; rw [hi]; exact hm
    · split at hi
      · injection hi with hi
        rw [← hi] at hm
        simp at hm ⊢
        exact .inr hm
      · cases hi
  have hrn := hr.n
  have hrr : ([((1 : Int), (7 : Int)), (0, 5)] : List Mk).reverse = [(0, 5), (1, 7)] := rfl
  rw [hrr] at hr hrn
  obtain ⟨p, hp, _, cp⟩ := hr.rd.get (i := 0) rfl
  obtain ⟨q, hq, _, cq⟩ := hr.rd.get (i := 1) rfl
  have hrn : r.n = 2 := hrn
  have kk : Kp No H H18 := ((k1.trans k10 fun b hb => .inr hb.1).trans k14 fun b hb => .inr (by
    rcases hb with hb | hb
    · exact hb.1
    · omega)).trans k18 fun _ h => h.elim
  refine ⟨fun _ => ⟨fun _ => ⟨fun _ => ⟨fun _ => ⟨fun _ => ⟨fun _ => ⟨fun _ => ⟨p, hp, by decide, by omega, _, _, cp, fun _ => ⟨q, hq, by decide, by omega, _, _, cq, hQ H18 kk⟩, fun h => (by cases h)⟩, fun h => absurd (of_decide_eq_false h) (by omega)⟩, fun h => absurd (of_decide_eq_false h) (by omega)⟩, fun h => (by cases h)⟩, fun h => (by cases h)⟩, fun h => (by cases h)⟩, fun h => (by cases h)⟩, fun h => (by cases h)⟩
end Go.Hw
