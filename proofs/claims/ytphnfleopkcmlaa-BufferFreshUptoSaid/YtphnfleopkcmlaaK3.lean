/- Is the book whole? Own work of this session. -/
import Derived.Test.YtphnfleopkcmlaaK2
set_option linter.unusedVariables false
namespace Go.Hw
open Go

theorem c28 {V G : Nat → Prop} {H : Hp} {bk : Nat} {MS IS : List Sl} {Q : Bool → Hp → Prop} (h : Bk V G H bk MS IS) (hm : MS.length ≤ 9000000) (hi : IS.length ≤ 9000000) (hQ : Q true H) : F28 (some ⟨bk, 0, none⟩) H Q := by
  obtain ⟨msl, isl, tot, hrow, hms, his, hmV, hiV⟩ := h.ex
  have hmz : ∀ s ∈ MS, s.n ≤ 4100000 := fun s hs => h.sz s (.inl hs)
  have hiz : ∀ s ∈ IS, s.n ≤ 4100000 := fun s hs => h.sz s (.inr hs)
  have hmn := hms.n
  have hin := his.n
  have four : ∀ (base : Int) (i : Nat), 0 ≤ base → base ≤ 1000000 → i ≤ 9000000 → IntKind.i64.wrap (base + IntKind.i64.wrap (Int.tdiv (i : Int) 4)) = base + ((i / 4 : Nat) : Int) := by
    intro base i h1 h2 h3
    have : Int.tdiv (i : Int) 4 = ((i / 4 : Nat) : Int) := by
      rw [Int.tdiv_eq_ediv_of_nonneg (by omega)]; omega
    rw [this, wr (x := ((i / 4 : Nat) : Int)) (by omega) (by omega), wr (by omega) (by omega)]
  have second : F28_1 Q (some ⟨bk, 0, none⟩) H := by
    intro X hX
    suffices G2 : ∀ (d i : Nat), i + d = IS.length → X (i : Int) H from G2 IS.length 0 (by omega)
    intro d
    induction d with
    | zero =>
      intro i hi'
      exact hX _ _ ⟨_, rfl, isl, hrow.cell_of (i := 1) rfl, fun hh => absurd (of_decide_eq_true hh) (by omega), fun _ => hQ⟩
    | succ d ih =>
      intro i hi'
      have hil : i < IS.length := by omega
      have gi : IS[i]? = some IS[i] := List.getElem?_eq_getElem hil
      have hz := hiz _ (List.getElem_mem hil)
      generalize IS[i] = s at gi hz
      obtain ⟨hall, _⟩ := h.is i s gi
      obtain ⟨a, ha, _, ca⟩ := his.rd.get gi
      refine hX _ _ ⟨_, rfl, isl, hrow.cell_of (i := 1) rfl, fun _ => ?_, fun hh => absurd (of_decide_eq_false hh) (by omega)⟩
      intro Y hY
      suffices G3 : ∀ (e j : Nat), j + e = s.n → Y (j : Int) H from G3 s.n 0 (by omega)
      intro e
      induction e with
      | zero =>
        intro j hj
        refine hY _ _ ⟨_, rfl, isl, hrow.cell_of (i := 1) rfl, a, ha, by omega, by omega, s, ca.1, fun hh => absurd (of_decide_eq_true hh) (by omega), fun _ => ?_⟩
        unfold F28_6
        rw [wr (by omega) (by omega)]
        exact ih (i + 1) (by omega)
      | succ e ih2 =>
        intro j hj
        have gj : (List.replicate s.n (mkI i))[j]? = some (mkI i) := by rw [List.getElem?_replicate, if_pos (by omega)]
        obtain ⟨b, hb, _, cb⟩ := RdL.get hall gj
        refine hY _ _ ⟨_, rfl, isl, hrow.cell_of (i := 1) rfl, a, ha, by omega, by omega, s, ca.1, fun _ => ⟨_, rfl, isl, hrow.cell_of (i := 1) rfl, a, ha, by omega, by omega, s, ca.1, b, hb, by omega, by omega, mkI i, cb.1, fun hh => ?_, fun _ => ?_⟩, fun hh => absurd (of_decide_eq_false hh) (by omega)⟩
        · have hh := of_decide_eq_true hh
          rw [four 1000000 i (by decide) (by decide) (by omega)] at hh
          exact absurd rfl hh
        · rw [wr (by omega) (by omega)]
          exact ih2 (j + 1) (by omega)
  intro X hX
  suffices G1 : ∀ (d i : Nat), i + d = MS.length → X (i : Int) H from G1 MS.length 0 (by omega)
  intro d
  induction d with
  | zero =>
    intro i hi'
    exact hX _ _ ⟨_, rfl, msl, hrow.cell_of (i := 0) rfl, fun hh => absurd (of_decide_eq_true hh) (by omega), fun _ => second⟩
  | succ d ih =>
    intro i hi'
    have hil : i < MS.length := by omega
    have gi : MS[i]? = some MS[i] := List.getElem?_eq_getElem hil
    have hz := hmz _ (List.getElem_mem hil)
    generalize MS[i] = s at gi hz
    obtain ⟨hall, _⟩ := h.ms i s gi
    obtain ⟨a, ha, _, ca⟩ := hms.rd.get gi
    refine hX _ _ ⟨_, rfl, msl, hrow.cell_of (i := 0) rfl, fun _ => ?_, fun hh => absurd (of_decide_eq_false hh) (by omega)⟩
    intro Y hY
    suffices G3 : ∀ (e j : Nat), j + e = s.n → Y (j : Int) H from G3 s.n 0 (by omega)
    intro e
    induction e with
    | zero =>
      intro j hj
      refine hY _ _ ⟨_, rfl, msl, hrow.cell_of (i := 0) rfl, a, ha, by omega, by omega, s, ca.1, fun hh => absurd (of_decide_eq_true hh) (by omega), fun _ => ?_⟩
      unfold F28_3
      rw [wr (by omega) (by omega)]
      exact ih (i + 1) (by omega)
    | succ e ih2 =>
      intro j hj
      have gj : (List.replicate s.n (mkM i))[j]? = some (mkM i) := by rw [List.getElem?_replicate, if_pos (by omega)]
      obtain ⟨b, hb, _, cb⟩ := RdL.get hall gj
      refine hY _ _ ⟨_, rfl, msl, hrow.cell_of (i := 0) rfl, a, ha, by omega, by omega, s, ca.1, fun _ => ⟨_, rfl, msl, hrow.cell_of (i := 0) rfl, a, ha, by omega, by omega, s, ca.1, b, hb, by omega, by omega, _, _, cb, fun hh => ?_, fun _ => ?_⟩, fun hh => absurd (of_decide_eq_false hh) (by omega)⟩
      · rw [four 1000 i (by decide) (by decide) (by omega)] at hh
        simp [mkM] at hh
      · rw [wr (by omega) (by omega)]
        exact ih2 (j + 1) (by omega)
end Go.Hw
