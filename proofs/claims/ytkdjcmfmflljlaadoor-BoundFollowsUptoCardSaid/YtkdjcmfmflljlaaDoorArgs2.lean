/- Six numbers, opened. Own work of this session. -/
import Derived.Test.YtkdjcmfmflljlaaDoorArgs
import Derived.Test.YtkdjcmfmflljlaaDoorS4
set_option linter.unusedVariables false
namespace Go.Hw
open Go Go.ChangeShapes Go.WideShapes Go.RowKit Go.Proofs.YtkdjcmfmflljlaaDoor Go.Proofs

theorem oIn : Opn Tryd.prog 2 iF.f (fun _ v => minI ≤ v ∧ v ≤ maxI) (fun _ => 1) := (Opn.int Tryd.underlying2).map id (fun _ => rfl) (fun _ _ h => wf64 h) (fun _ => Nat.le_refl _)
set_option maxRecDepth 100000 in
theorem open_ints {H : Type} {enc : TypeId × Value → H} {W : World} {base : Nat} {v : Value} {d : DataW H} {p : List MemPlace} (hval : Value.okWide Tryd.prog W .any base 45 v) (h : DataW.Trod enc Tryd.prog W 0 (fun _ => true) true 45 v d p) :
    ∃ n : Nat → Int, v = .agg #[.int .i64 (n 0), .int .i64 (n 1), .int .i64 (n 2), .int .i64 (n 3), .int .i64 (n 4), .int .i64 (n 5)] ∧ InR n := by
  obtain ⟨cs, rfl, hsz⟩ := okWide_array Tryd.underlying45 hval
  obtain ⟨fuel, hf⟩ := h
  obtain ⟨xs, m, _, _, hl, hxl, hx⟩ := DataW.trod_array Tryd.underlying45 hf
  rw [size45] at hl
  have hg : ∀ i, ∃ v : Int, i < 6 → ((cs.toList.drop (i * 1)).take 1 = [.int .i64 v] ∧ minI ≤ v ∧ v ≤ maxI) := fun i => by
    by_cases hi : i < 6
    · have h1 := hx i hi
      rw [size2, List.getElem?_eq_getElem (by omega)] at h1
      obtain ⟨a, e, hR, _⟩ := oIn.out enc W _ _ m _ _ h1
      exact ⟨a, fun _ => ⟨e, hR⟩⟩
    · exact ⟨0, fun h => absurd h hi⟩
  have hlen : cs.toList.length = 6 := hl
  refine ⟨fun i => if i < 6 then (hg i).choose else 0, ?_, fun i => ?_⟩
  · have h0 := ((hg 0).choose_spec (by decide)).1
    have h1 := ((hg 1).choose_spec (by decide)).1
    have h2 := ((hg 2).choose_spec (by decide)).1
    have h3 := ((hg 3).choose_spec (by decide)).1
    have h4 := ((hg 4).choose_spec (by decide)).1
    have h5 := ((hg 5).choose_spec (by decide)).1
    have e : cs.toList = [.int .i64 (hg 0).choose] ++ ([.int .i64 (hg 1).choose] ++ ([.int .i64 (hg 2).choose] ++ ([.int .i64 (hg 3).choose] ++ ([.int .i64 (hg 4).choose] ++ [.int .i64 (hg 5).choose])))) := by
      rw [← h0, ← h1, ← h2, ← h3, ← h4, ← h5]
      generalize cs.toList = l at hlen
      have s : ∀ (n : Nat) (l : List Value), l.drop n = (l.drop n).take 1 ++ l.drop (n + 1) := fun n l => by
        rw [← List.drop_drop, List.take_append_drop]
      have e6 : l.drop 6 = [] := List.drop_of_length_le (by omega)
      have := s 0 l
      rw [List.drop_zero] at this
      rw [show 0 * 1 = 0 from rfl, show 1 * 1 = 1 from rfl, show 2 * 1 = 2 from rfl, show 3 * 1 = 3 from rfl, show 4 * 1 = 4 from rfl, show 5 * 1 = 5 from rfl, List.drop_zero]
      conv => lhs; rw [this, s 1 l, s 2 l, s 3 l, s 4 l, s 5 l, e6, List.append_nil]
    exact congrArg Value.agg (Array.toList_inj.1 (e.trans rfl))
  · by_cases hi : i < 6
    · simp only [if_pos hi]
      exact ((hg i).choose_spec hi).2
    · simp only [if_neg hi]
      decide
end Go.Hw
