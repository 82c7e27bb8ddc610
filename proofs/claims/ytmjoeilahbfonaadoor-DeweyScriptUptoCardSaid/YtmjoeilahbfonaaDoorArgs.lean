/- The arguments of the statements of this seat, opened. Own work of this session. -/
import Derived.Test.YtmjoeilahbfonaaDoorLaid
import Derived.Test.YtmjoeilahbfonaaDoorD6
import Derived.ChangeMaps5
set_option linter.unusedVariables false
namespace Go.Hw
open Go Go.ChangeShapes Go.WideShapes Go.RowKit Go.Proofs.YtmjoeilahbfonaaDoor Go.Proofs

theorem size3 : Tryd.prog.cellsOf 3 = 1 := by kernel_rfl
theorem size22 : Tryd.prog.cellsOf 22 = 1 := by kernel_rfl
theorem size9 : Tryd.prog.cellsOf 9 = 1 := by kernel_rfl

theorem oI : Opn Tryd.prog 3 iF.f (fun _ _ => True) (fun _ => 1) := (Opn.int Tryd.underlying3).map id (fun _ => rfl) (fun _ _ _ => trivial) (fun _ => Nat.le_refl _)
/-- A list of numbers, opened. -/
theorem oL : Opn Tryd.prog 22 pF.f (fun H x => RdL iF H x.1 x.2 ∧ x.1.n ≤ x.1.c) (fun x => x.2.length + 1) :=
  (Opn.sliceC Tryd.underlying22 size3 oI).map id (fun _ => rfl) (fun _ _ h => ⟨h.1, h.2.1⟩) (fun x => by
    have := bks_len (bk := fun _ : Int => 1) (fun _ => Nat.le_refl _) (l := x.2)
    show x.2.length + 1 ≤ _
    omega)
theorem oR : Opn Tryd.prog 25 (fun x : Sl × List (Sl × List Int) => [Sl.v x.1]) (fun H x => RdL pF H x.1 x.2 ∧ ∀ y ∈ x.2, RdL iF H y.1 y.2 ∧ y.1.n ≤ y.1.c) (fun x => bks (fun y : Sl × List Int => y.2.length + 1) x.2 + 1) :=
  Opn.slice Tryd.underlying25 size22 oL

theorem open_list {H : Type} {enc : TypeId × Value → H} {W : World} {base : Nat} {v : Value} {d : DataW H} {p : List MemPlace} (hval : Value.okWide Tryd.prog W .any base 22 v) (h : DataW.Trod enc Tryd.prog W 0 (fun _ => true) true 22 v d p) :
    ∃ (sl : Sl) (L : List Int), v = Sl.v sl ∧ RdL iF W.heap sl L ∧ sl.n ≤ sl.c ∧ L.length + 1 ≤ Rows.uptoBulk d := by
  obtain ⟨a, len, cap, rfl⟩ := okWide_slice Tryd.underlying22 hval
  obtain ⟨fuel, hf⟩ := h
  obtain ⟨⟨sl, L⟩, hcs, ⟨hrd, hc⟩, hbk⟩ := oL.out enc W _ _ fuel _ _ hf
  refine ⟨sl, L, ?_, hrd, hc, hbk⟩
  simpa [Value.cells, pF] using hcs
theorem open_rows {H : Type} {enc : TypeId × Value → H} {W : World} {base : Nat} {v : Value} {d : DataW H} {p : List MemPlace} (hval : Value.okWide Tryd.prog W .any base 25 v) (h : DataW.Trod enc Tryd.prog W 0 (fun _ => true) true 25 v d p) :
    ∃ (sl : Sl) (R : List (Sl × List Int)), v = Sl.v sl ∧ RdL pF W.heap sl R ∧ (∀ y ∈ R, RdL iF W.heap y.1 y.2 ∧ y.1.n ≤ y.1.c) ∧ bks (fun y : Sl × List Int => y.2.length + 1) R + 1 ≤ Rows.uptoBulk d := by
  obtain ⟨a, len, cap, rfl⟩ := okWide_slice Tryd.underlying25 hval
  obtain ⟨fuel, hf⟩ := h
  obtain ⟨⟨sl, R⟩, hcs, ⟨hrd, hvs⟩, hbk⟩ := oR.out enc W _ _ fuel _ _ hf
  refine ⟨sl, R, ?_, hrd, hvs, hbk⟩
  simpa [Value.cells] using hcs
theorem open_text {H : Type} {enc : TypeId × Value → H} {W : World} {base : Nat} {v : Value} {d : DataW H} {p : List MemPlace} (hval : Value.okWide Tryd.prog W .any base 9 v) (h : DataW.Trod enc Tryd.prog W 0 (fun _ => true) true 9 v d p) :
    ∃ s : ByteArray, v = .string s := by
  obtain ⟨s, rfl, _⟩ := Go.ChangeMaps.open_string Tryd.underlying9 hval h
  exact ⟨s, rfl⟩
end Go.Hw
