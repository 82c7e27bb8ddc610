/- The arguments of the statements of this seat, opened. Own work of this session. -/
import Derived.Test.YtbhfkpdalilhcaaDoorLaid
import Derived.Test.YtbhfkpdalilhcaaDoorT6
import Derived.ChangeMaps5
set_option linter.unusedVariables false
namespace Go.Hw
open Go Go.ChangeShapes Go.WideShapes Go.RowKit Go.Proofs.YtbhfkpdalilhcaaDoor Go.Proofs

theorem size3 : Tryd.prog.cellsOf 3 = 1 := by kernel_rfl
theorem wf64 {i : Int} (h : (Lit.int .i64 i).wf = true) : -9223372036854775808 ≤ i ∧ i ≤ 9223372036854775807 := by
  simp [Lit.wf, IntKind.min, IntKind.max, IntKind.bits, IntKind.signed] at h
  exact h
theorem wf8 {i : Int} (h : (Lit.int .u8 i).wf = true) : 0 ≤ i ∧ i ≤ 255 := by
  simp [Lit.wf, IntKind.min, IntKind.max, IntKind.bits, IntKind.signed] at h
  exact h
theorem oI : Opn Tryd.prog 3 iF.f (fun _ _ => True) (fun _ => 1) := (Opn.int Tryd.underlying3).map id (fun _ => rfl) (fun _ _ _ => trivial) (fun _ => Nat.le_refl _)
set_option maxRecDepth 100000 in
theorem open_ints0 {H : Type} {enc : TypeId × Value → H} {W : World} {base : Nat} {v : Value} {d : DataW H} {p : List MemPlace} (hval : Value.okWide Tryd.prog W .any base 22 v) (h : DataW.Trod enc Tryd.prog W 0 (fun _ => true) true 22 v d p) :
    ∃ (sl : Sl) (L : List Int), v = Sl.v sl ∧ RdL iF W.heap sl L ∧ L.length + 1 ≤ Rows.uptoBulk d := by
  obtain ⟨a, len, cap, rfl⟩ := okWide_slice Tryd.underlying22 hval
  obtain ⟨fuel, hf⟩ := h
  obtain ⟨⟨sl, L⟩, hcs, ⟨hrd, _⟩, hbk⟩ := (Opn.slice Tryd.underlying22 size3 oI).out enc W _ _ fuel _ _ hf
  replace hbk : bks (fun _ : Int => 1) L + 1 ≤ Rows.uptoBulk d := hbk
  have := bks_len (bk := fun _ : Int => 1) (fun _ => Nat.le_refl _) (l := L)
  refine ⟨sl, L, ?_, hrd, by omega⟩
  simpa [Value.cells] using hcs
set_option maxRecDepth 100000 in
theorem open_text {H : Type} {enc : TypeId × Value → H} {W : World} {base : Nat} {v : Value} {d : DataW H} {p : List MemPlace} (hval : Value.okWide Tryd.prog W .any base 9 v) (h : DataW.Trod enc Tryd.prog W 0 (fun _ => true) true 9 v d p) :
    ∃ s : ByteArray, v = .string s := by
  obtain ⟨s, rfl, _⟩ := Go.ChangeMaps.open_string Tryd.underlying9 hval h
  exact ⟨s, rfl⟩
end Go.Hw
