/- SchemaRound's arguments, opened. Own work of this session. -/
import Derived.Test.YtbhfkpdalilhcaaDoorLaid2
import Derived.Test.YtbhfkpdalilhcaaDoorT11
import Derived.ChangeMaps5
set_option linter.unusedVariables false
namespace Go.Hw
open Go Go.ChangeShapes Go.WideShapes Go.RowKit Go.Proofs.YtbhfkpdalilhcaaDoor Go.Proofs

theorem size3' : Tryd.prog.cellsOf 3 = 1 := by kernel_rfl
theorem size9' : Tryd.prog.cellsOf 9 = 1 := by kernel_rfl
theorem size5' : Tryd.prog.cellsOf 5 = 1 := by kernel_rfl
theorem oI' : Opn Tryd.prog 3 iF.f (fun _ _ => True) (fun _ => 1) := (Opn.int Tryd.underlying3).map id (fun _ => rfl) (fun _ _ _ => trivial) (fun _ => Nat.le_refl _)
theorem oS' : Opn Tryd.prog 9 bF.f (fun _ _ => True) (fun _ => 1) := (Opn.string Tryd.underlying9).map id (fun _ => rfl) (fun _ _ _ => trivial) (fun _ => Nat.le_add_left _ _)
theorem oB' : Opn Tryd.prog 5 u8F.f (fun _ x => 0 ≤ x ∧ x ≤ 255) (fun _ => 1) := (Opn.int Tryd.underlying5).map id (fun _ => rfl) (fun _ x h => by
  simp [Lit.wf, IntKind.min, IntKind.max, IntKind.bits, IntKind.signed] at h
  exact h) (fun _ => Nat.le_refl _)
set_option maxRecDepth 100000 in
theorem open_list {H : Type} {enc : TypeId × Value → H} {W : World} {base : Nat} {v : Value} {d : DataW H} {p : List MemPlace} {t e k : Nat} {α : Type} {F : Fmt α e k} {R : Hp → α → Prop} (ht : Tryd.prog.underlying t = some (.slice e)) (hz : Tryd.prog.cellsOf e = k) (ho : Opn Tryd.prog e F.f R (fun _ => 1))
    (hval : Value.okWide Tryd.prog W .any base t v) (h : DataW.Trod enc Tryd.prog W 0 (fun _ => true) true t v d p) :
    ∃ (sl : Sl) (L : List α), v = Sl.v sl ∧ RdL F W.heap sl L ∧ (∀ x ∈ L, R W.heap x) ∧ L.length + 1 ≤ Rows.uptoBulk d := by
  obtain ⟨a, len, cap, rfl⟩ := okWide_slice ht hval
  obtain ⟨fuel, hf⟩ := h
  obtain ⟨⟨sl, L⟩, hcs, ⟨hrd, hR⟩, hbk⟩ := (Opn.slice ht hz ho).out enc W _ _ fuel _ _ hf
  replace hbk : bks (fun _ : α => 1) L + 1 ≤ Rows.uptoBulk d := hbk
  have := bks_len (bk := fun _ : α => 1) (fun _ => Nat.le_refl _) (l := L)
  refine ⟨sl, L, ?_, hrd, hR, by omega⟩
  simpa [Value.cells] using hcs
set_option maxRecDepth 100000 in
theorem open_text' {H : Type} {enc : TypeId × Value → H} {W : World} {base : Nat} {v : Value} {d : DataW H} {p : List MemPlace} (hval : Value.okWide Tryd.prog W .any base 9 v) (h : DataW.Trod enc Tryd.prog W 0 (fun _ => true) true 9 v d p) :
    ∃ s : ByteArray, v = .string s ∧ s.size + 1 ≤ Rows.uptoBulk d := by
  obtain ⟨s, rfl, rfl, _⟩ := Go.ChangeMaps.open_string Tryd.underlying9 hval h
  refine ⟨s, rfl, ?_⟩
  exact Nat.le_refl _
end Go.Hw
