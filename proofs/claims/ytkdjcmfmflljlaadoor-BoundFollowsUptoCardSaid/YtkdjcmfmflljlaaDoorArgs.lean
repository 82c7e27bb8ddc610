/- The arguments of the statements of this seat, opened. Own work of this session. -/
import Derived.Test.YtkdjcmfmflljlaaDoorLaid
import Derived.ChangeMaps5
set_option linter.unusedVariables false
namespace Go.Hw
open Go Go.ChangeShapes Go.WideShapes Go.RowKit Go.Proofs.YtkdjcmfmflljlaaDoor Go.Proofs

theorem wf64 {i : Int} (h : (Lit.int .i64 i).wf = true) : -9223372036854775808 ≤ i ∧ i ≤ 9223372036854775807 := by
  simp [Lit.wf, IntKind.min, IntKind.max, IntKind.bits, IntKind.signed] at h
  exact h
theorem size3 : Tryd.prog.cellsOf 3 = 1 := by kernel_rfl
theorem size2 : Tryd.prog.cellsOf 2 = 1 := by kernel_rfl
theorem size9 : Tryd.prog.cellsOf 9 = 1 := by kernel_rfl
theorem size4 : Tryd.prog.cellsOf 4 = 1 := by kernel_rfl
theorem size25 : Tryd.prog.cellsOf 25 = 4 := by kernel_rfl
theorem size31 : Tryd.prog.cellsOf 31 = 8 := by kernel_rfl
theorem size45 : Tryd.prog.cellsOf 45 = 6 := by kernel_rfl
theorem oVT : Opn Tryd.prog 25 vF.f (fun _ v => minI ≤ v.n ∧ v.n ≤ maxI) (fun _ => 1) :=
  (Opn.struct Tryd.underlying25 size25 (fun _ => rfl)
    (OpnF.cons rfl size3 rfl (Opn.int Tryd.underlying3) (fun _ => rfl) (OpnF.cons rfl size2 rfl (Opn.int Tryd.underlying2) (fun _ => rfl)
      (OpnF.cons rfl size9 rfl (Opn.string Tryd.underlying9) (fun _ => rfl) (OpnF.cons rfl size4 rfl (Opn.bool Tryd.underlying4) (fun _ => rfl) (OpnF.nil (o := 4))))))).map
    (fun x => (⟨x.1, x.2.1, x.2.2.1, x.2.2.2.1⟩ : VT)) (fun _ => rfl) (fun _ _ h => wf64 h.2.1) (fun x => Nat.le_add_left _ _)
theorem oRl : Opn Tryd.prog 31 rlF.f (fun _ x => minI ≤ x.c.n ∧ x.c.n ≤ maxI) (fun _ => 1) :=
  (Opn.struct Tryd.underlying31 size31 (fun _ => rfl)
    (OpnF.cons rfl size3 rfl (Opn.int Tryd.underlying3) (fun _ => rfl) (OpnF.cons rfl size3 rfl (Opn.int Tryd.underlying3) (fun _ => rfl) (OpnF.cons rfl size3 rfl (Opn.int Tryd.underlying3) (fun _ => rfl)
      (OpnF.cons rfl size25 rfl oVT (fun _ => rfl) (OpnF.cons rfl size3 rfl (Opn.int Tryd.underlying3) (fun _ => rfl) (OpnF.nil (o := 8)))))))).map
    (fun x => (⟨x.1, x.2.1, x.2.2.1, x.2.2.2.1, x.2.2.2.2.1⟩ : RelM)) (fun _ => rfl) (fun _ _ h => h.2.2.2.1) (fun x => Nat.le_add_left _ _)
theorem oBo : Opn Tryd.prog 4 boF.f (fun _ _ => True) (fun _ => 1) := (Opn.bool Tryd.underlying4).map id (fun _ => rfl) (fun _ _ _ => trivial) (fun _ => Nat.le_refl _)
set_option maxRecDepth 100000 in
theorem open_list {H : Type} {enc : TypeId × Value → H} {W : World} {base : Nat} {v : Value} {d : DataW H} {p : List MemPlace} {t e k : Nat} {α : Type} {F : Fmt α e k} {R : Hp → α → Prop} (ht : Tryd.prog.underlying t = some (.slice e)) (hz : Tryd.prog.cellsOf e = k) (ho : Opn Tryd.prog e F.f R (fun _ => 1))
    (hval : Value.okWide Tryd.prog W .any base t v) (h : DataW.Trod enc Tryd.prog W 0 (fun _ => true) true t v d p) :
    ∃ (sl : Sl) (L : List α), v = Sl.v sl ∧ RdL F W.heap sl L ∧ (∀ x ∈ L, R W.heap x) ∧ L.length + 1 ≤ Rows.uptoBulk d := by
  obtain ⟨a, len, cap, rfl⟩ := okWide_slice ht hval
  obtain ⟨fuel, hf⟩ := h
  obtain ⟨⟨sl, L⟩, hcs, ⟨hrd, hR⟩, hbk⟩ := (Opn.slice ht hz ho).out enc W _ _ fuel _ _ hf
  replace hbk : bks (fun _ : α => 1) L + 1 ≤ Rows.uptoBulk d := hbk
  have := bks_len (bk := fun _ : α => 1) (fun _ => Nat.le_refl _) (l := L)
  refine ⟨sl, L, ?_, hrd, hR, by omega⟩
  simpa [Value.cells] using hcs
theorem okWide_array {P : Program} {w : World} {base : Nat} {t e n : Nat} {v : Value} (ht : P.underlying t = some (.array n e)) (h : Value.okWide P w .any base t v) : ∃ cs, v = .agg cs ∧ cs.size = P.cellsOf t := by
  simp only [Value.okWide, ht] at h
  obtain ⟨cs, h1, h2, _⟩ := h
  exact ⟨cs, h1, h2⟩
end Go.Hw
