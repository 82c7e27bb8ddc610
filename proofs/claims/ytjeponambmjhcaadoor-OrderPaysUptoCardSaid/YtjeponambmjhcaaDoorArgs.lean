/- The arguments of the statements of this seat, opened. Own work of this session. -/
import Derived.Test.YtjeponambmjhcaaDoorLaid
import Derived.Test.YtjeponambmjhcaaDoorN5
set_option linter.unusedVariables false
namespace Go.Hw
open Go Go.ChangeShapes Go.WideShapes Go.RowKit Go.Proofs.YtjeponambmjhcaaDoor Go.Proofs

theorem size76 : Tryd.prog.cellsOf 76 = 4 := by kernel_rfl
theorem size33 : Tryd.prog.cellsOf 33 = 3 := by kernel_rfl
theorem size48 : Tryd.prog.cellsOf 48 = 6 := by kernel_rfl
theorem size2 : Tryd.prog.cellsOf 2 = 1 := by kernel_rfl
theorem size3 : Tryd.prog.cellsOf 3 = 1 := by kernel_rfl
theorem size4 : Tryd.prog.cellsOf 4 = 1 := by kernel_rfl
theorem size9 : Tryd.prog.cellsOf 9 = 1 := by kernel_rfl
theorem size31 : Tryd.prog.cellsOf 31 = 1 := by kernel_rfl

theorem oV : Opn Tryd.prog 76 vF.f (fun _ _ => True) (fun _ => 1) :=
  (Opn.struct Tryd.underlying76 size76 (fun _ => rfl)
    (OpnF.cons rfl size3 rfl (Opn.int Tryd.underlying3) (fun _ => rfl) (OpnF.cons rfl size2 rfl (Opn.int Tryd.underlying2) (fun _ => rfl)
      (OpnF.cons rfl size9 rfl (Opn.string Tryd.underlying9) (fun _ => rfl) (OpnF.cons rfl size4 rfl (Opn.bool Tryd.underlying4) (fun _ => rfl) (OpnF.nil (o := 4))))))).map
    (fun x => (⟨x.1, x.2.1, x.2.2.1, x.2.2.2.1⟩ : VT)) (fun _ => rfl) (fun _ _ _ => trivial) (fun _ => Nat.le_add_left _ _)

theorem oE : Opn Tryd.prog 33 eF.f (fun H e => RdL vF H e.sl e.vs) (fun e => e.vs.length + 1) :=
  (Opn.struct Tryd.underlying33 size33 (fun _ => rfl)
    (OpnF.cons rfl size9 rfl (Opn.string Tryd.underlying9) (fun _ => rfl) (OpnF.cons rfl size2 rfl (Opn.int Tryd.underlying2) (fun _ => rfl)
      (OpnF.cons rfl size31 rfl (Opn.slice Tryd.underlying31 size76 oV) (fun _ => rfl) (OpnF.nil (o := 3)))))).map
    (fun x => (⟨x.1, x.2.1, x.2.2.1.1, x.2.2.1.2⟩ : EC)) (fun _ => rfl) (fun _ _ h => h.2.2.1.1) (fun x => by
      have := bks_len (bk := fun _ : VT => 1) (fun _ => Nat.le_refl _) (l := x.2.2.1.2)
      show x.2.2.1.2.length + 1 ≤ _
      omega)

theorem oO : Opn Tryd.prog 48 oF.f (fun H o => RdL vF H o.sl o.vs) (fun o => o.vs.length + 1) :=
  (Opn.struct Tryd.underlying48 size48 (fun _ => rfl)
    (OpnF.cons rfl size3 rfl (Opn.int Tryd.underlying3) (fun _ => rfl) (OpnF.cons rfl size4 rfl (Opn.bool Tryd.underlying4) (fun _ => rfl)
      (OpnF.cons rfl size33 rfl oE (fun _ => rfl) (OpnF.cons rfl size2 rfl (Opn.int Tryd.underlying2) (fun _ => rfl) (OpnF.nil (o := 6))))))).map
    (fun x => (⟨x.1, x.2.1, x.2.2.1.ty, x.2.2.1.tm, x.2.2.1.sl, x.2.2.2.1, x.2.2.1.vs⟩ : OP)) (fun _ => rfl) (fun _ _ h => h.2.2.1) (fun x => by
      show x.2.2.1.vs.length + 1 ≤ 1 + (1 + (x.2.2.1.vs.length + 1 + (1 + 0))) + 1
      omega)

/-- A script, opened: its steps, each with its values, their bounds. -/
theorem open_script {H : Type} {enc : TypeId × Value → H} {W : World} {base : Nat} {v : Value} {d : DataW H} {p : List MemPlace} {t : TypeId} (ht : Tryd.prog.underlying t = some (.slice 48)) (hval : Value.okWide Tryd.prog W .any base t v) (h : DataW.Trod enc Tryd.prog W 0 (fun _ => true) true t v d p) :
    ∃ (sl : Sl) (Ops : List OP), v = Sl.v sl ∧ RdL oF W.heap sl Ops ∧ (∀ o ∈ Ops, RdL vF W.heap o.sl o.vs) ∧ bks (fun o : OP => o.vs.length + 1) Ops + 1 ≤ Rows.uptoBulk d := by
  obtain ⟨a, len, cap, rfl⟩ := okWide_slice ht hval
  obtain ⟨fuel, hf⟩ := h
  obtain ⟨⟨sl, Ops⟩, hcs, ⟨hrd, hvs⟩, hbk⟩ := (Opn.slice ht size48 oO).out enc W _ _ fuel _ _ hf
  refine ⟨sl, Ops, ?_, hrd, hvs, hbk⟩
  simpa [Value.cells] using hcs

end Go.Hw
