/- The arguments of the statements of this seat, opened. Own work of this session. -/
import Derived.Test.YtjeponambmjhcaaHwO
import Derived.Test.YtjeponambmjhcaaD3
set_option linter.unusedVariables false
namespace Go.Hw
open Go Go.ChangeShapes Go.WideShapes Go.RowKit Go.Proofs.Ytjeponambmjhcaa Go.Proofs

theorem size49 : Try.prog.cellsOf 49 = 4 := by kernel_rfl
theorem size32 : Try.prog.cellsOf 32 = 3 := by kernel_rfl
theorem size34 : Try.prog.cellsOf 34 = 6 := by kernel_rfl
theorem size2 : Try.prog.cellsOf 2 = 1 := by kernel_rfl
theorem size3 : Try.prog.cellsOf 3 = 1 := by kernel_rfl
theorem size4 : Try.prog.cellsOf 4 = 1 := by kernel_rfl
theorem size9 : Try.prog.cellsOf 9 = 1 := by kernel_rfl
theorem size30 : Try.prog.cellsOf 30 = 1 := by kernel_rfl

theorem oV : Opn Try.prog 49 vF.f (fun _ _ => True) (fun _ => 1) :=
  (Opn.struct Try.underlying49 size49 (fun _ => rfl)
    (OpnF.cons rfl size3 rfl (Opn.int Try.underlying3) (fun _ => rfl) (OpnF.cons rfl size2 rfl (Opn.int Try.underlying2) (fun _ => rfl)
      (OpnF.cons rfl size9 rfl (Opn.string Try.underlying9) (fun _ => rfl) (OpnF.cons rfl size4 rfl (Opn.bool Try.underlying4) (fun _ => rfl) (OpnF.nil (o := 4))))))).map
    (fun x => (⟨x.1, x.2.1, x.2.2.1, x.2.2.2.1⟩ : VT)) (fun _ => rfl) (fun _ _ _ => trivial) (fun _ => Nat.le_add_left _ _)

theorem oE : Opn Try.prog 32 eF.f (fun H e => RdL vF H e.sl e.vs) (fun e => e.vs.length + 1) :=
  (Opn.struct Try.underlying32 size32 (fun _ => rfl)
    (OpnF.cons rfl size9 rfl (Opn.string Try.underlying9) (fun _ => rfl) (OpnF.cons rfl size2 rfl (Opn.int Try.underlying2) (fun _ => rfl)
      (OpnF.cons rfl size30 rfl (Opn.slice Try.underlying30 size49 oV) (fun _ => rfl) (OpnF.nil (o := 3)))))).map
    (fun x => (⟨x.1, x.2.1, x.2.2.1.1, x.2.2.1.2⟩ : EC)) (fun _ => rfl) (fun _ _ h => h.2.2.1.1) (fun x => by
      have := bks_len (bk := fun _ : VT => 1) (fun _ => Nat.le_refl _) (l := x.2.2.1.2)
      show x.2.2.1.2.length + 1 ≤ _
      omega)

theorem oO : Opn Try.prog 34 oF.f (fun H o => RdL vF H o.sl o.vs) (fun o => o.vs.length + 1) :=
  (Opn.struct Try.underlying34 size34 (fun _ => rfl)
    (OpnF.cons rfl size3 rfl (Opn.int Try.underlying3) (fun _ => rfl) (OpnF.cons rfl size4 rfl (Opn.bool Try.underlying4) (fun _ => rfl)
      (OpnF.cons rfl size32 rfl oE (fun _ => rfl) (OpnF.cons rfl size2 rfl (Opn.int Try.underlying2) (fun _ => rfl) (OpnF.nil (o := 6))))))).map
    (fun x => (⟨x.1, x.2.1, x.2.2.1.ty, x.2.2.1.tm, x.2.2.1.sl, x.2.2.2.1, x.2.2.1.vs⟩ : OP)) (fun _ => rfl) (fun _ _ h => h.2.2.1) (fun x => by
      show x.2.2.1.vs.length + 1 ≤ 1 + (1 + (x.2.2.1.vs.length + 1 + (1 + 0))) + 1
      omega)

theorem own : ownKnob Try.prog.godebug = none := by kernel_rfl
theorem laid : laidOutB Try.prog = true := by kernel_rfl

/-- A script, opened: its steps, each with its values, their bounds. -/
theorem open_script {H : Type} {enc : TypeId × Value → H} {W : World} {base : Nat} {v : Value} {d : DataW H} {p : List MemPlace} {t : TypeId} (ht : Try.prog.underlying t = some (.slice 34)) (hval : Value.okWide Try.prog W .any base t v) (h : DataW.Trod enc Try.prog W 0 (fun _ => true) true t v d p) :
    ∃ (sl : Sl) (Ops : List OP), v = Sl.v sl ∧ RdL oF W.heap sl Ops ∧ (∀ o ∈ Ops, RdL vF W.heap o.sl o.vs) ∧ bks (fun o : OP => o.vs.length + 1) Ops + 1 ≤ Rows.uptoBulk d := by
  obtain ⟨a, len, cap, rfl⟩ := okWide_slice ht hval
  obtain ⟨fuel, hf⟩ := h
  obtain ⟨⟨sl, Ops⟩, hcs, ⟨hrd, hvs⟩, hbk⟩ := (Opn.slice ht size34 oO).out enc W _ _ fuel _ _ hf
  refine ⟨sl, Ops, ?_, hrd, hvs, hbk⟩
  simpa [Value.cells] using hcs

end Go.Hw
