/- The arguments of the statements of this seat, opened. Own work of this session. -/
import Derived.Test.YtphnfleopkcmlaaHwO
import Derived.Test.YtphnfleopkcmlaaL3
set_option linter.unusedVariables false
namespace Go.Hw
open Go Go.ChangeShapes Go.WideShapes Go.RowKit Go.Proofs.Ytphnfleopkcmlaa Go.Proofs

theorem size34 : Try.prog.cellsOf 34 = 5 := by kernel_rfl
theorem size32 : Try.prog.cellsOf 32 = 2 := by kernel_rfl
theorem size2 : Try.prog.cellsOf 2 = 1 := by kernel_rfl
theorem size3 : Try.prog.cellsOf 3 = 1 := by kernel_rfl

theorem oM : Opn Try.prog 32 mF.f (fun _ _ => True) (fun _ => 1) :=
  (Opn.struct Try.underlying32 size32 (fun _ => rfl)
    (OpnF.cons rfl size3 rfl (Opn.int Try.underlying3) (fun _ => rfl) (OpnF.cons rfl size2 rfl (Opn.int Try.underlying2) (fun _ => rfl) (OpnF.nil (o := 2))))).map
    (fun x => ((x.1, x.2.1) : Mk)) (fun _ => rfl) (fun _ _ _ => trivial) (fun _ => Nat.le_add_left _ _)

theorem oO : Opn Try.prog 34 oF.f (fun _ _ => True) (fun _ => 5) :=
  (Opn.struct Try.underlying34 size34 (fun _ => rfl)
    (OpnF.cons rfl size3 rfl (Opn.int Try.underlying3) (fun _ => rfl) (OpnF.cons rfl size3 rfl (Opn.int Try.underlying3) (fun _ => rfl)
      (OpnF.cons rfl size3 rfl (Opn.int Try.underlying3) (fun _ => rfl) (OpnF.cons rfl size32 rfl oM (fun _ => rfl) (OpnF.nil (o := 5))))))).map
    (fun x => (⟨x.1, x.2.1, x.2.2.1, x.2.2.2.1⟩ : OP5)) (fun _ => rfl) (fun _ _ _ => trivial) (fun _ => Nat.le_refl 5)

theorem own : ownKnob Try.prog.godebug = none := by kernel_rfl
theorem laid : laidOutB Try.prog = true := by kernel_rfl

theorem bks_const {α : Type} (k : Nat) (l : List α) : bks (fun _ => k) l = k * l.length := by
  induction l with
  | nil => rfl
  | cons x l ih => simp only [bks, ih, List.length_cons, Nat.mul_succ]; omega

/-- A script, opened: its steps, how many there may be. -/
theorem open_script {H : Type} {enc : TypeId × Value → H} {W : World} {base : Nat} {v : Value} {d : DataW H} {p : List MemPlace} {t : TypeId} (ht : Try.prog.underlying t = some (.slice 34)) (hval : Value.okWide Try.prog W .any base t v) (h : DataW.Trod enc Try.prog W 0 (fun _ => true) true t v d p) :
    ∃ (sl : Sl) (Ops : List OP5), v = Sl.v sl ∧ RdL oF W.heap sl Ops ∧ 5 * Ops.length + 1 ≤ Rows.uptoBulk d := by
  obtain ⟨a, len, cap, rfl⟩ := okWide_slice ht hval
  obtain ⟨fuel, hf⟩ := h
  obtain ⟨⟨sl, Ops⟩, hcs, ⟨hrd, _⟩, hbk⟩ := (Opn.slice ht size34 oO).out enc W _ _ fuel _ _ hf
  refine ⟨sl, Ops, ?_, hrd, ?_⟩
  · simpa [Value.cells] using hcs
  · rw [bks_const] at hbk
    exact hbk

/-- A list of numbers of any width, opened. -/
theorem open_ints {H : Type} {enc : TypeId × Value → H} {W : World} {base : Nat} {v : Value} {d : DataW H} {p : List MemPlace} {t e : TypeId} {k : IntKind} {Fm : Fmt Int e 1} (hf : Fm.f = fun i : Int => [.int k i]) (ht : Try.prog.underlying t = some (.slice e)) (he : Try.prog.underlying e = some (.int k)) (hc : Try.prog.cellsOf e = 1) (hval : Value.okWide Try.prog W .any base t v) (h : DataW.Trod enc Try.prog W 0 (fun _ => true) true t v d p) :
    ∃ (sl : Sl) (L : List Int), v = Sl.v sl ∧ RdL Fm W.heap sl L ∧ (∀ i ∈ L, (Lit.int k i).wf = true) ∧ L.length + 1 ≤ Rows.uptoBulk d := by
  obtain ⟨a, len, cap, rfl⟩ := okWide_slice ht hval
  obtain ⟨fuel, hfu⟩ := h
  have ho : Opn Try.prog e Fm.f (fun _ i => (Lit.int k i).wf = true) (fun _ => 1) := by rw [hf]; exact Opn.int he
  obtain ⟨⟨sl, L⟩, hcs, ⟨hrd, hw⟩, hbk⟩ := (Opn.slice ht hc ho).out enc W _ _ fuel _ _ hfu
  refine ⟨sl, L, ?_, hrd, hw, ?_⟩
  · simpa [Value.cells] using hcs
  · rw [bks_const] at hbk
    simpa using hbk

end Go.Hw
