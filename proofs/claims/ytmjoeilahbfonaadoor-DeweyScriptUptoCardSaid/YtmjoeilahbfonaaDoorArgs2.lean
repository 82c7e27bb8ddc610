/- A script, opened; what the world's shape gives. Own work of this session. -/
import Derived.Test.YtmjoeilahbfonaaDoorArgs
import Derived.Test.YtmjoeilahbfonaaDoorD9
import Derived.ShapedOpen
set_option linter.unusedVariables false
namespace Go.Hw
open Go Go.ChangeShapes Go.WideShapes Go.RowKit Go.Proofs.YtmjoeilahbfonaaDoor Go.Proofs

theorem size41 : Tryd.prog.cellsOf 41 = 4 := by kernel_rfl
theorem oOp : Opn Tryd.prog 41 opF.f (fun H o => (RdL iF H o.v o.V ∧ o.v.n ≤ o.v.c) ∧ (RdL iF H o.w o.W ∧ o.w.n ≤ o.w.c)) (fun o => o.V.length + o.W.length + 1) :=
  (Opn.struct Tryd.underlying41 size41 (fun _ => rfl)
    (OpnF.cons rfl size3 rfl (Opn.int Tryd.underlying3) (fun _ => rfl) (OpnF.cons rfl size22 rfl oL (fun _ => rfl)
      (OpnF.cons rfl size22 rfl oL (fun _ => rfl) (OpnF.cons rfl size9 rfl (Opn.string Tryd.underlying9) (fun _ => rfl) (OpnF.nil (o := 4))))))).map
    (fun x => (⟨x.1, x.2.1.1, x.2.2.1.1, x.2.2.2.1, x.2.1.2, x.2.2.1.2⟩ : OP)) (fun _ => rfl) (fun _ _ h => ⟨h.2.1, h.2.2.1⟩) (fun x => by
      show x.2.1.2.length + x.2.2.1.2.length + 1 ≤ 1 + ((x.2.1.2.length + 1) + ((x.2.2.1.2.length + 1) + ((x.2.2.2.1.size + 1) + 0))) + 1
      omega)

/-- A script, opened: its steps, each with its rows, their bounds. -/
theorem open_script {H : Type} {enc : TypeId × Value → H} {W : World} {base : Nat} {v : Value} {d : DataW H} {p : List MemPlace} (hval : Value.okWide Tryd.prog W .any base 38 v) (h : DataW.Trod enc Tryd.prog W 0 (fun _ => true) true 38 v d p) :
    ∃ (sl : Sl) (Ops : List OP), v = Sl.v sl ∧ RdL opF W.heap sl Ops ∧ (∀ o ∈ Ops, (RdL iF W.heap o.v o.V ∧ o.v.n ≤ o.v.c) ∧ (RdL iF W.heap o.w o.W ∧ o.w.n ≤ o.w.c)) ∧ bks (fun o : OP => o.V.length + o.W.length + 1) Ops + 1 ≤ Rows.uptoBulk d := by
  obtain ⟨a, len, cap, rfl⟩ := okWide_slice Tryd.underlying38 hval
  obtain ⟨fuel, hf⟩ := h
  obtain ⟨⟨sl, Ops⟩, hcs, ⟨hrd, hvs⟩, hbk⟩ := (Opn.slice Tryd.underlying38 size41 oOp).out enc W _ _ fuel _ _ hf
  refine ⟨sl, Ops, ?_, hrd, hvs, hbk⟩
  simpa [Value.cells] using hcs

theorem script_bounds {H : Hp} {Ops : List OP} {n : Nat} (hb : bks (fun o : OP => o.V.length + o.W.length + 1) Ops + 1 ≤ n) (hn : n ≤ 1048576) (h : ∀ o ∈ Ops, (RdL iF H o.v o.V ∧ o.v.n ≤ o.v.c) ∧ (RdL iF H o.w o.W ∧ o.w.n ≤ o.w.c)) :
    (∀ o ∈ Ops, OpIv H o) ∧ Ops.length ≤ 1048576 := by
  have hlen := bks_len (bk := fun o : OP => o.V.length + o.W.length + 1) (fun _ => Nat.le_add_left _ _) (l := Ops)
  refine ⟨fun o ho => ?_, by omega⟩
  have : o.V.length + o.W.length + 1 ≤ _ := bks_mem (bk := fun o : OP => o.V.length + o.W.length + 1) ho
  obtain ⟨⟨h1, h2⟩, h3, h4⟩ := h o ho
  exact ⟨⟨h1, h2, by omega⟩, ⟨h3, h4, by omega⟩, by omega, by omega⟩

/-- The cells of a table's datum, rows of rows too. -/
def litCells2 : DataW Unit → Array Value
  | .agg l => (l.flatMap fun d => match d with | .lit (.int k n) => [Value.int k n] | .agg m => (m.map fun d => match d with | .lit (.int k n) => Value.int k n | _ => Value.bool false) | _ => []).toArray
  | _ => #[]
/-- A world for the witness: the settled one, the tables laid. -/
noncomputable def laidWorld5 (os : Os) : World :=
  { laidWorld os with heap := ((laidWorld os).heap.modify 5 (layCells (litCells2 Rows.laid_unicode_utf8_acceptRanges))).modify 4 (layCells (litCells2 Rows.laid_unicode_utf8_first)) }

theorem max_zero : ((begin Tryd.prog (fun _ _ => 0) default).world.heap[1]?).bind Obj.row? = some (#[.int .i64 0], 3) := by kernel_rfl
theorem max_types : Tryd.prog.cellTypes Tryd.prog.depth 3 = some [3] := by kernel_rfl
theorem max_build : Tryd.prog.buildable 3 = true := by kernel_rfl
theorem max_lt : decide (1 < Tryd.prog.globals.size) = true := by kernel_rfl
/-- bytealg's MaxLen holds a number. -/
theorem maxOf {W : World} (h : W.ShapedOpen Tryd.prog) : MaxH W.heap := by
  obtain ⟨cs, h1, h2, h3⟩ := h.1 1 _ 3 (of_decide_eq_true max_lt) max_zero
  obtain ⟨ts, h4, h5, h6⟩ := h3 max_build
  obtain rfl := Option.some.inj (max_types.symm.trans h4)
  have hs : cs.size = 1 := h2
  have g0 : cs[0]? = some (cs[0]'(by omega)) := Array.getElem?_eq_getElem (by omega)
  obtain ⟨u, hu, hc⟩ := h6 0 _ g0
  obtain rfl : u = 3 := by
    have : some 3 = some u := hu
    exact (Option.some.inj this).symm
  unfold Cell.ok at hc
  rw [Tryd.underlying3] at hc
  have hcell : cell W.heap ⟨1, 0, none⟩ = some (cs[0]'(by omega)) := by
    unfold cell
    rw [h1]
    simp [g0]
  generalize cs[0]'(by omega) = v at hc hcell
  cases v <;> simp at hc
  obtain ⟨rfl, _⟩ := hc
  exact ⟨_, hcell⟩
end Go.Hw
