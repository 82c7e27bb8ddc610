/- EvalSums, EvalPlaces: their arguments, opened. Own work of this session. -/
import Derived.Test.YtfkhglkcplnppaaDoorArgs
import Derived.Test.YtfkhglkcplnppaaDoorE14
set_option linter.unusedVariables false
namespace Go.Hw
open Go Go.ChangeShapes Go.WideShapes Go.RowKit Go.Proofs.YtfkhglkcplnppaaDoor Go.Proofs

def i64F : Fmt Int 2 1 := ⟨fun x => [.int .i64 x], fun _ => rfl, by intro x v hv; simp at hv; rcases hv with rfl; rfl, by decide⟩
theorem size2 : Tryd.prog.cellsOf 2 = 1 := by kernel_rfl
theorem o64 : Opn Tryd.prog 2 i64F.f (fun _ x => in64 x) (fun _ => 1) := (Opn.int Tryd.underlying2).map id (fun _ => rfl) (fun _ x h => wf64 h) (fun _ => Nat.le_refl _)
theorem rd64 {H : Hp} {sl : Sl} {L : List Int} (h : RdL i64F H sl L) : RdL iF H sl L := ⟨h.n, h.r⟩
set_option maxRecDepth 100000 in
theorem open_list {H : Type} {enc : TypeId × Value → H} {W : World} {base : Nat} {v : Value} {d : DataW H} {p : List MemPlace} {t e k : Nat} {α : Type} {F : Fmt α e k} {R : Hp → α → Prop} (ht : Tryd.prog.underlying t = some (.slice e)) (hz : Tryd.prog.cellsOf e = k) (ho : Opn Tryd.prog e F.f R (fun _ => 1))
    (hval : Value.okWide Tryd.prog W .any base t v) (h : DataW.Trod enc Tryd.prog W 0 (fun _ => true) true t v d p) :
    ∃ (sl : Sl) (L : List α), v = Sl.v sl ∧ RdL F W.heap sl L ∧ (∀ x ∈ L, R W.heap x) ∧ L.length + 1 ≤ Rows.uptoBulk d := by
  obtain ⟨a, len, cap, rfl⟩ := okWide_slice ht hval
  obtain ⟨fuel, hf⟩ := h
  obtain ⟨⟨sl, L⟩, hcs, ⟨hrd, hR⟩, hbk⟩ := (Opn.slice ht hz ho).out enc W _ _ fuel _ _ hf
  replace hbk : bks (fun _ : α => 1) L + 1 ≤ Rows.uptoBulk d := hbk
  have := bks_len (bk := fun _ : α => 1) (fun _ => Nat.le_refl _) (l := L)
  refine ⟨sl, L, ?_, hrd, hR, by omega⟩
  simpa [Value.cells] using hcs
end Go.Hw
