/- SchemaAll's argument, opened. Own work of this session. -/
import Derived.Test.YtbhfkpdalilhcaaDoorLaid2
import Derived.Test.YtbhfkpdalilhcaaDoorT27
import Derived.ChangeMaps5
set_option linter.unusedVariables false
namespace Go.Hw
open Go Go.ChangeShapes Go.WideShapes Go.RowKit Go.Proofs.YtbhfkpdalilhcaaDoor Go.Proofs

theorem size2' : Tryd.prog.cellsOf 2 = 1 := by kernel_rfl
theorem size3' : Tryd.prog.cellsOf 3 = 1 := by kernel_rfl
theorem size4' : Tryd.prog.cellsOf 4 = 1 := by kernel_rfl
theorem size9' : Tryd.prog.cellsOf 9 = 1 := by kernel_rfl
theorem size25 : Tryd.prog.cellsOf 25 = 1 := by kernel_rfl
theorem size27 : Tryd.prog.cellsOf 27 = 2 := by kernel_rfl
theorem size31 : Tryd.prog.cellsOf 31 = 1 := by kernel_rfl
theorem size33 : Tryd.prog.cellsOf 33 = 3 := by kernel_rfl
theorem size35 : Tryd.prog.cellsOf 35 = 4 := by kernel_rfl
theorem size38 : Tryd.prog.cellsOf 38 = 2 := by kernel_rfl
theorem size65 : Tryd.prog.cellsOf 65 = 8 := by kernel_rfl
theorem wf64 {i : Int} (h : (Lit.int .i64 i).wf = true) : -9223372036854775808 ≤ i ∧ i ≤ 9223372036854775807 := by
  simp [Lit.wf, IntKind.min, IntKind.max, IntKind.bits, IntKind.signed] at h
  exact h
theorem oAt : Opn Tryd.prog 38 aF.f (fun _ _ => True) (fun _ => 1) :=
  (Opn.struct Tryd.underlying38 size38 (fun _ => rfl)
    (OpnF.cons rfl size9' rfl (Opn.string Tryd.underlying9) (fun _ => rfl) (OpnF.cons rfl size3' rfl (Opn.int Tryd.underlying3) (fun _ => rfl) (OpnF.nil (o := 2))))).map
    (fun x => (x.1, x.2.1)) (fun _ => rfl) (fun _ _ _ => trivial) (fun x => Nat.le_add_left _ _)
theorem oVT : Opn Tryd.prog 35 vF.f (fun _ _ => True) (fun _ => 1) :=
  (Opn.struct Tryd.underlying35 size35 (fun _ => rfl)
    (OpnF.cons rfl size3' rfl (Opn.int Tryd.underlying3) (fun _ => rfl) (OpnF.cons rfl size2' rfl (Opn.int Tryd.underlying2) (fun _ => rfl)
      (OpnF.cons rfl size9' rfl (Opn.string Tryd.underlying9) (fun _ => rfl) (OpnF.cons rfl size4' rfl (Opn.bool Tryd.underlying4) (fun _ => rfl) (OpnF.nil (o := 4))))))).map
    (fun x => (⟨x.1, x.2.1, x.2.2.1, x.2.2.2.1⟩ : VT)) (fun _ => rfl) (fun _ _ _ => trivial) (fun x => Nat.le_add_left _ _)
theorem oTy : Opn Tryd.prog 27 (fun x : (ByteArray × Atts) × Sl => [.string x.1.1, Sl.v x.2]) (fun H x => RdL aF H x.2 x.1.2) (fun x => x.1.1.size + x.1.2.length + 1) :=
  (Opn.struct Tryd.underlying27 size27 (fun _ => rfl)
    (OpnF.cons rfl size9' rfl (Opn.string Tryd.underlying9) (fun _ => rfl) (OpnF.cons rfl size25 rfl (Opn.slice (F := aF) Tryd.underlying25 size38 oAt) (fun _ => rfl) (OpnF.nil (o := 2))))).map
    (fun x => (((x.1, x.2.1.2) : ByteArray × Atts), x.2.1.1)) (fun _ => rfl) (fun _ _ h => h.2.1.1) (fun x => by
      have := bks_len (bk := fun _ : ByteArray × Int => 1) (fun _ => Nat.le_refl _) (l := x.2.1.2)
      show x.1.size + x.2.1.2.length + 1 ≤ _
      omega)
theorem oEv : Opn Tryd.prog 33 (fun x : (ByteArray × Int × List VT) × Sl => [.string x.1.1, .int .i64 x.1.2.1, Sl.v x.2]) (fun H x => RdL vF H x.2 x.1.2.2) (fun x => x.1.2.2.length + 1) :=
  (Opn.struct Tryd.underlying33 size33 (fun _ => rfl)
    (OpnF.cons rfl size9' rfl (Opn.string Tryd.underlying9) (fun _ => rfl) (OpnF.cons rfl size2' rfl (Opn.int Tryd.underlying2) (fun _ => rfl)
      (OpnF.cons rfl size31 rfl (Opn.slice (F := vF) Tryd.underlying31 size35 oVT) (fun _ => rfl) (OpnF.nil (o := 3)))))).map
    (fun x => (((x.1, x.2.1, x.2.2.1.2) : ByteArray × Int × List VT), x.2.2.1.1)) (fun _ => rfl) (fun _ _ h => h.2.2.1.1) (fun x => by
      have := bks_len (bk := fun _ : VT => 1) (fun _ => Nat.le_refl _) (l := x.2.2.1.2)
      show x.2.2.1.2.length + 1 ≤ _
      omega)
theorem oOp : Opn Tryd.prog 65 opF.f (fun H x => RdL aF H x.2.1 x.1.A ∧ RdL vF H x.2.2 x.1.V ∧ (-9223372036854775808 ≤ x.1.which ∧ x.1.which ≤ 9223372036854775807)) (fun x => x.1.name.size + x.1.A.length + x.1.V.length + 1) :=
  (Opn.struct Tryd.underlying65 size65 (fun _ => rfl)
    (OpnF.cons rfl size3' rfl (Opn.int Tryd.underlying3) (fun _ => rfl) (OpnF.cons rfl size3' rfl (Opn.int Tryd.underlying3) (fun _ => rfl)
      (OpnF.cons rfl size27 rfl oTy (fun _ => rfl) (OpnF.cons rfl size9' rfl (Opn.string Tryd.underlying9) (fun _ => rfl) (OpnF.cons rfl size33 rfl oEv (fun _ => rfl) (OpnF.nil (o := 8)))))))).map
    (fun x => ((⟨x.1, x.2.1, x.2.2.1.1.1, x.2.2.1.1.2, x.2.2.2.1, x.2.2.2.2.1.1.1, x.2.2.2.2.1.1.2.1, x.2.2.2.2.1.1.2.2⟩ : SOp), x.2.2.1.2, x.2.2.2.2.1.2)) (fun _ => rfl)
    (fun _ _ h => ⟨h.2.2.1, h.2.2.2.2.1, wf64 h.2.1⟩) (fun x => by
      show x.2.2.1.1.1.size + x.2.2.1.1.2.length + x.2.2.2.2.1.1.2.2.length + 1 ≤ _
      omega)
theorem opsR {H : Hp} {L : List (SOp × Sl × Sl)} (hR : ∀ x ∈ L, RdL aF H x.2.1 x.1.A ∧ RdL vF H x.2.2 x.1.V ∧ (-9223372036854775808 ≤ x.1.which ∧ x.1.which ≤ 9223372036854775807)) (hb : bks (fun x : SOp × Sl × Sl => x.1.name.size + x.1.A.length + x.1.V.length + 1) L ≤ 1048576) :
    (∀ x ∈ L, SOpR H x) ∧ L.length ≤ 4611686018427387904 := by
  refine ⟨fun x hx => ?_, ?_⟩
  · obtain ⟨h1, h2, h3, h4⟩ := hR x hx
    have h5 := bks_mem (bk := fun x : SOp × Sl × Sl => x.1.name.size + x.1.A.length + x.1.V.length + 1) hx
    have h5 : x.1.name.size + x.1.A.length + x.1.V.length + 1 ≤ bks (fun x : SOp × Sl × Sl => x.1.name.size + x.1.A.length + x.1.V.length + 1) L := h5
    exact ⟨h1, h2, by omega, by omega, by omega, h3, h4⟩
  · have := bks_len (bk := fun x : SOp × Sl × Sl => x.1.name.size + x.1.A.length + x.1.V.length + 1) (fun _ => Nat.le_add_left _ _) (l := L)
    omega
set_option maxRecDepth 100000 in
theorem open_listB {H : Type} {enc : TypeId × Value → H} {W : World} {base : Nat} {v : Value} {d : DataW H} {p : List MemPlace} {t e k : Nat} {α : Type} {F : Fmt α e k} {R : Hp → α → Prop} {bk : α → Nat} (ht : Tryd.prog.underlying t = some (.slice e)) (hz : Tryd.prog.cellsOf e = k) (ho : Opn Tryd.prog e F.f R bk)
    (hval : Value.okWide Tryd.prog W .any base t v) (h : DataW.Trod enc Tryd.prog W 0 (fun _ => true) true t v d p) :
    ∃ (sl : Sl) (L : List α), v = Sl.v sl ∧ RdL F W.heap sl L ∧ (∀ x ∈ L, R W.heap x) ∧ bks bk L + 1 ≤ Rows.uptoBulk d := by
  obtain ⟨a, len, cap, rfl⟩ := okWide_slice ht hval
  obtain ⟨fuel, hf⟩ := h
  obtain ⟨⟨sl, L⟩, hcs, ⟨hrd, hR⟩, hbk⟩ := (Opn.slice ht hz ho).out enc W _ _ fuel _ _ hf
  exact ⟨sl, L, by simpa [Value.cells] using hcs, hrd, hR, hbk⟩
end Go.Hw
