/- DeweyScript's arguments, opened. Own work of this session. -/
import Derived.Test.YtmjoeilahbfonaaDoorArgs2
import Derived.Test.YtmjoeilahbfonaaDoorS3
set_option linter.unusedVariables false
namespace Go.Hw
open Go Go.ChangeShapes Go.WideShapes Go.RowKit Go.Proofs.YtmjoeilahbfonaaDoor Go.Proofs

theorem oOp2 : Opn Tryd.prog 41 opF.f (fun H o => (RdL iF H o.v o.V ∧ o.v.n ≤ o.v.c) ∧ (RdL iF H o.w o.W ∧ o.w.n ≤ o.w.c)) (fun o => o.V.length + o.W.length + o.s.size + 1) :=
  (Opn.struct Tryd.underlying41 size41 (fun _ => rfl)
    (OpnF.cons rfl size3 rfl (Opn.int Tryd.underlying3) (fun _ => rfl) (OpnF.cons rfl size22 rfl oL (fun _ => rfl)
      (OpnF.cons rfl size22 rfl oL (fun _ => rfl) (OpnF.cons rfl size9 rfl (Opn.string Tryd.underlying9) (fun _ => rfl) (OpnF.nil (o := 4))))))).map
    (fun x => (⟨x.1, x.2.1.1, x.2.2.1.1, x.2.2.2.1, x.2.1.2, x.2.2.1.2⟩ : OP)) (fun _ => rfl) (fun _ _ h => ⟨h.2.1, h.2.2.1⟩) (fun x => by
      show x.2.1.2.length + x.2.2.1.2.length + x.2.2.2.1.size + 1 ≤ 1 + ((x.2.1.2.length + 1) + ((x.2.2.1.2.length + 1) + ((x.2.2.2.1.size + 1) + 0))) + 1
      omega)
theorem open_script2 {H : Type} {enc : TypeId × Value → H} {W : World} {base : Nat} {v : Value} {d : DataW H} {p : List MemPlace} (hval : Value.okWide Tryd.prog W .any base 38 v) (h : DataW.Trod enc Tryd.prog W 0 (fun _ => true) true 38 v d p) :
    ∃ (sl : Sl) (Ops : List OP), v = Sl.v sl ∧ RdL opF W.heap sl Ops ∧ (∀ o ∈ Ops, (RdL iF W.heap o.v o.V ∧ o.v.n ≤ o.v.c) ∧ (RdL iF W.heap o.w o.W ∧ o.w.n ≤ o.w.c)) ∧ bks (fun o : OP => o.V.length + o.W.length + o.s.size + 1) Ops + 1 ≤ Rows.uptoBulk d := by
  obtain ⟨a, len, cap, rfl⟩ := okWide_slice Tryd.underlying38 hval
  obtain ⟨fuel, hf⟩ := h
  obtain ⟨⟨sl, Ops⟩, hcs, ⟨hrd, hvs⟩, hbk⟩ := (Opn.slice Tryd.underlying38 size41 oOp2).out enc W _ _ fuel _ _ hf
  refine ⟨sl, Ops, ?_, hrd, hvs, hbk⟩
  simpa [Value.cells] using hcs
theorem script_bounds2 {H : Hp} {Ops : List OP} {n : Nat} (hb : bks (fun o : OP => o.V.length + o.W.length + o.s.size + 1) Ops + 1 ≤ n) (hn : n ≤ 1048576) (h : ∀ o ∈ Ops, (RdL iF H o.v o.V ∧ o.v.n ≤ o.v.c) ∧ (RdL iF H o.w o.W ∧ o.w.n ≤ o.w.c)) :
    (∀ o ∈ Ops, OpIv H o) ∧ (∀ o ∈ Ops, o.s.size ≤ 1048576) ∧ Ops.length ≤ 1048576 := by
  have hlen := bks_len (bk := fun o : OP => o.V.length + o.W.length + o.s.size + 1) (fun _ => Nat.le_add_left _ _) (l := Ops)
  have key : ∀ o ∈ Ops, o.V.length + o.W.length + o.s.size + 1 ≤ 1048576 := fun o ho => by
    have : o.V.length + o.W.length + o.s.size + 1 ≤ _ := bks_mem (bk := fun o : OP => o.V.length + o.W.length + o.s.size + 1) ho
    omega
  refine ⟨fun o ho => ?_, fun o ho => by have := key o ho; omega, by omega⟩
  have := key o ho
  obtain ⟨⟨h1, h2⟩, h3, h4⟩ := h o ho
  exact ⟨⟨h1, h2, by omega⟩, ⟨h3, h4, by omega⟩, by omega, by omega⟩

/-- Numbers, opened, their range. -/
theorem oN : Opn Tryd.prog 3 iF.f (fun _ i => -9223372036854775808 ≤ i ∧ i ≤ 9223372036854775807) (fun _ => 1) := (Opn.int Tryd.underlying3).map id (fun _ => rfl) (fun _ i h => by
  simp [Lit.wf, IntKind.min, IntKind.max, IntKind.bits, IntKind.signed] at h
  exact h) (fun _ => Nat.le_refl _)
theorem open_nums {H : Type} {enc : TypeId × Value → H} {W : World} {base : Nat} {v : Value} {d : DataW H} {p : List MemPlace} (hval : Value.okWide Tryd.prog W .any base 22 v) (h : DataW.Trod enc Tryd.prog W 0 (fun _ => true) true 22 v d p) :
    ∃ (sl : Sl) (L : List Int), v = Sl.v sl ∧ RdL iF W.heap sl L ∧ (∀ x ∈ L, -9223372036854775808 ≤ x ∧ x ≤ 9223372036854775807) ∧ L.length + 1 ≤ Rows.uptoBulk d := by
  obtain ⟨a, len, cap, rfl⟩ := okWide_slice Tryd.underlying22 hval
  obtain ⟨fuel, hf⟩ := h
  obtain ⟨⟨sl, L⟩, hcs, ⟨hrd, hr⟩, hbk⟩ := (Opn.slice Tryd.underlying22 size3 oN).out enc W _ _ fuel _ _ hf
  have := bks_len (bk := fun _ : Int => 1) (fun _ => Nat.le_refl _) (l := L)
  replace hbk : bks (fun _ : Int => 1) L + 1 ≤ Rows.uptoBulk d := hbk
  refine ⟨sl, L, ?_, hrd, hr, by omega⟩
  simpa [Value.cells] using hcs
end Go.Hw
