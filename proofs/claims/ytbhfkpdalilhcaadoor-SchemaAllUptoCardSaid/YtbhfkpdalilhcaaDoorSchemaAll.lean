/- SchemaAll answers true for every input of bulk at most 1048576, and its arguments read behind the call as they read before. Conditions: those of the statement's card: none more. -/
import Derived.Test.YtbhfkpdalilhcaaDoorArgs4
set_option linter.unusedVariables false
namespace Go.Proofs.YtbhfkpdalilhcaaDoor
open Go Go.ChangeShapes Go.WideShapes Go.RowKit Go.ChangeAt Go.Hw

set_option maxRecDepth 100000 in
theorem schemaAll_contract (H : Type) (enc : TypeId × Value → H) (W : World) (base : Nat) (args : Array Value) (ds gs : List (DataW H)) (before : List MemPlace)
    (hval : ∀ (j : Nat) t v, Tryd.f6.params[j]? = some t → args[j]? = some v → Value.okWide Tryd.prog W .any base t v)
    (hW : DataW.Whole enc Tryd.prog Tryd.f6.params.toList Rows.schemaAllSpec.vars false W args.toList ds gs before) (hk : Rows.uptoSmall H (ds ++ gs) = true) (hL : laidMetH Tryd.prog Rows.schemaAllUptoRow.laid W) :
    Calls Tryd.prog 6 args W fun e W' => ∃ v, e = .returned v ∧ Rows.schemaAllSpec.post enc Tryd.prog Tryd.f6 false true false false W args v W' := by
  have hW' := hW
  obtain ⟨p, q, hA0, hV, rfl, hfz, hnd⟩ := hW
  have hA : DataW.TrodAll enc Tryd.prog W 0 (fun _ => true) true Tryd.f6.params.toList args.toList ds p := hA0
  rw [Tryd.params6] at hA hval
  obtain ⟨v0, vs0, d0, ds0, p0, q0, hargs, rfl, rfl, h0, t0⟩ := trodAll_cons hA
  obtain ⟨rfl, rfl, rfl⟩ := trodAll_nil t0
  obtain rfl : args = #[v0] := by cases args; simp_all
  obtain ⟨rfl, rfl⟩ := trodVars_none hV
  have hb := of_decide_eq_true hk
  simp only [List.append_nil, Rows.uptoBulkAll] at hb
  obtain ⟨sl, L, rfl, hrd, hR, hbk⟩ := open_listB Tryd.underlying56 size65 oOp (hval 0 56 v0 rfl rfl) h0
  obtain ⟨hR', hl'⟩ := opsR hR (by omega)
  have hL : laidMet Tryd.prog Rows.schemaAllUptoRow.laid W := hL
  have hT := tabsOf hL
  have hgood := walk6 (w0 := W) (H := W.heap) (Q := fun r H' => r = true ∧ Kp No W.heap H') (c6 (sl := sl) hT hrd hR' hl' fun H' k => ⟨rfl, k⟩)
  refine (hgood W (Ok.refl W) rfl).mono fun e W' ⟨v, he, ho, r, hv, hr, hkp⟩ => ?_
  subst he hv hr
  exact ⟨_, rfl, close hW' rfl rfl rfl rfl laid (by rw [Tryd.params6]; decide +kernel) (by kernel_rfl) Tryd.underlying4 ho hkp.size fun k hk => hkp.blk k hk id⟩

theorem schemaAll_laid (os : Os) : laidMet Tryd.prog Rows.schemaAllUptoRow.laid ((laidWorld2 os).forCall (fun _ _ => 0) ⟨#[], #[.slice none 0 0], []⟩).memory :=
  laidMet_of_run' 8 (by kernel_rfl) (by kernel_rfl)
theorem schemaAll_reads (os : Os) {H : Type} (enc : TypeId × Value → H) : ∃ places, DataW.whole enc Tryd.prog ((laidWorld2 os).forCall (fun _ _ => 0) ⟨#[], #[.slice none 0 0], []⟩).memory Tryd.f6.params.toList Rows.schemaAllSpec.vars false #[Value.slice none 0 0].toList 8 = some ([.nil], [], places) :=
  ⟨[], by kernel_rfl⟩

set_option maxRecDepth 100000 in
theorem schemaAll_lifted (os : Os) (started : os.Started) (H : Type) (enc : TypeId × Value → H) (F : Stop.Interp) :
    ReturnsInHanded {} Tryd.checked os 6 .any ((Rows.OpenSpec.upto Rows.schemaAllSpec).preRow enc Tryd.prog Tryd.f6 Rows.schemaAllUptoRow.domain false Rows.schemaAllUptoRow.laid) (((Rows.OpenSpec.upto Rows.schemaAllSpec).at F).post enc Tryd.prog Tryd.f6 false true false false) := by
  obtain ⟨places, hx⟩ := schemaAll_reads os enc
  refine returnsInHanded_of_row (C := Tryd.checked) (s := Rows.OpenSpec.upto Rows.schemaAllSpec) own started (by kernel_rfl) Tryd.func6
    (witness_row_at (enc := enc) (C := Tryd.checked) false (laidWorld2 os) #[.slice none 0 0] rfl (by kernel_rfl) (by kernel_rfl) (by kernel_rfl)
      (OpenSpec.preRow_of_cond 8 hx (by kernel_rfl) (fun k hk => by cases hk; kernel_rfl) (by kernel_rfl) (schemaAll_laid os))) ?_
  intro W base args ds gs before hval hW _ hk _ hL _ _
  exact schemaAll_contract H enc W base args ds gs before hval hW (hk _ rfl) hL

theorem schemaAll_row : Rows.SchemaAllUptoSaid :=
  OpenClaim.holds_of_cond 6 Tryd.f6 rfl rfl rfl rfl rfl rfl rfl ⟨rfl, rfl, rfl, rfl, rfl⟩ rfl rfl rfl rfl rfl (by kernel_rfl) Tryd.func6 (by kernel_rfl)
    (of_decide_eq_true (by kernel_rfl)) (by unfold Func.isWrapper; first | (rw [if_pos (by decide +kernel)]; kernel_rfl) | (rw [if_neg (by decide +kernel)]; exact ⟨rfl, rfl⟩))
    (fun os started H enc _ F => by rw [OpenClaim.pre_eq_preRow]; exact schemaAll_lifted os started H enc F)

/-- No parameter wants a stand-in; the program's own looks are off: what the card asks. -/
theorem schemaAll_plain (f : FuncId) (fn : Func) (hf : Tryd.pinned.checked.prog.funcNamed "refrain/refrainlaw2.SchemaAll" = some f) (hfn : Tryd.pinned.checked.prog.funcs[f]? = some fn) :
    false = Tryd.pinned.checked.prog.looks [] ∧ ∀ (j : Nat) t, fn.params[j]? = some t → Tryd.pinned.checked.prog.wantsStandIn t = false := by
  obtain rfl : f = 6 := Option.some.inj ((show Tryd.prog.funcNamed "refrain/refrainlaw2.SchemaAll" = some 6 by kernel_rfl).symm.trans hf) |>.symm
  obtain rfl : fn = Tryd.f6 := (Option.some.inj (Tryd.func6.symm.trans hfn)).symm
  refine ⟨by kernel_rfl, fun j t ht => ?_⟩
  rw [Tryd.params6] at ht
  have := Array.mem_of_getElem? ht
  simp only [List.mem_toArray, List.mem_cons, List.not_mem_nil, or_false] at this
  rcases this with rfl
  · exact (show Tryd.prog.wantsStandIn 56 = false by kernel_rfl)

theorem schemaAll_holds : Rows.SchemaAllUptoCardSaid :=
  Claim7.holds_tied_plain_at .later [] _ _ _ _ schemaAll_row (fun _ h => by cases h) (by kernel_rfl) (fun _ h => by cases h) schemaAllUpto_row_tie rfl ⟨rfl, rfl⟩ (by kernel_rfl) rfl schemaAll_plain (by kernel_rfl)

#print axioms schemaAll_holds
end Go.Proofs.YtbhfkpdalilhcaaDoor
