/- SchemaEvents answers true for every input of bulk at most 1048576, and its arguments read behind the call as they read before. Conditions: those of the statement's card: none more. -/
import Derived.Test.YtbhfkpdalilhcaaDoorArgs
set_option linter.unusedVariables false
namespace Go.Proofs.YtbhfkpdalilhcaaDoor
open Go Go.ChangeShapes Go.WideShapes Go.RowKit Go.ChangeAt Go.Hw

set_option maxRecDepth 100000 in
theorem schemaEvents_contract (H : Type) (enc : TypeId × Value → H) (W : World) (base : Nat) (args : Array Value) (ds gs : List (DataW H)) (before : List MemPlace)
    (hval : ∀ (j : Nat) t v, Tryd.f3.params[j]? = some t → args[j]? = some v → Value.okWide Tryd.prog W .any base t v)
    (hW : DataW.Whole enc Tryd.prog Tryd.f3.params.toList Rows.schemaEventsSpec.vars false W args.toList ds gs before) (hk : Rows.uptoSmall H (ds ++ gs) = true) (hL : laidMetH Tryd.prog Rows.schemaEventsUptoRow.laid W) :
    Calls Tryd.prog 3 args W fun e W' => ∃ v, e = .returned v ∧ Rows.schemaEventsSpec.post enc Tryd.prog Tryd.f3 false true false false W args v W' := by
  have hW' := hW
  obtain ⟨p, q, hA0, hV, rfl, hfz, hnd⟩ := hW
  have hA : DataW.TrodAll enc Tryd.prog W 0 (fun _ => true) true Tryd.f3.params.toList args.toList ds p := hA0
  rw [Tryd.params3] at hA hval
  obtain ⟨v0, vs0, d0, ds0, p0, q0, hargs, rfl, rfl, h0, t0⟩ := trodAll_cons hA
  obtain ⟨v1, vs1, d1, ds1, p1, q1, rfl, rfl, rfl, h1, t1⟩ := trodAll_cons t0
  obtain ⟨v2, vs2, d2, ds2, p2, q2, rfl, rfl, rfl, h2, t2⟩ := trodAll_cons t1
  obtain ⟨v3, vs3, d3, ds3, p3, q3, rfl, rfl, rfl, h3, t3⟩ := trodAll_cons t2
  obtain ⟨v4, vs4, d4, ds4, p4, q4, rfl, rfl, rfl, h4, t4⟩ := trodAll_cons t3
  obtain ⟨v5, vs5, d5, ds5, p5, q5, rfl, rfl, rfl, h5, t5⟩ := trodAll_cons t4
  obtain ⟨rfl, rfl, rfl⟩ := trodAll_nil t5
  obtain rfl : args = #[v0, v1, v2, v3, v4, v5] := by cases args; simp_all
  obtain ⟨rfl, rfl⟩ := trodVars_none hV
  have hb := of_decide_eq_true hk
  simp only [List.append_nil, Rows.uptoBulkAll] at hb
  obtain ⟨sl, K, rfl, hrd, hbk⟩ := open_ints0 (hval 0 22 v0 rfl rfl) h0
  obtain ⟨n, rfl, rfl, rfl, _⟩ := open_int Tryd.underlying2 (hval 1 2 v1 rfl rfl) h1
  obtain ⟨s, rfl⟩ := open_text (hval 2 9 v2 rfl rfl) h2
  obtain ⟨time, rfl, rfl, rfl, ht⟩ := open_int Tryd.underlying2 (hval 3 2 v3 rfl rfl) h3
  obtain ⟨at_, rfl, rfl, rfl, _⟩ := open_int Tryd.underlying3 (hval 4 3 v4 rfl rfl) h4
  obtain ⟨wr_, rfl, rfl, rfl, hw⟩ := open_int Tryd.underlying5 (hval 5 5 v5 rfl rfl) h5
  obtain ⟨ht0, ht1⟩ := wf64 ht
  obtain ⟨hw0, hw1⟩ := wf8 hw
  have hL : laidMet Tryd.prog Rows.schemaEventsUptoRow.laid W := hL
  have hT := wordsOf hL
  have hgood := walk3 (w0 := W) (H := W.heap) (Q := fun r H' => r = true ∧ Kp No W.heap H') (c3 (s := s) (n := n) (at_ := at_) hT hrd (by omega) hw0 hw1 ht0 ht1 fun H' k => ⟨rfl, k⟩)
  refine (hgood W (Ok.refl W) rfl).mono fun e W' ⟨v, he, ho, r, hv, hr, hkp⟩ => ?_
  subst he hv hr
  exact ⟨_, rfl, close hW' rfl rfl rfl rfl laid (by rw [Tryd.params3]; decide +kernel) (by kernel_rfl) Tryd.underlying4 ho hkp.size fun k hk => hkp.blk k hk id⟩

theorem schemaEvents_laid (os : Os) : laidMet Tryd.prog Rows.schemaEventsUptoRow.laid ((laidWorld os).forCall (fun _ _ => 0) ⟨#[], #[.slice none 0 0, .int .i64 0, .string ⟨#[]⟩, .int .i64 0, .int .i64 0, .int .u8 0], []⟩).memory :=
  laidMet_of_run' 8 (by kernel_rfl) (by kernel_rfl)
theorem schemaEvents_reads (os : Os) {H : Type} (enc : TypeId × Value → H) : ∃ places, DataW.whole enc Tryd.prog ((laidWorld os).forCall (fun _ _ => 0) ⟨#[], #[.slice none 0 0, .int .i64 0, .string ⟨#[]⟩, .int .i64 0, .int .i64 0, .int .u8 0], []⟩).memory Tryd.f3.params.toList Rows.schemaEventsSpec.vars false #[Value.slice none 0 0, .int .i64 0, .string ⟨#[]⟩, .int .i64 0, .int .i64 0, .int .u8 0].toList 8 = some ([.nil, .lit (.int .i64 0), .lit (.string []), .lit (.int .i64 0), .lit (.int .i64 0), .lit (.int .u8 0)], [], places) :=
  ⟨[], by kernel_rfl⟩

set_option maxRecDepth 100000 in
theorem schemaEvents_lifted (os : Os) (started : os.Started) (H : Type) (enc : TypeId × Value → H) (F : Stop.Interp) :
    ReturnsInHanded {} Tryd.checked os 3 .any ((Rows.OpenSpec.upto Rows.schemaEventsSpec).preRow enc Tryd.prog Tryd.f3 Rows.schemaEventsUptoRow.domain false Rows.schemaEventsUptoRow.laid) (((Rows.OpenSpec.upto Rows.schemaEventsSpec).at F).post enc Tryd.prog Tryd.f3 false true false false) := by
  obtain ⟨places, hx⟩ := schemaEvents_reads os enc
  refine returnsInHanded_of_row (C := Tryd.checked) (s := Rows.OpenSpec.upto Rows.schemaEventsSpec) own started (by kernel_rfl) Tryd.func3
    (witness_row_at (enc := enc) (C := Tryd.checked) false (laidWorld os) #[.slice none 0 0, .int .i64 0, .string ⟨#[]⟩, .int .i64 0, .int .i64 0, .int .u8 0] rfl (by kernel_rfl) (by kernel_rfl) (by kernel_rfl)
      (OpenSpec.preRow_of_cond 8 hx (by kernel_rfl) (fun k hk => by cases hk; kernel_rfl) (by kernel_rfl) (schemaEvents_laid os))) ?_
  intro W base args ds gs before hval hW _ hk _ hL _ _
  exact schemaEvents_contract H enc W base args ds gs before hval hW (hk _ rfl) hL

theorem schemaEvents_row : Rows.SchemaEventsUptoSaid :=
  OpenClaim.holds_of_cond 3 Tryd.f3 rfl rfl rfl rfl rfl rfl rfl ⟨rfl, rfl, rfl, rfl, rfl⟩ rfl rfl rfl rfl rfl (by kernel_rfl) Tryd.func3 (by kernel_rfl)
    (of_decide_eq_true (by kernel_rfl)) (by unfold Func.isWrapper; first | (rw [if_pos (by decide +kernel)]; kernel_rfl) | (rw [if_neg (by decide +kernel)]; exact ⟨rfl, rfl⟩))
    (fun os started H enc _ F => by rw [OpenClaim.pre_eq_preRow]; exact schemaEvents_lifted os started H enc F)

/-- No parameter wants a stand-in; the program's own looks are off: what the card asks. -/
theorem schemaEvents_plain (f : FuncId) (fn : Func) (hf : Tryd.pinned.checked.prog.funcNamed "refrain/refrainlaw2.SchemaEvents" = some f) (hfn : Tryd.pinned.checked.prog.funcs[f]? = some fn) :
    false = Tryd.pinned.checked.prog.looks [] ∧ ∀ (j : Nat) t, fn.params[j]? = some t → Tryd.pinned.checked.prog.wantsStandIn t = false := by
  obtain rfl : f = 3 := Option.some.inj ((show Tryd.prog.funcNamed "refrain/refrainlaw2.SchemaEvents" = some 3 by kernel_rfl).symm.trans hf) |>.symm
  obtain rfl : fn = Tryd.f3 := (Option.some.inj (Tryd.func3.symm.trans hfn)).symm
  refine ⟨by kernel_rfl, fun j t ht => ?_⟩
  rw [Tryd.params3] at ht
  have := Array.mem_of_getElem? ht
  simp only [List.mem_toArray, List.mem_cons, List.not_mem_nil, or_false] at this
  rcases this with rfl | rfl | rfl | rfl | rfl | rfl
  · exact (show Tryd.prog.wantsStandIn 22 = false by kernel_rfl)
  · exact (show Tryd.prog.wantsStandIn 2 = false by kernel_rfl)
  · exact (show Tryd.prog.wantsStandIn 9 = false by kernel_rfl)
  · exact (show Tryd.prog.wantsStandIn 2 = false by kernel_rfl)
  · exact (show Tryd.prog.wantsStandIn 3 = false by kernel_rfl)
  · exact (show Tryd.prog.wantsStandIn 5 = false by kernel_rfl)

theorem schemaEvents_holds : Rows.SchemaEventsUptoCardSaid :=
  Claim7.holds_tied_plain_at .later [] _ _ _ _ schemaEvents_row (fun _ h => by cases h) (by kernel_rfl) (fun _ h => by cases h) schemaEventsUpto_row_tie rfl ⟨rfl, rfl⟩ (by kernel_rfl) rfl schemaEvents_plain (by kernel_rfl)

#print axioms schemaEvents_holds
end Go.Proofs.YtbhfkpdalilhcaaDoor
