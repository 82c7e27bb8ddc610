/- BoundFollows answers true for every input of bulk at most 1048576, and its arguments read behind the call as they read before. Conditions: those of the statement's card: none more. -/
import Derived.Test.YtkdjcmfmflljlaaDoorArgs2
import Derived.Test.YtkdjcmfmflljlaaDoorL8
set_option linter.unusedVariables false
namespace Go.Proofs.YtkdjcmfmflljlaaDoor
open Go Go.ChangeShapes Go.WideShapes Go.RowKit Go.ChangeAt Go.Hw

set_option maxRecDepth 100000 in
theorem boundFollows_contract (H : Type) (enc : TypeId × Value → H) (W : World) (base : Nat) (args : Array Value) (ds gs : List (DataW H)) (before : List MemPlace)
    (hval : ∀ (j : Nat) t v, Tryd.f5.params[j]? = some t → args[j]? = some v → Value.okWide Tryd.prog W .any base t v)
    (hW : DataW.Whole enc Tryd.prog Tryd.f5.params.toList Rows.boundFollowsSpec.vars false W args.toList ds gs before) (hk : Rows.uptoSmall H (ds ++ gs) = true) (hL : laidMetH Tryd.prog Rows.boundFollowsUptoRow.laid W) :
    Calls Tryd.prog 5 args W fun e W' => ∃ v, e = .returned v ∧ Rows.boundFollowsSpec.post enc Tryd.prog Tryd.f5 false true false false W args v W' := by
  have hW' := hW
  obtain ⟨p, q, hA0, hV, rfl, hfz, hnd⟩ := hW
  have hA : DataW.TrodAll enc Tryd.prog W 0 (fun _ => true) true Tryd.f5.params.toList args.toList ds p := hA0
  rw [Tryd.params5] at hA hval
  obtain ⟨v0, vs0, d0, ds0, p0, q0, hargs, rfl, rfl, h0, t0⟩ := trodAll_cons hA
  obtain ⟨v1, vs1, d1, ds1, p1, q1, rfl, rfl, rfl, h1, t1⟩ := trodAll_cons t0
  obtain ⟨v2, vs2, d2, ds2, p2, q2, rfl, rfl, rfl, h2, t2⟩ := trodAll_cons t1
  obtain ⟨rfl, rfl, rfl⟩ := trodAll_nil t2
  obtain rfl : args = #[v0, v1, v2] := by cases args; simp_all
  obtain ⟨rfl, rfl⟩ := trodVars_none hV
  have hb := of_decide_eq_true hk
  simp only [List.append_nil, Rows.uptoBulkAll] at hb
  obtain ⟨s0, RS, rfl, hR, hRr, b0⟩ := open_list Tryd.underlying22 size31 oRl (hval 0 22 v0 rfl rfl) h0
  obtain ⟨s1, AS, rfl, hA', _, b1⟩ := open_list Tryd.underlying23 size4 oBo (hval 1 23 v1 rfl rfl) h1
  obtain ⟨n, rfl, hn⟩ := open_ints (hval 2 45 v2 rfl rfl) h2
  have hL : laidMet Tryd.prog Rows.boundFollowsUptoRow.laid W := hL
  have hT := wantsOf hL
  have hgood := walk5 (w0 := W) (H := W.heap) (Q := fun r H' => r = true ∧ Kp No W.heap H') (c5 hR hA' hT (by omega) (by omega) hRr hn fun H' k => ⟨rfl, k⟩)
  refine (hgood W (Ok.refl W) rfl).mono fun e W' ⟨v, he, ho, r, hv, hr, hkp⟩ => ?_
  subst he hv hr
  exact ⟨_, rfl, close hW' rfl rfl rfl rfl laid (by rw [Tryd.params5]; decide +kernel) (by kernel_rfl) Tryd.underlying4 ho hkp.size fun k hk => hkp.blk k hk id⟩

theorem boundFollows_laid (os : Os) : laidMet Tryd.prog Rows.boundFollowsUptoRow.laid ((laidWorld os).forCall (fun _ _ => 0) ⟨#[], #[.slice none 0 0, .slice none 0 0, .agg #[.int .i64 0, .int .i64 0, .int .i64 0, .int .i64 0, .int .i64 0, .int .i64 0]], []⟩).memory :=
  laidMet_of_run' 8 (by kernel_rfl) (by kernel_rfl)
theorem boundFollows_reads (os : Os) {H : Type} (enc : TypeId × Value → H) : ∃ places, DataW.whole enc Tryd.prog ((laidWorld os).forCall (fun _ _ => 0) ⟨#[], #[.slice none 0 0, .slice none 0 0, .agg #[.int .i64 0, .int .i64 0, .int .i64 0, .int .i64 0, .int .i64 0, .int .i64 0]], []⟩).memory Tryd.f5.params.toList Rows.boundFollowsSpec.vars false #[Value.slice none 0 0, .slice none 0 0, .agg #[.int .i64 0, .int .i64 0, .int .i64 0, .int .i64 0, .int .i64 0, .int .i64 0]].toList 8 = some ([.nil, .nil, .agg [.lit (.int .i64 0), .lit (.int .i64 0), .lit (.int .i64 0), .lit (.int .i64 0), .lit (.int .i64 0), .lit (.int .i64 0)]], [], places) :=
  ⟨[], by kernel_rfl⟩

set_option maxRecDepth 100000 in
theorem boundFollows_lifted (os : Os) (started : os.Started) (H : Type) (enc : TypeId × Value → H) (F : Stop.Interp) :
    ReturnsInHanded {} Tryd.checked os 5 .any ((Rows.OpenSpec.upto Rows.boundFollowsSpec).preRow enc Tryd.prog Tryd.f5 Rows.boundFollowsUptoRow.domain false Rows.boundFollowsUptoRow.laid) (((Rows.OpenSpec.upto Rows.boundFollowsSpec).at F).post enc Tryd.prog Tryd.f5 false true false false) := by
  obtain ⟨places, hx⟩ := boundFollows_reads os enc
  refine returnsInHanded_of_row (C := Tryd.checked) (s := Rows.OpenSpec.upto Rows.boundFollowsSpec) own started (by kernel_rfl) Tryd.func5
    (witness_row_at (enc := enc) (C := Tryd.checked) false (laidWorld os) #[.slice none 0 0, .slice none 0 0, .agg #[.int .i64 0, .int .i64 0, .int .i64 0, .int .i64 0, .int .i64 0, .int .i64 0]] rfl (by kernel_rfl) (by kernel_rfl) (by kernel_rfl)
      (OpenSpec.preRow_of_cond 8 hx (by kernel_rfl) (fun k hk => by cases hk; kernel_rfl) (by kernel_rfl) (boundFollows_laid os))) ?_
  intro W base args ds gs before hval hW _ hk _ hL _ _
  exact boundFollows_contract H enc W base args ds gs before hval hW (hk _ rfl) hL

theorem boundFollows_row : Rows.BoundFollowsUptoSaid :=
  OpenClaim.holds_of_cond 5 Tryd.f5 rfl rfl rfl rfl rfl rfl rfl ⟨rfl, rfl, rfl, rfl, rfl⟩ rfl rfl rfl rfl rfl (by kernel_rfl) Tryd.func5 (by kernel_rfl)
    (of_decide_eq_true (by kernel_rfl)) (by unfold Func.isWrapper; first | (rw [if_pos (by decide +kernel)]; kernel_rfl) | (rw [if_neg (by decide +kernel)]; exact ⟨rfl, rfl⟩))
    (fun os started H enc _ F => by rw [OpenClaim.pre_eq_preRow]; exact boundFollows_lifted os started H enc F)

/-- No parameter wants a stand-in; the program's own looks are off: what the card asks. -/
theorem boundFollows_plain (f : FuncId) (fn : Func) (hf : Tryd.pinned.checked.prog.funcNamed "refrain/refrainlaw26.BoundFollows" = some f) (hfn : Tryd.pinned.checked.prog.funcs[f]? = some fn) :
    false = Tryd.pinned.checked.prog.looks [] ∧ ∀ (j : Nat) t, fn.params[j]? = some t → Tryd.pinned.checked.prog.wantsStandIn t = false := by
  obtain rfl : f = 5 := Option.some.inj ((show Tryd.prog.funcNamed "refrain/refrainlaw26.BoundFollows" = some 5 by kernel_rfl).symm.trans hf) |>.symm
  obtain rfl : fn = Tryd.f5 := (Option.some.inj (Tryd.func5.symm.trans hfn)).symm
  refine ⟨by kernel_rfl, fun j t ht => ?_⟩
  rw [Tryd.params5] at ht
  have := Array.mem_of_getElem? ht
  simp only [List.mem_toArray, List.mem_cons, List.not_mem_nil, or_false] at this
  rcases this with rfl | rfl | rfl
  · exact (show Tryd.prog.wantsStandIn 22 = false by kernel_rfl)
  · exact (show Tryd.prog.wantsStandIn 23 = false by kernel_rfl)
  · exact (show Tryd.prog.wantsStandIn 45 = false by kernel_rfl)

theorem boundFollows_holds : Rows.BoundFollowsUptoCardSaid :=
  Claim7.holds_tied_plain_at .later [] _ _ _ _ boundFollows_row (fun _ h => by cases h) (by kernel_rfl) (fun _ h => by cases h) boundFollowsUpto_row_tie rfl ⟨rfl, rfl⟩ (by kernel_rfl) rfl boundFollows_plain (by kernel_rfl)

#print axioms boundFollows_holds
end Go.Proofs.YtkdjcmfmflljlaaDoor
