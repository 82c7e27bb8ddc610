/- EvalAll answers true for every input of bulk at most 1048576, and its arguments read behind the call as they read before. Conditions: those of the statement's card: none more. -/
import Derived.Test.YtfkhglkcplnppaaDoorOpens2
set_option linter.unusedVariables false
namespace Go.Proofs.YtfkhglkcplnppaaDoor
open Go Go.ChangeShapes Go.WideShapes Go.RowKit Go.ChangeAt Go.Hw

set_option maxRecDepth 100000 in
theorem evalAll_contract (H : Type) (enc : TypeId × Value → H) (W : World) (base : Nat) (args : Array Value) (ds gs : List (DataW H)) (before : List MemPlace)
  (hval : ∀ (j : Nat) t v, Tryd.f3.params[j]? = some t → args[j]? = some v → Value.okWide Tryd.prog W .any base t v)
  (hW : DataW.Whole enc Tryd.prog Tryd.f3.params.toList Rows.evalAllSpec.vars false W args.toList ds gs before) (hk : Rows.uptoSmall H (ds ++ gs) = true) (hL : laidMetH Tryd.prog Rows.evalAllUptoRow.laid W) :
  Calls Tryd.prog 3 args W fun e W' => ∃ v, e = .returned v ∧ Rows.evalAllSpec.post enc Tryd.prog Tryd.f3 false true false false W args v W' := by
 have hW' := hW
 obtain ⟨p, q, hA0, hV, rfl, hfz, hnd⟩ := hW
 have hA : DataW.TrodAll enc Tryd.prog W 0 (fun _ => true) true Tryd.f3.params.toList args.toList ds p := hA0
 rw [Tryd.params3] at hA hval
 obtain ⟨v0, vs0, d0, ds0, p0, q0, hargs, rfl, rfl, h0, t0⟩ := trodAll_cons hA
 obtain ⟨rfl, rfl, rfl⟩ := trodAll_nil t0
 obtain rfl : args = #[v0] := by cases args; simp_all
 obtain ⟨rfl, rfl⟩ := trodVars_none hV
 have hb := of_decide_eq_true hk
 simp only [List.append_nil, Rows.uptoBulkAll] at hb
 obtain ⟨s0, OS, rfl, hO, hr, b0⟩ := open_listB Tryd.underlying22 size45 oOp (hval 0 22 v0 rfl rfl) h0
 have hl := bks_len (bk := fun x : OpM × OpS => bkO x.1) (fun x => by show 1 ≤ (x.1.ev.vals.length + 1) + _ + _ + _; omega) (l := OS)
 have hL : laidMet Tryd.prog Rows.evalAllUptoRow.laid W := hL
 have hT := wantsOf hL
 have hgood := walk3 (w0 := W) (H := W.heap) (Q := fun r H' => r = true ∧ Kp No W.heap H') (c3 hT hO (by omega) (fun x hx => (hr x hx).opH (by have := bks_mem (bk := fun x : OpM × OpS => bkO x.1) hx; have this : bkO x.1 ≤ _ := this; omega)) fun H' k => ⟨rfl, k⟩)
 refine (hgood W (Ok.refl W) rfl).mono fun e W' ⟨v, he, ho, r, hv, hr, hkp⟩ => ?_
 subst he hv hr
 exact ⟨_, rfl, close hW' rfl rfl rfl rfl laid (by rw [Tryd.params3]; decide +kernel) (by kernel_rfl) Tryd.underlying4 ho hkp.size fun k hk => hkp.blk k hk id⟩

theorem evalAll_laid (os : Os) : laidMet Tryd.prog Rows.evalAllUptoRow.laid ((laidWorld os).forCall (fun _ _ => 0) ⟨#[], #[.slice none 0 0], []⟩).memory :=
 laidMet_of_run' 8 (by kernel_rfl) (by kernel_rfl)
theorem evalAll_reads (os : Os) {H : Type} (enc : TypeId × Value → H) : ∃ places, DataW.whole enc Tryd.prog ((laidWorld os).forCall (fun _ _ => 0) ⟨#[], #[.slice none 0 0], []⟩).memory Tryd.f3.params.toList Rows.evalAllSpec.vars false #[Value.slice none 0 0].toList 8 = some ([.nil], [], places) :=
 ⟨[], by kernel_rfl⟩

set_option maxRecDepth 100000 in
theorem evalAll_lifted (os : Os) (started : os.Started) (H : Type) (enc : TypeId × Value → H) (F : Stop.Interp) :
  ReturnsInHanded {} Tryd.checked os 3 .any ((Rows.OpenSpec.upto Rows.evalAllSpec).preRow enc Tryd.prog Tryd.f3 Rows.evalAllUptoRow.domain false Rows.evalAllUptoRow.laid) (((Rows.OpenSpec.upto Rows.evalAllSpec).at F).post enc Tryd.prog Tryd.f3 false true false false) := by
 obtain ⟨places, hx⟩ := evalAll_reads os enc
 refine returnsInHanded_of_row (C := Tryd.checked) (s := Rows.OpenSpec.upto Rows.evalAllSpec) own started (by kernel_rfl) Tryd.func3
  (witness_row_at (enc := enc) (C := Tryd.checked) false (laidWorld os) #[.slice none 0 0] rfl (by kernel_rfl) (by kernel_rfl) (by kernel_rfl)
   (OpenSpec.preRow_of_cond 8 hx (by kernel_rfl) (fun k hk => by cases hk; kernel_rfl) (by kernel_rfl) (evalAll_laid os))) ?_
 intro W base args ds gs before hval hW _ hk _ hL _ _
 exact evalAll_contract H enc W base args ds gs before hval hW (hk _ rfl) hL

theorem evalAll_row : Rows.EvalAllUptoSaid :=
 OpenClaim.holds_of_cond 3 Tryd.f3 rfl rfl rfl rfl rfl rfl rfl ⟨rfl, rfl, rfl, rfl, rfl⟩ rfl rfl rfl rfl rfl (by kernel_rfl) Tryd.func3 (by kernel_rfl)
  (of_decide_eq_true (by kernel_rfl)) (by unfold Func.isWrapper; first | (rw [if_pos (by decide +kernel)]; kernel_rfl) | (rw [if_neg (by decide +kernel)]; exact ⟨rfl, rfl⟩))
  (fun os started H enc _ F => by rw [OpenClaim.pre_eq_preRow]; exact evalAll_lifted os started H enc F)

theorem evalAll_plain (f : FuncId) (fn : Func) (hf : Tryd.pinned.checked.prog.funcNamed "refrain/refrainlaw11.EvalAll" = some f) (hfn : Tryd.pinned.checked.prog.funcs[f]? = some fn) :
  false = Tryd.pinned.checked.prog.looks [] ∧ ∀ (j : Nat) t, fn.params[j]? = some t → Tryd.pinned.checked.prog.wantsStandIn t = false := by
 obtain rfl : f = 3 := Option.some.inj ((show Tryd.prog.funcNamed "refrain/refrainlaw11.EvalAll" = some 3 by kernel_rfl).symm.trans hf) |>.symm
 obtain rfl : fn = Tryd.f3 := (Option.some.inj (Tryd.func3.symm.trans hfn)).symm
 refine ⟨by kernel_rfl, fun j t ht => ?_⟩
 rw [Tryd.params3] at ht
 have := Array.mem_of_getElem? ht
 simp only [List.mem_toArray, List.mem_cons, List.not_mem_nil, or_false] at this
 rcases this with rfl
 ·exact (show Tryd.prog.wantsStandIn 22 = false by kernel_rfl)

theorem evalAll_holds : Rows.EvalAllUptoCardSaid :=
 Claim7.holds_tied_plain_at .later [] _ _ _ _ evalAll_row (fun _ h => by cases h) (by kernel_rfl) (fun _ h => by cases h) evalAllUpto_row_tie rfl ⟨rfl, rfl⟩ (by kernel_rfl) rfl evalAll_plain (by kernel_rfl)

#print axioms evalAll_holds
end Go.Proofs.YtfkhglkcplnppaaDoor
