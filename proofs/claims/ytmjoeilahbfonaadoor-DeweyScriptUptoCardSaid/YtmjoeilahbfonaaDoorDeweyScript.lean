/- DeweyScript answers true for every input of bulk at most 1048576, and its arguments read behind the call as they read before. Conditions: those of the statement's card: none more. -/
import Derived.Test.YtmjoeilahbfonaaDoorArgs3
set_option linter.unusedVariables false
namespace Go.Proofs.YtmjoeilahbfonaaDoor
open Go Go.ChangeShapes Go.WideShapes Go.RowKit Go.ChangeAt Go.Hw

theorem deweyScript_contract (H : Type) (enc : TypeId × Value → H) (W : World) (base : Nat) (args : Array Value) (ds gs : List (DataW H)) (before : List MemPlace)
    (hval : ∀ (j : Nat) t v, Tryd.f8.params[j]? = some t → args[j]? = some v → Value.okWide Tryd.prog W .any base t v)
    (hW : DataW.Whole enc Tryd.prog Tryd.f8.params.toList Rows.deweyScriptSpec.vars false W args.toList ds gs before) (hk : Rows.uptoSmall H (ds ++ gs) = true) (hL : laidMetH Tryd.prog Rows.deweyScriptUptoRow.laid W) (hsh : W.ShapedOpen Tryd.prog) :
    Calls Tryd.prog 8 args W fun e W' => ∃ v, e = .returned v ∧ Rows.deweyScriptSpec.post enc Tryd.prog Tryd.f8 false true false false W args v W' := by
  have hW' := hW
  obtain ⟨p, q, hA0, hV, rfl, hfz, hnd⟩ := hW
  have hA : DataW.TrodAll enc Tryd.prog W 0 (fun _ => true) true Tryd.f8.params.toList args.toList ds p := hA0
  rw [Tryd.params8] at hA hval
  obtain ⟨v0, vs0, d0, ds0, p0, q0, hargs, rfl, rfl, h0, t0⟩ := trodAll_cons hA
  obtain ⟨v1, vs1, d1, ds1, p1, q1, rfl, rfl, rfl, h1, t1⟩ := trodAll_cons t0
  obtain ⟨rfl, rfl, rfl⟩ := trodAll_nil t1
  obtain rfl : args = #[v0, v1] := by cases args; simp_all
  obtain ⟨rfl, rfl⟩ := trodVars_none hV
  have hb := of_decide_eq_true hk
  simp only [List.append_nil, Rows.uptoBulkAll] at hb
  obtain ⟨sl, Ops, rfl, hrd, hvs, hbk⟩ := open_script2 (hval 0 38 v0 rfl rfl) h0
  obtain ⟨tl, T, rfl, htd, htr, htb⟩ := open_nums (hval 1 22 v1 rfl rfl) h1
  obtain ⟨hm, hos, hlen⟩ := script_bounds2 hbk (by omega) hvs
  have hmax := maxOf hsh
  have hL : laidMet Tryd.prog Rows.deweyScriptUptoRow.laid W := hL
  obtain ⟨hT, h0⟩ := tabOf hL
  have hgood := walk8 (w0 := W) (H := W.heap) (Q := fun r H' => r = true ∧ Kp No W.heap H') (c8 hT hmax hrd hm hos (by omega) htd htr (by omega) fun H' k => ⟨rfl, k⟩)
  refine (hgood W (Ok.refl W) rfl).mono fun e W' ⟨v, he, ho, r, hv, hr, hkp⟩ => ?_
  subst he hv hr
  exact ⟨_, rfl, close hW' rfl rfl rfl rfl laid (by rw [Tryd.params8]; decide +kernel) (by kernel_rfl) Tryd.underlying4 ho hkp.size fun k hk => hkp.blk k hk id⟩

theorem deweyScript_laid (os : Os) : laidMet Tryd.prog Rows.deweyScriptUptoRow.laid ((laidWorld5 os).forCall (fun _ _ => 0) ⟨#[], #[.slice none 0 0, .slice none 0 0], []⟩).memory :=
  laidMet_of_run' 8 (by kernel_rfl) (by kernel_rfl)
theorem deweyScript_reads (os : Os) {H : Type} (enc : TypeId × Value → H) : ∃ places, DataW.whole enc Tryd.prog ((laidWorld5 os).forCall (fun _ _ => 0) ⟨#[], #[.slice none 0 0, .slice none 0 0], []⟩).memory Tryd.f8.params.toList Rows.deweyScriptSpec.vars false #[Value.slice none 0 0, .slice none 0 0].toList 8 = some ([.nil, .nil], [], places) :=
  ⟨[], by kernel_rfl⟩

set_option maxRecDepth 100000 in
theorem deweyScript_lifted (os : Os) (started : os.Started) (H : Type) (enc : TypeId × Value → H) (F : Stop.Interp) :
    ReturnsInHanded {} Tryd.checked os 8 .any ((Rows.OpenSpec.upto Rows.deweyScriptSpec).preRow enc Tryd.prog Tryd.f8 Rows.deweyScriptUptoRow.domain false Rows.deweyScriptUptoRow.laid) (((Rows.OpenSpec.upto Rows.deweyScriptSpec).at F).post enc Tryd.prog Tryd.f8 false true false false) := by
  obtain ⟨places, hx⟩ := deweyScript_reads os enc
  refine returnsInHanded_of_row (C := Tryd.checked) (s := Rows.OpenSpec.upto Rows.deweyScriptSpec) own started (by kernel_rfl) Tryd.func8
    (witness_row_at (enc := enc) (C := Tryd.checked) false (laidWorld5 os) #[.slice none 0 0, .slice none 0 0] rfl (by kernel_rfl) (by kernel_rfl) (by kernel_rfl)
      (OpenSpec.preRow_of_cond 8 hx (by kernel_rfl) (fun k hk => by cases hk; kernel_rfl) (by kernel_rfl) (deweyScript_laid os))) ?_
  intro W base args ds gs before hval hW _ hk _ hL hsh _
  exact deweyScript_contract H enc W base args ds gs before hval hW (hk _ rfl) hL hsh

theorem deweyScript_row : Rows.DeweyScriptUptoSaid :=
  OpenClaim.holds_of_cond 8 Tryd.f8 rfl rfl rfl rfl rfl rfl rfl ⟨rfl, rfl, rfl, rfl, rfl⟩ rfl rfl rfl rfl rfl (by kernel_rfl) Tryd.func8 (by kernel_rfl)
    (of_decide_eq_true (by kernel_rfl)) (by unfold Func.isWrapper; first | (rw [if_pos (by decide +kernel)]; kernel_rfl) | (rw [if_neg (by decide +kernel)]; exact ⟨rfl, rfl⟩))
    (fun os started H enc _ F => by rw [OpenClaim.pre_eq_preRow]; exact deweyScript_lifted os started H enc F)

/-- No parameter wants a stand-in; the program's own looks are off: what the card asks. -/
theorem deweyScript_plain (f : FuncId) (fn : Func) (hf : Tryd.pinned.checked.prog.funcNamed "refrain/refrainlaw12.DeweyScript" = some f) (hfn : Tryd.pinned.checked.prog.funcs[f]? = some fn) :
    false = Tryd.pinned.checked.prog.looks [] ∧ ∀ (j : Nat) t, fn.params[j]? = some t → Tryd.pinned.checked.prog.wantsStandIn t = false := by
  obtain rfl : f = 8 := Option.some.inj ((show Tryd.prog.funcNamed "refrain/refrainlaw12.DeweyScript" = some 8 by kernel_rfl).symm.trans hf) |>.symm
  obtain rfl : fn = Tryd.f8 := (Option.some.inj (Tryd.func8.symm.trans hfn)).symm
  refine ⟨by kernel_rfl, fun j t ht => ?_⟩
  rw [Tryd.params8] at ht
  have := Array.mem_of_getElem? ht
  simp only [List.mem_toArray, List.mem_cons, List.not_mem_nil, or_false] at this
  rcases this with rfl | rfl
  · exact (show Tryd.prog.wantsStandIn 38 = false by kernel_rfl)
  · exact (show Tryd.prog.wantsStandIn 22 = false by kernel_rfl)

theorem deweyScript_holds : Rows.DeweyScriptUptoCardSaid :=
  Claim7.holds_tied_plain_at .later [] _ _ _ _ deweyScript_row (fun _ h => by cases h) (by kernel_rfl) (fun _ h => by cases h) deweyScriptUpto_row_tie rfl ⟨rfl, rfl⟩ (by kernel_rfl) rfl deweyScript_plain (by kernel_rfl)

#print axioms deweyScript_holds
end Go.Proofs.YtmjoeilahbfonaaDoor
