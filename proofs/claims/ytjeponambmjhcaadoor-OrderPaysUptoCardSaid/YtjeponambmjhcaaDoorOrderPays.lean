/- OrderPays answers true for every input of bulk at most 1048576, and its arguments read behind the call as they read before. Conditions: those of the statement's card (orderPaysUptoCard: the three tables of the library's that its row lists are tied to the program's text): none more. -/
import Derived.Test.YtjeponambmjhcaaDoorArgs
import Derived.Test.YtjeponambmjhcaaDoorP2
set_option linter.unusedVariables false
namespace Go.Proofs.YtjeponambmjhcaaDoor
open Go Go.ChangeShapes Go.WideShapes Go.RowKit Go.ChangeAt Go.Hw

theorem open_times {H : Type} {enc : TypeId × Value → H} {W : World} {base : Nat} {v : Value} {d : DataW H} {p : List MemPlace} {t : TypeId} (ht : Tryd.prog.underlying t = some (.slice 2)) (hval : Value.okWide Tryd.prog W .any base t v) (h : DataW.Trod enc Tryd.prog W 0 (fun _ => true) true t v d p) :
    ∃ (sl : Sl) (ts : List Int), v = Sl.v sl ∧ RdL iF W.heap sl ts ∧ ts.length ≤ Rows.uptoBulk d := by
  obtain ⟨a, len, cap, rfl⟩ := okWide_slice ht hval
  obtain ⟨fuel, hf⟩ := h
  obtain ⟨⟨sl, ts⟩, hcs, ⟨hrd, _⟩, hbk⟩ := (Opn.slice (F := iF) ht size2 (Opn.int Tryd.underlying2)).out enc W _ _ fuel _ _ hf
  have := bks_len (bk := fun _ : Int => 1) (fun _ => Nat.le_refl _) (l := ts)
  have hbk : bks (fun _ : Int => 1) ts + 1 ≤ Rows.uptoBulk d := hbk
  refine ⟨sl, ts, ?_, hrd, by omega⟩
  simpa [Value.cells] using hcs

theorem orderPays_contract (H : Type) (enc : TypeId × Value → H) (W : World) (base : Nat) (args : Array Value) (ds gs : List (DataW H)) (before : List MemPlace)
    (hval : ∀ (j : Nat) t v, Tryd.f3.params[j]? = some t → args[j]? = some v → Value.okWide Tryd.prog W .any base t v)
    (hW : DataW.Whole enc Tryd.prog Tryd.f3.params.toList Rows.orderPaysSpec.vars false W args.toList ds gs before) (hk : Rows.uptoSmall H (ds ++ gs) = true) (hL : laidMetH Tryd.prog Rows.orderPaysRow.laid W) :
    Calls Tryd.prog 3 args W fun e W' => ∃ v, e = .returned v ∧ Rows.orderPaysSpec.post enc Tryd.prog Tryd.f3 false true false false W args v W' := by
  have hW' := hW
  obtain ⟨p, q, hA0, hV, rfl, hfz, hnd⟩ := hW
  have hA : DataW.TrodAll enc Tryd.prog W 0 (fun _ => true) true Tryd.f3.params.toList args.toList ds p := hA0
  rw [Tryd.params3] at hA hval
  obtain ⟨v0, vs0, d0, ds0, p0, q0, hargs, rfl, rfl, h0, r0⟩ := trodAll_cons hA
  obtain ⟨v1, vs1, d1, ds1, p1, q1, rfl, rfl, rfl, h1, r1⟩ := trodAll_cons r0
  obtain ⟨rfl, rfl, rfl⟩ := trodAll_nil r1
  obtain rfl : args = #[v0, v1] := by cases args; simp_all
  obtain ⟨rfl, rfl⟩ := trodVars_none hV
  obtain ⟨late, rfl, rfl, rfl, _⟩ := open_int Tryd.underlying2 (hval 0 2 v0 rfl rfl) h0
  obtain ⟨sl, ts, rfl, hrd, hbk⟩ := open_times (by kernel_rfl) (hval 1 22 v1 rfl rfl) h1
  have hb := of_decide_eq_true hk
  simp only [List.append_nil, Rows.uptoBulkAll] at hb
  obtain ⟨hT, h0⟩ := tabOf hL
  have hgood := walk3 (w0 := W) (H := W.heap) (Q := fun r H' => r = true ∧ Kp No W.heap H') (c3 (late := late) (fun H' k => hT.kp k gPow h0 id) hrd (by omega) fun H' k => ⟨rfl, k⟩)
  refine (hgood W (Ok.refl W) rfl).mono fun e W' ⟨v, he, ho, r, hv, hr, hkp⟩ => ?_
  subst he hv hr
  exact ⟨_, rfl, close hW' rfl rfl rfl rfl laid (by rw [Tryd.params3]; decide +kernel) (by kernel_rfl) Tryd.underlying4 ho hkp.size fun k hk => hkp.blk k hk id⟩

theorem orderPays_laid (os : Os) : laidMet Tryd.prog Rows.orderPaysUptoRow.laid ((laidWorld os).forCall (fun _ _ => 0) ⟨#[], #[.int .i64 0, .slice none 0 0], []⟩).memory :=
  laidMet_of_run' 8 (by kernel_rfl) (by kernel_rfl)
theorem orderPays_reads (os : Os) {H : Type} (enc : TypeId × Value → H) : ∃ places, DataW.whole enc Tryd.prog ((laidWorld os).forCall (fun _ _ => 0) ⟨#[], #[.int .i64 0, .slice none 0 0], []⟩).memory Tryd.f3.params.toList Rows.orderPaysSpec.vars false #[Value.int .i64 0, .slice none 0 0].toList 8 = some ([.lit (.int .i64 0), .nil], [], places) :=
  ⟨[], by kernel_rfl⟩

set_option maxRecDepth 100000 in
theorem orderPays_lifted (os : Os) (started : os.Started) (H : Type) (enc : TypeId × Value → H) (F : Stop.Interp) :
    ReturnsInHanded {} Tryd.checked os 3 .any ((Rows.OpenSpec.upto Rows.orderPaysSpec).preRow enc Tryd.prog Tryd.f3 Rows.orderPaysUptoRow.domain false Rows.orderPaysUptoRow.laid) (((Rows.OpenSpec.upto Rows.orderPaysSpec).at F).post enc Tryd.prog Tryd.f3 false true false false) := by
  obtain ⟨places, hx⟩ := orderPays_reads os enc
  refine returnsInHanded_of_row (C := Tryd.checked) (s := Rows.OpenSpec.upto Rows.orderPaysSpec) own started (by kernel_rfl) Tryd.func3
    (witness_row_at (enc := enc) (C := Tryd.checked) false (laidWorld os) #[.int .i64 0, .slice none 0 0] rfl (by kernel_rfl) (by kernel_rfl) (by kernel_rfl)
      (OpenSpec.preRow_of_cond 8 hx (by kernel_rfl) (fun k hk => by cases hk; kernel_rfl) (by kernel_rfl) (orderPays_laid os))) ?_
  intro W base args ds gs before hval hW _ hk _ hL _ _
  exact orderPays_contract H enc W base args ds gs before hval hW (hk _ rfl) hL

theorem orderPays_row : Rows.OrderPaysUptoSaid :=
  OpenClaim.holds_of_cond 3 Tryd.f3 rfl rfl rfl rfl rfl rfl rfl ⟨rfl, rfl, rfl, rfl, rfl⟩ rfl rfl rfl rfl rfl (by kernel_rfl) Tryd.func3 (by kernel_rfl)
    (of_decide_eq_true (by kernel_rfl)) (by unfold Func.isWrapper; first | (rw [if_pos (by decide +kernel)]; kernel_rfl) | (rw [if_neg (by decide +kernel)]; exact ⟨rfl, rfl⟩))
    (fun os started H enc _ F => by rw [OpenClaim.pre_eq_preRow]; exact orderPays_lifted os started H enc F)

/-- No parameter wants a stand-in; the program's own looks are off: what the card asks. -/
theorem orderPays_plain (f : FuncId) (fn : Func) (hf : Tryd.pinned.checked.prog.funcNamed "refrain/refrainlaw18.OrderPays" = some f) (hfn : Tryd.pinned.checked.prog.funcs[f]? = some fn) :
    false = Tryd.pinned.checked.prog.looks [] ∧ ∀ (j : Nat) t, fn.params[j]? = some t → Tryd.pinned.checked.prog.wantsStandIn t = false := by
  obtain rfl : f = 3 := Option.some.inj ((show Tryd.prog.funcNamed "refrain/refrainlaw18.OrderPays" = some 3 by kernel_rfl).symm.trans hf) |>.symm
  obtain rfl : fn = Tryd.f3 := (Option.some.inj (Tryd.func3.symm.trans hfn)).symm
  refine ⟨by kernel_rfl, fun j t ht => ?_⟩
  rw [Tryd.params3] at ht
  have := Array.mem_of_getElem? ht
  simp only [List.mem_toArray, List.mem_cons, List.not_mem_nil, or_false] at this
  rcases this with rfl | rfl
  · exact (show Tryd.prog.wantsStandIn 2 = false by kernel_rfl)
  · exact (show Tryd.prog.wantsStandIn 22 = false by kernel_rfl)

theorem orderPays_holds : Rows.OrderPaysUptoCardSaid :=
  Claim7.holds_tied_plain_at .later [] _ _ _ _ orderPays_row (fun _ h => by cases h) (by kernel_rfl) (fun _ h => by cases h) orderPaysUpto_row_tie rfl ⟨rfl, rfl⟩ (by kernel_rfl) rfl orderPays_plain (by kernel_rfl)

#print axioms orderPays_holds
end Go.Proofs.YtjeponambmjhcaaDoor
