/- EvalAll: its argument, opened: events, types, surroundings, calls. Own work of this session. -/
import Derived.Test.YtfkhglkcplnppaaDoorOpens
set_option linter.unusedVariables false
namespace Go.Hw
open Go Go.ChangeShapes Go.WideShapes Go.RowKit Go.Proofs.YtfkhglkcplnppaaDoor Go.Proofs

theorem bks_map {α β : Type} {g : α → β} {bk : β → Nat} : ∀ L : List α, bks bk (L.map g) = bks (fun x => bk (g x)) L
 | [] => rfl
 | x :: l => by simp only [List.map_cons, bks, bks_map l]
theorem flat_map {α β : Type} {f : β → List Value} {g : α → β} (L : List α) : (L.map g).flatMap f = L.flatMap (fun x => f (g x)) := by
 induction L with
 | nil => rfl
 | cons x l ih => rw [List.map_cons, List.flatMap_cons, List.flatMap_cons, ih]
abbrev bkE (e : EvM) : Nat := e.vals.length + 1
abbrev bkEs (l : List EvM) : Nat := bks bkE l + 1
abbrev bkT (t : TyM) : Nat := t.2.length + 1
theorem oEv : Opn Tryd.prog 36 (fun x : EvM × Sl => [.string x.1.ty, .int .i64 x.1.time, Sl.v x.2]) (fun H x => RdL vF H x.2 x.1.vals ∧ RngE x.1) (fun x => bkE x.1) :=
 (Opn.struct Tryd.underlying36 size36 (fun _ => rfl)
  (OpnF.cons rfl size9 rfl (Opn.string Tryd.underlying9) (fun _ => rfl) (OpnF.cons rfl size2 rfl (Opn.int Tryd.underlying2) (fun _ => rfl)
   (OpnF.cons rfl size34 rfl (Opn.slice (F := vF) Tryd.underlying34 size38 oVT) (fun _ => rfl) (OpnF.nil (o := 3)))))).map
  (fun x => ((⟨x.1, x.2.1, x.2.2.1.2⟩ : EvM), x.2.2.1.1)) (fun _ => rfl) (fun _ _ h => ⟨h.2.2.1.1, wf64 h.2.1, h.2.2.1.2⟩) (fun x => by
   have := bks_len (bk := fun _ : VT => 1) (fun _ => Nat.le_refl _) (l := x.2.2.1.2)
   show x.2.2.1.2.length + 1 ≤ _
   omega)
def evAF : Fmt (EvM × Sl) 36 3 := ⟨fun x => [.string x.1.ty, .int .i64 x.1.time, Sl.v x.2], fun _ => rfl, by
 intro x v hv
 simp only [List.mem_cons, List.not_mem_nil, or_false] at hv
 rcases hv with rfl | rfl | rfl <;> rfl, by decide⟩
def EvsR (H : Hp) (s : Sl) (evs : List EvM) : Prop := (∃ R : List (ByteArray × Int × Sl), RdL evF H s R ∧ R.length = evs.length ∧ ∀ (i : Nat) (r : ByteArray × Int × Sl) (e : EvM), R[i]? = some r → evs[i]? = some e → r.1 = e.ty ∧ r.2.1 = e.time ∧ RdL vF H r.2.2 e.vals) ∧ ∀ e ∈ evs, RngE e
theorem evs_of {H : Hp} {sl : Sl} {L : List (EvM × Sl)} (h : RdL evAF H sl L) (hR : ∀ y ∈ L, RdL vF H y.2 y.1.vals ∧ RngE y.1) : EvsR H sl (L.map (·.1)) := by
 refine ⟨⟨L.map fun x => (x.1.ty, x.1.time, x.2), ⟨by rw [List.length_map]; exact h.n, ?_⟩, by simp, fun i r e hr he => ?_⟩, fun e he => ?_⟩
 ·rw [flat_map]; exact h.r
 ·rw [List.getElem?_map] at hr he
  cases hL : L[i]? with
  | none => rw [hL] at hr; cases hr
  | some y =>
   rw [hL] at hr he
   injection hr with hr; injection he with he
   subst hr he
   exact ⟨rfl, rfl, (hR y (List.mem_of_getElem? hL)).1⟩
 ·obtain ⟨y, hy, rfl⟩ := List.mem_map.1 he
  exact (hR y hy).2
theorem oEvs : Opn Tryd.prog 49 (fun x : Sl × List EvM => [Sl.v x.1]) (fun H x => EvsR H x.1 x.2 ∧ x.1.n ≤ x.1.c) (fun x => bkEs x.2) :=
 (Opn.sliceC (F := evAF) Tryd.underlying49 size36 oEv).map (fun x => (x.1, x.2.map (·.1))) (fun _ => rfl) (fun H x h => ⟨evs_of h.1 h.2.2, h.2.1⟩) (fun x => by show bks bkE (x.2.map (·.1)) + 1 ≤ _; rw [bks_map]; exact Nat.le_refl _)
def slAF : Fmt (Sl × List EvM) 49 1 := ⟨fun x => [Sl.v x.1], fun _ => rfl, by intro x v hv; simp at hv; rcases hv with rfl; rfl, by decide⟩
def BdR (H : Hp) (s : Sl) (B : List (List EvM)) : Prop := ∃ L : List Sl, RdL slF H s L ∧ L.length = B.length ∧ ∀ (i : Nat) (s : Sl) (evs : List EvM), L[i]? = some s → B[i]? = some evs → EvsR H s evs ∧ s.n ≤ s.c
theorem oBd : Opn Tryd.prog 27 (fun x : Sl × List (List EvM) => [Sl.v x.1]) (fun H x => BdR H x.1 x.2) (fun x => bks bkEs x.2 + 1) :=
 (Opn.slice (F := slAF) Tryd.underlying27 size49 oEvs).map (fun x => (x.1, x.2.map (·.2))) (fun _ => rfl) (fun H x h => by
  refine ⟨x.2.map (·.1), ⟨by rw [List.length_map]; exact h.1.n, by rw [flat_map]; exact h.1.r⟩, by simp, fun i s evs hs he => ?_⟩
  have he : (x.2.map (·.2))[i]? = some evs := he
  rw [List.getElem?_map] at hs he
  cases hL : x.2[i]? with
  | none => rw [hL] at hs; cases hs
  | some y =>
   rw [hL] at hs he
   injection hs with hs; injection he with he
   subst hs he
   exact h.2 y (List.mem_of_getElem? hL)) (fun x => by show bks bkEs (x.2.map (·.2)) + 1 ≤ _; rw [bks_map]; exact Nat.le_refl _)
theorem oAt : Opn Tryd.prog 83 aF.f (fun _ _ => True) (fun _ => 1) :=
 (Opn.struct Tryd.underlying83 size83 (fun _ => rfl)
  (OpnF.cons rfl size9 rfl (Opn.string Tryd.underlying9) (fun _ => rfl) (OpnF.cons rfl size3 rfl (Opn.int Tryd.underlying3) (fun _ => rfl) (OpnF.nil (o := 2))))).map
  (fun x => (x.1, x.2.1)) (fun _ => rfl) (fun _ _ _ => trivial) (fun x => Nat.le_add_left _ _)
theorem oTy : Opn Tryd.prog 86 (fun x : TyM × Sl => [.string x.1.1, Sl.v x.2]) (fun H x => RdL aF H x.2 x.1.2) (fun x => bkT x.1) :=
 (Opn.struct Tryd.underlying86 size86 (fun _ => rfl)
  (OpnF.cons rfl size9 rfl (Opn.string Tryd.underlying9) (fun _ => rfl) (OpnF.cons rfl size84 rfl (Opn.slice (F := aF) Tryd.underlying84 size83 oAt) (fun _ => rfl) (OpnF.nil (o := 2))))).map
  (fun x => (((x.1, x.2.1.2) : TyM), x.2.1.1)) (fun _ => rfl) (fun _ _ h => h.2.1.1) (fun x => by
   have := bks_len (bk := fun _ : ByteArray × Int => 1) (fun _ => Nat.le_refl _) (l := x.2.1.2)
   show x.2.1.2.length + 1 ≤ _
   omega)
def tyAF : Fmt (TyM × Sl) 86 2 := ⟨fun x => [.string x.1.1, Sl.v x.2], fun _ => rfl, by
 intro x v hv
 simp only [List.mem_cons, List.not_mem_nil, or_false] at hv
 rcases hv with rfl | rfl <;> rfl, by decide⟩
def TysR (H : Hp) (s : Sl) (T : List TyM) : Prop := ∃ R : List (ByteArray × Sl), RdL tF H s R ∧ R.length = T.length ∧ ∀ (i : Nat) (r : ByteArray × Sl) (t : TyM), R[i]? = some r → T[i]? = some t → r.1 = t.1 ∧ RdL aF H r.2 t.2
theorem oTys : Opn Tryd.prog 30 (fun x : Sl × List TyM => [Sl.v x.1]) (fun H x => TysR H x.1 x.2) (fun x => bks bkT x.2 + 1) :=
 (Opn.slice (F := tyAF) Tryd.underlying30 size86 oTy).map (fun x => (x.1, x.2.map (·.1))) (fun _ => rfl) (fun H x h => by
  refine ⟨x.2.map (fun y => (y.1.1, y.2)), ⟨by rw [List.length_map]; exact h.1.n, by rw [flat_map]; exact h.1.r⟩, by simp, fun i r t hr ht => ?_⟩
  have ht : (x.2.map (·.1))[i]? = some t := ht
  rw [List.getElem?_map] at hr ht
  cases hL : x.2[i]? with
  | none => rw [hL] at hr; cases hr
  | some y =>
   rw [hL] at hr ht
   injection hr with hr; injection ht with ht
   subst hr ht
   exact ⟨rfl, h.2 y (List.mem_of_getElem? hL)⟩) (fun x => by show bks bkT (x.2.map (·.1)) + 1 ≤ _; rw [bks_map]; exact Nat.le_refl _)
theorem oStr : Opn Tryd.prog 9 sF.f (fun _ _ => True) (fun _ => 1) := (Opn.string Tryd.underlying9).map id (fun _ => rfl) (fun _ _ _ => trivial) (fun _ => Nat.le_add_left _ _)
theorem oStrs : Opn Tryd.prog 29 (fun x : Sl × List ByteArray => [Sl.v x.1]) (fun H x => RdL sF H x.1 x.2) (fun x => x.2.length + 1) :=
 (Opn.slice (F := sF) Tryd.underlying29 size9 oStr).map id (fun _ => rfl) (fun _ _ h => h.1) (fun x => by
  have := bks_len (bk := fun _ : ByteArray => 1) (fun _ => Nat.le_refl _) (l := x.2)
  show x.2.length + 1 ≤ _
  omega)
structure EnA where
 (p0 p1 p5 p6 : Sl)
 m : EnvM
structure EnR (H : Hp) (x : EnA) : Prop where
 vars : RdL sF H x.p0 x.m.vars
 bound : BdR H x.p1 x.m.bound
 now : RdL vF H x.p5 x.m.now.vals ∧ RngE x.m.now
 types : TysR H x.p6 x.m.types
abbrev bkN (m : EnvM) : Nat := m.vars.length + bks bkEs m.bound + bkE m.now + bks bkT m.types + 1
theorem oEnv : Opn Tryd.prog 43 (fun x : EnA => envRow x.p0 x.p1 x.m.it x.m.now.ty x.m.now.time x.p5 x.p6) EnR (fun x => bkN x.m) :=
 (Opn.struct Tryd.underlying43 size43 (fun _ => rfl)
  (OpnF.cons rfl size29 rfl oStrs (fun _ => rfl) (OpnF.cons rfl size27 rfl oBd (fun _ => rfl) (OpnF.cons rfl size9 rfl (Opn.string Tryd.underlying9) (fun _ => rfl)
   (OpnF.cons rfl size36 rfl oEv (fun _ => rfl) (OpnF.cons rfl size30 rfl oTys (fun _ => rfl) (OpnF.nil (o := 7)))))))).map
  (fun x => (⟨x.1.1, x.2.1.1, x.2.2.2.1.2, x.2.2.2.2.1.1, ⟨x.1.2, x.2.1.2, x.2.2.1, x.2.2.2.1.1, x.2.2.2.2.1.2⟩⟩ : EnA)) (fun _ => rfl) (fun _ _ h => ⟨h.1, h.2.1, h.2.2.2.1, h.2.2.2.2.1⟩) (fun x => by
   show x.1.2.length + bks bkEs x.2.1.2 + bkE x.2.2.2.1.1 + bks bkT x.2.2.2.2.1.2 + 1 ≤ _
   omega)
structure OpR (H : Hp) (o : OpM) (s : OpS) : Prop where
 ev : RdL vF H s.vals o.ev.vals
 e : Ex (fun b => b < H.size) H s.q o.kd
 c : Ex (fun b => b < H.size) H s.cs o.conds
 env : EnR H ⟨s.p0, s.p1, s.p5, s.p6, o.env⟩
abbrev bkO (o : OpM) : Nat := bkE o.ev + (o.kd.nodes + 1) + (o.conds.nodes + 1) + bkN o.env
theorem oOp : Opn Tryd.prog 45 opF.f (fun H x => OpR H x.1 x.2) (fun x => bkO x.1) :=
 (Opn.struct Tryd.underlying45 size45 (fun _ => rfl)
  (OpnF.cons rfl size3 rfl (Opn.int Tryd.underlying3) (fun _ => rfl) (OpnF.cons rfl size36 rfl oEv (fun _ => rfl) (OpnF.cons rfl size9 rfl (Opn.string Tryd.underlying9) (fun _ => rfl)
   (OpnF.cons rfl size41 rfl oEx (fun _ => rfl) (OpnF.cons rfl size39 rfl oExs (fun _ => rfl) (OpnF.cons rfl size43 rfl oEnv (fun _ => rfl) (OpnF.nil (o := 23))))))))).map
  (fun x => (((⟨x.1, x.2.1.1, x.2.2.1, x.2.2.2.1.r, x.2.2.2.1.k, x.2.2.2.2.1.2, x.2.2.2.2.2.1.m⟩ : OpM), (⟨x.2.1.2, x.2.2.2.1.q, x.2.2.2.2.1.1, x.2.2.2.2.2.1.p0, x.2.2.2.2.2.1.p1, x.2.2.2.2.2.1.p5, x.2.2.2.2.2.1.p6⟩ : OpS)))) (fun _ => rfl)
  (fun _ _ h => ⟨h.2.1.1, h.2.2.2.1, h.2.2.2.2.1, h.2.2.2.2.2.1⟩) (fun x => by
   show bkE x.2.1.1 + (x.2.2.2.1.k.nodes + 1) + (x.2.2.2.2.1.2.nodes + 1) + bkN x.2.2.2.2.2.1.m ≤ _
   omega)
theorem totE_le : ∀ B : List (List EvM), totE B ≤ bks bkEs B
 | [] => Nat.le_refl _
 | l :: L => by
  have := totE_le L
  have := bks_len (bk := bkE) (fun _ => Nat.le_add_left _ _) (l := l)
  show l.length + totE L ≤ (bks bkE l + 1) + bks bkEs L
  omega
theorem OpR.opH {H : Hp} {o : OpM} {s : OpS} (h : OpR H o s) (hb : bkO o ≤ 1048576) : OpH H o s := by
 have hb : (o.ev.vals.length + 1) + (o.kd.nodes + 1) + (o.conds.nodes + 1) + (o.env.vars.length + bks bkEs o.env.bound + (o.env.now.vals.length + 1) + bks bkT o.env.types + 1) ≤ 1048576 := hb
 have bl := bks_len (bk := bkEs) (fun _ => Nat.le_add_left _ _) (l := o.env.bound)
 have tl := bks_len (bk := bkT) (fun _ => Nat.le_add_left _ _) (l := o.env.types)
 have be : ∀ evs ∈ o.env.bound, bks bkE evs ≤ 1048576 := fun evs he => by
  have := bks_mem (bk := bkEs) he
  have : bks bkE evs + 1 ≤ bks bkEs o.env.bound := this
  omega
 have el : ∀ evs ∈ o.env.bound, evs.length ≤ 4194304 := fun evs he => by
  have := be evs he
  have := bks_len (bk := bkE) (fun _ => Nat.le_add_left _ _) (l := evs)
  omega
 have ev : ∀ evs ∈ o.env.bound, ∀ e ∈ evs, e.vals.length ≤ 4194304 := fun evs he e hm => by
  have h1 := be evs he
  have h2 := bks_mem (bk := bkE) hm
  have h2 : e.vals.length + 1 ≤ bks bkE evs := h2
  omega
 have et : ∀ t ∈ o.env.types, t.2.length ≤ 4194304 := fun t ht => by
  have h2 := bks_mem (bk := bkT) ht
  have h2 : t.2.length + 1 ≤ bks bkT o.env.types := h2
  omega
 have tot := totE_le o.env.bound
 obtain ⟨L, hL1, hL2, hL3⟩ := h.env.bound
 obtain ⟨R, hR1, hR2, hR3⟩ := h.env.types
 have hL2 : L.length = o.env.bound.length := hL2
 have evsH : ∀ (i : Nat) (s : Sl) (evs : List EvM), L[i]? = some s → o.env.bound[i]? = some evs → EvsH H s evs := fun i s evs hs he => ⟨el evs (List.mem_of_getElem? he), (hL3 i s evs hs he).1.1⟩
 refine ⟨h.ev, h.e, h.c, ⟨⟨h.env.vars, by show o.env.vars.length ≤ 4194304; omega, ⟨L, hL1, hL2, evsH⟩, rfl, rfl, rfl, h.env.now.1, by show o.env.types.length ≤ 4194304; omega, R, hR1, hR2, fun i r t hr ht => ⟨(hR3 i r t hr ht).1, (hR3 i r t hr ht).2, et t (List.mem_of_getElem? ht)⟩⟩, L, hL1, hL2, fun i s evs hs he => ⟨evsH i s evs hs he, (hL3 i s evs hs he).2⟩⟩, fun l hl e he => ?_, by omega, by omega, by show o.ev.vals.length ≤ 4194304; omega, by show o.env.bound.length ≤ 4194304; omega, ev, el, by show o.env.now.vals.length ≤ 4194304; omega, et, by show totE o.env.bound ≤ 4194304; omega⟩
 obtain ⟨i, hi⟩ := List.getElem?_of_mem hl
 obtain ⟨s, hs⟩ : ∃ s, L[i]? = some s := ⟨_, List.getElem?_eq_getElem (by have := (List.getElem?_eq_some_iff.1 hi).1; omega)⟩
 exact (hL3 i s l hs hi).1.2 e he
set_option maxRecDepth 100000 in
theorem open_listB {H : Type} {enc : TypeId × Value → H} {W : World} {base : Nat} {v : Value} {d : DataW H} {p : List MemPlace} {t e k : Nat} {α : Type} {F : Fmt α e k} {R : Hp → α → Prop} {bk : α → Nat} (ht : Tryd.prog.underlying t = some (.slice e)) (hz : Tryd.prog.cellsOf e = k) (ho : Opn Tryd.prog e F.f R bk)
  (hval : Value.okWide Tryd.prog W .any base t v) (h : DataW.Trod enc Tryd.prog W 0 (fun _ => true) true t v d p) :
  ∃ (sl : Sl) (L : List α), v = Sl.v sl ∧ RdL F W.heap sl L ∧ (∀ x ∈ L, R W.heap x) ∧ bks bk L + 1 ≤ Rows.uptoBulk d := by
 obtain ⟨a, len, cap, rfl⟩ := okWide_slice ht hval
 obtain ⟨fuel, hf⟩ := h
 obtain ⟨⟨sl, L⟩, hcs, ⟨hrd, hR⟩, hbk⟩ := (Opn.slice ht hz ho).out enc W _ _ fuel _ _ hf
 exact ⟨sl, L, by simpa [Value.cells] using hcs, hrd, hR, hbk⟩
end Go.Hw
