/- A program logic over heaps and frames as functions, derived from the kit's 'Code.wp': control and regions. Regions in the order of the text, calls, a function's frame: rules for 'HW'. Rules for single operations. Rules for operations that write or make memory. Own work of this session. -/
import Derived.WalkKit
import Derived.OrdersHeld
namespace Go.Hw
open Go

abbrev Hp := Array Obj

def cell (H : Hp) (a : Addr) : Option Value :=
 match H[a.block]? with
 | some (.cells c _ _) => if a.spot.isSome then none else c[a.off]?
 | _ => none

def frz (H : Hp) (a : Addr) : Bool :=
 match H[a.block]? with
 | some (.cells _ _ (lo, hi)) => lo ≤ a.off && a.off < hi
 | _ => false

def setc (H : Hp) (a : Addr) (v : Value) : Hp :=
 H.modify a.block fun
  | .cells c elem frozen => .cells (if a.spot.isSome then c else c.setIfInBounds a.off v) elem frozen
  | o => o

theorem setc_eq (w : World) (a : Addr) (v : Value) : (w.setCell a v).heap = setc w.heap a v := rfl

structure KeepsF (H H' : Hp) : Prop where
 size : H.size ≤ H'.size
 fz : True
theorem KeepsF.refl (H : Hp) : KeepsF H H := ⟨Nat.le_refl _, trivial⟩
theorem KeepsF.trans {H H' H'' : Hp} (h : KeepsF H H') (k : KeepsF H' H'') : KeepsF H H'' :=
 ⟨Nat.le_trans h.size k.size, trivial⟩

structure Ok (w0 w : World) : Prop where
 tape : w.tape = w0.tape
 os : w.os = w0.os
 output : w.output = w0.output
 kf : KeepsF w0.heap w.heap

theorem Ok.refl (w : World) : Ok w w := ⟨rfl, rfl, rfl, KeepsF.refl _⟩
theorem Ok.of_eq {w0 w w' : World} (h : Ok w0 w) (ht : w'.tape = w.tape) (ho : w'.os = w.os) (hp : w'.output = w.output) (hf : KeepsF w.heap w'.heap) : Ok w0 w' :=
 ⟨ht.trans h.tape, ho.trans h.os, hp.trans h.output, h.kf.trans hf⟩
theorem keepsF_setc (H : Hp) (a : Addr) (v : Value) : KeepsF H (setc H a v) := ⟨by simp [setc], trivial⟩
theorem keepsF_push (H : Hp) (c : Array Value) (t : TypeId) : KeepsF H (H.push (.cells c t)) := ⟨by simp, trivial⟩

abbrev Env := Nat → Value
def Env.set (ρ : Env) (d : Nat) (v : Value) : Env := fun t => if t = d then v else ρ t
def Env.put (ρ : Env) (d : Option Nat) (v : Value) : Env := match d with | some d => ρ.set d v | none => ρ
def Env.ev (ρ : Env) : Operand → Value
 | .tmp t => ρ t
 | .const v => v
 | .global g => .pointer (some ⟨g, 0, none⟩)
 | .func f => .func (.func f) #[] #[]

structure Sim (n : Nat) (a : Act) (ρ : Env) : Prop where
 defers : a.defers = []
 size : a.tmps.size = n
 val : ∀ t, a.tmps.getD t undef = ρ t

theorem Sim.eval {n : Nat} {a : Act} {ρ : Env} (h : Sim n a ρ) : a.eval = ρ.ev := by
 funext x
 cases x with
 | tmp t => exact h.val t
 | _ => rfl

def dstOk (n : Nat) : Option Nat → Bool
 | some d => Nat.blt d n
 | none => true

theorem Sim.put {n : Nat} {a : Act} {ρ : Env} (h : Sim n a ρ) {d : Option Nat} (hd : dstOk n d = true) (v : Value) : Sim n (a.put d v) (ρ.put d v) := by
 cases d with
 | none => exact h
 | some d =>
  have hlt : d < n := by simpa [dstOk, Nat.blt_eq] using hd
  refine ⟨h.defers, by simpa [Act.put] using h.size, fun t => ?_⟩
  have hv := h.val t
  have hs := h.size
  simp only [Act.put, Env.put, Env.set, Array.getD_eq_getD_getElem?] at *
  by_cases ht : t = d
  ·subst ht
   simp [hs, hlt]
  ·rw [if_neg ht, ← hv, Array.getElem?_setIfInBounds_ne (Ne.symm ht)]

theorem Sim.get {n : Nat} {a : Act} {ρ : Env} (h : Sim n a ρ) {d : Nat} (hd : Nat.blt d n = true) : a.tmps[d]? = some (ρ d) := by
 have hlt : d < a.tmps.size := by rw [h.size]; simpa [Nat.blt_eq] using hd
 have := h.val d
 rw [Array.getD_eq_getD_getElem?, Array.getElem?_eq_getElem hlt] at this
 rw [Array.getElem?_eq_getElem hlt]
 simpa using this

def Env.Is (ρ : Env) : List (Nat × Value) → Prop
 | [] => True
 | (d, v) :: l => ρ d = v ∧ Env.Is ρ l
def Env.ofl : List (Nat × Value) → Env → Env
 | [], ρ => ρ
 | (d, v) :: l, ρ => (Env.ofl l ρ).set d v
theorem Env.Is.eq {ρ : Env} : ∀ {l : List (Nat × Value)}, ρ.Is l → ρ = Env.ofl l ρ
 | [], _ => rfl
 | (d, v) :: l, h => by
  funext t
  show ρ t = if t = d then v else Env.ofl l ρ t
  rw [← Env.Is.eq h.2]
  split
  ·rename_i e; rw [e]; exact h.1
  ·rfl

abbrev Post := Exit → Env → Hp → Prop
def Post.thn (K : Env → Hp → Prop) (Q : Post) : Post
 | .normal, ρ, H => K ρ H
 | e, ρ, H => Q e ρ H
def Post.blk (id : Nat) (Q : Post) : Post
 | .exit id', ρ, H => if id' = id then Q .normal ρ H else Q (.exit id') ρ H
 | e, ρ, H => Q e ρ H

def lift (w0 : World) (n : Nat) (Q : Post) : Exit → Act → World → Prop := fun e a w => Ok w0 w ∧ ∃ ρ, Sim n a ρ ∧ Q e ρ w.heap

def HW (P : Program) (w0 : World) (n : Nat) (c : Code) (Q : Post) (ρ : Env) (H : Hp) : Prop :=
 ∀ a w, Sim n a ρ → Ok w0 w → w.heap = H → c.wp P (lift w0 n Q) a w

section
variable {P : Program} {w0 : World} {n : Nat} {Q Q' : Post} {ρ : Env} {H : Hp}

theorem HW.mono {c : Code} (h : HW P w0 n c Q ρ H) (hq : ∀ e ρ H, Q e ρ H → Q' e ρ H) : HW P w0 n c Q' ρ H :=
 fun a w hs ho hh => wp_mono (h a w hs ho hh) fun _ _ _ ⟨h1, ρ', h2, h3⟩ => ⟨h1, ρ', h2, hq _ _ _ h3⟩

theorem HW.skip (h : Q .normal ρ H) : HW P w0 n .skip Q ρ H :=
 fun _ _ hs ho hh => wp_skip ⟨ho, ρ, hs, by rw [hh]; exact h⟩
theorem HW.exit {id : Nat} (h : Q (.exit id) ρ H) : HW P w0 n (.exit id) Q ρ H :=
 fun _ _ hs ho hh => wp_exit ⟨ho, ρ, hs, by rw [hh]; exact h⟩
theorem HW.ret (h : Q .ret ρ H) : HW P w0 n .ret Q ρ H :=
 fun _ _ hs ho hh => wp_ret ⟨ho, ρ, hs, by rw [hh]; exact h⟩

theorem HW.seq {x y : Code} (h : HW P w0 n x (Post.thn (HW P w0 n y Q) Q) ρ H) : HW P w0 n (.seq x y) Q ρ H := by
 intro a w hs ho hh
 refine wp_seq (wp_mono (h a w hs ho hh) ?_)
 rintro e a' w' ⟨h1, ρ', h2, h3⟩
 cases e <;> simp only [Post.thn, Exit.then] at * <;> first | exact h3 _ _ h2 h1 rfl | exact ⟨h1, ρ', h2, h3⟩

theorem HW.cut {x y : Code} (I : Env → Hp → Prop) (hx : HW P w0 n x (Post.thn I Q) ρ H) (hy : ∀ ρ H, I ρ H → HW P w0 n y Q ρ H) : HW P w0 n (.seq x y) Q ρ H :=
 HW.seq (hx.mono fun e ρ H h => by cases e <;> simp only [Post.thn] at * <;> first | exact hy _ _ h | exact h)

theorem HW.cond {c : Operand} {x y : Code} (b : Bool) (hc : ρ.ev c = .bool b) (ht : b = true → HW P w0 n x Q ρ H) (hf : b = false → HW P w0 n y Q ρ H) : HW P w0 n (.cond c x y) Q ρ H := by
 intro a w hs ho hh
 refine wp_cond_split (t := b) (by rw [hs.eval]; exact hc) (fun h => ht h a w hs ho hh) (fun h => hf h a w hs ho hh)

theorem HW.block {id : Nat} {c : Code} (h : HW P w0 n c (Post.blk id Q) ρ H) : HW P w0 n (.block id c) Q ρ H := by
 intro a w hs ho hh
 refine wp_block (wp_mono (h a w hs ho hh) ?_)
 rintro e a' w' ⟨h1, ρ', h2, h3⟩
 cases e with
 | exit i =>
  by_cases hi : i = id
  ·simp only [Post.blk, Exit.inBlock, hi, if_true] at *; exact ⟨h1, ρ', h2, h3⟩
  ·simp only [Post.blk, Exit.inBlock, hi, if_false] at *; exact ⟨h1, ρ', h2, h3⟩
 | _ => exact ⟨h1, ρ', h2, h3⟩

end

def InLoop (P : Program) (c : Code) (Q : Exit → Act → World → Prop) (a : Act) (w : World) : Prop :=
 ∀ (b : Frame) (k : List Item) (cs : List Frame), ∃ e a' w', Q e a' w' ∧ Arrives P (lone (b.at a (.inLoop c :: k)) cs w) b k cs e a' w'

theorem wp_round {P : Program} {c : Code} {Q : Exit → Act → World → Prop} {a : Act} {w : World}
  (h : c.wp P (Exit.then (InLoop P c Q) Q) a w) : ∀ (b : Frame) (k : List Item) (cs : List Frame),
   ∃ e a' w', Q e a' w' ∧ Arrives P (lone (b.at a (.code c :: .inLoop c :: k)) cs w) b k cs e a' w' := by
 intro b k cs
 obtain ⟨e, a₁, w₁, hq, harr⟩ := h b (.inLoop c :: k) cs
 cases e with
 | normal =>
  obtain ⟨e₂, a₂, w₂, hq₂, harr₂⟩ := hq b k cs
  exact ⟨e₂, a₂, w₂, hq₂, .of_steps harr harr₂⟩
 | exit id => exact ⟨_, a₁, w₁, hq, .pass (x := .inLoop c) rfl (fun _ _ => .inl (by simp)) harr⟩
 | goto l => exact ⟨_, a₁, w₁, hq, .pass (x := .inLoop c) rfl (fun _ _ => .inl (by simp)) harr⟩
 | ret => exact ⟨_, a₁, w₁, hq, .pass (x := .inLoop c) rfl (fun _ _ => .inl (by simp)) harr⟩
 | panic ch => exact ⟨_, a₁, w₁, hq, .pass (x := .inLoop c) rfl (fun _ _ => .inl (by simp)) harr⟩
 | outgrown => exact ⟨_, a₁, w₁, hq, .pass (x := .inLoop c) rfl (fun _ _ => .inl (by simp)) harr⟩

theorem InLoop.round {P : Program} {c : Code} {Q : Exit → Act → World → Prop} {a : Act} {w : World}
  (h : c.wp P (Exit.then (InLoop P c Q) Q) a w) : InLoop P c Q a w := fun b k cs =>
 let ⟨e, a', w', hq, harr⟩ := wp_round h b k cs
 ⟨e, a', w', hq, .of_steps (.one step_inLoop) harr⟩
theorem wp_loop_enter {P : Program} {c : Code} {Q : Exit → Act → World → Prop} {a : Act} {w : World}
  (h : c.wp P (Exit.then (InLoop P c Q) Q) a w) : (Code.loop c).wp P Q a w := fun b k cs =>
 let ⟨e, a', w', hq, harr⟩ := wp_round h b k cs
 ⟨e, a', w', hq, .of_steps (.one step_loop) harr⟩

def HLp (P : Program) (w0 : World) (n : Nat) (c : Code) (Q : Post) (ρ : Env) (H : Hp) : Prop :=
 ∀ a w, Sim n a ρ → Ok w0 w → w.heap = H → InLoop P c (lift w0 n Q) a w ∧ (Code.loop c).wp P (lift w0 n Q) a w

theorem HW.loop {P : Program} {w0 : World} {n : Nat} {c : Code} {Q : Post} {ρ : Env} {H : Hp} (h : HLp P w0 n c Q ρ H) : HW P w0 n (.loop c) Q ρ H :=
 fun a w hs ho hh => (h a w hs ho hh).2

theorem HLp.round {P : Program} {w0 : World} {n : Nat} {c : Code} {Q : Post} {ρ : Env} {H : Hp} (h : HW P w0 n c (Post.thn (HLp P w0 n c Q) Q) ρ H) : HLp P w0 n c Q ρ H := by
 intro a w hs ho hh
 have : c.wp P (Exit.then (InLoop P c (lift w0 n Q)) (lift w0 n Q)) a w := by
  refine wp_mono (h a w hs ho hh) ?_
  rintro e a' w' ⟨h1, ρ', h2, h3⟩
  cases e <;> simp only [Post.thn, Exit.then] at * <;> first | exact (h3 _ _ h2 h1 rfl).1 | exact ⟨h1, ρ', h2, h3⟩
 exact ⟨InLoop.round this, wp_loop_enter this⟩


def HList (P : Program) (w0 : World) (n : Nat) (ops : Array Oper) (Q : Post) (l : List Oper) (ρ : Env) (H : Hp) : Prop :=
 ∀ a w, Sim n a ρ → Ok w0 w → w.heap = H → wpList P ops (lift w0 n Q) l a w

def HOp (P : Program) (w0 : World) (n : Nat) (o : Oper) (ρ : Env) (H : Hp) (K : Value → Hp → Prop) : Prop :=
 ∀ a w, Sim n a ρ → Ok w0 w → w.heap = H → ∀ (K' : Act → World → Prop) (Q' : Exit → Act → World → Prop),
  (∀ v w', Ok w0 w' → K v w'.heap → K' (a.put o.dst v) w') → o.wp P a w K' Q'

def HVal (P : Program) (o : Oper) (ρ : Env) (H : Hp) (v : Value) : Prop :=
 ∀ w, w.heap = H → (execOp ρ.ev o).run P w = .ok (.value v) w

section
variable {P : Program} {w0 : World} {n : Nat} {ops : Array Oper} {Q : Post} {o : Oper} {rest : List Oper} {ρ : Env} {H : Hp}

theorem HW.region {id : Nat} (h : HList P w0 n ops Q ops.toList ρ H) : HW P w0 n (.region id ops false) Q ρ H :=
 fun a w hs ho hh => wp_region_list (h a w hs ho hh)

theorem HList.nil (h : Q .normal ρ H) : HList P w0 n ops Q [] ρ H :=
 fun _ _ hs ho hh => wpList_nil ⟨ho, ρ, hs, by rw [hh]; exact h⟩

theorem HVal.op {v : Value} (h : HVal P o ρ H v) : HOp P w0 n o ρ H fun v' H' => v' = v ∧ H' = H := by
 intro a w hs ho hh K' Q' hk
 unfold Oper.wp
 rw [hs.eval, h w hh]
 exact hk v w ho ⟨rfl, hh⟩

theorem HList.op {K : Value → Hp → Prop} (hd : dstOk n o.dst = true) (hg : o.guard = none) (h : HOp P w0 n o ρ H K)
  (k : ∀ v H', K v H' → HList P w0 n ops Q rest (ρ.put o.dst v) H') : HList P w0 n ops Q (o :: rest) ρ H := by
 intro a w hs ho hh
 refine wpList_plain hg fun K' hK => ?_
 exact h a w hs ho hh K' _ fun v w' ho' hv => hK _ _ (k v w'.heap hv _ _ (hs.put hd v) ho' rfl)

theorem HList.val {v : Value} (hd : dstOk n o.dst = true) (hg : o.guard = none) (h : HVal P o ρ H v)
  (k : HList P w0 n ops Q rest (ρ.put o.dst v) H) : HList P w0 n ops Q (o :: rest) ρ H :=
 HList.op hd hg h.op (by rintro v H' ⟨rfl, rfl⟩; exact k)

theorem wanted_of {a : Act} {j d : Nat} {want b : Bool} (hs : Sim n a ρ) (hg : o.guard = some (j, want)) (hj : (ops[j]?).bind (·.dst) = some d) (hd : Nat.blt d n = true) (hb : ρ d = .bool b) :
  Region.wanted o (yielded ops a.tmps) = (b == want) := by
 unfold Region.wanted
 rw [hg]
 simp only [yielded, hj, Option.bind_some, hs.get hd, hb]
 cases b <;> cases want <;> rfl

theorem HList.gop {K : Value → Hp → Prop} {j d : Nat} {want : Bool} (hd : dstOk n o.dst = true) (hg : o.guard = some (j, want)) (hj : (ops[j]?).bind (·.dst) = some d) (hdn : Nat.blt d n = true) (hb : ρ d = .bool want)
  (h : HOp P w0 n o ρ H K) (k : ∀ v H', K v H' → HList P w0 n ops Q rest (ρ.put o.dst v) H') : HList P w0 n ops Q (o :: rest) ρ H := by
 intro a w hs ho hh
 refine wpList_step fun K' hK => ?_
 rw [if_pos (by rw [wanted_of hs hg hj hdn hb]; simp)]
 exact h a w hs ho hh K' _ fun v w' ho' hv => hK _ _ (k v w'.heap hv _ _ (hs.put hd v) ho' rfl)

theorem HList.gval {v : Value} {j d : Nat} {want : Bool} (hd : dstOk n o.dst = true) (hg : o.guard = some (j, want)) (hj : (ops[j]?).bind (·.dst) = some d) (hdn : Nat.blt d n = true) (hb : ρ d = .bool want)
  (h : HVal P o ρ H v) (k : HList P w0 n ops Q rest (ρ.put o.dst v) H) : HList P w0 n ops Q (o :: rest) ρ H :=
 HList.gop hd hg hj hdn hb h.op (by rintro v H' ⟨rfl, rfl⟩; exact k)

theorem HList.gskip {j d : Nat} {want : Bool} (hd : dstOk n o.dst = true) (hg : o.guard = some (j, want)) (hj : (ops[j]?).bind (·.dst) = some d) (hdn : Nat.blt d n = true) (hb : ρ d = .bool (!want))
  (k : HList P w0 n ops Q rest (ρ.put o.dst undef) H) : HList P w0 n ops Q (o :: rest) ρ H := by
 intro a w hs ho hh
 refine wpList_step fun K' hK => ?_
 rw [if_neg (by rw [wanted_of hs hg hj hdn hb]; cases want <;> simp)]
 exact hK _ _ (k _ _ (hs.put hd undef) ho hh)

theorem wanted_undef {a : Act} {j d : Nat} {want : Bool} (hs : Sim n a ρ) (hg : o.guard = some (j, want)) (hj : (ops[j]?).bind (·.dst) = some d) (hd : Nat.blt d n = true) (hb : ρ d = undef) :
  Region.wanted o (yielded ops a.tmps) = false := by
 unfold Region.wanted
 rw [hg]
 simp only [yielded, hj, Option.bind_some, hs.get hd, hb]
 cases want <;> rfl

theorem HList.uskip {j d : Nat} {want : Bool} (hd : dstOk n o.dst = true) (hg : o.guard = some (j, want)) (hj : (ops[j]?).bind (·.dst) = some d) (hdn : Nat.blt d n = true) (hb : ρ d = undef)
  (k : HList P w0 n ops Q rest (ρ.put o.dst undef) H) : HList P w0 n ops Q (o :: rest) ρ H := by
 intro a w hs ho hh
 refine wpList_step fun K' hK => ?_
 rw [if_neg (by rw [wanted_undef hs hg hj hdn hb]; simp)]
 exact hK _ _ (k _ _ (hs.put hd undef) ho hh)

end

def Good (P : Program) (w0 : World) (f : FuncId) (args : Array Value) (H : Hp) (R : Value → Hp → Prop) : Prop :=
 ∀ w, Ok w0 w → w.heap = H → Calls P f args w fun e w' => ∃ v, e = .returned v ∧ Ok w0 w' ∧ R v w'.heap

theorem Good.mono {P : Program} {w0 : World} {f : FuncId} {args : Array Value} {H : Hp} {R R' : Value → Hp → Prop} (h : Good P w0 f args H R) (hr : ∀ v H, R v H → R' v H) : Good P w0 f args H R' :=
 fun w ho hh => (h w ho hh).mono fun _ _ ⟨v, h1, h2, h3⟩ => ⟨v, h1, h2, hr _ _ h3⟩

def Env.start (args : List Value) : Env := fun t => args.getD t undef

theorem Sim.start (args : Array Value) (n : Nat) (h : args.size ≤ n) : Sim n { tmps := args ++ Array.replicate (n - args.size) undef, defers := [] } (Env.start args.toList) := by
 refine ⟨rfl, by simp; omega, fun t => ?_⟩
 simp only [Env.start, Array.getD_eq_getD_getElem?, List.getD_eq_getElem?_getD, Array.getElem?_toList]
 by_cases ht : t < args.size
 ·rw [Array.getElem?_append_left ht]
 ·rw [Array.getElem?_append_right (by omega), Array.getElem?_eq_none (xs := args) (by omega)]
  by_cases h2 : t - args.size < n - args.size
  ·rw [Array.getElem?_eq_getElem (by simpa using h2)]; simp
  ·rw [Array.getElem?_eq_none (by simpa using h2)]

def RetPost (R : Env → Hp → Prop) : Post
 | .normal, ρ, H => R ρ H
 | .ret, ρ, H => R ρ H
 | _, _, _ => False

theorem Good.enter {P : Program} {w0 : World} {f : FuncId} {fn : Func} {c : Code} {args : Array Value} {H : Hp} {R : Value → Hp → Prop} {n : Nat} (res : Env → Value)
  (hf : P.funcs[f]? = some fn) (hb : fn.body = some c) (hn : fn.ntmps = n) (hs : args.size ≤ n)
  (hr : ∀ a w ρ, Sim n a ρ → (results fn a.tmps).run P w = .ok (res ρ) w)
  (h : HW P w0 n c (RetPost fun ρ H => R (res ρ) H) (Env.start args.toList) H) : Good P w0 f args H R := by
 intro w ho hh
 refine calls_of_wp hf hb ?_
 rw [hn]
 refine wp_mono (h _ w (Sim.start args n hs) ho hh) ?_
 rintro e a' w' ⟨h1, ρ', h2, h3⟩
 cases e <;> simp only [RetPost] at h3 <;> first | exact ⟨h2.defers, _, hr _ _ _ h2, _, rfl, h1, h3⟩ | exact h3.elim

theorem HOp.call {P : Program} {w0 : World} {n : Nat} {ρ : Env} {H : Hp} {d : Option Nat} {f : Operand} {args : Array Operand} {at_ : Array TypeId} {ty : TypeId} {pos : String} {af : Array Edge} {g : Option (Nat × Bool)} {R : Value → Hp → Prop}
  (m : FuncId) (vs : Array Value) (hf : ρ.ev f = .func (.func m) #[] #[]) (hv : args.map ρ.ev = vs)
  (hc : ∀ args w, (callFunc m args).run P w = .ok (.enter m args) w)
  (h : Good P w0 m vs H R) : HOp P w0 n ⟨d, .call ⟨.value f, args, at_⟩, ty, pos, af, g⟩ ρ H R := by
 intro a w hs ho hh K' Q' hk
 unfold Oper.wp execOp
 simp only [resolve, hs.eval, hf, hv, Deferred.ofValue, Sem.run_bind, Sem.run_pure, Result.andThen_ok, invoke, Array.append_empty, Array.empty_append, hc, Oper.upon_enter]
 refine (h w ho hh).mono ?_
 rintro e w' ⟨v, rfl, ho', hr⟩
 exact hk v w' ho' hr


abbrev Ru (P : Program) {α : Type} (s : Sem α) (a : α) : Prop := ∀ w, s.run P w = .ok a w

section
variable {P : Program} {w0 : World} {n : Nat} {ρ : Env} {H : Hp} {d : Option Nat} {ty : TypeId} {pos : String} {af : Array Edge} {g : Option (Nat × Bool)}

theorem HVal.move {x : Operand} : HVal P ⟨d, .move x, ty, pos, af, g⟩ ρ H (ρ.ev x) := fun w _ => by simp [execOp]
theorem HVal.assign {x : Operand} : HVal P ⟨d, .assign x, ty, pos, af, g⟩ ρ H (ρ.ev x) := fun w _ => by simp [execOp]
theorem HVal.pick {c x y : Operand} (b : Bool) (h : ρ.ev c = .bool b) : HVal P ⟨d, .pick c x y, ty, pos, af, g⟩ ρ H (if b then ρ.ev x else ρ.ev y) := fun w _ => by
 simp [execOp, h, asBool]

theorem HVal.nilCheck {x : Operand} {a : Addr} (h : ρ.ev x = .pointer (some a)) : HVal P ⟨d, .nilCheck x, ty, pos, af, g⟩ ρ H (.pointer (some a)) := fun w _ => by
 simp [execOp, h]
theorem HVal.fieldAddr {s : TypeId} {x : Operand} {f : Nat} {a : Addr} (fs : Array Field) (fl : Field) (k : Nat) (hu : Ru P (underlying s) (.struct fs)) (hf : fs[f]? = some fl)
  (hz : Ru P (sizeOf fl.type) (k + 1)) (h : ρ.ev x = .pointer (some a)) : HVal P ⟨d, .fieldAddr s x f, ty, pos, af, g⟩ ρ H (.pointer (some (a.add fl.offset))) := fun w _ => by
 simp [execOp, Instr.fieldAt, Instr.sureAddr, fieldPlace, hu w, hf, hz w, h]

theorem HVal.indexAddr {t : TypeId} {x i : Operand} {k : IntKind} {e : TypeId} {sz : Nat} {a : Addr} {m c : Nat} {j : Int} (hu : Ru P (underlying t) (.slice e)) (hz : Ru P (sizeOf e) sz)
  (hx : ρ.ev x = .slice (some a) m c) (hi : ρ.ev i = .int k j) (h0 : 0 ≤ j) (h1 : j < m) :
  HVal P ⟨d, .indexAddr t x i, ty, pos, af, g⟩ ρ H (.pointer (some (a.add (j.toNat * sz)))) := fun w _ => by
 simp [execOp, Instr.indexAt, asIntOf, hu w, hx, hi, hz w, h0, h1]

theorem HVal.indexAddrA {t : TypeId} {x i : Operand} {k : IntKind} {e : TypeId} {sz len : Nat} {a : Addr} {j : Int} (hu : Ru P (underlying t) (.array len e)) (hz : Ru P (sizeOf e) sz)
  (hx : ρ.ev x = .pointer (some a)) (hi : ρ.ev i = .int k j) (h0 : 0 ≤ j) (h1 : j < len) :
  HVal P ⟨d, .indexAddr t x i, ty, pos, af, g⟩ ρ H (.pointer (some (a.add (j.toNat * sz)))) := fun w _ => by
 simp [execOp, Instr.indexAt, Instr.sureAddr, asIntOf, hu w, hx, hi, hz w, h0, h1]

theorem HVal.load1 {t : TypeId} {x : Operand} {a : Addr} {v : Value} (hagg : Ru P (isAgg t) false) (hx : ρ.ev x = .pointer (some a)) (hc : cell H a = some v) :
  HVal P ⟨d, .load t x, ty, pos, af, g⟩ ρ H v := fun w hw => by
 subst hw
 have hc' : w.cell? a = some v := hc
 simp [execOp, Instr.loadAt, Instr.sureAddr, loadVar, hagg w, hx, hc']

def cells (H : Hp) (a : Addr) : List Value → Nat → Prop
 | [], _ => True
 | v :: l, i => cell H (a.add i) = some v ∧ cells H a l (i + 1)

theorem cells_iff {H : Hp} {a : Addr} : ∀ {l : List Value} {i : Nat}, cells H a l i ↔ ∀ j v, l[j]? = some v → cell H (a.add (i + j)) = some v := by
 intro l
 induction l with
 | nil => intro i; simp [cells]
 | cons v l ih =>
  intro i
  simp only [cells, ih]
  constructor
  ·rintro ⟨h1, h2⟩ j u hj
   cases j with
   | zero => simp at hj; subst hj; exact h1
   | succ j => have := h2 j u (by simpa using hj); rwa [show i + 1 + j = i + (j + 1) from by omega] at this
  ·intro h
   refine ⟨h 0 v (by simp), fun j u hj => ?_⟩
   have := h (j + 1) u (by simpa using hj)
   rwa [show i + (j + 1) = i + 1 + j from by omega] at this

theorem HVal.loadN {t : TypeId} {x : Operand} {a : Addr} (l : List Value) (hagg : Ru P (isAgg t) true) (hz : Ru P (sizeOf t) l.length) (hx : ρ.ev x = .pointer (some a)) (hc : cells H a l 0) :
  HVal P ⟨d, .load t x, ty, pos, af, g⟩ ρ H (.agg l.toArray) := fun w hw => by
 subst hw
 have hr := run_loadCells_list (P := P) w a l (fun j v hj => by have := cells_iff.1 hc j v hj; rwa [Nat.zero_add] at this)
 simp [execOp, Instr.loadAt, Instr.sureAddr, loadVar, hagg w, hx, hz w, hr]

theorem eqGuard_int {op : BinOp} {t : TypeId} {x y : Operand} {k k' : IntKind} {a b : Int} : Ru P (eqGuard op t x y (.int k a) (.int k' b)) () := fun w => by
 cases op <;> simp [eqGuard]

theorem HVal.add {t u : TypeId} {x y : Operand} {k : IntKind} {a b : Int} (hx : ρ.ev x = .int k a) (hy : ρ.ev y = .int k b) : HVal P ⟨d, .binOp .add t x y u, ty, pos, af, g⟩ ρ H (.int k (k.wrap (a + b))) := fun w _ => by
 simp [execOp, hx, hy, eqGuard_int w, Go.binOp, Op.intArith]
theorem HVal.sub {t u : TypeId} {x y : Operand} {k : IntKind} {a b : Int} (hx : ρ.ev x = .int k a) (hy : ρ.ev y = .int k b) : HVal P ⟨d, .binOp .sub t x y u, ty, pos, af, g⟩ ρ H (.int k (k.wrap (a - b))) := fun w _ => by
 simp [execOp, hx, hy, eqGuard_int w, Go.binOp, Op.intArith]
theorem HVal.mul {t u : TypeId} {x y : Operand} {k : IntKind} {a b : Int} (hx : ρ.ev x = .int k a) (hy : ρ.ev y = .int k b) : HVal P ⟨d, .binOp .mul t x y u, ty, pos, af, g⟩ ρ H (.int k (k.wrap (a * b))) := fun w _ => by
 simp [execOp, hx, hy, eqGuard_int w, Go.binOp, Op.intArith]
theorem HVal.lss {t u : TypeId} {x y : Operand} {k : IntKind} {a b : Int} (hx : ρ.ev x = .int k a) (hy : ρ.ev y = .int k b) : HVal P ⟨d, .binOp .lss t x y u, ty, pos, af, g⟩ ρ H (.bool (decide (a < b))) := fun w _ => by
 simp [execOp, hx, hy, eqGuard_int w, Go.binOp, Op.intCmp]
theorem HVal.leq {t u : TypeId} {x y : Operand} {k : IntKind} {a b : Int} (hx : ρ.ev x = .int k a) (hy : ρ.ev y = .int k b) : HVal P ⟨d, .binOp .leq t x y u, ty, pos, af, g⟩ ρ H (.bool (decide (a ≤ b))) := fun w _ => by
 simp [execOp, hx, hy, eqGuard_int w, Go.binOp, Op.intCmp]
theorem HVal.gtr {t u : TypeId} {x y : Operand} {k : IntKind} {a b : Int} (hx : ρ.ev x = .int k a) (hy : ρ.ev y = .int k b) : HVal P ⟨d, .binOp .gtr t x y u, ty, pos, af, g⟩ ρ H (.bool (decide (b < a))) := fun w _ => by
 simp [execOp, hx, hy, eqGuard_int w, Go.binOp, Op.intCmp]
theorem HVal.geq {t u : TypeId} {x y : Operand} {k : IntKind} {a b : Int} (hx : ρ.ev x = .int k a) (hy : ρ.ev y = .int k b) : HVal P ⟨d, .binOp .geq t x y u, ty, pos, af, g⟩ ρ H (.bool (decide (b ≤ a))) := fun w _ => by
 simp [execOp, hx, hy, eqGuard_int w, Go.binOp, Op.intCmp]
theorem HVal.eqlI {t u : TypeId} {x y : Operand} {k : IntKind} {a b : Int} (hx : ρ.ev x = .int k a) (hy : ρ.ev y = .int k b) : HVal P ⟨d, .binOp .eql t x y u, ty, pos, af, g⟩ ρ H (.bool (decide (a = b))) := fun w _ => by
 simp [execOp, hx, hy, eqGuard_int w, Go.binOp, Op.intCmp]
 rfl
theorem HVal.neqI {t u : TypeId} {x y : Operand} {k : IntKind} {a b : Int} (hx : ρ.ev x = .int k a) (hy : ρ.ev y = .int k b) : HVal P ⟨d, .binOp .neq t x y u, ty, pos, af, g⟩ ρ H (.bool (decide (a ≠ b))) := fun w _ => by
 simp [execOp, hx, hy, eqGuard_int w, Go.binOp, Op.intCmp]
 rw [Bool.eq_iff_iff]; simp
theorem HVal.not {t : TypeId} {x : Operand} {b : Bool} (hx : ρ.ev x = .bool b) : HVal P ⟨d, .unOp .not t x, ty, pos, af, g⟩ ρ H (.bool (!b)) := fun w _ => by
 simp [execOp, hx, Op.unary]
theorem HVal.neg {t : TypeId} {x : Operand} {k : IntKind} {a : Int} (hx : ρ.ev x = .int k a) : HVal P ⟨d, .unOp .neg t x, ty, pos, af, g⟩ ρ H (.int k (k.wrap (0 - a))) := fun w _ => by
 simp [execOp, hx, Op.unary, Op.intArith]
theorem HVal.eqlB {t u : TypeId} {x y : Operand} {a b : Bool} (ht : P.underlying t = some .bool) (hx : ρ.ev x = .bool a) (hy : ρ.ev y = .bool b) : HVal P ⟨d, .binOp .eql t x y u, ty, pos, af, g⟩ ρ H (.bool (a == b)) := fun w _ => by
 simp [execOp, hx, hy, eqGuard, run_eql_bool w t a b ht]
def seq (a b : ByteArray) : Bool := a.toList == b.toList
def slt (a b : ByteArray) : Bool := Op.bytesLess a.toList b.toList
theorem HVal.eqlS {t u : TypeId} {x y : Operand} {a b : ByteArray} (hx : ρ.ev x = .string a) (hy : ρ.ev y = .string b) : HVal P ⟨d, .binOp .eql t x y u, ty, pos, af, g⟩ ρ H (.bool (seq a b)) := fun w _ => by
 simp [execOp, hx, hy, eqGuard, Go.binOp, Op.stringOp, seq]
theorem HVal.neqS {t u : TypeId} {x y : Operand} {a b : ByteArray} (hx : ρ.ev x = .string a) (hy : ρ.ev y = .string b) : HVal P ⟨d, .binOp .neq t x y u, ty, pos, af, g⟩ ρ H (.bool (!seq a b)) := fun w _ => by
 simp [execOp, hx, hy, eqGuard, Go.binOp, Op.stringOp, seq]
theorem HVal.lssS {t u : TypeId} {x y : Operand} {a b : ByteArray} (hx : ρ.ev x = .string a) (hy : ρ.ev y = .string b) : HVal P ⟨d, .binOp .lss t x y u, ty, pos, af, g⟩ ρ H (.bool (slt a b)) := fun w _ => by
 simp [execOp, hx, hy, eqGuard, Go.binOp, Op.stringOp, slt]
theorem HVal.extract {x : Operand} {i : Nat} {vs : Array Value} {v : Value} (hx : ρ.ev x = .tuple vs) (hi : vs[i]? = some v) : HVal P ⟨d, .extract x i, ty, pos, af, g⟩ ρ H v := fun w _ => by
 simp [execOp, hx, Instr.extract, hi]
theorem HVal.len {x : Operand} {t e : TypeId} {a : Option Addr} {m c : Nat} (hu : Ru P (underlying t) (.slice e)) (hx : ρ.ev x = .slice a m c) : HVal P ⟨d, .call ⟨.builtin .len, #[x], #[t]⟩, ty, pos, af, g⟩ ρ H (.int .i64 m) := fun w _ => by
 simp [execOp, resolve, invoke, builtin, Builtin.len_, hu w, hx, goInt]
theorem HVal.lenS {x : Operand} {t : TypeId} {s : ByteArray} (hu : Ru P (underlying t) .string) (hx : ρ.ev x = .string s) : HVal P ⟨d, .call ⟨.builtin .len, #[x], #[t]⟩, ty, pos, af, g⟩ ρ H (.int .i64 s.size) := fun w _ => by
 simp [execOp, resolve, invoke, builtin, Builtin.len_, hu w, hx, goInt]
theorem HVal.cap {x : Operand} {t e : TypeId} {a : Option Addr} {m c : Nat} (hu : Ru P (underlying t) (.slice e)) (hx : ρ.ev x = .slice a m c) : HVal P ⟨d, .call ⟨.builtin .cap, #[x], #[t]⟩, ty, pos, af, g⟩ ρ H (.int .i64 c) := fun w _ => by
 simp [execOp, resolve, invoke, builtin, Builtin.cap_, hu w, hx, goInt]
theorem HVal.max {x y : Operand} {ts : Array TypeId} {k k' : IntKind} {a b : Int} (hx : ρ.ev x = .int k a) (hy : ρ.ev y = .int k' b) : HVal P ⟨d, .call ⟨.builtin .max, #[x, y], ts⟩, ty, pos, af, g⟩ ρ H (.int k (if a < b then b else a)) := fun w _ => by
 simp [execOp, resolve, invoke, builtin, hx, hy, run_max_int2]
theorem HVal.min {x y : Operand} {ts : Array TypeId} {k k' : IntKind} {a b : Int} (hx : ρ.ev x = .int k a) (hy : ρ.ev y = .int k' b) : HVal P ⟨d, .call ⟨.builtin .min, #[x, y], ts⟩, ty, pos, af, g⟩ ρ H (.int k (if b < a then b else a)) := fun w _ => by
 simp [execOp, resolve, invoke, builtin, hx, hy, run_min_int2]

end

def one : Value → Bool
 | .agg _ | .tuple _ => false
 | _ => true

def sets (H : Hp) (a : Addr) : List Value → Nat → Hp
 | [], _ => H
 | v :: l, i => sets (setc H (a.add i) v) a l (i + 1)

def mayw (H : Hp) (a : Addr) : Nat → Nat → Prop
 | 0, _ => True
 | m + 1, i => ((cell H (a.add i)).isSome = true ∧ frz H (a.add i) = false) ∧ mayw H a m (i + 1)

theorem cell_setc_isSome (H : Hp) (a b : Addr) (v : Value) : (cell (setc H a v) b).isSome = (cell H b).isSome := by
 unfold cell setc
 rw [Array.getElem?_modify]
 by_cases h : a.block = b.block
 ·simp only [h, if_true]
  cases H[b.block]? with
  | none => rfl
  | some o =>
   cases o <;> simp
   ·rename_i c e f
    by_cases hs : b.spot.isSome = true
    ·simp [hs]
    ·simp only [hs]
     by_cases h2 : a.spot.isSome = true
     ·simp [h2]
     ·simp only [h2]
      by_cases h3 : b.off < c.size
      ·simp [h3]
      ·simp [h3]
 ·simp only [if_neg h]

theorem frz_setc (H : Hp) (a b : Addr) (v : Value) : frz (setc H a v) b = frz H b := by
 unfold frz setc
 rw [Array.getElem?_modify]
 by_cases h : a.block = b.block
 ·simp only [h, if_true]
  cases H[b.block]? with
  | none => rfl
  | some o => cases o <;> simp
 ·simp only [if_neg h]

theorem keepsF_sets (H : Hp) (a : Addr) (l : List Value) (i : Nat) : KeepsF H (sets H a l i) := by
 induction l generalizing H i with
 | nil => exact KeepsF.refl _
 | cons v l ih => exact (keepsF_setc H (a.add i) v).trans (ih _ _)
theorem mayw_setc {H : Hp} {a b : Addr} {v : Value} : ∀ {m i : Nat}, mayw H b m i → mayw (setc H a v) b m i
 | 0, _, _ => trivial
 | m + 1, i, ⟨⟨h1, h2⟩, h3⟩ => ⟨⟨by rw [cell_setc_isSome]; exact h1, by rw [frz_setc]; exact h2⟩, mayw_setc h3⟩

theorem run_store1 {P : Program} {w : World} {a : Addr} {v : Value} {m : Mode} (hv : one v = true) (hc : (cell w.heap a).isSome = true) (hf : frz w.heap a = false) : (store a v m).run P w = .ok () (w.setCell a v) := by
 obtain ⟨u, hu⟩ := Option.isSome_iff_exists.1 hc
 have hu' : w.cell? a = some u := hu
 have hf' : w.frozen? a = false := hf
 cases v <;> simp [one] at hv <;> simp [store, Sem.run, hu', hf']

theorem run_storeCells {P : Program} {a : Addr} : ∀ (l : List Value) (i : Nat) (w : World), (∀ v ∈ l, one v = true) → mayw w.heap a l.length i →
  ∃ w', (storeCells a l i).run P w = .ok () w' ∧ w'.heap = sets w.heap a l i ∧ w'.tape = w.tape ∧ w'.os = w.os ∧ w'.output = w.output
 | [], i, w, _, _ => ⟨w, by simp [storeCells], rfl, rfl, rfl, rfl⟩
 | v :: l, i, w, h1, ⟨⟨h2, h3⟩, h4⟩ => by
  obtain ⟨w', e1, e2, e3, e4, e5⟩ := run_storeCells (P := P) (a := a) l (i + 1) (w.setCell (a.add i) v) (fun u hu => h1 u (by simp [hu])) (mayw_setc h4)
  refine ⟨w', ?_, e2, e3, e4, e5⟩
  simp [storeCells, run_store1 (P := P) (m := .plain) (h1 v (by simp)) h2 h3, e1]

section
variable {P : Program} {w0 : World} {n : Nat} {ρ : Env} {H : Hp} {d : Option Nat} {ty : TypeId} {pos : String} {af : Array Edge} {g : Option (Nat × Bool)}

theorem add_zero (a : Addr) : a.add 0 = a := rfl

theorem HOp.store1 {t : TypeId} {x y : Operand} {a : Addr} {v : Value} (hz : Ru P (sizeOf t) 1) (hx : ρ.ev x = .pointer (some a)) (hy : ρ.ev y = v) (hv : one v = true)
  (hc : (cell H a).isSome = true) (hf : frz H a = false) : HOp P w0 n ⟨d, .store t x y, ty, pos, af, g⟩ ρ H fun _ H' => H' = setc H a v := by
 intro ac w hs ho hh K' Q' hk
 subst hh
 have hr := run_store1 (P := P) (w := w) (m := .plain) hv hc hf
 have hvc : v.cells = #[v] := by cases v <;> simp [one] at hv <;> rfl
 unfold Oper.wp
 rw [hs.eval]
 simp [execOp, Instr.storeAt, Instr.sureAddr, storeVar, hx, hy, hvc, hz w, storeCells, add_zero, hr]
 rw [Oper.upon_skip]
 exact hk undef (w.setCell a v) (ho.of_eq rfl rfl rfl (keepsF_setc w.heap a v)) rfl

theorem HOp.storeN {t : TypeId} {x y : Operand} {a : Addr} {l : List Value} (hz : Ru P (sizeOf t) l.length) (hx : ρ.ev x = .pointer (some a)) (hy : ρ.ev y = .agg l.toArray) (hv : ∀ v ∈ l, one v = true)
  (hc : mayw H a l.length 0) : HOp P w0 n ⟨d, .store t x y, ty, pos, af, g⟩ ρ H fun _ H' => H' = sets H a l 0 := by
 intro ac w hs ho hh K' Q' hk
 subst hh
 obtain ⟨w', e1, e2, e3, e4, e5⟩ := run_storeCells (P := P) (a := a) l 0 w hv hc
 unfold Oper.wp
 rw [hs.eval]
 simp [execOp, Instr.storeAt, Instr.sureAddr, storeVar, hx, hy, Value.cells, hz w, e1]
 rw [Oper.upon_skip]
 exact hk undef w' (ho.of_eq e3 e4 e5 (by rw [e2]; exact keepsF_sets ..)) e2

theorem HOp.alloc {t : TypeId} {z : Value} (hz : Ru P (zeroValue t) z) : HOp P w0 n ⟨d, .alloc t, ty, pos, af, g⟩ ρ H fun v H' => v = .pointer (some ⟨H.size, 0, none⟩) ∧ H' = H.push (.cells z.cells t) := by
 intro ac w hs ho hh K' Q' hk
 subst hh
 unfold Oper.wp
 rw [hs.eval]
 simp [execOp, Instr.alloc, hz w, newVar, newRow, newObj, Sem.run]
 rw [Oper.upon_value]
 exact hk _ _ (ho.of_eq rfl rfl rfl (keepsF_push ..)) ⟨rfl, rfl⟩

theorem HOp.box {t : TypeId} {x : Operand} {v : Value} (hx : ρ.ev x = v) : HOp P w0 n ⟨d, .box t x, ty, pos, af, g⟩ ρ H fun u H' => u = .pointer (some ⟨H.size, 0, none⟩) ∧ H' = H.push (.cells v.cells t) := by
 intro ac w hs ho hh K' Q' hk
 subst hh
 unfold Oper.wp
 rw [hs.eval]
 simp [execOp, Instr.box, hx, newVar, newRow, newObj, Sem.run]
 rw [Oper.upon_value]
 exact hk _ _ (ho.of_eq rfl rfl rfl (keepsF_push ..)) ⟨rfl, rfl⟩

theorem HVal.build {t : TypeId} {parts : Array (Nat × Operand)} {fs : Array Field} {z : Value} {places : Array (Nat × Nat)} {cs : Array Value} (hu : Ru P (underlying t) (.struct fs)) (hz : Ru P (zeroValue t) z)
  (hp : Ru P (fs.mapM fun f => do pure (f.offset, ← sizeOf f.type)) places) (hf : Instr.fill (places[·]?) z.cells (parts.map fun (i, x) => (i, ρ.ev x)).toList = some cs) :
  HVal P ⟨d, .build t parts, ty, pos, af, g⟩ ρ H (.agg cs) := fun w _ => by
 simp only [execOp, Instr.build, Sem.run_bind, hz w, Result.andThen_ok, hu w, hp w, hf, Sem.run_pure]

theorem HVal.buildA {t e : TypeId} {parts : Array (Nat × Operand)} {len k : Nat} {z : Value} {cs : Array Value} (hu : Ru P (underlying t) (.array len e)) (hz : Ru P (zeroValue t) z)
  (hk : Ru P (sizeOf e) k) (hf : Instr.fill (fun i => some (i * k, k)) z.cells (parts.map fun (i, x) => (i, ρ.ev x)).toList = some cs) :
  HVal P ⟨d, .build t parts, ty, pos, af, g⟩ ρ H (.agg cs) := fun w _ => by
 simp only [execOp, Instr.build, Sem.run_bind, hz w, Result.andThen_ok, hu w, hk w, hf, Sem.run_pure]

theorem HOp.buildSlice {t e : TypeId} {len k : Nat} {parts : Array (Nat × Operand)} {z : Value} {cs : Array Value} (hu : Ru P (underlying t) (.slice e)) (hk : Ru P (sizeOf e) k) (hz : Ru P (zeroValue e) z) (hlt : len * k ≤ 16777216)
  (hf : Instr.fill (fun i => some (i * k, k)) ((Array.range (len * k)).map (z.cells[· % z.cells.size]!)) (parts.map fun (i, x) => (i, ρ.ev x)).toList = some cs) (h0 : len * k ≠ 0) :
  HOp P w0 n ⟨d, .buildSlice t len parts, ty, pos, af, g⟩ ρ H fun v H' => v = .slice (some ⟨H.size, 0, none⟩) len len ∧ H' = H.push (.cells cs e) := by
 intro ac w hs ho hh K' Q' hk'
 subst hh
 unfold Oper.wp
 rw [hs.eval]
 have hn : ¬ (len * k > 2 ^ 24) := by omega
 simp only [execOp, Instr.buildSlice, Sem.run_bind, hu w, Result.andThen_ok, hk w, Sem.run_ite, if_neg hn, if_neg h0, hz w, Sem.run_pure, hf, newRow, newObj, Sem.run]
 rw [Oper.upon_value]
 exact hk' _ _ (ho.of_eq rfl rfl rfl (keepsF_push ..)) ⟨rfl, rfl⟩

end
end Go.Hw
