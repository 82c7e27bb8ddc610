/- A program logic over heaps and frames as functions, derived from the kit's 'Code.wp': control and regions. Own work of this session. -/
import Derived.WalkKit
import Derived.OrdersHeld
namespace Go.Hw
open Go

/-! ## heaps -/
abbrev Hp := Array Obj

def cell (H : Hp) (a : Addr) : Option Value :=
  match H[a.block]? with
  | some (.cells c _ _) => if a.spot.isSome then none else c[a.off]?
  | _ => none

def frz (H : Hp) (a : Addr) : Bool :=
  match H[a.block]? with
  | some (.cells _ _ (lo, hi)) => lo ≤ a.off && a.off < hi
  | _ => false

def setc (H : Hp) (a : Addr) (v : Value) : Hp :=
  H.modify a.block fun
    | .cells c elem frozen => .cells (if a.spot.isSome then c else c.setIfInBounds a.off v) elem frozen
    | o => o

theorem cell_eq (w : World) (a : Addr) : w.cell? a = cell w.heap a := rfl
theorem frz_eq (w : World) (a : Addr) : w.frozen? a = frz w.heap a := rfl
theorem setc_eq (w : World) (a : Addr) (v : Value) : (w.setCell a v).heap = setc w.heap a v := rfl

/-- No block goes. -/
structure KeepsF (H H' : Hp) : Prop where
  size : H.size ≤ H'.size
  fz : True
theorem KeepsF.refl (H : Hp) : KeepsF H H := ⟨Nat.le_refl _, trivial⟩
theorem KeepsF.trans {H H' H'' : Hp} (h : KeepsF H H') (k : KeepsF H' H'') : KeepsF H H'' :=
  ⟨Nat.le_trans h.size k.size, trivial⟩

/-- What a walk never turns. -/
structure Ok (w0 w : World) : Prop where
  tape : w.tape = w0.tape
  os : w.os = w0.os
  output : w.output = w0.output
  kf : KeepsF w0.heap w.heap

theorem Ok.refl (w : World) : Ok w w := ⟨rfl, rfl, rfl, KeepsF.refl _⟩
theorem Ok.of_eq {w0 w w' : World} (h : Ok w0 w) (ht : w'.tape = w.tape) (ho : w'.os = w.os) (hp : w'.output = w.output) (hf : KeepsF w.heap w'.heap) : Ok w0 w' :=
  ⟨ht.trans h.tape, ho.trans h.os, hp.trans h.output, h.kf.trans hf⟩
theorem frz_setc' (H : Hp) (a b : Addr) (v : Value) : frz (setc H a v) b = frz H b := by
  unfold frz setc
  rw [Array.getElem?_modify]
  by_cases h : a.block = b.block
  · rw [if_pos h]
    cases hb : H[b.block]? with
    | none => rfl
    | some o => cases o <;> rfl
  · rw [if_neg h]
theorem keepsF_setc (H : Hp) (a : Addr) (v : Value) : KeepsF H (setc H a v) := ⟨by simp [setc], trivial⟩
theorem frz_push (H : Hp) (c : Array Value) (t : TypeId) (a : Addr) : frz (H.push (.cells c t)) a = frz H a := by
  unfold frz
  rw [Array.getElem?_push]
  by_cases h : a.block = H.size
  · rw [if_pos h, Array.getElem?_eq_none (by omega)]
    simp
  · rw [if_neg h]

theorem keepsF_push (H : Hp) (c : Array Value) (t : TypeId) : KeepsF H (H.push (.cells c t)) := ⟨by simp, trivial⟩

/-! ## frames as functions -/
abbrev Env := Nat → Value
def Env.set (ρ : Env) (d : Nat) (v : Value) : Env := fun t => if t = d then v else ρ t
def Env.put (ρ : Env) (d : Option Nat) (v : Value) : Env := match d with | some d => ρ.set d v | none => ρ
def Env.ev (ρ : Env) : Operand → Value
  | .tmp t => ρ t
  | .const v => v
  | .global g => .pointer (some ⟨g, 0, none⟩)
  | .func f => .func (.func f) #[] #[]

structure Sim (n : Nat) (a : Act) (ρ : Env) : Prop where
  defers : a.defers = []
  size : a.tmps.size = n
  val : ∀ t, a.tmps.getD t undef = ρ t

theorem Sim.eval {n : Nat} {a : Act} {ρ : Env} (h : Sim n a ρ) : a.eval = ρ.ev := by
  funext x
  cases x with
  | tmp t => exact h.val t
  | _ => rfl

def dstOk (n : Nat) : Option Nat → Bool
  | some d => Nat.blt d n
  | none => true

theorem Sim.put {n : Nat} {a : Act} {ρ : Env} (h : Sim n a ρ) {d : Option Nat} (hd : dstOk n d = true) (v : Value) : Sim n (a.put d v) (ρ.put d v) := by
  cases d with
  | none => exact h
  | some d =>
    have hlt : d < n := by simpa [dstOk, Nat.blt_eq] using hd
    refine ⟨h.defers, by simpa [Act.put] using h.size, fun t => ?_⟩
    have hv := h.val t
    have hs := h.size
    simp only [Act.put, Env.put, Env.set, Array.getD_eq_getD_getElem?] at *
    by_cases ht : t = d
    · subst ht
      simp [hs, hlt]
    · rw [if_neg ht, ← hv, Array.getElem?_setIfInBounds_ne (Ne.symm ht)]

theorem Sim.get {n : Nat} {a : Act} {ρ : Env} (h : Sim n a ρ) {d : Nat} (hd : Nat.blt d n = true) : a.tmps[d]? = some (ρ d) := by
  have hlt : d < a.tmps.size := by rw [h.size]; simpa [Nat.blt_eq] using hd
  have := h.val d
  rw [Array.getD_eq_getD_getElem?, Array.getElem?_eq_getElem hlt] at this
  rw [Array.getElem?_eq_getElem hlt]
  simpa using this

/-- Facts on slots, as one list. -/
def Env.Is (ρ : Env) : List (Nat × Value) → Prop
  | [] => True
  | (d, v) :: l => ρ d = v ∧ Env.Is ρ l
def Env.ofl : List (Nat × Value) → Env → Env
  | [], ρ => ρ
  | (d, v) :: l, ρ => (Env.ofl l ρ).set d v
theorem Env.Is.eq {ρ : Env} : ∀ {l : List (Nat × Value)}, ρ.Is l → ρ = Env.ofl l ρ
  | [], _ => rfl
  | (d, v) :: l, h => by
    funext t
    show ρ t = if t = d then v else Env.ofl l ρ t
    rw [← Env.Is.eq h.2]
    split
    · rename_i e; rw [e]; exact h.1
    · rfl

/-! ## the logic -/
abbrev Post := Exit → Env → Hp → Prop
def Post.thn (K : Env → Hp → Prop) (Q : Post) : Post
  | .normal, ρ, H => K ρ H
  | e, ρ, H => Q e ρ H
def Post.blk (id : Nat) (Q : Post) : Post
  | .exit id', ρ, H => if id' = id then Q .normal ρ H else Q (.exit id') ρ H
  | e, ρ, H => Q e ρ H

def lift (w0 : World) (n : Nat) (Q : Post) : Exit → Act → World → Prop := fun e a w => Ok w0 w ∧ ∃ ρ, Sim n a ρ ∧ Q e ρ w.heap

def HW (P : Program) (w0 : World) (n : Nat) (c : Code) (Q : Post) (ρ : Env) (H : Hp) : Prop :=
  ∀ a w, Sim n a ρ → Ok w0 w → w.heap = H → c.wp P (lift w0 n Q) a w

section
variable {P : Program} {w0 : World} {n : Nat} {Q Q' : Post} {ρ : Env} {H : Hp}

theorem HW.mono {c : Code} (h : HW P w0 n c Q ρ H) (hq : ∀ e ρ H, Q e ρ H → Q' e ρ H) : HW P w0 n c Q' ρ H :=
  fun a w hs ho hh => wp_mono (h a w hs ho hh) fun _ _ _ ⟨h1, ρ', h2, h3⟩ => ⟨h1, ρ', h2, hq _ _ _ h3⟩

theorem HW.skip (h : Q .normal ρ H) : HW P w0 n .skip Q ρ H :=
  fun _ _ hs ho hh => wp_skip ⟨ho, ρ, hs, by rw [hh]; exact h⟩
theorem HW.exit {id : Nat} (h : Q (.exit id) ρ H) : HW P w0 n (.exit id) Q ρ H :=
  fun _ _ hs ho hh => wp_exit ⟨ho, ρ, hs, by rw [hh]; exact h⟩
theorem HW.ret (h : Q .ret ρ H) : HW P w0 n .ret Q ρ H :=
  fun _ _ hs ho hh => wp_ret ⟨ho, ρ, hs, by rw [hh]; exact h⟩

theorem HW.seq {x y : Code} (h : HW P w0 n x (Post.thn (HW P w0 n y Q) Q) ρ H) : HW P w0 n (.seq x y) Q ρ H := by
  intro a w hs ho hh
  refine wp_seq (wp_mono (h a w hs ho hh) ?_)
  rintro e a' w' ⟨h1, ρ', h2, h3⟩
  cases e <;> simp only [Post.thn, Exit.then] at * <;> first | exact h3 _ _ h2 h1 rfl | exact ⟨h1, ρ', h2, h3⟩

/-- What stands between is named. -/
theorem HW.cut {x y : Code} (I : Env → Hp → Prop) (hx : HW P w0 n x (Post.thn I Q) ρ H) (hy : ∀ ρ H, I ρ H → HW P w0 n y Q ρ H) : HW P w0 n (.seq x y) Q ρ H :=
  HW.seq (hx.mono fun e ρ H h => by cases e <;> simp only [Post.thn] at * <;> first | exact hy _ _ h | exact h)

theorem HW.cond {c : Operand} {x y : Code} (b : Bool) (hc : ρ.ev c = .bool b) (ht : b = true → HW P w0 n x Q ρ H) (hf : b = false → HW P w0 n y Q ρ H) : HW P w0 n (.cond c x y) Q ρ H := by
  intro a w hs ho hh
  refine wp_cond_split (t := b) (by rw [hs.eval]; exact hc) (fun h => ht h a w hs ho hh) (fun h => hf h a w hs ho hh)

theorem HW.block {id : Nat} {c : Code} (h : HW P w0 n c (Post.blk id Q) ρ H) : HW P w0 n (.block id c) Q ρ H := by
  intro a w hs ho hh
  refine wp_block (wp_mono (h a w hs ho hh) ?_)
  rintro e a' w' ⟨h1, ρ', h2, h3⟩
  cases e with
  | exit i =>
    by_cases hi : i = id
    · simp only [Post.blk, Exit.inBlock, hi, if_true] at *; exact ⟨h1, ρ', h2, h3⟩
    · simp only [Post.blk, Exit.inBlock, hi, if_false] at *; exact ⟨h1, ρ', h2, h3⟩
  | _ => exact ⟨h1, ρ', h2, h3⟩

end

/-- The loop, as it stands at a round's end. -/
def InLoop (P : Program) (c : Code) (Q : Exit → Act → World → Prop) (a : Act) (w : World) : Prop :=
  ∀ (b : Frame) (k : List Item) (cs : List Frame), ∃ e a' w', Q e a' w' ∧ Arrives P (lone (b.at a (.inLoop c :: k)) cs w) b k cs e a' w'

theorem wp_round {P : Program} {c : Code} {Q : Exit → Act → World → Prop} {a : Act} {w : World}
    (h : c.wp P (Exit.then (InLoop P c Q) Q) a w) : ∀ (b : Frame) (k : List Item) (cs : List Frame),
      ∃ e a' w', Q e a' w' ∧ Arrives P (lone (b.at a (.code c :: .inLoop c :: k)) cs w) b k cs e a' w' := by
  intro b k cs
  obtain ⟨e, a₁, w₁, hq, harr⟩ := h b (.inLoop c :: k) cs
  cases e with
  | normal =>
    obtain ⟨e₂, a₂, w₂, hq₂, harr₂⟩ := hq b k cs
    exact ⟨e₂, a₂, w₂, hq₂, .of_steps harr harr₂⟩
  | exit id => exact ⟨_, a₁, w₁, hq, .pass (x := .inLoop c) rfl (fun _ _ => .inl (by simp)) harr⟩
  | goto l => exact ⟨_, a₁, w₁, hq, .pass (x := .inLoop c) rfl (fun _ _ => .inl (by simp)) harr⟩
  | ret => exact ⟨_, a₁, w₁, hq, .pass (x := .inLoop c) rfl (fun _ _ => .inl (by simp)) harr⟩
  | panic ch => exact ⟨_, a₁, w₁, hq, .pass (x := .inLoop c) rfl (fun _ _ => .inl (by simp)) harr⟩
  | outgrown => exact ⟨_, a₁, w₁, hq, .pass (x := .inLoop c) rfl (fun _ _ => .inl (by simp)) harr⟩

theorem InLoop.round {P : Program} {c : Code} {Q : Exit → Act → World → Prop} {a : Act} {w : World}
    (h : c.wp P (Exit.then (InLoop P c Q) Q) a w) : InLoop P c Q a w := fun b k cs =>
  let ⟨e, a', w', hq, harr⟩ := wp_round h b k cs
  ⟨e, a', w', hq, .of_steps (.one step_inLoop) harr⟩
theorem wp_loop_enter {P : Program} {c : Code} {Q : Exit → Act → World → Prop} {a : Act} {w : World}
    (h : c.wp P (Exit.then (InLoop P c Q) Q) a w) : (Code.loop c).wp P Q a w := fun b k cs =>
  let ⟨e, a', w', hq, harr⟩ := wp_round h b k cs
  ⟨e, a', w', hq, .of_steps (.one step_loop) harr⟩

/-- The loop, at its head, whichever way it was come to. -/
def HLp (P : Program) (w0 : World) (n : Nat) (c : Code) (Q : Post) (ρ : Env) (H : Hp) : Prop :=
  ∀ a w, Sim n a ρ → Ok w0 w → w.heap = H → InLoop P c (lift w0 n Q) a w ∧ (Code.loop c).wp P (lift w0 n Q) a w

theorem HW.loop {P : Program} {w0 : World} {n : Nat} {c : Code} {Q : Post} {ρ : Env} {H : Hp} (h : HLp P w0 n c Q ρ H) : HW P w0 n (.loop c) Q ρ H :=
  fun a w hs ho hh => (h a w hs ho hh).2

theorem HLp.round {P : Program} {w0 : World} {n : Nat} {c : Code} {Q : Post} {ρ : Env} {H : Hp} (h : HW P w0 n c (Post.thn (HLp P w0 n c Q) Q) ρ H) : HLp P w0 n c Q ρ H := by
  intro a w hs ho hh
  have : c.wp P (Exit.then (InLoop P c (lift w0 n Q)) (lift w0 n Q)) a w := by
    refine wp_mono (h a w hs ho hh) ?_
    rintro e a' w' ⟨h1, ρ', h2, h3⟩
    cases e <;> simp only [Post.thn, Exit.then] at * <;> first | exact (h3 _ _ h2 h1 rfl).1 | exact ⟨h1, ρ', h2, h3⟩
  exact ⟨InLoop.round this, wp_loop_enter this⟩

end Go.Hw
