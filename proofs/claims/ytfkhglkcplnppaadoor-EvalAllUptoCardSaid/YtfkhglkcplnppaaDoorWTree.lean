/- The walks of tree.walk and tree.nodes$1, printed; of tree.nodes and tree.Size, by hand. -/
import Derived.Test.YtfkhglkcplnppaaDoorWAux
import Derived.Test.YtfkhglkcplnppaaDoorHwH
import Derived.Test.YtfkhglkcplnppaaDoorHwY
set_option linter.unusedVariables false
set_option linter.unusedSimpArgs false
namespace Go.Hw
open Go Go.Proofs
def F68_L1b (X : Int → Int → Int → Int → ByteArray → Bool → ByteArray → Int → ByteArray → Sl → Int → Value → Hp → (Bool → Hp → Prop) → Prop) (Q : Bool → Hp → Prop) (X1 : Int → Hp → Prop) (y21 : Int) (y22 : Value) (y23 : Sl) (y24 : Int) (y20 : Int) (H_1 : Hp) : Prop :=
((decide (y20 < y24)) = true → (∃ a26 : Addr, (y23).b = some a26 ∧ (0 : Int) ≤ y20 ∧ y20 < ((y23).n : Int) ∧ (
 ∃ (x31 : Int) (x32 : Int) (x33 : Int) (x34 : Int) (x35 : ByteArray) (x36 : Bool) (x37 : ByteArray) (x38 : Int) (x39 : ByteArray) (x40 : Sl), cells H_1 (Addr.add a26 (y20.toNat * 10)) [(.int .i64 x31), (.int .i64 x32), (.int .i64 x33), (.int .i64 x34), (.string x35), (.bool x36), (.string x37), (.int .i64 x38), (.string x39), (Sl.v x40)] 0 ∧ (
 ∀ H41 : Hp, H41 = Array.push H_1 (.cells #[(.int .i64 0), (.int .i64 0), (.int .i64 0), (.int .i64 0), (.string (ByteArray.mk #[])), (.bool false), (.string (ByteArray.mk #[])), (.int .i64 0), (.string (ByteArray.mk #[])), (Sl.v Sl.nil)] 41) → (
 mayw H41 ⟨H_1.size, 0, none⟩ 10 0 ∧ ∀ H43 : Hp, H43 = sets H41 ⟨H_1.size, 0, none⟩ [(.int .i64 x31), (.int .i64 x32), (.int .i64 x33), (.int .i64 x34), (.string x35), (.bool x36), (.string x37), (.int .i64 x38), (.string x39), (Sl.v x40)] 0 → (
 ∃ (x47 : Int) (x48 : Int) (x49 : Int) (x50 : Int) (x51 : ByteArray) (x52 : Bool) (x53 : ByteArray) (x54 : Int) (x55 : ByteArray) (x56 : Sl), cells H43 ⟨H_1.size, 0, none⟩ [(.int .i64 x47), (.int .i64 x48), (.int .i64 x49), (.int .i64 x50), (.string x51), (.bool x52), (.string x53), (.int .i64 x54), (.string x55), (Sl.v x56)] 0 ∧ (
 X x47 x48 x49 x50 x51 x52 x53 x54 x55 x56 (IntKind.i64.wrap (y21 + 1)) y22 H43 (fun (r59 : Bool) (H57 : Hp) => 
 ((!r59) = true → (Q false H57)) ∧
 ((!r59) = false → (X1 (IntKind.i64.wrap (y20 + 1)) H57)))))))))) ∧
 ((decide (y20 < y24)) = false → (Q true H_1))
def F68_L1 (X : Int → Int → Int → Int → ByteArray → Bool → ByteArray → Int → ByteArray → Sl → Int → Value → Hp → (Bool → Hp → Prop) → Prop) (Q : Bool → Hp → Prop) (y21 : Int) (y22 : Value) (y23 : Sl) (y24 : Int) (y20 : Int) (H_1 : Hp) : Prop :=
 ∀ X1 : Int → Hp → Prop, (∀ (y20 : Int) (H_1 : Hp), F68_L1b X Q X1 y21 y22 y23 y24 y20 H_1 → X1 y20 H_1) → X1 y20 H_1
def F68b (X : Int → Int → Int → Int → ByteArray → Bool → ByteArray → Int → ByteArray → Sl → Int → Value → Hp → (Bool → Hp → Prop) → Prop) (p0_0 : Int) (p0_1 : Int) (p0_2 : Int) (p0_3 : Int) (p0_4 : ByteArray) (p0_5 : Bool) (p0_6 : ByteArray) (p0_7 : Int) (p0_8 : ByteArray) (p0_9 : Sl) (p1 : Int) (p2 : Value) (H : Hp) (Q : Bool → Hp → Prop) : Prop :=
∀ H1 : Hp, H1 = Array.push H (.cells #[(.int .i64 p0_0), (.int .i64 p0_1), (.int .i64 p0_2), (.int .i64 p0_3), (.string p0_4), (.bool p0_5), (.string p0_6), (.int .i64 p0_7), (.string p0_8), (Sl.v p0_9)] 41) → (
 ∃ (x4 : Int) (x5 : Int) (x6 : Int) (x7 : Int) (x8 : ByteArray) (x9 : Bool) (x10 : ByteArray) (x11 : Int) (x12 : ByteArray) (x13 : Sl), cells H1 ⟨H.size, 0, none⟩ [(.int .i64 x4), (.int .i64 x5), (.int .i64 x6), (.int .i64 x7), (.string x8), (.bool x9), (.string x10), (.int .i64 x11), (.string x12), (Sl.v x13)] 0 ∧ (
 YieldG Tryd.prog p2 [(.int .i64 p1), (.agg #[(.int .i64 x4), (.int .i64 x5), (.int .i64 x6), (.int .i64 x7), (.string x8), (.bool x9), (.string x10), (.int .i64 x11), (.string x12), (Sl.v x13)])] H1 (fun (r16 : Bool) (H14 : Hp) => 
 ((!r16) = true → (Q false H14)) ∧
 ((!r16) = false → (∃ x19 : Sl, cell H14 (Addr.add ⟨H.size, 0, none⟩ 9) = some (Sl.v x19) ∧ (
 F68_L1 X Q p1 p2 x19 ((x19).n : Int) 0 H14))))))
def F68 (p0_0 : Int) (p0_1 : Int) (p0_2 : Int) (p0_3 : Int) (p0_4 : ByteArray) (p0_5 : Bool) (p0_6 : ByteArray) (p0_7 : Int) (p0_8 : ByteArray) (p0_9 : Sl) (p1 : Int) (p2 : Value) (H : Hp) (Q : Bool → Hp → Prop) : Prop :=
 ∀ X : Int → Int → Int → Int → ByteArray → Bool → ByteArray → Int → ByteArray → Sl → Int → Value → Hp → (Bool → Hp → Prop) → Prop, (∀ (p0_0 : Int) (p0_1 : Int) (p0_2 : Int) (p0_3 : Int) (p0_4 : ByteArray) (p0_5 : Bool) (p0_6 : ByteArray) (p0_7 : Int) (p0_8 : ByteArray) (p0_9 : Sl) (p1 : Int) (p2 : Value) (H : Hp) (Q : Bool → Hp → Prop), F68b X p0_0 p0_1 p0_2 p0_3 p0_4 p0_5 p0_6 p0_7 p0_8 p0_9 p1 p2 H Q → X p0_0 p0_1 p0_2 p0_3 p0_4 p0_5 p0_6 p0_7 p0_8 p0_9 p1 p2 H Q) → X p0_0 p0_1 p0_2 p0_3 p0_4 p0_5 p0_6 p0_7 p0_8 p0_9 p1 p2 H Q
set_option maxRecDepth 100000 in
set_option maxHeartbeats 4000000 in
theorem walk68 {w0 : World} {p0_0 : Int} {p0_1 : Int} {p0_2 : Int} {p0_3 : Int} {p0_4 : ByteArray} {p0_5 : Bool} {p0_6 : ByteArray} {p0_7 : Int} {p0_8 : ByteArray} {p0_9 : Sl} {p1 : Int} {p2 : Value} {H : Hp} {Q : Bool → Hp → Prop} (h : F68 p0_0 p0_1 p0_2 p0_3 p0_4 p0_5 p0_6 p0_7 p0_8 p0_9 p1 p2 H Q) :
  Good Tryd.prog w0 68 #[(.agg #[(.int .i64 p0_0), (.int .i64 p0_1), (.int .i64 p0_2), (.int .i64 p0_3), (.string p0_4), (.bool p0_5), (.string p0_6), (.int .i64 p0_7), (.string p0_8), (Sl.v p0_9)]), (.int .i64 p1), p2] H (fun v H => ∃ (r0 : Bool) , v = (.bool r0) ∧ Q r0 H) := by
 obtain ⟨X, hX⟩ : ∃ X : Int → Int → Int → Int → ByteArray → Bool → ByteArray → Int → ByteArray → Sl → Int → Value → Hp → (Bool → Hp → Prop) → Prop, ∀ (p0_0 : Int) (p0_1 : Int) (p0_2 : Int) (p0_3 : Int) (p0_4 : ByteArray) (p0_5 : Bool) (p0_6 : ByteArray) (p0_7 : Int) (p0_8 : ByteArray) (p0_9 : Sl) (p1 : Int) (p2 : Value) (H : Hp) (Q : Bool → Hp → Prop), X p0_0 p0_1 p0_2 p0_3 p0_4 p0_5 p0_6 p0_7 p0_8 p0_9 p1 p2 H Q ↔ Good Tryd.prog w0 68 #[(.agg #[(.int .i64 p0_0), (.int .i64 p0_1), (.int .i64 p0_2), (.int .i64 p0_3), (.string p0_4), (.bool p0_5), (.string p0_6), (.int .i64 p0_7), (.string p0_8), (Sl.v p0_9)]), (.int .i64 p1), p2] H (fun v H => ∃ (r0 : Bool) , v = (.bool r0) ∧ Q r0 H) := ⟨_, fun _ _ _ _ _ _ _ _ _ _ _ _ _ _ => Iff.rfl⟩
 refine (hX _ _ _ _ _ _ _ _ _ _ _ _ _ _).1 (h X ?_)
 clear h
 intro p0_0 p0_1 p0_2 p0_3 p0_4 p0_5 p0_6 p0_7 p0_8 p0_9 p1 p2 H Q h
 refine (hX _ _ _ _ _ _ _ _ _ _ _ _ _ _).2 ?_
 unfold F68b at h
 refine Good.enter' (fn := Tryd.f68) Tryd.func68 rfl rfl rfl ?_
 refine HW.seq ?_
 refine HW.region ?_
 refine HList.ops' rfl (HOp.box (v := (.agg #[(.int .i64 p0_0), (.int .i64 p0_1), (.int .i64 p0_2), (.int .i64 p0_3), (.string p0_4), (.bool p0_5), (.string p0_6), (.int .i64 p0_7), (.string p0_8), (Sl.v p0_9)])) rfl) ?_
 rintro _ H1 ⟨rfl, e2⟩
 replace h := h H1 e2
 refine HList.vals (v := (.bool false)) rfl (HVal.assign' rfl) ?_
 refine HList.nil ?_
 refine nt ?_
 refine HW.seq ?_
 refine HW.seq ?_
 refine HW.regionI ?_
 refine HListI.vals (v := p2) rfl (HVal.move' rfl) ?_
 refine HListI.vals (v := (.int .i64 p1)) rfl (HVal.move' rfl) ?_
 obtain ⟨x4, x5, x6, x7, x8, x9, x10, x11, x12, x13, c3, h⟩ := h
 refine HListI.vals (v := (.agg #[(.int .i64 x4), (.int .i64 x5), (.int .i64 x6), (.int .i64 x7), (.string x8), (.bool x9), (.string x10), (.int .i64 x11), (.string x12), (Sl.v x13)])) rfl (HVal.loadN [(.int .i64 x4), (.int .i64 x5), (.int .i64 x6), (.int .i64 x7), (.string x8), (.bool x9), (.string x10), (.int .i64 x11), (.string x12), (Sl.v x13)] Tryd.isAgg41 Tryd.sizeOf41 rfl c3) ?_
 refine HListI.yield rfl [(.int .i64 p1), (.agg #[(.int .i64 x4), (.int .i64 x5), (.int .i64 x6), (.int .i64 x7), (.string x8), (.bool x9), (.string x10), (.int .i64 x11), (.string x12), (Sl.v x13)])] rfl rfl h ?_
 rintro r16 H14 h
 refine HListI.vals (v := (.bool (!r16))) rfl (HVal.not rfl) ?_
 refine HListI.nil ?_
 refine nt ?_
 obtain ⟨hT, hF⟩ := h
 refine HW.cond (!r16) rfl (fun hb17 => ?_) (fun hb17 => ?_)
 ·have h := hT hb17
  clear hT hF
  refine HW.seq ?_
  refine HW.region ?_
  refine HList.vals (v := (.bool false)) rfl (HVal.assign' rfl) ?_
  refine HList.nil ?_
  refine nt ?_
  refine HW.ret ?_
  refine tr ?_
  exact ⟨_, resOf1 rfl Res1.t, ⟨false, rfl, h⟩⟩
 ·have h := hF hb17
  clear hT hF
  refine HW.skip ?_
  refine nt ?_
  refine HW.seq ?_
  refine HW.seq ?_
  refine HW.region ?_
  refine HList.vals (v := (.pointer (some (Addr.add ⟨H.size, 0, none⟩ 9)))) rfl (HVal.fieldAddr' Tryd.runUnderlying41 rfl rfl Tryd.sizeOf39 rfl) ?_
  obtain ⟨x19, c18, h⟩ := h
  refine HList.vals (v := (Sl.v x19)) rfl (HVal.load1 Tryd.isAgg39 rfl c18) ?_
  refine HList.vals (v := (.int .i64 ((x19).n : Int))) rfl (HVal.len Tryd.runUnderlying39 rfl) ?_
  refine HList.vals (v := (.int .i64 0)) rfl (HVal.move' rfl) ?_
  refine HList.nil ?_
  refine nt ?_
  refine HW.block ?_
  refine HW.loop' (fun L1 hL1 => ?_)
  obtain ⟨X1, hX1⟩ : ∃ X1 : Int → Hp → Prop, ∀ (y20 : Int) (H_1 : Hp), X1 y20 H_1 ↔ ∀ ρ, Env.Is ρ [(1, (.int .i64 p1)), (2, p2), (15, (Sl.v x19)), (16, (.int .i64 ((x19).n : Int))), (17, (.int .i64 y20))] → L1 ρ H_1 := ⟨_, fun _ _ => Iff.rfl⟩
  refine (hX1 _ _).1 (h X1 ?_) _ ?_
  rotate_left
  ·exact ⟨rfl, rfl, rfl, rfl, rfl, trivial⟩
  clear h
  intro y20 H_1 h
  refine (hX1 _ _).2 fun ρ hI => ?_
  obtain ⟨ρ0, rfl⟩ : ∃ ρ0, ρ = (Env.set (Env.set (Env.set (Env.set (Env.set ρ0 17 (.int .i64 y20)) 16 (.int .i64 ((x19).n : Int))) 15 (Sl.v x19)) 2 p2) 1 (.int .i64 p1)) := ⟨ρ, hI.eq⟩
  clear hI; unfold F68_L1b at h; refine hL1 _ _ ?_
  refine HW.seq ?_
  refine HW.region ?_
  refine HList.vals (v := (.bool (decide (y20 < ((x19).n : Int))))) rfl (HVal.lss rfl rfl) ?_
  refine HList.nil ?_
  refine nt ?_
  refine HW.seq ?_
  obtain ⟨hT, hF⟩ := h
  refine HW.cond (decide (y20 < ((x19).n : Int))) rfl (fun hb25 => ?_) (fun hb25 => ?_)
  ·have h := hT hb25
   clear hT hF
   refine HW.skip ?_
   refine nt ?_
   refine HW.seq ?_
   refine HW.block ?_
   refine HW.seq ?_
   refine HW.region ?_
   obtain ⟨a26, e27, b28, b29, h⟩ := h
   refine HList.vals (v := (.pointer (some (Addr.add a26 (y20.toNat * 10))))) rfl (HVal.indexAddr Tryd.runUnderlying39 Tryd.sizeOf41 (Sl.v_some rfl e27) rfl b28 b29) ?_
   obtain ⟨x31, x32, x33, x34, x35, x36, x37, x38, x39, x40, c30, h⟩ := h
   refine HList.vals (v := (.agg #[(.int .i64 x31), (.int .i64 x32), (.int .i64 x33), (.int .i64 x34), (.string x35), (.bool x36), (.string x37), (.int .i64 x38), (.string x39), (Sl.v x40)])) rfl (HVal.loadN [(.int .i64 x31), (.int .i64 x32), (.int .i64 x33), (.int .i64 x34), (.string x35), (.bool x36), (.string x37), (.int .i64 x38), (.string x39), (Sl.v x40)] Tryd.isAgg41 Tryd.sizeOf41 rfl c30) ?_
   refine HList.ops' rfl (HOp.alloc Tryd.zeroValue41) ?_
   rintro _ H41 ⟨rfl, e42⟩
   replace h := h H41 e42
   obtain ⟨z45, h⟩ := h
   refine HList.opsn (HOp.storeN' (l := [(.int .i64 x31), (.int .i64 x32), (.int .i64 x33), (.int .i64 x34), (.string x35), (.bool x36), (.string x37), (.int .i64 x38), (.string x39), (Sl.v x40)]) Tryd.sizeOf41 rfl rfl rfl z45) ?_
   rintro _ H43 e44
   replace h := h H43 e44
   refine HList.nil ?_
   refine nt ?_
   refine HW.seq ?_
   refine HW.region ?_
   obtain ⟨x47, x48, x49, x50, x51, x52, x53, x54, x55, x56, c46, h⟩ := h
   refine HList.vals (v := (.agg #[(.int .i64 x47), (.int .i64 x48), (.int .i64 x49), (.int .i64 x50), (.string x51), (.bool x52), (.string x53), (.int .i64 x54), (.string x55), (Sl.v x56)])) rfl (HVal.loadN [(.int .i64 x47), (.int .i64 x48), (.int .i64 x49), (.int .i64 x50), (.string x51), (.bool x52), (.string x53), (.int .i64 x54), (.string x55), (Sl.v x56)] Tryd.isAgg41 Tryd.sizeOf41 rfl c46) ?_
   refine HList.vals (v := (.int .i64 p1)) rfl (HVal.move' rfl) ?_
   refine HList.vals (v := (.int .i64 (IntKind.i64.wrap (p1 + 1)))) rfl (HVal.add rfl rfl) ?_
   refine HList.vals (v := p2) rfl (HVal.move' rfl) ?_
   refine HList.ops' rfl (HOp.call' 68 [(.agg #[(.int .i64 x47), (.int .i64 x48), (.int .i64 x49), (.int .i64 x50), (.string x51), (.bool x52), (.string x53), (.int .i64 x54), (.string x55), (Sl.v x56)]), (.int .i64 (IntKind.i64.wrap (p1 + 1))), p2] (cap := []) rfl rfl Tryd.call68 ((hX _ _ _ _ _ _ _ _ _ _ _ _ _ _).1 h)) ?_
   rintro _ H57 ⟨r59, rfl, h⟩
   refine HList.vals (v := (.bool (!r59))) rfl (HVal.not rfl) ?_
   refine HList.nil ?_
   refine nt ?_
   obtain ⟨hT, hF⟩ := h
   refine HW.cond (!r59) rfl (fun hb60 => ?_) (fun hb60 => ?_)
   ·have h := hT hb60
    clear hT hF
    refine HW.seq ?_
    refine HW.region ?_
    refine HList.vals (v := (.bool false)) rfl (HVal.assign' rfl) ?_
    refine HList.nil ?_
    refine nt ?_
    refine HW.ret ?_
    refine br ?_
    refine tr ?_
    refine tr ?_
    refine br ?_
    refine tr ?_
    exact ⟨_, resOf1 rfl Res1.t, ⟨false, rfl, h⟩⟩
   ·have h := hF hb60
    clear hT hF
    refine HW.skip ?_
    refine nb ?_
    refine nt ?_
    refine HW.region ?_
    refine HList.vals (v := (.int .i64 (IntKind.i64.wrap (y20 + 1)))) rfl (HVal.add rfl rfl) ?_
    refine HList.vals (v := (.int .i64 (IntKind.i64.wrap (y20 + 1)))) rfl (HVal.move' rfl) ?_
    refine HList.nil ?_
    refine nt ?_
    exact (hX1 _ _).1 h _ ⟨rfl, rfl, rfl, rfl, rfl, trivial⟩
  ·have h := hF hb25
   clear hT hF
   refine HW.exit ?_
   refine te ?_
   refine te ?_
   refine be ?_
   refine nt ?_
   refine HW.seq ?_
   refine HW.region ?_
   refine HList.vals (v := (.bool true)) rfl (HVal.assign' rfl) ?_
   refine HList.nil ?_
   refine nt ?_
   refine HW.ret ?_
   exact ⟨_, resOf1 rfl Res1.t, ⟨true, rfl, h⟩⟩

def F67 (p0 : Value) (p1 : Addr) (H : Hp) (Q : Hp → Prop) : Prop :=
∃ (x2 : Int) (x3 : Int) (x4 : Int) (x5 : Int) (x6 : ByteArray) (x7 : Bool) (x8 : ByteArray) (x9 : Int) (x10 : ByteArray) (x11 : Sl), cells H p1 [(.int .i64 x2), (.int .i64 x3), (.int .i64 x4), (.int .i64 x5), (.string x6), (.bool x7), (.string x8), (.int .i64 x9), (.string x10), (Sl.v x11)] 0 ∧ (
 F68 x2 x3 x4 x5 x6 x7 x8 x9 x10 x11 1 p0 H (fun (r14 : Bool) (H12 : Hp) => 
 Q H12))
set_option maxRecDepth 100000 in
set_option maxHeartbeats 4000000 in
theorem walk67 {w0 : World} {p0 : Value} {p1 : Addr} {H : Hp} {Q : Hp → Prop} (h : F67 p0 p1 H Q) :
  Good Tryd.prog w0 67 #[p0, (.pointer (some p1))] H (fun v H => v = (.tuple #[]) ∧ Q H) := by
 unfold F67 at h
 refine Good.enter' (fn := Tryd.f67) Tryd.func67 rfl rfl rfl ?_
 refine HW.region ?_
 obtain ⟨x2, x3, x4, x5, x6, x7, x8, x9, x10, x11, c1, h⟩ := h
 refine HList.vals (v := (.agg #[(.int .i64 x2), (.int .i64 x3), (.int .i64 x4), (.int .i64 x5), (.string x6), (.bool x7), (.string x8), (.int .i64 x9), (.string x10), (Sl.v x11)])) rfl (HVal.loadN [(.int .i64 x2), (.int .i64 x3), (.int .i64 x4), (.int .i64 x5), (.string x6), (.bool x7), (.string x8), (.int .i64 x9), (.string x10), (Sl.v x11)] Tryd.isAgg41 Tryd.sizeOf41 rfl c1) ?_
 refine HList.vals (v := p0) rfl (HVal.move' rfl) ?_
 refine HList.ops' rfl (HOp.call' 68 [(.agg #[(.int .i64 x2), (.int .i64 x3), (.int .i64 x4), (.int .i64 x5), (.string x6), (.bool x7), (.string x8), (.int .i64 x9), (.string x10), (Sl.v x11)]), (.int .i64 1), p0] (cap := []) rfl rfl Tryd.call68 (walk68 h)) ?_
 rintro _ H12 ⟨r14, rfl, h⟩
 refine HList.nil ?_
 exact ⟨_, resOf0 rfl , ⟨rfl, h⟩⟩


structure ER where
 k : Int
 o : Int
 vk : Int
 vi : Int
 vs : ByteArray
 vb : Bool
 v : ByteArray
 p : Int
 a : ByteArray
inductive Fo
 | nil
 | cons (r : ER) (kids rest : Fo)
abbrev ER.row (r : ER) (s : Sl) : List Value := [(.int .i64 r.k), (.int .i64 r.o), (.int .i64 r.vk), (.int .i64 r.vi), (.string r.vs), (.bool r.vb), (.string r.v), (.int .i64 r.p), (.string r.a), (Sl.v s)]
def Fo.len : Fo → Nat
 | .nil => 0
 | .cons _ _ s => s.len + 1
def Fo.nodes : Fo → Nat
 | .nil => 0
 | .cons _ k s => 1 + k.nodes + s.nodes
def Fo.ds : Int → Fo → List Int
 | _, .nil => []
 | d, .cons _ k s => d :: (k.ds (d + 1) ++ s.ds d)
def Fo.deep : Int → Fo → Int
 | _, .nil => 0
 | d, .cons _ k s => max d (max (k.deep (d + 1)) (s.deep d))
def FoH (B : Nat) (H : Hp) : Option Addr → Nat → Fo → Prop
 | _, _, .nil => True
 | p, i, .cons r k s => ∃ a q, p = some a ∧ a.block < B ∧ cells H (a.add (i * 10)) (r.row q) 0 ∧ q.n = k.len ∧ FoH B H q.b 0 k ∧ FoH B H p (i + 1) s
theorem Fo.ds_len : ∀ (f : Fo) (d : Int), (f.ds d).length = f.nodes
 | .nil, _ => rfl
 | .cons _ k s, d => by
  simp only [Fo.ds, List.length_cons, List.length_append, Fo.ds_len k, Fo.ds_len s, Fo.nodes]
  omega
def mx (m : Int) (l : List Int) : Int := l.foldl (fun m d => if m < d then d else m) m
theorem mx_snoc (m : Int) (l : List Int) (d : Int) : mx m (l ++ [d]) = if mx m l < d then d else mx m l := by
 unfold mx; rw [List.foldl_append]; rfl
theorem Fo.mx_ds : ∀ (f : Fo) (d m : Int), 0 ≤ m → 0 ≤ d → mx m (f.ds d) = max m (f.deep d)
 | .nil, d, m, h, _ => by simp only [Fo.ds, Fo.deep, mx, List.foldl_nil]; omega
 | .cons _ k s, d, m, h, hd => by
  have e : mx m (Fo.ds d (.cons ‹_› k s)) = mx (mx (if m < d then d else m) (k.ds (d + 1))) (s.ds d) := by
   simp only [Fo.ds, mx, List.foldl_cons, List.foldl_append]
  rw [e, Fo.mx_ds k (d + 1) _ (by split <;> omega) (by omega), Fo.mx_ds s d _ (by split <;> omega) hd]
  simp only [Fo.deep]
  split <;> omega
theorem FoH.kp {S : Nat → Prop} {B : Nat} {H H' : Hp} (k : Kp S H H') (hS : ∀ b, b < B → ¬ S b) : ∀ {f : Fo} {p : Option Addr} {i : Nat}, FoH B H p i f → FoH B H' p i f
 | .nil, _, _, _ => trivial
 | .cons r kd s, p, i, ⟨a, q, e, hb, hc, hn, h1, h2⟩ => by
  refine ⟨a, q, e, hb, ?_, hn, FoH.kp k hS h1, FoH.kp k hS h2⟩
  have e : (a.add (i * 10)).block = a.block := by unfold Addr.add; split <;> rfl
  refine k.cells ?_ ?_ hc
  ·exact cells_block hc (fun h => by cases h)
  ·rw [e]; exact hS _ hb

section
variable {fv : Value} {S : Nat → Prop} {J : List Int → Hp → Prop} {N B M : Nat} {X : Int → Int → Int → Int → ByteArray → Bool → ByteArray → Int → ByteArray → Sl → Int → Value → Hp → (Bool → Hp → Prop) → Prop}

theorem walk_one (hS : ∀ b, S b → B ≤ b ∧ b < M) (hJ : ∀ pre H H', J pre H → Kp (fun _ => False) H H' → J pre H')
  (hY : ∀ pre d cs H, J pre H → pre.length < N → YieldG Tryd.prog fv [.int .i64 d, .agg cs] H fun b H' => b = true ∧ J (pre ++ [d]) H' ∧ Kp S H H')
  {kd : Fo} (ih : ∀ (sl : Sl) (i : Nat) (pre : List Int) (H : Hp) (d : Int) (Q : Bool → Hp → Prop) (X1 : Int → Hp → Prop), (∀ y H, F68_L1b X Q X1 d fv sl sl.n y H → X1 y H) → sl.n = i + kd.len → FoH B H sl.b i kd → J pre H → M ≤ H.size →
   pre.length + kd.nodes ≤ N → 0 ≤ d → d + (kd.nodes : Int) + 1 < 9223372036854775807 → i + (kd.nodes : Int) < 9223372036854775807 → (∀ H', J (pre ++ kd.ds (d + 1)) H' → Kp S H H' → Q true H') → X1 i H)
  (r : ER) (q : Sl) (d : Int) (pre : List Int) (H : Hp) (Q : Bool → Hp → Prop) (hn : q.n = kd.len) (hf : FoH B H q.b 0 kd) (hj : J pre H) (hM : M ≤ H.size) (hN : pre.length + (1 + kd.nodes) ≤ N) (h0 : 0 ≤ d) (h1 : d + (kd.nodes : Int) + 1 < 9223372036854775807)
  (hQ : ∀ H', J (pre ++ d :: kd.ds (d + 1)) H' → Kp S H H' → Q true H') : F68b X r.k r.o r.vk r.vi r.vs r.vb r.v r.p r.a q d fv H Q := by
 intro H1 e1
 have k1 : Kp (fun _ => False) H H1 := (Kp.refl _ _).push' e1
 have r1 : Row H1 H.size 41 (r.row q) := Row.new' e1
 have s1 := size_push' e1
 refine ⟨r.k, r.o, r.vk, r.vi, r.vs, r.vb, r.v, r.p, r.a, q, r1.all, ?_⟩
 obtain ⟨l, rfl, hy⟩ := hY pre d (r.row q).toArray H1 (hJ _ _ _ hj k1) (by omega)
 refine ⟨l, rfl, fun w hw => (hy w hw).mono fun e W' ⟨b, e1, e2, e3, e4, e5⟩ => ⟨b, e1, e2, ?_⟩⟩
 subst e3
 refine ⟨fun h => (by cases h), fun _ => ?_⟩
 have r2 := e5.row r1 fun h => by have := hS _ h; omega
 refine ⟨q, by rw [add_mk]; exact r2.cell_of rfl, ?_⟩
 intro X1 hX1
 have k2 : Kp S H W'.heap := (k1.mono fun _ _ h => h.elim).trans e5 fun b hb => .inl hb
 exact ih q 0 (pre ++ [d]) W'.heap d Q X1 hX1 (by omega) ((hf.kp k2) fun b hb h => by have := hS _ h; omega) e4 (by have := k2.size; omega) (by simp; omega) h0 h1 (by omega) fun H' hj' k' => hQ H' (by simpa [List.append_assoc] using hj') (k2.trans k' fun b hb => .inl hb)

theorem walk_row (hX : ∀ p0_0 p0_1 p0_2 p0_3 p0_4 p0_5 p0_6 p0_7 p0_8 p0_9 p1 p2 H Q, F68b X p0_0 p0_1 p0_2 p0_3 p0_4 p0_5 p0_6 p0_7 p0_8 p0_9 p1 p2 H Q → X p0_0 p0_1 p0_2 p0_3 p0_4 p0_5 p0_6 p0_7 p0_8 p0_9 p1 p2 H Q)
  (hS : ∀ b, S b → B ≤ b ∧ b < M) (hJ : ∀ pre H H', J pre H → Kp (fun _ => False) H H' → J pre H')
  (hY : ∀ pre d cs H, J pre H → pre.length < N → YieldG Tryd.prog fv [.int .i64 d, .agg cs] H fun b H' => b = true ∧ J (pre ++ [d]) H' ∧ Kp S H H') :
  ∀ (f : Fo) (sl : Sl) (i : Nat) (pre : List Int) (H : Hp) (d : Int) (Q : Bool → Hp → Prop) (X1 : Int → Hp → Prop), (∀ y H, F68_L1b X Q X1 d fv sl sl.n y H → X1 y H) → sl.n = i + f.len → FoH B H sl.b i f → J pre H → M ≤ H.size →
   pre.length + f.nodes ≤ N → 0 ≤ d → d + (f.nodes : Int) + 1 < 9223372036854775807 → i + (f.nodes : Int) < 9223372036854775807 → (∀ H', J (pre ++ f.ds (d + 1)) H' → Kp S H H' → Q true H') → X1 i H := by
 intro f
 induction f with
 | nil =>
  intro sl i pre H d Q X1 hX1 hn hf hj hM hN h0 h1 h2 hQ
  simp only [Fo.len] at hn
  refine hX1 _ _ ⟨fun h => absurd (of_decide_eq_true h) (by omega), fun _ => hQ H (by simpa [Fo.ds] using hj) (Kp.refl _ _)⟩
 | cons r kd s ihk ihs =>
  intro sl i pre H d Q X1 hX1 hn hf hj hM hN h0 h1 h2 hQ
  obtain ⟨a, q, ea, hb, hc, hqn, hfk, hfs⟩ := hf
  simp only [Fo.len] at hn
  simp only [Fo.nodes] at hN h1 h2
  refine hX1 _ _ ⟨fun _ => ⟨a, ea, by omega, by omega, r.k, r.o, r.vk, r.vi, r.vs, r.vb, r.v, r.p, r.a, q, hc, fun H1 e1 => ?_⟩, fun h => absurd (of_decide_eq_false h) (by omega)⟩
  have k1 : Kp (fun _ => False) H H1 := (Kp.refl _ _).push' e1
  have r1 := Row.new' e1
  have s1 := size_push' e1
  refine ⟨r1.mayw (by simp), fun H2 e2 => ?_⟩
  have r2 : Row H2 H.size 41 (r.row q) := r1.fill' e2 rfl
  have k2 : Kp (fun _ => False) H H2 := k1.sets' e2 (.inr (Nat.le_refl _))
  refine ⟨r.k, r.o, r.vk, r.vi, r.vs, r.vb, r.v, r.p, r.a, q, r2.all, ?_⟩
  rw [wr (by omega) (by omega)]
  have lt : ∀ b, b < B → ¬ (fun _ : Nat => False) b := fun _ _ => id
  refine hX _ _ _ _ _ _ _ _ _ _ _ _ _ _ (walk_one hS hJ hY ihk r q (d + 1) pre H2 _ hqn (hfk.kp k2 lt) (hJ _ _ _ hj k2) (by have := k2.size; omega) (by omega) (by omega) (by omega) fun H3 hj3 k3 => ⟨fun h => (by cases h), fun _ => ?_⟩)
  have k03 : Kp S H H3 := (k2.mono fun _ _ h => h.elim).trans k3 fun b hb => .inl hb
  rw [wr (by omega) (by omega), show ((i : Int) + 1) = ((i + 1 : Nat) : Int) from by omega]
  have hlen : (pre ++ (d + 1) :: kd.ds (d + 1 + 1)).length + s.nodes ≤ N := by
   simp only [List.length_append, List.length_cons, Fo.ds_len]; omega
  exact ihs sl (i + 1) _ H3 d Q X1 hX1 (by omega) (hfs.kp k03 fun b hb h => by have := hS _ h; omega) hj3 (by have := k03.size; omega) hlen h0 (by omega) (by omega) fun H' hj' k' => hQ H' (by simpa [Fo.ds, List.append_assoc] using hj') (k03.trans k' fun b hb => .inl hb)

theorem walk_all (hS : ∀ b, S b → B ≤ b ∧ b < M) (hJ : ∀ pre H H', J pre H → Kp (fun _ => False) H H' → J pre H')
  (hY : ∀ pre d cs H, J pre H → pre.length < N → YieldG Tryd.prog fv [.int .i64 d, .agg cs] H fun b H' => b = true ∧ J (pre ++ [d]) H' ∧ Kp S H H')
  {r : ER} {q : Sl} {kd : Fo} {p : Addr} {H : Hp} {Q : Hp → Prop} (hc : cells H p (r.row q) 0) (hn : q.n = kd.len) (hf : FoH B H q.b 0 kd) (hj : J [] H) (hM : M ≤ H.size) (hN : 1 + kd.nodes ≤ N) (h1 : kd.nodes ≤ 4194304)
  (hQ : ∀ H', J (1 :: kd.ds 2) H' → Kp S H H' → Q H') : F67 fv p H Q := by
 refine ⟨r.k, r.o, r.vk, r.vi, r.vs, r.vb, r.v, r.p, r.a, q, hc, ?_⟩
 intro X hX
 exact hX _ _ _ _ _ _ _ _ _ _ _ _ _ _ (walk_one hS hJ hY (walk_row hX hS hJ hY kd) r q 1 [] H _ hn hf hj hM (by simpa using hN) (by omega) (by omega) fun H' hj' k' => hQ H' hj' k')
end

end Go.Hw
