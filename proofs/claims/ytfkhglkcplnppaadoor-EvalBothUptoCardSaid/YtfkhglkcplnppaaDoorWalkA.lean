/- The walks of this seat, printed by a program of this session (wip/tools/gen.py): of each function what it does to the heap, and that it does so. -/
import Derived.Test.YtfkhglkcplnppaaDoorHwT
import Derived.Test.YtfkhglkcplnppaaDoorProg
import Derived.Test.YtfkhglkcplnppaaDoorWAux
import Derived.Test.YtfkhglkcplnppaaDoorWLib
set_option linter.unusedVariables false
set_option linter.unusedSimpArgs false
namespace Go.Hw
open Go Go.Proofs
def F78 (p0 : Int) (p1 : Int) (H : Hp) (Q : Int → Hp → Prop) : Prop :=
Q (IntKind.i64.wrap (p0 + p1)) H
set_option maxRecDepth 100000 in
set_option maxHeartbeats 4000000 in
theorem walk78 {w0 : World} {p0 : Int} {p1 : Int} {H : Hp} {Q : Int → Hp → Prop} (h : F78 p0 p1 H Q) :
    Good Tryd.prog w0 78 #[(.int .i64 p0), (.int .i64 p1)] H (fun v H => ∃ (r0 : Int) , v = (.int .i64 r0) ∧ Q r0 H) := by
  unfold F78 at h
  refine Good.enter' (fn := Tryd.f78) Tryd.func78 rfl rfl rfl ?_
  refine HW.seq ?_
  refine HW.region ?_
  refine HList.vals (v := (.int .i64 0)) rfl (HVal.assign' rfl) ?_
  refine HList.nil ?_
  refine nt ?_
  refine HW.seq ?_
  refine HW.region ?_
  refine HList.vals (v := (.int .i64 p0)) rfl (HVal.move' rfl) ?_
  refine HList.vals (v := (.int .i64 p1)) rfl (HVal.move' rfl) ?_
  refine HList.vals (v := (.int .i64 (IntKind.i64.wrap (p0 + p1)))) rfl (HVal.add rfl rfl) ?_
  refine HList.vals (v := (.int .i64 (IntKind.i64.wrap (p0 + p1)))) rfl (HVal.assign' rfl) ?_
  refine HList.nil ?_
  refine nt ?_
  refine HW.ret ?_
  exact ⟨_, resOf1 rfl Res1.t, ⟨(IntKind.i64.wrap (p0 + p1)), rfl, h⟩⟩

def F79 (p0 : Int) (p1 : Int) (H : Hp) (Q : Int → Hp → Prop) : Prop :=
Q (if p1 < p0 then p1 else p0) H
set_option maxRecDepth 100000 in
set_option maxHeartbeats 4000000 in
theorem walk79 {w0 : World} {p0 : Int} {p1 : Int} {H : Hp} {Q : Int → Hp → Prop} (h : F79 p0 p1 H Q) :
    Good Tryd.prog w0 79 #[(.int .i64 p0), (.int .i64 p1)] H (fun v H => ∃ (r0 : Int) , v = (.int .i64 r0) ∧ Q r0 H) := by
  unfold F79 at h
  refine Good.enter' (fn := Tryd.f79) Tryd.func79 rfl rfl rfl ?_
  refine HW.seq ?_
  refine HW.region ?_
  refine HList.vals (v := (.int .i64 0)) rfl (HVal.assign' rfl) ?_
  refine HList.nil ?_
  refine nt ?_
  refine HW.seq ?_
  refine HW.region ?_
  refine HList.vals (v := (.int .i64 p0)) rfl (HVal.move' rfl) ?_
  refine HList.vals (v := (.int .i64 p1)) rfl (HVal.move' rfl) ?_
  refine HList.vals (v := (.int .i64 (if p1 < p0 then p1 else p0))) rfl (HVal.min rfl rfl) ?_
  refine HList.vals (v := (.int .i64 (if p1 < p0 then p1 else p0))) rfl (HVal.assign' rfl) ?_
  refine HList.nil ?_
  refine nt ?_
  refine HW.ret ?_
  exact ⟨_, resOf1 rfl Res1.t, ⟨(if p1 < p0 then p1 else p0), rfl, h⟩⟩

def F80 (p0 : Int) (p1 : Int) (H : Hp) (Q : Int → Hp → Prop) : Prop :=
Q (if p0 < p1 then p1 else p0) H
set_option maxRecDepth 100000 in
set_option maxHeartbeats 4000000 in
theorem walk80 {w0 : World} {p0 : Int} {p1 : Int} {H : Hp} {Q : Int → Hp → Prop} (h : F80 p0 p1 H Q) :
    Good Tryd.prog w0 80 #[(.int .i64 p0), (.int .i64 p1)] H (fun v H => ∃ (r0 : Int) , v = (.int .i64 r0) ∧ Q r0 H) := by
  unfold F80 at h
  refine Good.enter' (fn := Tryd.f80) Tryd.func80 rfl rfl rfl ?_
  refine HW.seq ?_
  refine HW.region ?_
  refine HList.vals (v := (.int .i64 0)) rfl (HVal.assign' rfl) ?_
  refine HList.nil ?_
  refine nt ?_
  refine HW.seq ?_
  refine HW.region ?_
  refine HList.vals (v := (.int .i64 p0)) rfl (HVal.move' rfl) ?_
  refine HList.vals (v := (.int .i64 p1)) rfl (HVal.move' rfl) ?_
  refine HList.vals (v := (.int .i64 (if p0 < p1 then p1 else p0))) rfl (HVal.max rfl rfl) ?_
  refine HList.vals (v := (.int .i64 (if p0 < p1 then p1 else p0))) rfl (HVal.assign' rfl) ?_
  refine HList.nil ?_
  refine nt ?_
  refine HW.ret ?_
  exact ⟨_, resOf1 rfl Res1.t, ⟨(if p0 < p1 then p1 else p0), rfl, h⟩⟩

def F14 (p0 : Int) (p1 : ByteArray) (p2 : Int) (p3 : ByteArray) (H : Hp) (Q : Int → Int → Int → Int → ByteArray → Bool → ByteArray → Int → ByteArray → Sl → Hp → Prop) : Prop :=
∀ H1 : Hp, H1 = Array.push H (.cells #[(.int .i64 0), (.int .i64 0), (.int .i64 0), (.int .i64 0), (.string (ByteArray.mk #[])), (.bool false), (.string (ByteArray.mk #[])), (.int .i64 0), (.string (ByteArray.mk #[])), (Sl.v Sl.nil)] 41) → (
 mayw H1 ⟨H.size, 0, none⟩ 10 0 ∧ ∀ H3 : Hp, H3 = sets H1 ⟨H.size, 0, none⟩ [(.int .i64 3), (.int .i64 p0), (.int .i64 0), (.int .i64 0), (.string (ByteArray.mk #[])), (.bool false), (.string p1), (.int .i64 p2), (.string p3), (Sl.v Sl.nil)] 0 → (
 ∃ (x6 : Int) (x7 : Int) (x8 : Int) (x9 : Int) (x10 : ByteArray) (x11 : Bool) (x12 : ByteArray) (x13 : Int) (x14 : ByteArray) (x15 : Sl), cells H3 ⟨H.size, 0, none⟩ [(.int .i64 x6), (.int .i64 x7), (.int .i64 x8), (.int .i64 x9), (.string x10), (.bool x11), (.string x12), (.int .i64 x13), (.string x14), (Sl.v x15)] 0 ∧ (
 Q x6 x7 x8 x9 x10 x11 x12 x13 x14 x15 H3)))
set_option maxRecDepth 100000 in
set_option maxHeartbeats 4000000 in
theorem walk14 {w0 : World} {p0 : Int} {p1 : ByteArray} {p2 : Int} {p3 : ByteArray} {H : Hp} {Q : Int → Int → Int → Int → ByteArray → Bool → ByteArray → Int → ByteArray → Sl → Hp → Prop} (h : F14 p0 p1 p2 p3 H Q) :
    Good Tryd.prog w0 14 #[(.int .i64 p0), (.string p1), (.int .i64 p2), (.string p3)] H (fun v H => ∃ (r0 : Int) (r1 : Int) (r2 : Int) (r3 : Int) (r4 : ByteArray) (r5 : Bool) (r6 : ByteArray) (r7 : Int) (r8 : ByteArray) (r9 : Sl) , v = (.agg #[(.int .i64 r0), (.int .i64 r1), (.int .i64 r2), (.int .i64 r3), (.string r4), (.bool r5), (.string r6), (.int .i64 r7), (.string r8), (Sl.v r9)]) ∧ Q r0 r1 r2 r3 r4 r5 r6 r7 r8 r9 H) := by
  unfold F14 at h
  refine Good.enter' (fn := Tryd.f14) Tryd.func14 rfl rfl rfl ?_
  refine HW.seq ?_
  refine HW.region ?_
  refine HList.ops' rfl (HOp.alloc Tryd.zeroValue41) ?_
  rintro _ H1 ⟨rfl, e2⟩
  replace h := h H1 e2
  refine HList.nil ?_
  refine nt ?_
  refine HW.seq ?_
  refine HW.region ?_
  refine HList.vals (v := (.int .i64 p0)) rfl (HVal.move' rfl) ?_
  refine HList.vals (v := (.string p1)) rfl (HVal.move' rfl) ?_
  refine HList.vals (v := (.int .i64 p2)) rfl (HVal.move' rfl) ?_
  refine HList.vals (v := (.string p3)) rfl (HVal.move' rfl) ?_
  refine HList.vals (v := (.agg #[(.int .i64 3), (.int .i64 p0), (.int .i64 0), (.int .i64 0), (.string (ByteArray.mk #[])), (.bool false), (.string p1), (.int .i64 p2), (.string p3), (Sl.v Sl.nil)])) rfl (HVal.build' (cs := [(.int .i64 3), (.int .i64 p0), (.int .i64 0), (.int .i64 0), (.string (ByteArray.mk #[])), (.bool false), (.string p1), (.int .i64 p2), (.string p3), (Sl.v Sl.nil)]) Tryd.runUnderlying41 Tryd.zeroValue41 places41 (by kernel_rfl)) ?_
  obtain ⟨z5, h⟩ := h
  refine HList.opsn (HOp.storeN' (l := [(.int .i64 3), (.int .i64 p0), (.int .i64 0), (.int .i64 0), (.string (ByteArray.mk #[])), (.bool false), (.string p1), (.int .i64 p2), (.string p3), (Sl.v Sl.nil)]) Tryd.sizeOf41 rfl rfl rfl z5) ?_
  rintro _ H3 e4
  replace h := h H3 e4
  refine HList.nil ?_
  refine nt ?_
  refine HW.ret ?_
  obtain ⟨x6, x7, x8, x9, x10, x11, x12, x13, x14, x15, c16, h⟩ := h
  exact ⟨_, resOf1 rfl (Res1.n [(.int .i64 x6), (.int .i64 x7), (.int .i64 x8), (.int .i64 x9), (.string x10), (.bool x11), (.string x12), (.int .i64 x13), (.string x14), (Sl.v x15)] Tryd.isAgg41 Tryd.sizeOf41 rfl c16), ⟨x6, x7, x8, x9, x10, x11, x12, x13, x14, x15, rfl, h⟩⟩

def F16 (p0 : ByteArray) (p1 : Int) (p2 : ByteArray) (H : Hp) (Q : Int → Int → Int → Int → ByteArray → Bool → ByteArray → Int → ByteArray → Sl → Hp → Prop) : Prop :=
∀ H1 : Hp, H1 = Array.push H (.cells #[(.int .i64 0), (.int .i64 0), (.int .i64 0), (.int .i64 0), (.string (ByteArray.mk #[])), (.bool false), (.string (ByteArray.mk #[])), (.int .i64 0), (.string (ByteArray.mk #[])), (Sl.v Sl.nil)] 41) → (
 mayw H1 ⟨H.size, 0, none⟩ 10 0 ∧ ∀ H3 : Hp, H3 = sets H1 ⟨H.size, 0, none⟩ [(.int .i64 2), (.int .i64 0), (.int .i64 0), (.int .i64 0), (.string (ByteArray.mk #[])), (.bool false), (.string p0), (.int .i64 p1), (.string p2), (Sl.v Sl.nil)] 0 → (
 ∃ (x6 : Int) (x7 : Int) (x8 : Int) (x9 : Int) (x10 : ByteArray) (x11 : Bool) (x12 : ByteArray) (x13 : Int) (x14 : ByteArray) (x15 : Sl), cells H3 ⟨H.size, 0, none⟩ [(.int .i64 x6), (.int .i64 x7), (.int .i64 x8), (.int .i64 x9), (.string x10), (.bool x11), (.string x12), (.int .i64 x13), (.string x14), (Sl.v x15)] 0 ∧ (
 Q x6 x7 x8 x9 x10 x11 x12 x13 x14 x15 H3)))
set_option maxRecDepth 100000 in
set_option maxHeartbeats 4000000 in
theorem walk16 {w0 : World} {p0 : ByteArray} {p1 : Int} {p2 : ByteArray} {H : Hp} {Q : Int → Int → Int → Int → ByteArray → Bool → ByteArray → Int → ByteArray → Sl → Hp → Prop} (h : F16 p0 p1 p2 H Q) :
    Good Tryd.prog w0 16 #[(.string p0), (.int .i64 p1), (.string p2)] H (fun v H => ∃ (r0 : Int) (r1 : Int) (r2 : Int) (r3 : Int) (r4 : ByteArray) (r5 : Bool) (r6 : ByteArray) (r7 : Int) (r8 : ByteArray) (r9 : Sl) , v = (.agg #[(.int .i64 r0), (.int .i64 r1), (.int .i64 r2), (.int .i64 r3), (.string r4), (.bool r5), (.string r6), (.int .i64 r7), (.string r8), (Sl.v r9)]) ∧ Q r0 r1 r2 r3 r4 r5 r6 r7 r8 r9 H) := by
  unfold F16 at h
  refine Good.enter' (fn := Tryd.f16) Tryd.func16 rfl rfl rfl ?_
  refine HW.seq ?_
  refine HW.region ?_
  refine HList.ops' rfl (HOp.alloc Tryd.zeroValue41) ?_
  rintro _ H1 ⟨rfl, e2⟩
  replace h := h H1 e2
  refine HList.nil ?_
  refine nt ?_
  refine HW.seq ?_
  refine HW.region ?_
  refine HList.vals (v := (.string p0)) rfl (HVal.move' rfl) ?_
  refine HList.vals (v := (.int .i64 p1)) rfl (HVal.move' rfl) ?_
  refine HList.vals (v := (.string p2)) rfl (HVal.move' rfl) ?_
  refine HList.vals (v := (.agg #[(.int .i64 2), (.int .i64 0), (.int .i64 0), (.int .i64 0), (.string (ByteArray.mk #[])), (.bool false), (.string p0), (.int .i64 p1), (.string p2), (Sl.v Sl.nil)])) rfl (HVal.build' (cs := [(.int .i64 2), (.int .i64 0), (.int .i64 0), (.int .i64 0), (.string (ByteArray.mk #[])), (.bool false), (.string p0), (.int .i64 p1), (.string p2), (Sl.v Sl.nil)]) Tryd.runUnderlying41 Tryd.zeroValue41 places41 (by kernel_rfl)) ?_
  obtain ⟨z5, h⟩ := h
  refine HList.opsn (HOp.storeN' (l := [(.int .i64 2), (.int .i64 0), (.int .i64 0), (.int .i64 0), (.string (ByteArray.mk #[])), (.bool false), (.string p0), (.int .i64 p1), (.string p2), (Sl.v Sl.nil)]) Tryd.sizeOf41 rfl rfl rfl z5) ?_
  rintro _ H3 e4
  replace h := h H3 e4
  refine HList.nil ?_
  refine nt ?_
  refine HW.ret ?_
  obtain ⟨x6, x7, x8, x9, x10, x11, x12, x13, x14, x15, c16, h⟩ := h
  exact ⟨_, resOf1 rfl (Res1.n [(.int .i64 x6), (.int .i64 x7), (.int .i64 x8), (.int .i64 x9), (.string x10), (.bool x11), (.string x12), (.int .i64 x13), (.string x14), (Sl.v x15)] Tryd.isAgg41 Tryd.sizeOf41 rfl c16), ⟨x6, x7, x8, x9, x10, x11, x12, x13, x14, x15, rfl, h⟩⟩

def F23 (p0 : Int) (H : Hp) (Q : Int → Int → ByteArray → Bool → Hp → Prop) : Prop :=
∀ H1 : Hp, H1 = Array.push H (.cells #[(.int .i64 0), (.int .i64 0), (.string (ByteArray.mk #[])), (.bool false)] 38) → (
 mayw H1 ⟨H.size, 0, none⟩ 4 0 ∧ ∀ H3 : Hp, H3 = sets H1 ⟨H.size, 0, none⟩ [(.int .i64 1), (.int .i64 p0), (.string (ByteArray.mk #[])), (.bool false)] 0 → (
 ∃ (x6 : Int) (x7 : Int) (x8 : ByteArray) (x9 : Bool), cells H3 ⟨H.size, 0, none⟩ [(.int .i64 x6), (.int .i64 x7), (.string x8), (.bool x9)] 0 ∧ (
 Q x6 x7 x8 x9 H3)))
set_option maxRecDepth 100000 in
set_option maxHeartbeats 4000000 in
theorem walk23 {w0 : World} {p0 : Int} {H : Hp} {Q : Int → Int → ByteArray → Bool → Hp → Prop} (h : F23 p0 H Q) :
    Good Tryd.prog w0 23 #[(.int .i64 p0)] H (fun v H => ∃ (r0 : Int) (r1 : Int) (r2 : ByteArray) (r3 : Bool) , v = (.agg #[(.int .i64 r0), (.int .i64 r1), (.string r2), (.bool r3)]) ∧ Q r0 r1 r2 r3 H) := by
  unfold F23 at h
  refine Good.enter' (fn := Tryd.f23) Tryd.func23 rfl rfl rfl ?_
  refine HW.seq ?_
  refine HW.region ?_
  refine HList.ops' rfl (HOp.alloc Tryd.zeroValue38) ?_
  rintro _ H1 ⟨rfl, e2⟩
  replace h := h H1 e2
  refine HList.nil ?_
  refine nt ?_
  refine HW.seq ?_
  refine HW.region ?_
  refine HList.vals (v := (.int .i64 p0)) rfl (HVal.move' rfl) ?_
  refine HList.vals (v := (.agg #[(.int .i64 1), (.int .i64 p0), (.string (ByteArray.mk #[])), (.bool false)])) rfl (HVal.build' (cs := [(.int .i64 1), (.int .i64 p0), (.string (ByteArray.mk #[])), (.bool false)]) Tryd.runUnderlying38 Tryd.zeroValue38 places38 rfl) ?_
  obtain ⟨z5, h⟩ := h
  refine HList.opsn (HOp.storeN' (l := [(.int .i64 1), (.int .i64 p0), (.string (ByteArray.mk #[])), (.bool false)]) Tryd.sizeOf38 rfl rfl rfl z5) ?_
  rintro _ H3 e4
  replace h := h H3 e4
  refine HList.nil ?_
  refine nt ?_
  refine HW.ret ?_
  obtain ⟨x6, x7, x8, x9, c10, h⟩ := h
  exact ⟨_, resOf1 rfl (Res1.n [(.int .i64 x6), (.int .i64 x7), (.string x8), (.bool x9)] Tryd.isAgg38 Tryd.sizeOf38 rfl c10), ⟨x6, x7, x8, x9, rfl, h⟩⟩

def F10 (p0 : Int) (p1 : Int) (p2 : ByteArray) (H : Hp) (Q : ByteArray → Int → Sl → Hp → Prop) : Prop :=
∀ H1 : Hp, H1 = Array.push H (.cells #[(.string (ByteArray.mk #[])), (.int .i64 0), (Sl.v Sl.nil)] 36) → (
 F23 p1 H1 (fun (r5 : Int) (r6 : Int) (r7 : ByteArray) (r8 : Bool) (H3 : Hp) => 
 ∀ H9 : Hp, H9 = Array.push H3 (.cells #[(.int .i64 r5), (.int .i64 r6), (.string r7), (.bool r8), (.int .i64 2), (.int .i64 0), (.string p2), (.bool false)] 38) → (
 mayw H9 ⟨H.size, 0, none⟩ 3 0 ∧ ∀ H11 : Hp, H11 = sets H9 ⟨H.size, 0, none⟩ [(.string S_T), (.int .i64 p0), (Sl.v (Sl.mk (some ⟨H3.size, 0, none⟩) 2 2))] 0 → (
 ∃ (x14 : ByteArray) (x15 : Int) (x16 : Sl), cells H11 ⟨H.size, 0, none⟩ [(.string x14), (.int .i64 x15), (Sl.v x16)] 0 ∧ (
 Q x14 x15 x16 H11)))))
set_option maxRecDepth 100000 in
set_option maxHeartbeats 4000000 in
theorem walk10 {w0 : World} {p0 : Int} {p1 : Int} {p2 : ByteArray} {H : Hp} {Q : ByteArray → Int → Sl → Hp → Prop} (h : F10 p0 p1 p2 H Q) :
    Good Tryd.prog w0 10 #[(.int .i64 p0), (.int .i64 p1), (.string p2)] H (fun v H => ∃ (r0 : ByteArray) (r1 : Int) (r2 : Sl) , v = (.agg #[(.string r0), (.int .i64 r1), (Sl.v r2)]) ∧ Q r0 r1 r2 H) := by
  unfold F10 at h
  refine Good.enter' (fn := Tryd.f10) Tryd.func10 rfl rfl rfl ?_
  refine HW.seq ?_
  refine HW.region ?_
  refine HList.ops' rfl (HOp.alloc Tryd.zeroValue36) ?_
  rintro _ H1 ⟨rfl, e2⟩
  replace h := h H1 e2
  refine HList.nil ?_
  refine nt ?_
  refine HW.seq ?_
  refine HW.region ?_
  refine HList.vals (v := (.int .i64 p0)) rfl (HVal.move' rfl) ?_
  refine HList.vals (v := (.int .i64 p1)) rfl (HVal.move' rfl) ?_
  refine HList.ops' rfl (HOp.call' 23 [(.int .i64 p1)] (cap := []) rfl rfl Tryd.call23 (walk23 h)) ?_
  rintro _ H3 ⟨r5, r6, r7, r8, rfl, h⟩
  refine HList.vals (v := (.string p2)) rfl (HVal.move' rfl) ?_
  refine HList.vals (v := (.agg #[(.int .i64 2), (.int .i64 0), (.string p2), (.bool false)])) rfl (HVal.build' (cs := [(.int .i64 2), (.int .i64 0), (.string p2), (.bool false)]) Tryd.runUnderlying38 Tryd.zeroValue38 places38 rfl) ?_
  refine HList.ops' rfl (HOp.buildSlice' (zs := [(.int .i64 0), (.int .i64 0), (.string (ByteArray.mk #[])), (.bool false), (.int .i64 0), (.int .i64 0), (.string (ByteArray.mk #[])), (.bool false)]) (cs := [(.int .i64 r5), (.int .i64 r6), (.string r7), (.bool r8), (.int .i64 2), (.int .i64 0), (.string p2), (.bool false)]) Tryd.runUnderlying34 Tryd.sizeOf38 Tryd.zeroValue38 (by decide) (by kernel_rfl) (by kernel_rfl) (by decide)) ?_
  rintro _ H9 ⟨rfl, e10⟩
  replace h := h H9 e10
  refine HList.vals (v := (.agg #[(.string S_T), (.int .i64 p0), (Sl.v (Sl.mk (some ⟨H3.size, 0, none⟩) 2 2))])) rfl (HVal.build' (cs := [(.string S_T), (.int .i64 p0), (Sl.v (Sl.mk (some ⟨H3.size, 0, none⟩) 2 2))]) Tryd.runUnderlying36 Tryd.zeroValue36 places36 rfl) ?_
  obtain ⟨z13, h⟩ := h
  refine HList.opsn (HOp.storeN' (l := [(.string S_T), (.int .i64 p0), (Sl.v (Sl.mk (some ⟨H3.size, 0, none⟩) 2 2))]) Tryd.sizeOf36 rfl rfl rfl z13) ?_
  rintro _ H11 e12
  replace h := h H11 e12
  refine HList.nil ?_
  refine nt ?_
  refine HW.ret ?_
  obtain ⟨x14, x15, x16, c17, h⟩ := h
  exact ⟨_, resOf1 rfl (Res1.n [(.string x14), (.int .i64 x15), (Sl.v x16)] Tryd.isAgg36 Tryd.sizeOf36 rfl c17), ⟨x14, x15, x16, rfl, h⟩⟩

def F12 (H : Hp) (Q : Sl → Hp → Prop) : Prop :=
∀ H1 : Hp, H1 = Array.push H (.cells #[(.string S_x), (.int .i64 1), (.string S_s), (.int .i64 2)] 83) → (
 ∀ H3 : Hp, H3 = Array.push H1 (.cells #[(.string S_T), (Sl.v (Sl.mk (some ⟨H.size, 0, none⟩) 2 2))] 86) → (
 Q (Sl.mk (some ⟨H1.size, 0, none⟩) 1 1) H3))
set_option maxRecDepth 100000 in
set_option maxHeartbeats 4000000 in
theorem walk12 {w0 : World} {H : Hp} {Q : Sl → Hp → Prop} (h : F12 H Q) :
    Good Tryd.prog w0 12 #[] H (fun v H => ∃ (r0 : Sl) , v = (Sl.v r0) ∧ Q r0 H) := by
  unfold F12 at h
  refine Good.enter' (fn := Tryd.f12) Tryd.func12 rfl rfl rfl ?_
  refine HW.seq ?_
  refine HW.region ?_
  refine HList.vals (v := (Sl.v Sl.nil)) rfl (HVal.assign' rfl) ?_
  refine HList.nil ?_
  refine nt ?_
  refine HW.seq ?_
  refine HW.region ?_
  refine HList.vals (v := (.agg #[(.string S_x), (.int .i64 1)])) rfl (HVal.build' (cs := [(.string S_x), (.int .i64 1)]) Tryd.runUnderlying83 Tryd.zeroValue83 places83 rfl) ?_
  refine HList.vals (v := (.agg #[(.string S_s), (.int .i64 2)])) rfl (HVal.build' (cs := [(.string S_s), (.int .i64 2)]) Tryd.runUnderlying83 Tryd.zeroValue83 places83 rfl) ?_
  refine HList.ops' rfl (HOp.buildSlice' (zs := [(.string (ByteArray.mk #[])), (.int .i64 0), (.string (ByteArray.mk #[])), (.int .i64 0)]) (cs := [(.string S_x), (.int .i64 1), (.string S_s), (.int .i64 2)]) Tryd.runUnderlying84 Tryd.sizeOf83 Tryd.zeroValue83 (by decide) (by kernel_rfl) rfl (by decide)) ?_
  rintro _ H1 ⟨rfl, e2⟩
  replace h := h H1 e2
  refine HList.vals (v := (.agg #[(.string S_T), (Sl.v (Sl.mk (some ⟨H.size, 0, none⟩) 2 2))])) rfl (HVal.build' (cs := [(.string S_T), (Sl.v (Sl.mk (some ⟨H.size, 0, none⟩) 2 2))]) Tryd.runUnderlying86 Tryd.zeroValue86 places86 rfl) ?_
  refine HList.ops' rfl (HOp.buildSlice' (zs := [(.string (ByteArray.mk #[])), (Sl.v Sl.nil)]) (cs := [(.string S_T), (Sl.v (Sl.mk (some ⟨H.size, 0, none⟩) 2 2))]) Tryd.runUnderlying30 Tryd.sizeOf86 Tryd.zeroValue86 (by decide) (by kernel_rfl) rfl (by decide)) ?_
  rintro _ H3 ⟨rfl, e4⟩
  replace h := h H3 e4
  refine HList.vals (v := (Sl.v (Sl.mk (some ⟨H1.size, 0, none⟩) 1 1))) rfl (HVal.assign' rfl) ?_
  refine HList.nil ?_
  refine nt ?_
  refine HW.ret ?_
  exact ⟨_, resOf1 rfl Res1.t, ⟨(Sl.mk (some ⟨H1.size, 0, none⟩) 1 1), rfl, h⟩⟩

def F17 (H : Hp) (Q : Sl → Sl → ByteArray → ByteArray → Int → Sl → Sl → Hp → Prop) : Prop :=
∀ H1 : Hp, H1 = Array.push H (.cells #[(Sl.v Sl.nil), (Sl.v Sl.nil), (.string (ByteArray.mk #[])), (.string (ByteArray.mk #[])), (.int .i64 0), (Sl.v Sl.nil), (Sl.v Sl.nil)] 43) → (
 ∀ H3 : Hp, H3 = Array.push H1 (.cells #[(.string S_a), (.string S_b), (.string S_c)] 9) → (
 F10 1 5 S_p H3 (fun (r7 : ByteArray) (r8 : Int) (r9 : Sl) (H5 : Hp) => 
 ∀ H10 : Hp, H10 = Array.push H5 (.cells #[(.string r7), (.int .i64 r8), (Sl.v r9)] 36) → (
 F10 2 7 S_q H10 (fun (r14 : ByteArray) (r15 : Int) (r16 : Sl) (H12 : Hp) => 
 F10 3 6 S_r H12 (fun (r19 : ByteArray) (r20 : Int) (r21 : Sl) (H17 : Hp) => 
 ∀ H22 : Hp, H22 = Array.push H17 (.cells #[(.string r14), (.int .i64 r15), (Sl.v r16), (.string r19), (.int .i64 r20), (Sl.v r21)] 36) → (
 ∀ H24 : Hp, H24 = Array.push H22 (.cells #[(Sl.v (Sl.mk (some ⟨H5.size, 0, none⟩) 1 1)), (Sl.v (Sl.mk (some ⟨H17.size, 0, none⟩) 2 2)), (Sl.v Sl.nil)] 49) → (
 F10 4 9 S_z H24 (fun (r28 : ByteArray) (r29 : Int) (r30 : Sl) (H26 : Hp) => 
 F12 H26 (fun (r33 : Sl) (H31 : Hp) => 
 mayw H31 ⟨H.size, 0, none⟩ 7 0 ∧ ∀ H34 : Hp, H34 = sets H31 ⟨H.size, 0, none⟩ [(Sl.v (Sl.mk (some ⟨H1.size, 0, none⟩) 3 3)), (Sl.v (Sl.mk (some ⟨H22.size, 0, none⟩) 3 3)), (.string S_b), (.string r28), (.int .i64 r29), (Sl.v r30), (Sl.v r33)] 0 → (
 ∃ (x37 : Sl) (x38 : Sl) (x39 : ByteArray) (x40 : ByteArray) (x41 : Int) (x42 : Sl) (x43 : Sl), cells H34 ⟨H.size, 0, none⟩ [(Sl.v x37), (Sl.v x38), (.string x39), (.string x40), (.int .i64 x41), (Sl.v x42), (Sl.v x43)] 0 ∧ (
 Q x37 x38 x39 x40 x41 x42 x43 H34))))))))))))
set_option maxRecDepth 100000 in
set_option maxHeartbeats 4000000 in
theorem walk17 {w0 : World} {H : Hp} {Q : Sl → Sl → ByteArray → ByteArray → Int → Sl → Sl → Hp → Prop} (h : F17 H Q) :
    Good Tryd.prog w0 17 #[] H (fun v H => ∃ (r0 : Sl) (r1 : Sl) (r2 : ByteArray) (r3 : ByteArray) (r4 : Int) (r5 : Sl) (r6 : Sl) , v = (.agg #[(Sl.v r0), (Sl.v r1), (.string r2), (.string r3), (.int .i64 r4), (Sl.v r5), (Sl.v r6)]) ∧ Q r0 r1 r2 r3 r4 r5 r6 H) := by
  unfold F17 at h
  refine Good.enter' (fn := Tryd.f17) Tryd.func17 rfl rfl rfl ?_
  refine HW.seq ?_
  refine HW.region ?_
  refine HList.ops' rfl (HOp.alloc Tryd.zeroValue43) ?_
  rintro _ H1 ⟨rfl, e2⟩
  replace h := h H1 e2
  refine HList.nil ?_
  refine nt ?_
  refine HW.seq ?_
  refine HW.region ?_
  refine HList.ops' rfl (HOp.buildSlice' (zs := [(.string (ByteArray.mk #[])), (.string (ByteArray.mk #[])), (.string (ByteArray.mk #[]))]) (cs := [(.string S_a), (.string S_b), (.string S_c)]) Tryd.runUnderlying29 Tryd.sizeOf9 Tryd.zeroValue9 (by decide) (by kernel_rfl) rfl (by decide)) ?_
  rintro _ H3 ⟨rfl, e4⟩
  replace h := h H3 e4
  refine HList.ops' rfl (HOp.call' 10 [(.int .i64 1), (.int .i64 5), (.string S_p)] (cap := []) rfl rfl Tryd.call10 (walk10 h)) ?_
  rintro _ H5 ⟨r7, r8, r9, rfl, h⟩
  refine HList.ops' rfl (HOp.buildSlice' (zs := [(.string (ByteArray.mk #[])), (.int .i64 0), (Sl.v Sl.nil)]) (cs := [(.string r7), (.int .i64 r8), (Sl.v r9)]) Tryd.runUnderlying49 Tryd.sizeOf36 Tryd.zeroValue36 (by decide) (by kernel_rfl) rfl (by decide)) ?_
  rintro _ H10 ⟨rfl, e11⟩
  replace h := h H10 e11
  refine HList.ops' rfl (HOp.call' 10 [(.int .i64 2), (.int .i64 7), (.string S_q)] (cap := []) rfl rfl Tryd.call10 (walk10 h)) ?_
  rintro _ H12 ⟨r14, r15, r16, rfl, h⟩
  refine HList.ops' rfl (HOp.call' 10 [(.int .i64 3), (.int .i64 6), (.string S_r)] (cap := []) rfl rfl Tryd.call10 (walk10 h)) ?_
  rintro _ H17 ⟨r19, r20, r21, rfl, h⟩
  refine HList.ops' rfl (HOp.buildSlice' (zs := [(.string (ByteArray.mk #[])), (.int .i64 0), (Sl.v Sl.nil), (.string (ByteArray.mk #[])), (.int .i64 0), (Sl.v Sl.nil)]) (cs := [(.string r14), (.int .i64 r15), (Sl.v r16), (.string r19), (.int .i64 r20), (Sl.v r21)]) Tryd.runUnderlying49 Tryd.sizeOf36 Tryd.zeroValue36 (by decide) (by kernel_rfl) (by kernel_rfl) (by decide)) ?_
  rintro _ H22 ⟨rfl, e23⟩
  replace h := h H22 e23
  refine HList.ops' rfl (HOp.buildSlice' (zs := [(Sl.v Sl.nil), (Sl.v Sl.nil), (Sl.v Sl.nil)]) (cs := [(Sl.v (Sl.mk (some ⟨H5.size, 0, none⟩) 1 1)), (Sl.v (Sl.mk (some ⟨H17.size, 0, none⟩) 2 2)), (Sl.v Sl.nil)]) Tryd.runUnderlying27 Tryd.sizeOf49 Tryd.zeroValue49 (by decide) (by kernel_rfl) rfl (by decide)) ?_
  rintro _ H24 ⟨rfl, e25⟩
  replace h := h H24 e25
  refine HList.ops' rfl (HOp.call' 10 [(.int .i64 4), (.int .i64 9), (.string S_z)] (cap := []) rfl rfl Tryd.call10 (walk10 h)) ?_
  rintro _ H26 ⟨r28, r29, r30, rfl, h⟩
  refine HList.ops' rfl (HOp.call' 12 [] (cap := []) rfl rfl Tryd.call12 (walk12 h)) ?_
  rintro _ H31 ⟨r33, rfl, h⟩
  refine HList.vals (v := (.agg #[(Sl.v (Sl.mk (some ⟨H1.size, 0, none⟩) 3 3)), (Sl.v (Sl.mk (some ⟨H22.size, 0, none⟩) 3 3)), (.string S_b), (.string r28), (.int .i64 r29), (Sl.v r30), (Sl.v r33)])) rfl (HVal.build' (cs := [(Sl.v (Sl.mk (some ⟨H1.size, 0, none⟩) 3 3)), (Sl.v (Sl.mk (some ⟨H22.size, 0, none⟩) 3 3)), (.string S_b), (.string r28), (.int .i64 r29), (Sl.v r30), (Sl.v r33)]) Tryd.runUnderlying43 Tryd.zeroValue43 places43 (by kernel_rfl)) ?_
  obtain ⟨z36, h⟩ := h
  refine HList.opsn (HOp.storeN' (l := [(Sl.v (Sl.mk (some ⟨H1.size, 0, none⟩) 3 3)), (Sl.v (Sl.mk (some ⟨H22.size, 0, none⟩) 3 3)), (.string S_b), (.string r28), (.int .i64 r29), (Sl.v r30), (Sl.v r33)]) Tryd.sizeOf43 rfl rfl rfl z36) ?_
  rintro _ H34 e35
  replace h := h H34 e35
  refine HList.nil ?_
  refine nt ?_
  refine HW.ret ?_
  obtain ⟨x37, x38, x39, x40, x41, x42, x43, c44, h⟩ := h
  exact ⟨_, resOf1 rfl (Res1.n [(Sl.v x37), (Sl.v x38), (.string x39), (.string x40), (.int .i64 x41), (Sl.v x42), (Sl.v x43)] Tryd.isAgg43 Tryd.sizeOf43 rfl c44), ⟨x37, x38, x39, x40, x41, x42, x43, rfl, h⟩⟩

def F18 (p0 : Int) (p1_0 : Int) (p1_1 : Int) (p1_2 : Int) (p1_3 : Int) (p1_4 : ByteArray) (p1_5 : Bool) (p1_6 : ByteArray) (p1_7 : Int) (p1_8 : ByteArray) (p1_9 : Sl) (p2_0 : Int) (p2_1 : Int) (p2_2 : Int) (p2_3 : Int) (p2_4 : ByteArray) (p2_5 : Bool) (p2_6 : ByteArray) (p2_7 : Int) (p2_8 : ByteArray) (p2_9 : Sl) (H : Hp) (Q : Int → Int → Int → Int → ByteArray → Bool → ByteArray → Int → ByteArray → Sl → Hp → Prop) : Prop :=
∀ H1 : Hp, H1 = Array.push H (.cells #[(.int .i64 p1_0), (.int .i64 p1_1), (.int .i64 p1_2), (.int .i64 p1_3), (.string p1_4), (.bool p1_5), (.string p1_6), (.int .i64 p1_7), (.string p1_8), (Sl.v p1_9)] 41) → (
 ∀ H3 : Hp, H3 = Array.push H1 (.cells #[(.int .i64 p2_0), (.int .i64 p2_1), (.int .i64 p2_2), (.int .i64 p2_3), (.string p2_4), (.bool p2_5), (.string p2_6), (.int .i64 p2_7), (.string p2_8), (Sl.v p2_9)] 41) → (
 ∀ H5 : Hp, H5 = Array.push H3 (.cells #[(.int .i64 0), (.int .i64 0), (.int .i64 0), (.int .i64 0), (.string (ByteArray.mk #[])), (.bool false), (.string (ByteArray.mk #[])), (.int .i64 0), (.string (ByteArray.mk #[])), (Sl.v Sl.nil)] 41) → (
 ∃ (x8 : Int) (x9 : Int) (x10 : Int) (x11 : Int) (x12 : ByteArray) (x13 : Bool) (x14 : ByteArray) (x15 : Int) (x16 : ByteArray) (x17 : Sl), cells H5 ⟨H.size, 0, none⟩ [(.int .i64 x8), (.int .i64 x9), (.int .i64 x10), (.int .i64 x11), (.string x12), (.bool x13), (.string x14), (.int .i64 x15), (.string x16), (Sl.v x17)] 0 ∧ (
 ∃ (x19 : Int) (x20 : Int) (x21 : Int) (x22 : Int) (x23 : ByteArray) (x24 : Bool) (x25 : ByteArray) (x26 : Int) (x27 : ByteArray) (x28 : Sl), cells H5 ⟨H1.size, 0, none⟩ [(.int .i64 x19), (.int .i64 x20), (.int .i64 x21), (.int .i64 x22), (.string x23), (.bool x24), (.string x25), (.int .i64 x26), (.string x27), (Sl.v x28)] 0 ∧ (
 ∀ H29 : Hp, H29 = Array.push H5 (.cells #[(.int .i64 x8), (.int .i64 x9), (.int .i64 x10), (.int .i64 x11), (.string x12), (.bool x13), (.string x14), (.int .i64 x15), (.string x16), (Sl.v x17), (.int .i64 x19), (.int .i64 x20), (.int .i64 x21), (.int .i64 x22), (.string x23), (.bool x24), (.string x25), (.int .i64 x26), (.string x27), (Sl.v x28)] 41) → (
 mayw H29 ⟨H3.size, 0, none⟩ 10 0 ∧ ∀ H31 : Hp, H31 = sets H29 ⟨H3.size, 0, none⟩ [(.int .i64 5), (.int .i64 p0), (.int .i64 0), (.int .i64 0), (.string (ByteArray.mk #[])), (.bool false), (.string (ByteArray.mk #[])), (.int .i64 0), (.string (ByteArray.mk #[])), (Sl.v (Sl.mk (some ⟨H5.size, 0, none⟩) 2 2))] 0 → (
 ∃ (x34 : Int) (x35 : Int) (x36 : Int) (x37 : Int) (x38 : ByteArray) (x39 : Bool) (x40 : ByteArray) (x41 : Int) (x42 : ByteArray) (x43 : Sl), cells H31 ⟨H3.size, 0, none⟩ [(.int .i64 x34), (.int .i64 x35), (.int .i64 x36), (.int .i64 x37), (.string x38), (.bool x39), (.string x40), (.int .i64 x41), (.string x42), (Sl.v x43)] 0 ∧ (
 Q x34 x35 x36 x37 x38 x39 x40 x41 x42 x43 H31))))))))
set_option maxRecDepth 100000 in
set_option maxHeartbeats 4000000 in
theorem walk18 {w0 : World} {p0 : Int} {p1_0 : Int} {p1_1 : Int} {p1_2 : Int} {p1_3 : Int} {p1_4 : ByteArray} {p1_5 : Bool} {p1_6 : ByteArray} {p1_7 : Int} {p1_8 : ByteArray} {p1_9 : Sl} {p2_0 : Int} {p2_1 : Int} {p2_2 : Int} {p2_3 : Int} {p2_4 : ByteArray} {p2_5 : Bool} {p2_6 : ByteArray} {p2_7 : Int} {p2_8 : ByteArray} {p2_9 : Sl} {H : Hp} {Q : Int → Int → Int → Int → ByteArray → Bool → ByteArray → Int → ByteArray → Sl → Hp → Prop} (h : F18 p0 p1_0 p1_1 p1_2 p1_3 p1_4 p1_5 p1_6 p1_7 p1_8 p1_9 p2_0 p2_1 p2_2 p2_3 p2_4 p2_5 p2_6 p2_7 p2_8 p2_9 H Q) :
    Good Tryd.prog w0 18 #[(.int .i64 p0), (.agg #[(.int .i64 p1_0), (.int .i64 p1_1), (.int .i64 p1_2), (.int .i64 p1_3), (.string p1_4), (.bool p1_5), (.string p1_6), (.int .i64 p1_7), (.string p1_8), (Sl.v p1_9)]), (.agg #[(.int .i64 p2_0), (.int .i64 p2_1), (.int .i64 p2_2), (.int .i64 p2_3), (.string p2_4), (.bool p2_5), (.string p2_6), (.int .i64 p2_7), (.string p2_8), (Sl.v p2_9)])] H (fun v H => ∃ (r0 : Int) (r1 : Int) (r2 : Int) (r3 : Int) (r4 : ByteArray) (r5 : Bool) (r6 : ByteArray) (r7 : Int) (r8 : ByteArray) (r9 : Sl) , v = (.agg #[(.int .i64 r0), (.int .i64 r1), (.int .i64 r2), (.int .i64 r3), (.string r4), (.bool r5), (.string r6), (.int .i64 r7), (.string r8), (Sl.v r9)]) ∧ Q r0 r1 r2 r3 r4 r5 r6 r7 r8 r9 H) := by
  unfold F18 at h
  refine Good.enter' (fn := Tryd.f18) Tryd.func18 rfl rfl rfl ?_
  refine HW.seq ?_
  refine HW.region ?_
  refine HList.ops' rfl (HOp.box (v := (.agg #[(.int .i64 p1_0), (.int .i64 p1_1), (.int .i64 p1_2), (.int .i64 p1_3), (.string p1_4), (.bool p1_5), (.string p1_6), (.int .i64 p1_7), (.string p1_8), (Sl.v p1_9)])) rfl) ?_
  rintro _ H1 ⟨rfl, e2⟩
  replace h := h H1 e2
  refine HList.ops' rfl (HOp.box (v := (.agg #[(.int .i64 p2_0), (.int .i64 p2_1), (.int .i64 p2_2), (.int .i64 p2_3), (.string p2_4), (.bool p2_5), (.string p2_6), (.int .i64 p2_7), (.string p2_8), (Sl.v p2_9)])) rfl) ?_
  rintro _ H3 ⟨rfl, e4⟩
  replace h := h H3 e4
  refine HList.ops' rfl (HOp.alloc Tryd.zeroValue41) ?_
  rintro _ H5 ⟨rfl, e6⟩
  replace h := h H5 e6
  refine HList.nil ?_
  refine nt ?_
  refine HW.seq ?_
  refine HW.region ?_
  refine HList.vals (v := (.int .i64 p0)) rfl (HVal.move' rfl) ?_
  obtain ⟨x8, x9, x10, x11, x12, x13, x14, x15, x16, x17, c7, h⟩ := h
  refine HList.vals (v := (.agg #[(.int .i64 x8), (.int .i64 x9), (.int .i64 x10), (.int .i64 x11), (.string x12), (.bool x13), (.string x14), (.int .i64 x15), (.string x16), (Sl.v x17)])) rfl (HVal.loadN [(.int .i64 x8), (.int .i64 x9), (.int .i64 x10), (.int .i64 x11), (.string x12), (.bool x13), (.string x14), (.int .i64 x15), (.string x16), (Sl.v x17)] Tryd.isAgg41 Tryd.sizeOf41 rfl c7) ?_
  obtain ⟨x19, x20, x21, x22, x23, x24, x25, x26, x27, x28, c18, h⟩ := h
  refine HList.vals (v := (.agg #[(.int .i64 x19), (.int .i64 x20), (.int .i64 x21), (.int .i64 x22), (.string x23), (.bool x24), (.string x25), (.int .i64 x26), (.string x27), (Sl.v x28)])) rfl (HVal.loadN [(.int .i64 x19), (.int .i64 x20), (.int .i64 x21), (.int .i64 x22), (.string x23), (.bool x24), (.string x25), (.int .i64 x26), (.string x27), (Sl.v x28)] Tryd.isAgg41 Tryd.sizeOf41 rfl c18) ?_
  refine HList.ops' rfl (HOp.buildSlice' (zs := [(.int .i64 0), (.int .i64 0), (.int .i64 0), (.int .i64 0), (.string (ByteArray.mk #[])), (.bool false), (.string (ByteArray.mk #[])), (.int .i64 0), (.string (ByteArray.mk #[])), (Sl.v Sl.nil), (.int .i64 0), (.int .i64 0), (.int .i64 0), (.int .i64 0), (.string (ByteArray.mk #[])), (.bool false), (.string (ByteArray.mk #[])), (.int .i64 0), (.string (ByteArray.mk #[])), (Sl.v Sl.nil)]) (cs := [(.int .i64 x8), (.int .i64 x9), (.int .i64 x10), (.int .i64 x11), (.string x12), (.bool x13), (.string x14), (.int .i64 x15), (.string x16), (Sl.v x17), (.int .i64 x19), (.int .i64 x20), (.int .i64 x21), (.int .i64 x22), (.string x23), (.bool x24), (.string x25), (.int .i64 x26), (.string x27), (Sl.v x28)]) Tryd.runUnderlying39 Tryd.sizeOf41 Tryd.zeroValue41 (by decide) (by kernel_rfl) (by kernel_rfl) (by decide)) ?_
  rintro _ H29 ⟨rfl, e30⟩
  replace h := h H29 e30
  refine HList.vals (v := (.agg #[(.int .i64 5), (.int .i64 p0), (.int .i64 0), (.int .i64 0), (.string (ByteArray.mk #[])), (.bool false), (.string (ByteArray.mk #[])), (.int .i64 0), (.string (ByteArray.mk #[])), (Sl.v (Sl.mk (some ⟨H5.size, 0, none⟩) 2 2))])) rfl (HVal.build' (cs := [(.int .i64 5), (.int .i64 p0), (.int .i64 0), (.int .i64 0), (.string (ByteArray.mk #[])), (.bool false), (.string (ByteArray.mk #[])), (.int .i64 0), (.string (ByteArray.mk #[])), (Sl.v (Sl.mk (some ⟨H5.size, 0, none⟩) 2 2))]) Tryd.runUnderlying41 Tryd.zeroValue41 places41 (by kernel_rfl)) ?_
  obtain ⟨z33, h⟩ := h
  refine HList.opsn (HOp.storeN' (l := [(.int .i64 5), (.int .i64 p0), (.int .i64 0), (.int .i64 0), (.string (ByteArray.mk #[])), (.bool false), (.string (ByteArray.mk #[])), (.int .i64 0), (.string (ByteArray.mk #[])), (Sl.v (Sl.mk (some ⟨H5.size, 0, none⟩) 2 2))]) Tryd.sizeOf41 rfl rfl rfl z33) ?_
  rintro _ H31 e32
  replace h := h H31 e32
  refine HList.nil ?_
  refine nt ?_
  refine HW.ret ?_
  obtain ⟨x34, x35, x36, x37, x38, x39, x40, x41, x42, x43, c44, h⟩ := h
  exact ⟨_, resOf1 rfl (Res1.n [(.int .i64 x34), (.int .i64 x35), (.int .i64 x36), (.int .i64 x37), (.string x38), (.bool x39), (.string x40), (.int .i64 x41), (.string x42), (Sl.v x43)] Tryd.isAgg41 Tryd.sizeOf41 rfl c44), ⟨x34, x35, x36, x37, x38, x39, x40, x41, x42, x43, rfl, h⟩⟩

def F19 (p0 : Int) (H : Hp) (Q : Int → Int → Int → Int → ByteArray → Bool → ByteArray → Int → ByteArray → Sl → Hp → Prop) : Prop :=
∀ H1 : Hp, H1 = Array.push H (.cells #[(.int .i64 0), (.int .i64 0), (.int .i64 0), (.int .i64 0), (.string (ByteArray.mk #[])), (.bool false), (.string (ByteArray.mk #[])), (.int .i64 0), (.string (ByteArray.mk #[])), (Sl.v Sl.nil)] 41) → (
 F23 p0 H1 (fun (r5 : Int) (r6 : Int) (r7 : ByteArray) (r8 : Bool) (H3 : Hp) => 
 mayw H3 ⟨H.size, 0, none⟩ 10 0 ∧ ∀ H9 : Hp, H9 = sets H3 ⟨H.size, 0, none⟩ [(.int .i64 1), (.int .i64 0), (.int .i64 r5), (.int .i64 r6), (.string r7), (.bool r8), (.string (ByteArray.mk #[])), (.int .i64 0), (.string (ByteArray.mk #[])), (Sl.v Sl.nil)] 0 → (
 ∃ (x12 : Int) (x13 : Int) (x14 : Int) (x15 : Int) (x16 : ByteArray) (x17 : Bool) (x18 : ByteArray) (x19 : Int) (x20 : ByteArray) (x21 : Sl), cells H9 ⟨H.size, 0, none⟩ [(.int .i64 x12), (.int .i64 x13), (.int .i64 x14), (.int .i64 x15), (.string x16), (.bool x17), (.string x18), (.int .i64 x19), (.string x20), (Sl.v x21)] 0 ∧ (
 Q x12 x13 x14 x15 x16 x17 x18 x19 x20 x21 H9))))
set_option maxRecDepth 100000 in
set_option maxHeartbeats 4000000 in
theorem walk19 {w0 : World} {p0 : Int} {H : Hp} {Q : Int → Int → Int → Int → ByteArray → Bool → ByteArray → Int → ByteArray → Sl → Hp → Prop} (h : F19 p0 H Q) :
    Good Tryd.prog w0 19 #[(.int .i64 p0)] H (fun v H => ∃ (r0 : Int) (r1 : Int) (r2 : Int) (r3 : Int) (r4 : ByteArray) (r5 : Bool) (r6 : ByteArray) (r7 : Int) (r8 : ByteArray) (r9 : Sl) , v = (.agg #[(.int .i64 r0), (.int .i64 r1), (.int .i64 r2), (.int .i64 r3), (.string r4), (.bool r5), (.string r6), (.int .i64 r7), (.string r8), (Sl.v r9)]) ∧ Q r0 r1 r2 r3 r4 r5 r6 r7 r8 r9 H) := by
  unfold F19 at h
  refine Good.enter' (fn := Tryd.f19) Tryd.func19 rfl rfl rfl ?_
  refine HW.seq ?_
  refine HW.region ?_
  refine HList.ops' rfl (HOp.alloc Tryd.zeroValue41) ?_
  rintro _ H1 ⟨rfl, e2⟩
  replace h := h H1 e2
  refine HList.nil ?_
  refine nt ?_
  refine HW.seq ?_
  refine HW.region ?_
  refine HList.vals (v := (.int .i64 p0)) rfl (HVal.move' rfl) ?_
  refine HList.ops' rfl (HOp.call' 23 [(.int .i64 p0)] (cap := []) rfl rfl Tryd.call23 (walk23 h)) ?_
  rintro _ H3 ⟨r5, r6, r7, r8, rfl, h⟩
  refine HList.vals (v := (.agg #[(.int .i64 1), (.int .i64 0), (.int .i64 r5), (.int .i64 r6), (.string r7), (.bool r8), (.string (ByteArray.mk #[])), (.int .i64 0), (.string (ByteArray.mk #[])), (Sl.v Sl.nil)])) rfl (HVal.build' (cs := [(.int .i64 1), (.int .i64 0), (.int .i64 r5), (.int .i64 r6), (.string r7), (.bool r8), (.string (ByteArray.mk #[])), (.int .i64 0), (.string (ByteArray.mk #[])), (Sl.v Sl.nil)]) Tryd.runUnderlying41 Tryd.zeroValue41 places41 (by kernel_rfl)) ?_
  obtain ⟨z11, h⟩ := h
  refine HList.opsn (HOp.storeN' (l := [(.int .i64 1), (.int .i64 0), (.int .i64 r5), (.int .i64 r6), (.string r7), (.bool r8), (.string (ByteArray.mk #[])), (.int .i64 0), (.string (ByteArray.mk #[])), (Sl.v Sl.nil)]) Tryd.sizeOf41 rfl rfl rfl z11) ?_
  rintro _ H9 e10
  replace h := h H9 e10
  refine HList.nil ?_
  refine nt ?_
  refine HW.ret ?_
  obtain ⟨x12, x13, x14, x15, x16, x17, x18, x19, x20, x21, c22, h⟩ := h
  exact ⟨_, resOf1 rfl (Res1.n [(.int .i64 x12), (.int .i64 x13), (.int .i64 x14), (.int .i64 x15), (.string x16), (.bool x17), (.string x18), (.int .i64 x19), (.string x20), (Sl.v x21)] Tryd.isAgg41 Tryd.sizeOf41 rfl c22), ⟨x12, x13, x14, x15, x16, x17, x18, x19, x20, x21, rfl, h⟩⟩

def F60 (p0 : Int) (H : Hp) (Q : Int → Int → ByteArray → Bool → Hp → Prop) : Prop :=
∀ H1 : Hp, H1 = Array.push H (.cells #[(.int .i64 0), (.int .i64 0), (.string (ByteArray.mk #[])), (.bool false)] 38) → (
 mayw H1 ⟨H.size, 0, none⟩ 4 0 ∧ ∀ H3 : Hp, H3 = sets H1 ⟨H.size, 0, none⟩ [(.int .i64 1), (.int .i64 p0), (.string (ByteArray.mk #[])), (.bool false)] 0 → (
 ∃ (x6 : Int) (x7 : Int) (x8 : ByteArray) (x9 : Bool), cells H3 ⟨H.size, 0, none⟩ [(.int .i64 x6), (.int .i64 x7), (.string x8), (.bool x9)] 0 ∧ (
 Q x6 x7 x8 x9 H3)))
set_option maxRecDepth 100000 in
set_option maxHeartbeats 4000000 in
theorem walk60 {w0 : World} {p0 : Int} {H : Hp} {Q : Int → Int → ByteArray → Bool → Hp → Prop} (h : F60 p0 H Q) :
    Good Tryd.prog w0 60 #[(.int .i64 p0)] H (fun v H => ∃ (r0 : Int) (r1 : Int) (r2 : ByteArray) (r3 : Bool) , v = (.agg #[(.int .i64 r0), (.int .i64 r1), (.string r2), (.bool r3)]) ∧ Q r0 r1 r2 r3 H) := by
  unfold F60 at h
  refine Good.enter' (fn := Tryd.f60) Tryd.func60 rfl rfl rfl ?_
  refine HW.seq ?_
  refine HW.region ?_
  refine HList.ops' rfl (HOp.alloc Tryd.zeroValue38) ?_
  rintro _ H1 ⟨rfl, e2⟩
  replace h := h H1 e2
  refine HList.nil ?_
  refine nt ?_
  refine HW.seq ?_
  refine HW.region ?_
  refine HList.vals (v := (.int .i64 p0)) rfl (HVal.move' rfl) ?_
  refine HList.vals (v := (.agg #[(.int .i64 1), (.int .i64 p0), (.string (ByteArray.mk #[])), (.bool false)])) rfl (HVal.build' (cs := [(.int .i64 1), (.int .i64 p0), (.string (ByteArray.mk #[])), (.bool false)]) Tryd.runUnderlying38 Tryd.zeroValue38 places38 rfl) ?_
  obtain ⟨z5, h⟩ := h
  refine HList.opsn (HOp.storeN' (l := [(.int .i64 1), (.int .i64 p0), (.string (ByteArray.mk #[])), (.bool false)]) Tryd.sizeOf38 rfl rfl rfl z5) ?_
  rintro _ H3 e4
  replace h := h H3 e4
  refine HList.nil ?_
  refine nt ?_
  refine HW.ret ?_
  obtain ⟨x6, x7, x8, x9, c10, h⟩ := h
  exact ⟨_, resOf1 rfl (Res1.n [(.int .i64 x6), (.int .i64 x7), (.string x8), (.bool x9)] Tryd.isAgg38 Tryd.sizeOf38 rfl c10), ⟨x6, x7, x8, x9, rfl, h⟩⟩

def F61 (p0 : ByteArray) (H : Hp) (Q : Int → Int → ByteArray → Bool → Hp → Prop) : Prop :=
∀ H1 : Hp, H1 = Array.push H (.cells #[(.int .i64 0), (.int .i64 0), (.string (ByteArray.mk #[])), (.bool false)] 38) → (
 mayw H1 ⟨H.size, 0, none⟩ 4 0 ∧ ∀ H3 : Hp, H3 = sets H1 ⟨H.size, 0, none⟩ [(.int .i64 2), (.int .i64 0), (.string p0), (.bool false)] 0 → (
 ∃ (x6 : Int) (x7 : Int) (x8 : ByteArray) (x9 : Bool), cells H3 ⟨H.size, 0, none⟩ [(.int .i64 x6), (.int .i64 x7), (.string x8), (.bool x9)] 0 ∧ (
 Q x6 x7 x8 x9 H3)))
set_option maxRecDepth 100000 in
set_option maxHeartbeats 4000000 in
theorem walk61 {w0 : World} {p0 : ByteArray} {H : Hp} {Q : Int → Int → ByteArray → Bool → Hp → Prop} (h : F61 p0 H Q) :
    Good Tryd.prog w0 61 #[(.string p0)] H (fun v H => ∃ (r0 : Int) (r1 : Int) (r2 : ByteArray) (r3 : Bool) , v = (.agg #[(.int .i64 r0), (.int .i64 r1), (.string r2), (.bool r3)]) ∧ Q r0 r1 r2 r3 H) := by
  unfold F61 at h
  refine Good.enter' (fn := Tryd.f61) Tryd.func61 rfl rfl rfl ?_
  refine HW.seq ?_
  refine HW.region ?_
  refine HList.ops' rfl (HOp.alloc Tryd.zeroValue38) ?_
  rintro _ H1 ⟨rfl, e2⟩
  replace h := h H1 e2
  refine HList.nil ?_
  refine nt ?_
  refine HW.seq ?_
  refine HW.region ?_
  refine HList.vals (v := (.string p0)) rfl (HVal.move' rfl) ?_
  refine HList.vals (v := (.agg #[(.int .i64 2), (.int .i64 0), (.string p0), (.bool false)])) rfl (HVal.build' (cs := [(.int .i64 2), (.int .i64 0), (.string p0), (.bool false)]) Tryd.runUnderlying38 Tryd.zeroValue38 places38 rfl) ?_
  obtain ⟨z5, h⟩ := h
  refine HList.opsn (HOp.storeN' (l := [(.int .i64 2), (.int .i64 0), (.string p0), (.bool false)]) Tryd.sizeOf38 rfl rfl rfl z5) ?_
  rintro _ H3 e4
  replace h := h H3 e4
  refine HList.nil ?_
  refine nt ?_
  refine HW.ret ?_
  obtain ⟨x6, x7, x8, x9, c10, h⟩ := h
  exact ⟨_, resOf1 rfl (Res1.n [(.int .i64 x6), (.int .i64 x7), (.string x8), (.bool x9)] Tryd.isAgg38 Tryd.sizeOf38 rfl c10), ⟨x6, x7, x8, x9, rfl, h⟩⟩

def F62 (p0 : Bool) (H : Hp) (Q : Int → Int → ByteArray → Bool → Hp → Prop) : Prop :=
∀ H1 : Hp, H1 = Array.push H (.cells #[(.int .i64 0), (.int .i64 0), (.string (ByteArray.mk #[])), (.bool false)] 38) → (
 mayw H1 ⟨H.size, 0, none⟩ 4 0 ∧ ∀ H3 : Hp, H3 = sets H1 ⟨H.size, 0, none⟩ [(.int .i64 3), (.int .i64 0), (.string (ByteArray.mk #[])), (.bool p0)] 0 → (
 ∃ (x6 : Int) (x7 : Int) (x8 : ByteArray) (x9 : Bool), cells H3 ⟨H.size, 0, none⟩ [(.int .i64 x6), (.int .i64 x7), (.string x8), (.bool x9)] 0 ∧ (
 Q x6 x7 x8 x9 H3)))
set_option maxRecDepth 100000 in
set_option maxHeartbeats 4000000 in
theorem walk62 {w0 : World} {p0 : Bool} {H : Hp} {Q : Int → Int → ByteArray → Bool → Hp → Prop} (h : F62 p0 H Q) :
    Good Tryd.prog w0 62 #[(.bool p0)] H (fun v H => ∃ (r0 : Int) (r1 : Int) (r2 : ByteArray) (r3 : Bool) , v = (.agg #[(.int .i64 r0), (.int .i64 r1), (.string r2), (.bool r3)]) ∧ Q r0 r1 r2 r3 H) := by
  unfold F62 at h
  refine Good.enter' (fn := Tryd.f62) Tryd.func62 rfl rfl rfl ?_
  refine HW.seq ?_
  refine HW.region ?_
  refine HList.ops' rfl (HOp.alloc Tryd.zeroValue38) ?_
  rintro _ H1 ⟨rfl, e2⟩
  replace h := h H1 e2
  refine HList.nil ?_
  refine nt ?_
  refine HW.seq ?_
  refine HW.region ?_
  refine HList.vals (v := (.bool p0)) rfl (HVal.move' rfl) ?_
  refine HList.vals (v := (.agg #[(.int .i64 3), (.int .i64 0), (.string (ByteArray.mk #[])), (.bool p0)])) rfl (HVal.build' (cs := [(.int .i64 3), (.int .i64 0), (.string (ByteArray.mk #[])), (.bool p0)]) Tryd.runUnderlying38 Tryd.zeroValue38 places38 rfl) ?_
  obtain ⟨z5, h⟩ := h
  refine HList.opsn (HOp.storeN' (l := [(.int .i64 3), (.int .i64 0), (.string (ByteArray.mk #[])), (.bool p0)]) Tryd.sizeOf38 rfl rfl rfl z5) ?_
  rintro _ H3 e4
  replace h := h H3 e4
  refine HList.nil ?_
  refine nt ?_
  refine HW.ret ?_
  obtain ⟨x6, x7, x8, x9, c10, h⟩ := h
  exact ⟨_, resOf1 rfl (Res1.n [(.int .i64 x6), (.int .i64 x7), (.string x8), (.bool x9)] Tryd.isAgg38 Tryd.sizeOf38 rfl c10), ⟨x6, x7, x8, x9, rfl, h⟩⟩

def F46 (p0_0 : Int) (p0_1 : Int) (p0_2 : ByteArray) (p0_3 : Bool) (H : Hp) (Q : Bool → Hp → Prop) : Prop :=
∀ H1 : Hp, H1 = Array.push H (.cells #[(.int .i64 p0_0), (.int .i64 p0_1), (.string p0_2), (.bool p0_3)] 38) → (
 ∃ x4 : Int, cell H1 ⟨H.size, 0, none⟩ = some (.int .i64 x4) ∧ (
 ((decide (x4 = 1)) = true → (∃ (x7 : Int) (x8 : Int) (x9 : ByteArray) (x10 : Bool), cells H1 ⟨H.size, 0, none⟩ [(.int .i64 x7), (.int .i64 x8), (.string x9), (.bool x10)] 0 ∧ (
 ∃ x12 : Int, cell H1 (Addr.add ⟨H.size, 0, none⟩ 1) = some (.int .i64 x12) ∧ (
 F60 x12 H1 (fun (r15 : Int) (r16 : Int) (r17 : ByteArray) (r18 : Bool) (H13 : Hp) => 
 cells H13 ⟨H.size, 0, none⟩ [(.int .i64 x7), (.int .i64 x8), (.string x9), (.bool x10)] 0 ∧ (
 Q (decide (x7 = r15) && (decide (x8 = r16) && (seq x9 r17 && (x10 == r18)))) H13)))))) ∧
 ((decide (x4 = 1)) = false → (((decide (x4 = 2)) = true → (∃ (x22 : Int) (x23 : Int) (x24 : ByteArray) (x25 : Bool), cells H1 ⟨H.size, 0, none⟩ [(.int .i64 x22), (.int .i64 x23), (.string x24), (.bool x25)] 0 ∧ (
 ∃ x27 : ByteArray, cell H1 (Addr.add ⟨H.size, 0, none⟩ 2) = some (.string x27) ∧ (
 F61 x27 H1 (fun (r30 : Int) (r31 : Int) (r32 : ByteArray) (r33 : Bool) (H28 : Hp) => 
 cells H28 ⟨H.size, 0, none⟩ [(.int .i64 x22), (.int .i64 x23), (.string x24), (.bool x25)] 0 ∧ (
 ((decide (x22 = r30) && (decide (x23 = r31) && (seq x24 r32 && (x25 == r33)))) = true → (∃ x38 : ByteArray, cell H28 (Addr.add ⟨H.size, 0, none⟩ 2) = some (.string x38) ∧ (
 Q (decide (((x38).size : Int) ≤ 256)) H28))) ∧
 ((decide (x22 = r30) && (decide (x23 = r31) && (seq x24 r32 && (x25 == r33)))) = false → (Q false H28)))))))) ∧
 ((decide (x4 = 2)) = false → (((decide (x4 = 3)) = true → (∃ (x41 : Int) (x42 : Int) (x43 : ByteArray) (x44 : Bool), cells H1 ⟨H.size, 0, none⟩ [(.int .i64 x41), (.int .i64 x42), (.string x43), (.bool x44)] 0 ∧ (
 ∃ x46 : Bool, cell H1 (Addr.add ⟨H.size, 0, none⟩ 3) = some (.bool x46) ∧ (
 F62 x46 H1 (fun (r49 : Int) (r50 : Int) (r51 : ByteArray) (r52 : Bool) (H47 : Hp) => 
 cells H47 ⟨H.size, 0, none⟩ [(.int .i64 x41), (.int .i64 x42), (.string x43), (.bool x44)] 0 ∧ (
 Q (decide (x41 = r49) && (decide (x42 = r50) && (seq x43 r51 && (x44 == r52)))) H47)))))) ∧
 ((decide (x4 = 3)) = false → (Q false H1))))))))
set_option maxRecDepth 100000 in
set_option maxHeartbeats 4000000 in
theorem walk46 {w0 : World} {p0_0 : Int} {p0_1 : Int} {p0_2 : ByteArray} {p0_3 : Bool} {H : Hp} {Q : Bool → Hp → Prop} (h : F46 p0_0 p0_1 p0_2 p0_3 H Q) :
    Good Tryd.prog w0 46 #[(.agg #[(.int .i64 p0_0), (.int .i64 p0_1), (.string p0_2), (.bool p0_3)])] H (fun v H => ∃ (r0 : Bool) , v = (.bool r0) ∧ Q r0 H) := by
  unfold F46 at h
  refine Good.enter' (fn := Tryd.f46) Tryd.func46 rfl rfl rfl ?_
  refine HW.seq ?_
  refine HW.region ?_
  refine HList.ops' rfl (HOp.box (v := (.agg #[(.int .i64 p0_0), (.int .i64 p0_1), (.string p0_2), (.bool p0_3)])) rfl) ?_
  rintro _ H1 ⟨rfl, e2⟩
  replace h := h H1 e2
  refine HList.vals (v := (.bool false)) rfl (HVal.assign' rfl) ?_
  refine HList.nil ?_
  refine nt ?_
  refine HW.seq ?_
  refine HW.seq ?_
  refine HW.region ?_
  refine HList.vals (v := (.pointer (some ⟨H.size, 0, none⟩))) rfl (HVal.fieldAddr0 Tryd.runUnderlying38 rfl rfl Tryd.sizeOf3 rfl) ?_
  obtain ⟨x4, c3, h⟩ := h
  refine HList.vals (v := (.int .i64 x4)) rfl (HVal.load1 Tryd.isAgg3 rfl c3) ?_
  refine HList.nil ?_
  refine nt ?_
  refine HW.block ?_
  refine HW.seq ?_
  refine HW.region ?_
  refine HList.vals (v := (.bool (decide (x4 = 1)))) rfl (HVal.eqlI rfl rfl) ?_
  refine HList.vals (v := (.bool (decide (x4 = 1)))) rfl (HVal.assign' rfl) ?_
  refine HList.nil ?_
  refine nt ?_
  obtain ⟨hT, hF⟩ := h
  refine HW.cond (decide (x4 = 1)) rfl (fun hb5 => ?_) (fun hb5 => ?_)
  · have h := hT hb5
    clear hT hF
    refine HW.seq ?_
    refine HW.draw mixed [(0, some []), (1, some []), (2, some [3]), (3, none), (4, some []), (5, some [])] rfl (by kernel_rfl) (by kernel_rfl) ?_
    obtain ⟨x7, x8, x9, x10, c6, h⟩ := h
    refine HPlan.takel (v := (.agg #[(.int .i64 x7), (.int .i64 x8), (.string x9), (.bool x10)])) (fun X => cells X ⟨H.size, 0, none⟩ [(.int .i64 x7), (.int .i64 x8), (.string x9), (.bool x10)] 0) rfl rfl (fun _ hX => HVal.loadN [(.int .i64 x7), (.int .i64 x8), (.string x9), (.bool x10)] Tryd.isAgg38 Tryd.sizeOf38 rfl hX) c6 ?_
    refine HPlan.takev (v := (.pointer (some (Addr.add ⟨H.size, 0, none⟩ 1)))) rfl rfl (fun _ => HVal.fieldAddr' Tryd.runUnderlying38 rfl rfl Tryd.sizeOf2 rfl) ?_
    obtain ⟨x12, c11, h⟩ := h
    refine HPlan.takel (v := (.int .i64 x12)) (fun X => cell X (Addr.add ⟨H.size, 0, none⟩ 1) = some (.int .i64 x12)) rfl rfl (fun _ hX => HVal.load1 Tryd.isAgg2 rfl hX) c11 ?_
    refine HPlan.ops' rfl rfl (HOp.call' 60 [(.int .i64 x12)] (cap := []) rfl rfl Tryd.call60 (walk60 h)) ?_
    rintro _ H13 ⟨r15, r16, r17, r18, rfl, h⟩
    obtain ⟨s19, h⟩ := h
    refine ⟨SC_of ⟨fun e => absurd e (by decide), fun _ => s19, trivial⟩, ?_⟩
    refine HPlan.takev (v := (.bool (decide (x7 = r15) && (decide (x8 = r16) && (seq x9 r17 && (x10 == r18)))))) rfl rfl (fun _ => eqs38_eql rfl rfl) ?_
    refine HPlan.takev (v := (.bool (decide (x7 = r15) && (decide (x8 = r16) && (seq x9 r17 && (x10 == r18)))))) rfl rfl (fun _ => HVal.assign' rfl) ?_
    refine HPlan.done ?_
    refine nt ?_
    refine HW.ret ?_
    refine br ?_
    refine tr ?_
    exact ⟨_, resOf1 rfl Res1.t, ⟨(decide (x7 = r15) && (decide (x8 = r16) && (seq x9 r17 && (x10 == r18)))), rfl, h⟩⟩
  · have h := hF hb5
    clear hT hF
    refine HW.seq ?_
    refine HW.region ?_
    refine HList.vals (v := (.bool (decide (x4 = 2)))) rfl (HVal.eqlI rfl rfl) ?_
    refine HList.vals (v := (.bool (decide (x4 = 2)))) rfl (HVal.assign' rfl) ?_
    refine HList.nil ?_
    refine nt ?_
    obtain ⟨hT, hF⟩ := h
    refine HW.cond (decide (x4 = 2)) rfl (fun hb20 => ?_) (fun hb20 => ?_)
    · have h := hT hb20
      clear hT hF
      refine HW.seq ?_
      refine HW.draw mixed [(0, some []), (1, some []), (2, some [3]), (3, none), (4, some []), (5, some []), (6, some []), (7, some []), (8, some []), (9, some []), (10, some []), (11, some [])] rfl (by kernel_rfl) (by kernel_rfl) ?_
      obtain ⟨x22, x23, x24, x25, c21, h⟩ := h
      refine HPlan.takel (v := (.agg #[(.int .i64 x22), (.int .i64 x23), (.string x24), (.bool x25)])) (fun X => cells X ⟨H.size, 0, none⟩ [(.int .i64 x22), (.int .i64 x23), (.string x24), (.bool x25)] 0) rfl rfl (fun _ hX => HVal.loadN [(.int .i64 x22), (.int .i64 x23), (.string x24), (.bool x25)] Tryd.isAgg38 Tryd.sizeOf38 rfl hX) c21 ?_
      refine HPlan.takev (v := (.pointer (some (Addr.add ⟨H.size, 0, none⟩ 2)))) rfl rfl (fun _ => HVal.fieldAddr' Tryd.runUnderlying38 rfl rfl Tryd.sizeOf9 rfl) ?_
      obtain ⟨x27, c26, h⟩ := h
      refine HPlan.takel (v := (.string x27)) (fun X => cell X (Addr.add ⟨H.size, 0, none⟩ 2) = some (.string x27)) rfl rfl (fun _ hX => HVal.load1 Tryd.isAgg9 rfl hX) c26 ?_
      refine HPlan.ops' rfl rfl (HOp.call' 61 [(.string x27)] (cap := []) rfl rfl Tryd.call61 (walk61 h)) ?_
      rintro _ H28 ⟨r30, r31, r32, r33, rfl, h⟩
      obtain ⟨s34, h⟩ := h
      refine ⟨SC_of ⟨fun e => absurd e (by decide), fun _ => s34, trivial⟩, ?_⟩
      refine HPlan.takev (v := (.bool (decide (x22 = r30) && (decide (x23 = r31) && (seq x24 r32 && (x25 == r33)))))) rfl rfl (fun _ => eqs38_eql rfl rfl) ?_
      refine HPlan.takev (v := (.bool (decide (x22 = r30) && (decide (x23 = r31) && (seq x24 r32 && (x25 == r33)))))) rfl rfl (fun _ => HVal.move' rfl) ?_
      obtain ⟨hT, hF⟩ := h
      rcases Bool.eq_false_or_eq_true (decide (x22 = r30) && (decide (x23 = r31) && (seq x24 r32 && (x25 == r33)))) with hb35 | hb36
      · have h := hT hb35
        clear hT hF
        refine HPlan.gtakev (v := (.pointer (some (Addr.add ⟨H.size, 0, none⟩ 2)))) rfl rfl rfl rfl rfl (congrArg Value.bool hb35) (fun _ => HVal.fieldAddr' Tryd.runUnderlying38 rfl rfl Tryd.sizeOf9 rfl) ?_
        obtain ⟨x38, c37, h⟩ := h
        refine HPlan.gtakel (v := (.string x38)) (fun X => cell X (Addr.add ⟨H.size, 0, none⟩ 2) = some (.string x38)) rfl rfl rfl rfl rfl (congrArg Value.bool hb35) (fun _ hX => HVal.load1 Tryd.isAgg9 rfl hX) c37 ?_
        refine HPlan.gtakev (v := (.int .i64 ((x38).size : Int))) rfl rfl rfl rfl rfl (congrArg Value.bool hb35) (fun _ => HVal.lenS Tryd.runUnderlying9 rfl) ?_
        refine HPlan.gtakev (v := (.bool (decide (((x38).size : Int) ≤ 256)))) rfl rfl rfl rfl rfl (congrArg Value.bool hb35) (fun _ => HVal.leq rfl rfl) ?_
        refine HPlan.takev (v := (.bool (decide (((x38).size : Int) ≤ 256)))) rfl rfl (fun _ => HVal.pickT rfl hb35 rfl) ?_
        refine HPlan.takev (v := (.bool (decide (((x38).size : Int) ≤ 256)))) rfl rfl (fun _ => HVal.assign' rfl) ?_
        refine HPlan.done ?_
        refine nt ?_
        refine HW.ret ?_
        refine br ?_
        refine tr ?_
        exact ⟨_, resOf1 rfl Res1.t, ⟨(decide (((x38).size : Int) ≤ 256)), rfl, h⟩⟩
      · have h := hF hb36
        clear hT hF
        refine HPlan.takegskip rfl rfl rfl rfl (congrArg Value.bool hb36) ?_
        refine HPlan.takegskip rfl rfl rfl rfl (congrArg Value.bool hb36) ?_
        refine HPlan.takegskip rfl rfl rfl rfl (congrArg Value.bool hb36) ?_
        refine HPlan.takegskip rfl rfl rfl rfl (congrArg Value.bool hb36) ?_
        refine HPlan.takev (v := (.bool false)) rfl rfl (fun _ => HVal.pickF rfl hb36 rfl) ?_
        refine HPlan.takev (v := (.bool false)) rfl rfl (fun _ => HVal.assign' rfl) ?_
        refine HPlan.done ?_
        refine nt ?_
        refine HW.ret ?_
        refine br ?_
        refine tr ?_
        exact ⟨_, resOf1 rfl Res1.t, ⟨false, rfl, h⟩⟩
    · have h := hF hb20
      clear hT hF
      refine HW.seq ?_
      refine HW.region ?_
      refine HList.vals (v := (.bool (decide (x4 = 3)))) rfl (HVal.eqlI rfl rfl) ?_
      refine HList.vals (v := (.bool (decide (x4 = 3)))) rfl (HVal.assign' rfl) ?_
      refine HList.nil ?_
      refine nt ?_
      obtain ⟨hT, hF⟩ := h
      refine HW.cond (decide (x4 = 3)) rfl (fun hb39 => ?_) (fun hb39 => ?_)
      · have h := hT hb39
        clear hT hF
        refine HW.seq ?_
        refine HW.draw mixed [(0, some []), (1, some []), (2, some [3]), (3, none), (4, some []), (5, some [])] rfl (by kernel_rfl) (by kernel_rfl) ?_
        obtain ⟨x41, x42, x43, x44, c40, h⟩ := h
        refine HPlan.takel (v := (.agg #[(.int .i64 x41), (.int .i64 x42), (.string x43), (.bool x44)])) (fun X => cells X ⟨H.size, 0, none⟩ [(.int .i64 x41), (.int .i64 x42), (.string x43), (.bool x44)] 0) rfl rfl (fun _ hX => HVal.loadN [(.int .i64 x41), (.int .i64 x42), (.string x43), (.bool x44)] Tryd.isAgg38 Tryd.sizeOf38 rfl hX) c40 ?_
        refine HPlan.takev (v := (.pointer (some (Addr.add ⟨H.size, 0, none⟩ 3)))) rfl rfl (fun _ => HVal.fieldAddr' Tryd.runUnderlying38 rfl rfl Tryd.sizeOf4 rfl) ?_
        obtain ⟨x46, c45, h⟩ := h
        refine HPlan.takel (v := (.bool x46)) (fun X => cell X (Addr.add ⟨H.size, 0, none⟩ 3) = some (.bool x46)) rfl rfl (fun _ hX => HVal.load1 Tryd.isAgg4 rfl hX) c45 ?_
        refine HPlan.ops' rfl rfl (HOp.call' 62 [(.bool x46)] (cap := []) rfl rfl Tryd.call62 (walk62 h)) ?_
        rintro _ H47 ⟨r49, r50, r51, r52, rfl, h⟩
        obtain ⟨s53, h⟩ := h
        refine ⟨SC_of ⟨fun e => absurd e (by decide), fun _ => s53, trivial⟩, ?_⟩
        refine HPlan.takev (v := (.bool (decide (x41 = r49) && (decide (x42 = r50) && (seq x43 r51 && (x44 == r52)))))) rfl rfl (fun _ => eqs38_eql rfl rfl) ?_
        refine HPlan.takev (v := (.bool (decide (x41 = r49) && (decide (x42 = r50) && (seq x43 r51 && (x44 == r52)))))) rfl rfl (fun _ => HVal.assign' rfl) ?_
        refine HPlan.done ?_
        refine nt ?_
        refine HW.ret ?_
        refine br ?_
        refine tr ?_
        exact ⟨_, resOf1 rfl Res1.t, ⟨(decide (x41 = r49) && (decide (x42 = r50) && (seq x43 r51 && (x44 == r52)))), rfl, h⟩⟩
      · have h := hF hb39
        clear hT hF
        refine HW.skip ?_
        refine nb ?_
        refine nt ?_
        refine HW.seq ?_
        refine HW.region ?_
        refine HList.vals (v := (.bool false)) rfl (HVal.assign' rfl) ?_
        refine HList.nil ?_
        refine nt ?_
        refine HW.ret ?_
        exact ⟨_, resOf1 rfl Res1.t, ⟨false, rfl, h⟩⟩

def F77_L1b (Q : Int → Hp → Prop) (X1 : Int → Hp → Prop) (y2 : Sl) (y3 : ByteArray) (y4 : Int) (y1 : Int) (H_1 : Hp) : Prop :=
((decide (y1 < y4)) = true → (∃ a6 : Addr, (y2).b = some a6 ∧ (0 : Int) ≤ y1 ∧ y1 < ((y2).n : Int) ∧ (
 ∃ x11 : ByteArray, cell H_1 (Addr.add a6 (y1.toNat * 1)) = some (.string x11) ∧ (
 ((seq y3 x11) = true → (Q y1 H_1)) ∧
 ((seq y3 x11) = false → (X1 (IntKind.i64.wrap (y1 + 1)) H_1)))))) ∧
 ((decide (y1 < y4)) = false → (Q (-1) H_1))
def F77_L1 (Q : Int → Hp → Prop) (y2 : Sl) (y3 : ByteArray) (y4 : Int) (y1 : Int) (H_1 : Hp) : Prop :=
  ∀ X1 : Int → Hp → Prop, (∀ (y1 : Int) (H_1 : Hp), F77_L1b Q X1 y2 y3 y4 y1 H_1 → X1 y1 H_1) → X1 y1 H_1
def F77 (p0 : Sl) (p1 : ByteArray) (H : Hp) (Q : Int → Hp → Prop) : Prop :=
F77_L1 Q p0 p1 ((p0).n : Int) 0 H
set_option maxRecDepth 100000 in
set_option maxHeartbeats 4000000 in
theorem walk77 {w0 : World} {p0 : Sl} {p1 : ByteArray} {H : Hp} {Q : Int → Hp → Prop} (h : F77 p0 p1 H Q) :
    Good Tryd.prog w0 77 #[(Sl.v p0), (.string p1)] H (fun v H => ∃ (r0 : Int) , v = (.int .i64 r0) ∧ Q r0 H) := by
  unfold F77 at h
  refine Good.enter' (fn := Tryd.f77) Tryd.func77 rfl rfl rfl ?_
  refine HW.seq ?_
  refine HW.region ?_
  refine HList.vals (v := (.int .i64 0)) rfl (HVal.assign' rfl) ?_
  refine HList.nil ?_
  refine nt ?_
  refine HW.seq ?_
  refine HW.seq ?_
  refine HW.region ?_
  refine HList.vals (v := (Sl.v p0)) rfl (HVal.move' rfl) ?_
  refine HList.vals (v := (.int .i64 ((p0).n : Int))) rfl (HVal.len Tryd.runUnderlying29 rfl) ?_
  refine HList.vals (v := (.int .i64 0)) rfl (HVal.move' rfl) ?_
  refine HList.nil ?_
  refine nt ?_
  refine HW.block ?_
  refine HW.loop' (fun L1 hL1 => ?_)
  obtain ⟨X1, hX1⟩ : ∃ X1 : Int → Hp → Prop, ∀ (y1 : Int) (H_1 : Hp), X1 y1 H_1 ↔ ∀ ρ, Env.Is ρ [(0, (Sl.v p0)), (1, (.string p1)), (7, (.int .i64 ((p0).n : Int))), (8, (.int .i64 y1))] → L1 ρ H_1 := ⟨_, fun _ _ => Iff.rfl⟩
  refine (hX1 _ _).1 (h X1 ?_) _ ?_
  rotate_left
  · exact ⟨rfl, rfl, rfl, rfl, trivial⟩
  clear h
  intro y1 H_1 h
  refine (hX1 _ _).2 fun ρ hI => ?_
  obtain ⟨ρ0, rfl⟩ : ∃ ρ0, ρ = (Env.set (Env.set (Env.set (Env.set ρ0 8 (.int .i64 y1)) 7 (.int .i64 ((p0).n : Int))) 1 (.string p1)) 0 (Sl.v p0)) := ⟨ρ, hI.eq⟩
  clear hI; unfold F77_L1b at h; refine hL1 _ _ ?_
  refine HW.seq ?_
  refine HW.region ?_
  refine HList.vals (v := (.bool (decide (y1 < ((p0).n : Int))))) rfl (HVal.lss rfl rfl) ?_
  refine HList.nil ?_
  refine nt ?_
  refine HW.seq ?_
  obtain ⟨hT, hF⟩ := h
  refine HW.cond (decide (y1 < ((p0).n : Int))) rfl (fun hb5 => ?_) (fun hb5 => ?_)
  · have h := hT hb5
    clear hT hF
    refine HW.skip ?_
    refine nt ?_
    refine HW.seq ?_
    refine HW.block ?_
    refine HW.seq ?_
    refine HW.region ?_
    refine HList.vals (v := (.int .i64 y1)) rfl (HVal.move' rfl) ?_
    refine HList.vals (v := (.int .i64 y1)) rfl (HVal.assign' rfl) ?_
    refine HList.nil ?_
    refine nt ?_
    refine HW.seq ?_
    refine HW.region ?_
    refine HList.vals (v := (.string p1)) rfl (HVal.move' rfl) ?_
    refine HList.vals (v := (Sl.v p0)) rfl (HVal.move' rfl) ?_
    refine HList.vals (v := (.int .i64 y1)) rfl (HVal.move' rfl) ?_
    obtain ⟨a6, e7, b8, b9, h⟩ := h
    refine HList.vals (v := (.pointer (some (Addr.add a6 (y1.toNat * 1))))) rfl (HVal.indexAddr Tryd.runUnderlying29 Tryd.sizeOf9 (Sl.v_some rfl e7) rfl b8 b9) ?_
    obtain ⟨x11, c10, h⟩ := h
    refine HList.vals (v := (.string x11)) rfl (HVal.load1 Tryd.isAgg9 rfl c10) ?_
    refine HList.vals (v := (.bool (seq p1 x11))) rfl (HVal.eqlS rfl rfl) ?_
    refine HList.nil ?_
    refine nt ?_
    obtain ⟨hT, hF⟩ := h
    refine HW.cond (seq p1 x11) rfl (fun hb12 => ?_) (fun hb12 => ?_)
    · have h := hT hb12
      clear hT hF
      refine HW.seq ?_
      refine HW.region ?_
      refine HList.vals (v := (.int .i64 y1)) rfl (HVal.move' rfl) ?_
      refine HList.vals (v := (.int .i64 y1)) rfl (HVal.assign' rfl) ?_
      refine HList.nil ?_
      refine nt ?_
      refine HW.ret ?_
      refine br ?_
      refine tr ?_
      refine tr ?_
      refine br ?_
      refine tr ?_
      exact ⟨_, resOf1 rfl Res1.t, ⟨y1, rfl, h⟩⟩
    · have h := hF hb12
      clear hT hF
      refine HW.skip ?_
      refine nb ?_
      refine nt ?_
      refine HW.region ?_
      refine HList.vals (v := (.int .i64 (IntKind.i64.wrap (y1 + 1)))) rfl (HVal.add rfl rfl) ?_
      refine HList.vals (v := (.int .i64 (IntKind.i64.wrap (y1 + 1)))) rfl (HVal.move' rfl) ?_
      refine HList.nil ?_
      refine nt ?_
      exact (hX1 _ _).1 h _ ⟨rfl, rfl, rfl, rfl, trivial⟩
  · have h := hF hb5
    clear hT hF
    refine HW.exit ?_
    refine te ?_
    refine te ?_
    refine be ?_
    refine nt ?_
    refine HW.seq ?_
    refine HW.region ?_
    refine HList.vals (v := (.int .i64 (-1))) rfl (HVal.assign' rfl) ?_
    refine HList.nil ?_
    refine nt ?_
    refine HW.ret ?_
    exact ⟨_, resOf1 rfl Res1.t, ⟨(-1), rfl, h⟩⟩

def F69_1 (Q : Sl → Bool → Hp → Prop) (y8 : Addr) (y9 : Int) (y12 : Bool) (H_1 : Hp) : Prop :=
(y12 = true → (Q Sl.nil false H_1)) ∧
 (y12 = false → (∃ x17 : Sl, cell H_1 (Addr.add y8 1) = some (Sl.v x17) ∧ (
 ∃ a18 : Addr, (x17).b = some a18 ∧ (0 : Int) ≤ y9 ∧ y9 < ((x17).n : Int) ∧ (
 ∃ x23 : Sl, cell H_1 (Addr.add a18 (y9.toNat * 1)) = some (Sl.v x23) ∧ (
 Q x23 true H_1)))))
def F69 (p0_0 : Sl) (p0_1 : Sl) (p0_2 : ByteArray) (p0_3 : ByteArray) (p0_4 : Int) (p0_5 : Sl) (p0_6 : Sl) (p1 : ByteArray) (H : Hp) (Q : Sl → Bool → Hp → Prop) : Prop :=
∀ H1 : Hp, H1 = Array.push H (.cells #[(Sl.v p0_0), (Sl.v p0_1), (.string p0_2), (.string p0_3), (.int .i64 p0_4), (Sl.v p0_5), (Sl.v p0_6)] 90) → (
 ∃ x4 : Sl, cell H1 ⟨H.size, 0, none⟩ = some (Sl.v x4) ∧ (
 F77 x4 p1 H1 (fun (r7 : Int) (H5 : Hp) => 
 ((decide (r7 < 0)) = true → (F69_1 Q ⟨H.size, 0, none⟩ r7 true H5)) ∧
 ((decide (r7 < 0)) = false → (∃ x14 : Sl, cell H5 (Addr.add ⟨H.size, 0, none⟩ 1) = some (Sl.v x14) ∧ (
 F69_1 Q ⟨H.size, 0, none⟩ r7 (decide (((x14).n : Int) ≤ r7)) H5))))))
set_option maxRecDepth 100000 in
set_option maxHeartbeats 4000000 in
theorem walk69 {w0 : World} {p0_0 : Sl} {p0_1 : Sl} {p0_2 : ByteArray} {p0_3 : ByteArray} {p0_4 : Int} {p0_5 : Sl} {p0_6 : Sl} {p1 : ByteArray} {H : Hp} {Q : Sl → Bool → Hp → Prop} (h : F69 p0_0 p0_1 p0_2 p0_3 p0_4 p0_5 p0_6 p1 H Q) :
    Good Tryd.prog w0 69 #[(.agg #[(Sl.v p0_0), (Sl.v p0_1), (.string p0_2), (.string p0_3), (.int .i64 p0_4), (Sl.v p0_5), (Sl.v p0_6)]), (.string p1)] H (fun v H => ∃ (r0 : Sl) (r1 : Bool) , v = (.tuple #[(Sl.v r0), (.bool r1)]) ∧ Q r0 r1 H) := by
  unfold F69 at h
  refine Good.enter' (fn := Tryd.f69) Tryd.func69 rfl rfl rfl ?_
  refine HW.seq ?_
  refine HW.region ?_
  refine HList.ops' rfl (HOp.box (v := (.agg #[(Sl.v p0_0), (Sl.v p0_1), (.string p0_2), (.string p0_3), (.int .i64 p0_4), (Sl.v p0_5), (Sl.v p0_6)])) rfl) ?_
  rintro _ H1 ⟨rfl, e2⟩
  replace h := h H1 e2
  refine HList.vals (v := (Sl.v Sl.nil)) rfl (HVal.assign' rfl) ?_
  refine HList.vals (v := (.bool false)) rfl (HVal.assign' rfl) ?_
  refine HList.nil ?_
  refine nt ?_
  refine HW.seq ?_
  refine HW.region ?_
  refine HList.vals (v := (.pointer (some ⟨H.size, 0, none⟩))) rfl (HVal.fieldAddr0 Tryd.runUnderlying90 rfl rfl Tryd.sizeOf43 rfl) ?_
  refine HList.vals (v := (.pointer (some ⟨H.size, 0, none⟩))) rfl (HVal.fieldAddr0 Tryd.runUnderlying43 rfl rfl Tryd.sizeOf29 rfl) ?_
  obtain ⟨x4, c3, h⟩ := h
  refine HList.vals (v := (Sl.v x4)) rfl (HVal.load1 Tryd.isAgg29 rfl c3) ?_
  refine HList.vals (v := (.string p1)) rfl (HVal.move' rfl) ?_
  refine HList.ops' rfl (HOp.call' 77 [(Sl.v x4), (.string p1)] (cap := []) rfl rfl Tryd.call77 (walk77 h)) ?_
  rintro _ H5 ⟨r7, rfl, h⟩
  refine HList.vals (v := (.int .i64 r7)) rfl (HVal.assign' rfl) ?_
  refine HList.nil ?_
  refine nt ?_
  refine HW.seq ?_
  refine HW.cut (fun ρ H_1 => ∃ (y12 : Bool), Env.Is ρ [(2, (.pointer (some ⟨H.size, 0, none⟩))), (6, (.int .i64 r7)), (21, (.bool y12))] ∧ F69_1 Q ⟨H.size, 0, none⟩ r7 y12 H_1) ?_ ?_
  · refine HW.region ?_
    refine HList.vals (v := (.int .i64 r7)) rfl (HVal.move' rfl) ?_
    refine HList.vals (v := (.bool (decide (r7 < 0)))) rfl (HVal.lss rfl rfl) ?_
    refine HList.vals (v := (.bool (decide (r7 < 0)))) rfl (HVal.move' rfl) ?_
    obtain ⟨hT, hF⟩ := h
    rcases Bool.eq_false_or_eq_true (decide (r7 < 0)) with hb10 | hb11
    · have h := hT hb10
      clear hT hF
      refine HList.gskips rfl rfl rfl rfl (congrArg Value.bool hb10) ?_
      refine HList.gskips rfl rfl rfl rfl (congrArg Value.bool hb10) ?_
      refine HList.gskips rfl rfl rfl rfl (congrArg Value.bool hb10) ?_
      refine HList.gskips rfl rfl rfl rfl (congrArg Value.bool hb10) ?_
      refine HList.gskips rfl rfl rfl rfl (congrArg Value.bool hb10) ?_
      refine HList.gskips rfl rfl rfl rfl (congrArg Value.bool hb10) ?_
      refine HList.vals (v := (.bool true)) rfl (HVal.pickT rfl hb10 rfl) ?_
      refine HList.nil ?_
      refine nt ?_
      exact ⟨true, ⟨rfl, rfl, rfl, trivial⟩, h⟩
    · have h := hF hb11
      clear hT hF
      refine HList.gvals (v := (.int .i64 r7)) rfl rfl rfl rfl (congrArg Value.bool hb11) (HVal.move' rfl) ?_
      refine HList.gvals (v := (.pointer (some ⟨H.size, 0, none⟩))) rfl rfl rfl rfl (congrArg Value.bool hb11) (HVal.fieldAddr0 Tryd.runUnderlying90 rfl rfl Tryd.sizeOf43 rfl) ?_
      refine HList.gvals (v := (.pointer (some (Addr.add ⟨H.size, 0, none⟩ 1)))) rfl rfl rfl rfl (congrArg Value.bool hb11) (HVal.fieldAddr' Tryd.runUnderlying43 rfl rfl Tryd.sizeOf27 rfl) ?_
      obtain ⟨x14, c13, h⟩ := h
      refine HList.gvals (v := (Sl.v x14)) rfl rfl rfl rfl (congrArg Value.bool hb11) (HVal.load1 Tryd.isAgg27 rfl c13) ?_
      refine HList.gvals (v := (.int .i64 ((x14).n : Int))) rfl rfl rfl rfl (congrArg Value.bool hb11) (HVal.len Tryd.runUnderlying27 rfl) ?_
      refine HList.gvals (v := (.bool (decide (((x14).n : Int) ≤ r7)))) rfl rfl rfl rfl (congrArg Value.bool hb11) (HVal.geq rfl rfl) ?_
      refine HList.vals (v := (.bool (decide (((x14).n : Int) ≤ r7)))) rfl (HVal.pickF rfl hb11 rfl) ?_
      refine HList.nil ?_
      refine nt ?_
      exact ⟨(decide (((x14).n : Int) ≤ r7)), ⟨rfl, rfl, rfl, trivial⟩, h⟩
  · rintro ρ H_1 ⟨y12, hI, h⟩
    obtain ⟨ρ0, rfl⟩ : ∃ ρ0, ρ = (Env.set (Env.set (Env.set ρ0 21 (.bool y12)) 6 (.int .i64 r7)) 2 (.pointer (some ⟨H.size, 0, none⟩))) := ⟨ρ, hI.eq⟩
    clear hI; unfold F69_1 at h
    obtain ⟨hT, hF⟩ := h
    refine HW.cond y12 rfl (fun hb15 => ?_) (fun hb15 => ?_)
    · have h := hT hb15
      clear hT hF
      refine HW.seq ?_
      refine HW.region ?_
      refine HList.vals (v := (Sl.v Sl.nil)) rfl (HVal.assign' rfl) ?_
      refine HList.vals (v := (.bool false)) rfl (HVal.assign' rfl) ?_
      refine HList.nil ?_
      refine nt ?_
      refine HW.ret ?_
      refine tr ?_
      exact ⟨_, resOf2 rfl Res1.t Res1.t, ⟨Sl.nil, false, rfl, h⟩⟩
    · have h := hF hb15
      clear hT hF
      refine HW.skip ?_
      refine nt ?_
      refine HW.seq ?_
      refine HW.region ?_
      refine HList.vals (v := (.pointer (some ⟨H.size, 0, none⟩))) rfl (HVal.fieldAddr0 Tryd.runUnderlying90 rfl rfl Tryd.sizeOf43 rfl) ?_
      refine HList.vals (v := (.pointer (some (Addr.add ⟨H.size, 0, none⟩ 1)))) rfl (HVal.fieldAddr' Tryd.runUnderlying43 rfl rfl Tryd.sizeOf27 rfl) ?_
      obtain ⟨x17, c16, h⟩ := h
      refine HList.vals (v := (Sl.v x17)) rfl (HVal.load1 Tryd.isAgg27 rfl c16) ?_
      refine HList.vals (v := (.int .i64 r7)) rfl (HVal.move' rfl) ?_
      obtain ⟨a18, e19, b20, b21, h⟩ := h
      refine HList.vals (v := (.pointer (some (Addr.add a18 (r7.toNat * 1))))) rfl (HVal.indexAddr Tryd.runUnderlying27 Tryd.sizeOf49 (Sl.v_some rfl e19) rfl b20 b21) ?_
      obtain ⟨x23, c22, h⟩ := h
      refine HList.vals (v := (Sl.v x23)) rfl (HVal.load1 Tryd.isAgg49 rfl c22) ?_
      refine HList.vals (v := (Sl.v x23)) rfl (HVal.assign' rfl) ?_
      refine HList.vals (v := (.bool true)) rfl (HVal.assign' rfl) ?_
      refine HList.nil ?_
      refine nt ?_
      refine HW.ret ?_
      exact ⟨_, resOf2 rfl Res1.t Res1.t, ⟨x23, true, rfl, h⟩⟩

def F70 (p0_0 : Sl) (p0_1 : Sl) (p0_2 : ByteArray) (p0_3 : ByteArray) (p0_4 : Int) (p0_5 : Sl) (p0_6 : Sl) (p1 : ByteArray) (H : Hp) (Q : Bool → Hp → Prop) : Prop :=
∀ H1 : Hp, H1 = Array.push H (.cells #[(Sl.v p0_0), (Sl.v p0_1), (.string p0_2), (.string p0_3), (.int .i64 p0_4), (Sl.v p0_5), (Sl.v p0_6)] 90) → (
 ((!(seq p1 (ByteArray.mk #[]))) = true → (∃ x6 : ByteArray, cell H1 (Addr.add ⟨H.size, 0, none⟩ 2) = some (.string x6) ∧ (
 Q (seq p1 x6) H1))) ∧
 ((!(seq p1 (ByteArray.mk #[]))) = false → (Q false H1)))
set_option maxRecDepth 100000 in
set_option maxHeartbeats 4000000 in
theorem walk70 {w0 : World} {p0_0 : Sl} {p0_1 : Sl} {p0_2 : ByteArray} {p0_3 : ByteArray} {p0_4 : Int} {p0_5 : Sl} {p0_6 : Sl} {p1 : ByteArray} {H : Hp} {Q : Bool → Hp → Prop} (h : F70 p0_0 p0_1 p0_2 p0_3 p0_4 p0_5 p0_6 p1 H Q) :
    Good Tryd.prog w0 70 #[(.agg #[(Sl.v p0_0), (Sl.v p0_1), (.string p0_2), (.string p0_3), (.int .i64 p0_4), (Sl.v p0_5), (Sl.v p0_6)]), (.string p1)] H (fun v H => ∃ (r0 : Bool) , v = (.bool r0) ∧ Q r0 H) := by
  unfold F70 at h
  refine Good.enter' (fn := Tryd.f70) Tryd.func70 rfl rfl rfl ?_
  refine HW.seq ?_
  refine HW.region ?_
  refine HList.ops' rfl (HOp.box (v := (.agg #[(Sl.v p0_0), (Sl.v p0_1), (.string p0_2), (.string p0_3), (.int .i64 p0_4), (Sl.v p0_5), (Sl.v p0_6)])) rfl) ?_
  rintro _ H1 ⟨rfl, e2⟩
  replace h := h H1 e2
  refine HList.vals (v := (.bool false)) rfl (HVal.assign' rfl) ?_
  refine HList.nil ?_
  refine nt ?_
  refine HW.seq ?_
  refine HW.region ?_
  refine HList.vals (v := (.string p1)) rfl (HVal.move' rfl) ?_
  refine HList.vals (v := (.bool (!(seq p1 (ByteArray.mk #[]))))) rfl (HVal.neqS rfl rfl) ?_
  refine HList.vals (v := (.bool (!(seq p1 (ByteArray.mk #[]))))) rfl (HVal.move' rfl) ?_
  obtain ⟨hT, hF⟩ := h
  rcases Bool.eq_false_or_eq_true (!(seq p1 (ByteArray.mk #[]))) with hb3 | hb4
  · have h := hT hb3
    clear hT hF
    refine HList.gvals (v := (.string p1)) rfl rfl rfl rfl (congrArg Value.bool hb3) (HVal.move' rfl) ?_
    refine HList.gvals (v := (.pointer (some ⟨H.size, 0, none⟩))) rfl rfl rfl rfl (congrArg Value.bool hb3) (HVal.fieldAddr0 Tryd.runUnderlying90 rfl rfl Tryd.sizeOf43 rfl) ?_
    refine HList.gvals (v := (.pointer (some (Addr.add ⟨H.size, 0, none⟩ 2)))) rfl rfl rfl rfl (congrArg Value.bool hb3) (HVal.fieldAddr' Tryd.runUnderlying43 rfl rfl Tryd.sizeOf9 rfl) ?_
    obtain ⟨x6, c5, h⟩ := h
    refine HList.gvals (v := (.string x6)) rfl rfl rfl rfl (congrArg Value.bool hb3) (HVal.load1 Tryd.isAgg9 rfl c5) ?_
    refine HList.gvals (v := (.bool (seq p1 x6))) rfl rfl rfl rfl (congrArg Value.bool hb3) (HVal.eqlS rfl rfl) ?_
    refine HList.vals (v := (.bool (seq p1 x6))) rfl (HVal.pickT rfl hb3 rfl) ?_
    refine HList.vals (v := (.bool (seq p1 x6))) rfl (HVal.assign' rfl) ?_
    refine HList.nil ?_
    refine nt ?_
    refine HW.ret ?_
    exact ⟨_, resOf1 rfl Res1.t, ⟨(seq p1 x6), rfl, h⟩⟩
  · have h := hF hb4
    clear hT hF
    refine HList.gskips rfl rfl rfl rfl (congrArg Value.bool hb4) ?_
    refine HList.gskips rfl rfl rfl rfl (congrArg Value.bool hb4) ?_
    refine HList.gskips rfl rfl rfl rfl (congrArg Value.bool hb4) ?_
    refine HList.gskips rfl rfl rfl rfl (congrArg Value.bool hb4) ?_
    refine HList.gskips rfl rfl rfl rfl (congrArg Value.bool hb4) ?_
    refine HList.vals (v := (.bool false)) rfl (HVal.pickF rfl hb4 rfl) ?_
    refine HList.vals (v := (.bool false)) rfl (HVal.assign' rfl) ?_
    refine HList.nil ?_
    refine nt ?_
    refine HW.ret ?_
    exact ⟨_, resOf1 rfl Res1.t, ⟨false, rfl, h⟩⟩

def F56_1 (Q : ByteArray → Int → Sl → Int → Hp → Prop) (y23 : Addr) (y24 : Sl) (y84 : Int) (H_1 : Hp) : Prop :=
((decide (((y24).n : Int) = 0)) = true → (mayw H_1 y23 3 0 ∧ ∀ H94 : Hp, H94 = sets H_1 y23 [(.string (ByteArray.mk #[])), (.int .i64 0), (Sl.v Sl.nil)] 0 → (
 ∃ (x97 : ByteArray) (x98 : Int) (x99 : Sl), cells H94 y23 [(.string x97), (.int .i64 x98), (Sl.v x99)] 0 ∧ (
 Q x97 x98 x99 110 H94)))) ∧
 ((decide (((y24).n : Int) = 0)) = false → (∃ a101 : Addr, (y24).b = some a101 ∧ (0 : Int) ≤ y84 ∧ y84 < ((y24).n : Int) ∧ (
 ∃ (x106 : ByteArray) (x107 : Int) (x108 : Sl), cells H_1 (Addr.add a101 (y84.toNat * 3)) [(.string x106), (.int .i64 x107), (Sl.v x108)] 0 ∧ (
 mayw H_1 y23 3 0 ∧ ∀ H109 : Hp, H109 = sets H_1 y23 [(.string x106), (.int .i64 x107), (Sl.v x108)] 0 → (
 ∃ (x112 : ByteArray) (x113 : Int) (x114 : Sl), cells H109 y23 [(.string x112), (.int .i64 x113), (Sl.v x114)] 0 ∧ (
 Q x112 x113 x114 0 H109))))))
def F56_2 (Q : ByteArray → Int → Sl → Int → Hp → Prop) (y25 : Addr) (y26 : Sl) (H_2 : Hp) : Prop :=
F56_1 Q y25 y26 (IntKind.i64.wrap (((y26).n : Int) - 1)) H_2
def F56 (p0_0 : Sl) (p0_1 : Sl) (p0_2 : ByteArray) (p0_3 : ByteArray) (p0_4 : Int) (p0_5 : Sl) (p0_6 : Sl) (p1_0 : Int) (p1_1 : Int) (p1_2 : Int) (p1_3 : Int) (p1_4 : ByteArray) (p1_5 : Bool) (p1_6 : ByteArray) (p1_7 : Int) (p1_8 : ByteArray) (p1_9 : Sl) (H : Hp) (Q : ByteArray → Int → Sl → Int → Hp → Prop) : Prop :=
∀ H1 : Hp, H1 = Array.push H (.cells #[(Sl.v p0_0), (Sl.v p0_1), (.string p0_2), (.string p0_3), (.int .i64 p0_4), (Sl.v p0_5), (Sl.v p0_6)] 90) → (
 ∀ H3 : Hp, H3 = Array.push H1 (.cells #[(.int .i64 p1_0), (.int .i64 p1_1), (.int .i64 p1_2), (.int .i64 p1_3), (.string p1_4), (.bool p1_5), (.string p1_6), (.int .i64 p1_7), (.string p1_8), (Sl.v p1_9)] 41) → (
 ∀ H5 : Hp, H5 = Array.push H3 (.cells #[(.string (ByteArray.mk #[])), (.int .i64 0), (Sl.v Sl.nil)] 36) → (
 ∃ (x8 : Sl) (x9 : Sl) (x10 : ByteArray) (x11 : ByteArray) (x12 : Int) (x13 : Sl) (x14 : Sl), cells H5 ⟨H.size, 0, none⟩ [(Sl.v x8), (Sl.v x9), (.string x10), (.string x11), (.int .i64 x12), (Sl.v x13), (Sl.v x14)] 0 ∧ (
 ∃ x16 : ByteArray, cell H5 (Addr.add ⟨H1.size, 0, none⟩ 6) = some (.string x16) ∧ (
 F69 x8 x9 x10 x11 x12 x13 x14 x16 H5 (fun (r19 : Sl) (r20 : Bool) (H17 : Hp) => 
 ∃ x22 : Int, cell H17 (Addr.add ⟨H1.size, 0, none⟩ 7) = some (.int .i64 x22) ∧ (
 ((decide (x22 = 2)) = true → (∃ (x29 : Sl) (x30 : Sl) (x31 : ByteArray) (x32 : ByteArray) (x33 : Int) (x34 : Sl) (x35 : Sl), cells H17 ⟨H.size, 0, none⟩ [(Sl.v x29), (Sl.v x30), (.string x31), (.string x32), (.int .i64 x33), (Sl.v x34), (Sl.v x35)] 0 ∧ (
 ∃ x37 : ByteArray, cell H17 (Addr.add ⟨H1.size, 0, none⟩ 6) = some (.string x37) ∧ (
 F70 x29 x30 x31 x32 x33 x34 x35 x37 H17 (fun (r40 : Bool) (H38 : Hp) => 
 ((!r40) = true → (mayw H38 ⟨H3.size, 0, none⟩ 3 0 ∧ ∀ H42 : Hp, H42 = sets H38 ⟨H3.size, 0, none⟩ [(.string (ByteArray.mk #[])), (.int .i64 0), (Sl.v Sl.nil)] 0 → (
 ∃ (x45 : ByteArray) (x46 : Int) (x47 : Sl), cells H42 ⟨H3.size, 0, none⟩ [(.string x45), (.int .i64 x46), (Sl.v x47)] 0 ∧ (
 Q x45 x46 x47 110 H42)))) ∧
 ((!r40) = false → (∃ (x50 : ByteArray) (x51 : Int) (x52 : Sl), cells H38 (Addr.add ⟨H.size, 0, none⟩ 3) [(.string x50), (.int .i64 x51), (Sl.v x52)] 0 ∧ (
 mayw H38 ⟨H3.size, 0, none⟩ 3 0 ∧ ∀ H53 : Hp, H53 = sets H38 ⟨H3.size, 0, none⟩ [(.string x50), (.int .i64 x51), (Sl.v x52)] 0 → (
 ∃ (x56 : ByteArray) (x57 : Int) (x58 : Sl), cells H53 ⟨H3.size, 0, none⟩ [(.string x56), (.int .i64 x57), (Sl.v x58)] 0 ∧ (
 Q x56 x57 x58 0 H53)))))))))) ∧
 ((decide (x22 = 2)) = false → (((decide (x22 = 3)) = true → (∃ (x62 : Sl) (x63 : Sl) (x64 : ByteArray) (x65 : ByteArray) (x66 : Int) (x67 : Sl) (x68 : Sl), cells H17 ⟨H.size, 0, none⟩ [(Sl.v x62), (Sl.v x63), (.string x64), (.string x65), (.int .i64 x66), (Sl.v x67), (Sl.v x68)] 0 ∧ (
 ∃ x70 : ByteArray, cell H17 (Addr.add ⟨H1.size, 0, none⟩ 6) = some (.string x70) ∧ (
 F70 x62 x63 x64 x65 x66 x67 x68 x70 H17 (fun (r73 : Bool) (H71 : Hp) => 
 ((!r73) = true → (mayw H71 ⟨H3.size, 0, none⟩ 3 0 ∧ ∀ H75 : Hp, H75 = sets H71 ⟨H3.size, 0, none⟩ [(.string (ByteArray.mk #[])), (.int .i64 0), (Sl.v Sl.nil)] 0 → (
 ∃ (x78 : ByteArray) (x79 : Int) (x80 : Sl), cells H75 ⟨H3.size, 0, none⟩ [(.string x78), (.int .i64 x79), (Sl.v x80)] 0 ∧ (
 Q x78 x79 x80 110 H75)))) ∧
 ((!r73) = false → (F56_2 Q ⟨H3.size, 0, none⟩ r19 H71))))))) ∧
 ((decide (x22 = 3)) = false → (((decide (x22 = 5)) = true → (F56_2 Q ⟨H3.size, 0, none⟩ r19 H17)) ∧
 ((decide (x22 = 5)) = false → (((decide (x22 = 1)) = true → (F56_1 Q ⟨H3.size, 0, none⟩ r19 0 H17)) ∧
 ((decide (x22 = 1)) = false → (((decide (x22 = 4)) = true → (F56_1 Q ⟨H3.size, 0, none⟩ r19 0 H17)) ∧
 ((decide (x22 = 4)) = false → (mayw H17 ⟨H3.size, 0, none⟩ 3 0 ∧ ∀ H86 : Hp, H86 = sets H17 ⟨H3.size, 0, none⟩ [(.string (ByteArray.mk #[])), (.int .i64 0), (Sl.v Sl.nil)] 0 → (
 ∃ (x89 : ByteArray) (x90 : Int) (x91 : Sl), cells H86 ⟨H3.size, 0, none⟩ [(.string x89), (.int .i64 x90), (Sl.v x91)] 0 ∧ (
 Q x89 x90 x91 60 H86)))))))))))))))))))
set_option maxRecDepth 100000 in
set_option maxHeartbeats 4000000 in
theorem walk56 {w0 : World} {p0_0 : Sl} {p0_1 : Sl} {p0_2 : ByteArray} {p0_3 : ByteArray} {p0_4 : Int} {p0_5 : Sl} {p0_6 : Sl} {p1_0 : Int} {p1_1 : Int} {p1_2 : Int} {p1_3 : Int} {p1_4 : ByteArray} {p1_5 : Bool} {p1_6 : ByteArray} {p1_7 : Int} {p1_8 : ByteArray} {p1_9 : Sl} {H : Hp} {Q : ByteArray → Int → Sl → Int → Hp → Prop} (h : F56 p0_0 p0_1 p0_2 p0_3 p0_4 p0_5 p0_6 p1_0 p1_1 p1_2 p1_3 p1_4 p1_5 p1_6 p1_7 p1_8 p1_9 H Q) :
    Good Tryd.prog w0 56 #[(.agg #[(Sl.v p0_0), (Sl.v p0_1), (.string p0_2), (.string p0_3), (.int .i64 p0_4), (Sl.v p0_5), (Sl.v p0_6)]), (.agg #[(.int .i64 p1_0), (.int .i64 p1_1), (.int .i64 p1_2), (.int .i64 p1_3), (.string p1_4), (.bool p1_5), (.string p1_6), (.int .i64 p1_7), (.string p1_8), (Sl.v p1_9)])] H (fun v H => ∃ (r0 : ByteArray) (r1 : Int) (r2 : Sl) (r3 : Int) , v = (.tuple #[(.agg #[(.string r0), (.int .i64 r1), (Sl.v r2)]), (.int .i64 r3)]) ∧ Q r0 r1 r2 r3 H) := by
  unfold F56 at h
  refine Good.enter' (fn := Tryd.f56) Tryd.func56 rfl rfl rfl ?_
  refine HW.seq ?_
  refine HW.region ?_
  refine HList.ops' rfl (HOp.box (v := (.agg #[(Sl.v p0_0), (Sl.v p0_1), (.string p0_2), (.string p0_3), (.int .i64 p0_4), (Sl.v p0_5), (Sl.v p0_6)])) rfl) ?_
  rintro _ H1 ⟨rfl, e2⟩
  replace h := h H1 e2
  refine HList.ops' rfl (HOp.box (v := (.agg #[(.int .i64 p1_0), (.int .i64 p1_1), (.int .i64 p1_2), (.int .i64 p1_3), (.string p1_4), (.bool p1_5), (.string p1_6), (.int .i64 p1_7), (.string p1_8), (Sl.v p1_9)])) rfl) ?_
  rintro _ H3 ⟨rfl, e4⟩
  replace h := h H3 e4
  refine HList.ops' rfl (HOp.alloc Tryd.zeroValue36) ?_
  rintro _ H5 ⟨rfl, e6⟩
  replace h := h H5 e6
  refine HList.vals (v := (.int .i64 0)) rfl (HVal.assign' rfl) ?_
  refine HList.nil ?_
  refine nt ?_
  refine HW.seq ?_
  refine HW.region ?_
  obtain ⟨x8, x9, x10, x11, x12, x13, x14, c7, h⟩ := h
  refine HList.vals (v := (.agg #[(Sl.v x8), (Sl.v x9), (.string x10), (.string x11), (.int .i64 x12), (Sl.v x13), (Sl.v x14)])) rfl (HVal.loadN [(Sl.v x8), (Sl.v x9), (.string x10), (.string x11), (.int .i64 x12), (Sl.v x13), (Sl.v x14)] Tryd.isAgg90 Tryd.sizeOf90 rfl c7) ?_
  refine HList.vals (v := (.pointer (some (Addr.add ⟨H1.size, 0, none⟩ 6)))) rfl (HVal.fieldAddr' Tryd.runUnderlying41 rfl rfl Tryd.sizeOf9 rfl) ?_
  obtain ⟨x16, c15, h⟩ := h
  refine HList.vals (v := (.string x16)) rfl (HVal.load1 Tryd.isAgg9 rfl c15) ?_
  refine HList.ops' rfl (HOp.call' 69 [(.agg #[(Sl.v x8), (Sl.v x9), (.string x10), (.string x11), (.int .i64 x12), (Sl.v x13), (Sl.v x14)]), (.string x16)] (cap := []) rfl rfl Tryd.call69 (walk69 h)) ?_
  rintro _ H17 ⟨r19, r20, rfl, h⟩
  refine HList.vals (v := (.tuple #[(Sl.v r19), (.bool r20)])) rfl (HVal.move' rfl) ?_
  refine HList.vals (v := (Sl.v r19)) rfl (HVal.extract rfl rfl) ?_
  refine HList.vals (v := (.bool r20)) rfl (HVal.extract rfl rfl) ?_
  refine HList.vals (v := (Sl.v r19)) rfl (HVal.assign' rfl) ?_
  refine HList.vals (v := (.bool r20)) rfl (HVal.assign' rfl) ?_
  refine HList.nil ?_
  refine nt ?_
  refine HW.seq ?_
  refine HW.region ?_
  refine HList.vals (v := (.int .i64 0)) rfl (HVal.assign' rfl) ?_
  refine HList.nil ?_
  refine nt ?_
  refine HW.seq ?_
  refine HW.seq ?_
  refine HW.region ?_
  refine HList.vals (v := (.pointer (some (Addr.add ⟨H1.size, 0, none⟩ 7)))) rfl (HVal.fieldAddr' Tryd.runUnderlying41 rfl rfl Tryd.sizeOf3 rfl) ?_
  obtain ⟨x22, c21, h⟩ := h
  refine HList.vals (v := (.int .i64 x22)) rfl (HVal.load1 Tryd.isAgg3 rfl c21) ?_
  refine HList.nil ?_
  refine nt ?_
  refine HW.block ?_
  refine HW.cut (fun ρ H_1 => ∃ (y84 : Int), Env.Is ρ [(4, (.pointer (some ⟨H3.size, 0, none⟩))), (6, (Sl.v r19)), (8, (.int .i64 y84))] ∧ F56_1 Q ⟨H3.size, 0, none⟩ r19 y84 H_1) ?_ ?_
  · refine HW.block ?_
    refine HW.cut (fun ρ H_2 => Env.Is ρ [(4, (.pointer (some ⟨H3.size, 0, none⟩))), (6, (Sl.v r19))] ∧ F56_2 Q ⟨H3.size, 0, none⟩ r19 H_2) ?_ ?_
    · refine HW.block ?_
      refine HW.seq ?_
      refine HW.block ?_
      refine HW.seq ?_
      refine HW.block ?_
      refine HW.seq ?_
      refine HW.seq ?_
      refine HW.seq ?_
      refine HW.region ?_
      refine HList.vals (v := (.bool (decide (x22 = 2)))) rfl (HVal.eqlI rfl rfl) ?_
      refine HList.vals (v := (.bool (decide (x22 = 2)))) rfl (HVal.assign' rfl) ?_
      refine HList.nil ?_
      refine nt ?_
      obtain ⟨hT, hF⟩ := h
      refine HW.cond (decide (x22 = 2)) rfl (fun hb27 => ?_) (fun hb27 => ?_)
      · have h := hT hb27
        clear hT hF
        refine HW.exit ?_
        refine te ?_
        refine te ?_
        refine be ?_
        refine nt ?_
        refine HW.seq ?_
        refine HW.seq ?_
        refine HW.seq ?_
        refine HW.region ?_
        obtain ⟨x29, x30, x31, x32, x33, x34, x35, c28, h⟩ := h
        refine HList.vals (v := (.agg #[(Sl.v x29), (Sl.v x30), (.string x31), (.string x32), (.int .i64 x33), (Sl.v x34), (Sl.v x35)])) rfl (HVal.loadN [(Sl.v x29), (Sl.v x30), (.string x31), (.string x32), (.int .i64 x33), (Sl.v x34), (Sl.v x35)] Tryd.isAgg90 Tryd.sizeOf90 rfl c28) ?_
        refine HList.vals (v := (.pointer (some (Addr.add ⟨H1.size, 0, none⟩ 6)))) rfl (HVal.fieldAddr' Tryd.runUnderlying41 rfl rfl Tryd.sizeOf9 rfl) ?_
        obtain ⟨x37, c36, h⟩ := h
        refine HList.vals (v := (.string x37)) rfl (HVal.load1 Tryd.isAgg9 rfl c36) ?_
        refine HList.ops' rfl (HOp.call' 70 [(.agg #[(Sl.v x29), (Sl.v x30), (.string x31), (.string x32), (.int .i64 x33), (Sl.v x34), (Sl.v x35)]), (.string x37)] (cap := []) rfl rfl Tryd.call70 (walk70 h)) ?_
        rintro _ H38 ⟨r40, rfl, h⟩
        refine HList.vals (v := (.bool (!r40))) rfl (HVal.not rfl) ?_
        refine HList.nil ?_
        refine nt ?_
        obtain ⟨hT, hF⟩ := h
        refine HW.cond (!r40) rfl (fun hb41 => ?_) (fun hb41 => ?_)
        · have h := hT hb41
          clear hT hF
          refine HW.seq ?_
          refine HW.region ?_
          refine HList.vals (v := (.agg #[(.string (ByteArray.mk #[])), (.int .i64 0), (Sl.v Sl.nil)])) rfl (HVal.build' (cs := [(.string (ByteArray.mk #[])), (.int .i64 0), (Sl.v Sl.nil)]) Tryd.runUnderlying36 Tryd.zeroValue36 places36 rfl) ?_
          obtain ⟨z44, h⟩ := h
          refine HList.opsn (HOp.storeN' (l := [(.string (ByteArray.mk #[])), (.int .i64 0), (Sl.v Sl.nil)]) Tryd.sizeOf36 rfl rfl rfl z44) ?_
          rintro _ H42 e43
          replace h := h H42 e43
          refine HList.vals (v := (.int .i64 110)) rfl (HVal.assign' rfl) ?_
          refine HList.nil ?_
          refine nt ?_
          refine HW.ret ?_
          refine tr ?_
          refine tr ?_
          refine br ?_
          refine tr ?_
          refine br ?_
          refine tr ?_
          refine br ?_
          refine tr ?_
          refine br ?_
          refine tr ?_
          obtain ⟨x45, x46, x47, c48, h⟩ := h
          exact ⟨_, resOf2 rfl (Res1.n [(.string x45), (.int .i64 x46), (Sl.v x47)] Tryd.isAgg36 Tryd.sizeOf36 rfl c48) Res1.t, ⟨x45, x46, x47, 110, rfl, h⟩⟩
        · have h := hF hb41
          clear hT hF
          refine HW.skip ?_
          refine nt ?_
          refine HW.seq ?_
          refine HW.region ?_
          refine HList.vals (v := (.pointer (some ⟨H.size, 0, none⟩))) rfl (HVal.fieldAddr0 Tryd.runUnderlying90 rfl rfl Tryd.sizeOf43 rfl) ?_
          refine HList.vals (v := (.pointer (some (Addr.add ⟨H.size, 0, none⟩ 3)))) rfl (HVal.fieldAddr' Tryd.runUnderlying43 rfl rfl Tryd.sizeOf36 rfl) ?_
          obtain ⟨x50, x51, x52, c49, h⟩ := h
          refine HList.vals (v := (.agg #[(.string x50), (.int .i64 x51), (Sl.v x52)])) rfl (HVal.loadN [(.string x50), (.int .i64 x51), (Sl.v x52)] Tryd.isAgg36 Tryd.sizeOf36 rfl c49) ?_
          obtain ⟨z55, h⟩ := h
          refine HList.opsn (HOp.storeN' (l := [(.string x50), (.int .i64 x51), (Sl.v x52)]) Tryd.sizeOf36 rfl rfl rfl z55) ?_
          rintro _ H53 e54
          replace h := h H53 e54
          refine HList.vals (v := (.int .i64 0)) rfl (HVal.assign' rfl) ?_
          refine HList.nil ?_
          refine nt ?_
          refine HW.ret ?_
          refine tr ?_
          refine br ?_
          refine tr ?_
          refine br ?_
          refine tr ?_
          refine br ?_
          refine tr ?_
          refine br ?_
          refine tr ?_
          obtain ⟨x56, x57, x58, c59, h⟩ := h
          exact ⟨_, resOf2 rfl (Res1.n [(.string x56), (.int .i64 x57), (Sl.v x58)] Tryd.isAgg36 Tryd.sizeOf36 rfl c59) Res1.t, ⟨x56, x57, x58, 0, rfl, h⟩⟩
      · have h := hF hb27
        clear hT hF
        refine HW.skip ?_
        refine nt ?_
        refine HW.seq ?_
        refine HW.seq ?_
        refine HW.region ?_
        refine HList.vals (v := (.bool (decide (x22 = 3)))) rfl (HVal.eqlI rfl rfl) ?_
        refine HList.vals (v := (.bool (decide (x22 = 3)))) rfl (HVal.assign' rfl) ?_
        refine HList.nil ?_
        refine nt ?_
        obtain ⟨hT, hF⟩ := h
        refine HW.cond (decide (x22 = 3)) rfl (fun hb60 => ?_) (fun hb60 => ?_)
        · have h := hT hb60
          clear hT hF
          refine HW.exit ?_
          refine te ?_
          refine te ?_
          refine bx rfl ?_
          refine te ?_
          refine be ?_
          refine nt ?_
          refine HW.seq ?_
          refine HW.region ?_
          obtain ⟨x62, x63, x64, x65, x66, x67, x68, c61, h⟩ := h
          refine HList.vals (v := (.agg #[(Sl.v x62), (Sl.v x63), (.string x64), (.string x65), (.int .i64 x66), (Sl.v x67), (Sl.v x68)])) rfl (HVal.loadN [(Sl.v x62), (Sl.v x63), (.string x64), (.string x65), (.int .i64 x66), (Sl.v x67), (Sl.v x68)] Tryd.isAgg90 Tryd.sizeOf90 rfl c61) ?_
          refine HList.vals (v := (.pointer (some (Addr.add ⟨H1.size, 0, none⟩ 6)))) rfl (HVal.fieldAddr' Tryd.runUnderlying41 rfl rfl Tryd.sizeOf9 rfl) ?_
          obtain ⟨x70, c69, h⟩ := h
          refine HList.vals (v := (.string x70)) rfl (HVal.load1 Tryd.isAgg9 rfl c69) ?_
          refine HList.ops' rfl (HOp.call' 70 [(.agg #[(Sl.v x62), (Sl.v x63), (.string x64), (.string x65), (.int .i64 x66), (Sl.v x67), (Sl.v x68)]), (.string x70)] (cap := []) rfl rfl Tryd.call70 (walk70 h)) ?_
          rintro _ H71 ⟨r73, rfl, h⟩
          refine HList.vals (v := (.bool (!r73))) rfl (HVal.not rfl) ?_
          refine HList.nil ?_
          refine nt ?_
          obtain ⟨hT, hF⟩ := h
          refine HW.cond (!r73) rfl (fun hb74 => ?_) (fun hb74 => ?_)
          · have h := hT hb74
            clear hT hF
            refine HW.seq ?_
            refine HW.region ?_
            refine HList.vals (v := (.agg #[(.string (ByteArray.mk #[])), (.int .i64 0), (Sl.v Sl.nil)])) rfl (HVal.build' (cs := [(.string (ByteArray.mk #[])), (.int .i64 0), (Sl.v Sl.nil)]) Tryd.runUnderlying36 Tryd.zeroValue36 places36 rfl) ?_
            obtain ⟨z77, h⟩ := h
            refine HList.opsn (HOp.storeN' (l := [(.string (ByteArray.mk #[])), (.int .i64 0), (Sl.v Sl.nil)]) Tryd.sizeOf36 rfl rfl rfl z77) ?_
            rintro _ H75 e76
            replace h := h H75 e76
            refine HList.vals (v := (.int .i64 110)) rfl (HVal.assign' rfl) ?_
            refine HList.nil ?_
            refine nt ?_
            refine HW.ret ?_
            refine br ?_
            refine tr ?_
            refine br ?_
            refine tr ?_
            refine br ?_
            refine tr ?_
            obtain ⟨x78, x79, x80, c81, h⟩ := h
            exact ⟨_, resOf2 rfl (Res1.n [(.string x78), (.int .i64 x79), (Sl.v x80)] Tryd.isAgg36 Tryd.sizeOf36 rfl c81) Res1.t, ⟨x78, x79, x80, 110, rfl, h⟩⟩
          · have h := hF hb74
            clear hT hF
            refine HW.skip ?_
            refine nb ?_
            refine nt ?_
            exact ⟨⟨rfl, rfl, trivial⟩, h⟩
        · have h := hF hb60
          clear hT hF
          refine HW.skip ?_
          refine nt ?_
          refine HW.seq ?_
          refine HW.seq ?_
          refine HW.region ?_
          refine HList.vals (v := (.bool (decide (x22 = 5)))) rfl (HVal.eqlI rfl rfl) ?_
          refine HList.vals (v := (.bool (decide (x22 = 5)))) rfl (HVal.assign' rfl) ?_
          refine HList.nil ?_
          refine nt ?_
          obtain ⟨hT, hF⟩ := h
          refine HW.cond (decide (x22 = 5)) rfl (fun hb82 => ?_) (fun hb82 => ?_)
          · have h := hT hb82
            clear hT hF
            refine HW.exit ?_
            refine te ?_
            refine te ?_
            refine bx rfl ?_
            refine te ?_
            refine bx rfl ?_
            refine te ?_
            refine be ?_
            refine nt ?_
            exact ⟨⟨rfl, rfl, trivial⟩, h⟩
          · have h := hF hb82
            clear hT hF
            refine HW.skip ?_
            refine nt ?_
            refine HW.seq ?_
            refine HW.seq ?_
            refine HW.region ?_
            refine HList.vals (v := (.bool (decide (x22 = 1)))) rfl (HVal.eqlI rfl rfl) ?_
            refine HList.vals (v := (.bool (decide (x22 = 1)))) rfl (HVal.assign' rfl) ?_
            refine HList.nil ?_
            refine nt ?_
            obtain ⟨hT, hF⟩ := h
            refine HW.cond (decide (x22 = 1)) rfl (fun hb83 => ?_) (fun hb83 => ?_)
            · have h := hT hb83
              clear hT hF
              refine HW.skip ?_
              refine nt ?_
              refine HW.condT (decide (x22 = 1)) rfl hb83 ?_
              refine HW.exit ?_
              refine te ?_
              refine bx rfl ?_
              refine te ?_
              refine bx rfl ?_
              refine te ?_
              refine bx rfl ?_
              refine te ?_
              refine be ?_
              refine nt ?_
              exact ⟨0, ⟨rfl, rfl, rfl, trivial⟩, h⟩
            · have h := hF hb83
              clear hT hF
              refine HW.region ?_
              refine HList.vals (v := (.bool (decide (x22 = 4)))) rfl (HVal.eqlI rfl rfl) ?_
              refine HList.vals (v := (.bool (decide (x22 = 4)))) rfl (HVal.assign' rfl) ?_
              refine HList.nil ?_
              refine nt ?_
              obtain ⟨hT, hF⟩ := h
              refine HW.cond (decide (x22 = 4)) rfl (fun hb85 => ?_) (fun hb85 => ?_)
              · have h := hT hb85
                clear hT hF
                refine HW.exit ?_
                refine te ?_
                refine bx rfl ?_
                refine te ?_
                refine bx rfl ?_
                refine te ?_
                refine bx rfl ?_
                refine te ?_
                refine be ?_
                refine nt ?_
                exact ⟨0, ⟨rfl, rfl, rfl, trivial⟩, h⟩
              · have h := hF hb85
                clear hT hF
                refine HW.skip ?_
                refine nt ?_
                refine HW.exit ?_
                refine bx rfl ?_
                refine te ?_
                refine bx rfl ?_
                refine te ?_
                refine bx rfl ?_
                refine te ?_
                refine bx rfl ?_
                refine te ?_
                refine be ?_
                refine nt ?_
                refine HW.seq ?_
                refine HW.region ?_
                refine HList.vals (v := (.agg #[(.string (ByteArray.mk #[])), (.int .i64 0), (Sl.v Sl.nil)])) rfl (HVal.build' (cs := [(.string (ByteArray.mk #[])), (.int .i64 0), (Sl.v Sl.nil)]) Tryd.runUnderlying36 Tryd.zeroValue36 places36 rfl) ?_
                obtain ⟨z88, h⟩ := h
                refine HList.opsn (HOp.storeN' (l := [(.string (ByteArray.mk #[])), (.int .i64 0), (Sl.v Sl.nil)]) Tryd.sizeOf36 rfl rfl rfl z88) ?_
                rintro _ H86 e87
                replace h := h H86 e87
                refine HList.vals (v := (.int .i64 60)) rfl (HVal.assign' rfl) ?_
                refine HList.nil ?_
                refine nt ?_
                refine HW.ret ?_
                obtain ⟨x89, x90, x91, c92, h⟩ := h
                exact ⟨_, resOf2 rfl (Res1.n [(.string x89), (.int .i64 x90), (Sl.v x91)] Tryd.isAgg36 Tryd.sizeOf36 rfl c92) Res1.t, ⟨x89, x90, x91, 60, rfl, h⟩⟩
    · rintro ρ H_2 ⟨hI, h⟩
      obtain ⟨ρ0, rfl⟩ : ∃ ρ0, ρ = (Env.set (Env.set ρ0 6 (Sl.v r19)) 4 (.pointer (some ⟨H3.size, 0, none⟩))) := ⟨ρ, hI.eq⟩
      clear hI; unfold F56_2 at h
      refine HW.region ?_
      refine HList.vals (v := (Sl.v r19)) rfl (HVal.move' rfl) ?_
      refine HList.vals (v := (.int .i64 ((r19).n : Int))) rfl (HVal.len Tryd.runUnderlying49 rfl) ?_
      refine HList.vals (v := (.int .i64 (IntKind.i64.wrap (((r19).n : Int) - 1)))) rfl (HVal.sub rfl rfl) ?_
      refine HList.vals (v := (.int .i64 (IntKind.i64.wrap (((r19).n : Int) - 1)))) rfl (HVal.assign' rfl) ?_
      refine HList.nil ?_
      refine nb ?_
      refine nt ?_
      exact ⟨(IntKind.i64.wrap (((r19).n : Int) - 1)), ⟨rfl, rfl, rfl, trivial⟩, h⟩
  · rintro ρ H_1 ⟨y84, hI, h⟩
    obtain ⟨ρ0, rfl⟩ : ∃ ρ0, ρ = (Env.set (Env.set (Env.set ρ0 8 (.int .i64 y84)) 6 (Sl.v r19)) 4 (.pointer (some ⟨H3.size, 0, none⟩))) := ⟨ρ, hI.eq⟩
    clear hI; unfold F56_1 at h
    refine HW.seq ?_
    refine HW.seq ?_
    refine HW.seq ?_
    refine HW.region ?_
    refine HList.vals (v := (Sl.v r19)) rfl (HVal.move' rfl) ?_
    refine HList.vals (v := (.int .i64 ((r19).n : Int))) rfl (HVal.len Tryd.runUnderlying49 rfl) ?_
    refine HList.vals (v := (.bool (decide (((r19).n : Int) = 0)))) rfl (HVal.eqlI rfl rfl) ?_
    refine HList.nil ?_
    refine nt ?_
    obtain ⟨hT, hF⟩ := h
    refine HW.cond (decide (((r19).n : Int) = 0)) rfl (fun hb93 => ?_) (fun hb93 => ?_)
    · have h := hT hb93
      clear hT hF
      refine HW.seq ?_
      refine HW.region ?_
      refine HList.vals (v := (.agg #[(.string (ByteArray.mk #[])), (.int .i64 0), (Sl.v Sl.nil)])) rfl (HVal.build' (cs := [(.string (ByteArray.mk #[])), (.int .i64 0), (Sl.v Sl.nil)]) Tryd.runUnderlying36 Tryd.zeroValue36 places36 rfl) ?_
      obtain ⟨z96, h⟩ := h
      refine HList.opsn (HOp.storeN' (l := [(.string (ByteArray.mk #[])), (.int .i64 0), (Sl.v Sl.nil)]) Tryd.sizeOf36 rfl rfl rfl z96) ?_
      rintro _ H94 e95
      replace h := h H94 e95
      refine HList.vals (v := (.int .i64 110)) rfl (HVal.assign' rfl) ?_
      refine HList.nil ?_
      refine nt ?_
      refine HW.ret ?_
      refine tr ?_
      refine tr ?_
      refine br ?_
      refine tr ?_
      obtain ⟨x97, x98, x99, c100, h⟩ := h
      exact ⟨_, resOf2 rfl (Res1.n [(.string x97), (.int .i64 x98), (Sl.v x99)] Tryd.isAgg36 Tryd.sizeOf36 rfl c100) Res1.t, ⟨x97, x98, x99, 110, rfl, h⟩⟩
    · have h := hF hb93
      clear hT hF
      refine HW.skip ?_
      refine nt ?_
      refine HW.seq ?_
      refine HW.region ?_
      refine HList.vals (v := (Sl.v r19)) rfl (HVal.move' rfl) ?_
      refine HList.vals (v := (.int .i64 y84)) rfl (HVal.move' rfl) ?_
      obtain ⟨a101, e102, b103, b104, h⟩ := h
      refine HList.vals (v := (.pointer (some (Addr.add a101 (y84.toNat * 3))))) rfl (HVal.indexAddr Tryd.runUnderlying49 Tryd.sizeOf36 (Sl.v_some rfl e102) rfl b103 b104) ?_
      obtain ⟨x106, x107, x108, c105, h⟩ := h
      refine HList.vals (v := (.agg #[(.string x106), (.int .i64 x107), (Sl.v x108)])) rfl (HVal.loadN [(.string x106), (.int .i64 x107), (Sl.v x108)] Tryd.isAgg36 Tryd.sizeOf36 rfl c105) ?_
      obtain ⟨z111, h⟩ := h
      refine HList.opsn (HOp.storeN' (l := [(.string x106), (.int .i64 x107), (Sl.v x108)]) Tryd.sizeOf36 rfl rfl rfl z111) ?_
      rintro _ H109 e110
      replace h := h H109 e110
      refine HList.vals (v := (.int .i64 0)) rfl (HVal.assign' rfl) ?_
      refine HList.nil ?_
      refine nt ?_
      refine HW.ret ?_
      refine tr ?_
      refine br ?_
      refine tr ?_
      obtain ⟨x112, x113, x114, c115, h⟩ := h
      exact ⟨_, resOf2 rfl (Res1.n [(.string x112), (.int .i64 x113), (Sl.v x114)] Tryd.isAgg36 Tryd.sizeOf36 rfl c115) Res1.t, ⟨x112, x113, x114, 0, rfl, h⟩⟩

def F71 (H : Hp) (Q : Value → Value → Value → Value → Value → Hp → Prop) : Prop :=
∀ H1 : Hp, H1 = Array.push H (.cells #[.nilFunc, .nilFunc, .nilFunc, .nilFunc, .nilFunc] 120) → (
 mayw H1 ⟨H.size, 0, none⟩ 5 0 ∧ ∀ H3 : Hp, H3 = sets H1 ⟨H.size, 0, none⟩ [.nilFunc, .nilFunc, (.func (.func 78) #[] #[]), (.func (.func 79) #[] #[]), (.func (.func 80) #[] #[])] 0 → (
 ∃ (x6 : Value) (x7 : Value) (x8 : Value) (x9 : Value) (x10 : Value), cells H3 ⟨H.size, 0, none⟩ [x6, x7, x8, x9, x10] 0 ∧ (
 Q x6 x7 x8 x9 x10 H3)))
set_option maxRecDepth 100000 in
set_option maxHeartbeats 4000000 in
theorem walk71 {w0 : World} {H : Hp} {Q : Value → Value → Value → Value → Value → Hp → Prop} (h : F71 H Q) :
    Good Tryd.prog w0 71 #[] H (fun v H => ∃ (r0 : Value) (r1 : Value) (r2 : Value) (r3 : Value) (r4 : Value) , v = (.agg #[r0, r1, r2, r3, r4]) ∧ Q r0 r1 r2 r3 r4 H) := by
  unfold F71 at h
  refine Good.enter' (fn := Tryd.f71) Tryd.func71 rfl rfl rfl ?_
  refine HW.seq ?_
  refine HW.region ?_
  refine HList.ops' rfl (HOp.alloc Tryd.zeroValue120) ?_
  rintro _ H1 ⟨rfl, e2⟩
  replace h := h H1 e2
  refine HList.nil ?_
  refine nt ?_
  refine HW.seq ?_
  refine HW.region ?_
  refine HList.vals (v := (.agg #[.nilFunc, .nilFunc, (.func (.func 78) #[] #[]), (.func (.func 79) #[] #[]), (.func (.func 80) #[] #[])])) rfl (HVal.buildA' (cs := [.nilFunc, .nilFunc, (.func (.func 78) #[] #[]), (.func (.func 79) #[] #[]), (.func (.func 80) #[] #[])]) Tryd.runUnderlying120 Tryd.zeroValue120 Tryd.sizeOf118 rfl) ?_
  obtain ⟨z5, h⟩ := h
  refine HList.opsn (HOp.storeN' (l := [.nilFunc, .nilFunc, (.func (.func 78) #[] #[]), (.func (.func 79) #[] #[]), (.func (.func 80) #[] #[])]) Tryd.sizeOf120 rfl rfl rfl z5) ?_
  rintro _ H3 e4
  replace h := h H3 e4
  refine HList.nil ?_
  refine nt ?_
  refine HW.ret ?_
  obtain ⟨x6, x7, x8, x9, x10, c11, h⟩ := h
  exact ⟨_, resOf1 rfl (Res1.n [x6, x7, x8, x9, x10] Tryd.isAgg120 Tryd.sizeOf120 rfl c11), ⟨x6, x7, x8, x9, x10, rfl, h⟩⟩

def F81_1 (Q : Bool → Hp → Prop) (y7 : Int) (y8 : Int) (H_1 : Hp) : Prop :=
((decide (y7 = 1)) = true → (Q (decide (y8 = 1)) H_1)) ∧
 ((decide (y7 = 1)) = false → (((decide (y7 = 2)) = true → (Q (decide (y8 = 3)) H_1)) ∧
 ((decide (y7 = 2)) = false → (((decide (y7 = 4)) = true → (Q (decide (y8 ≠ 3)) H_1)) ∧
 ((decide (y7 = 4)) = false → (Q true H_1))))))
def F81_L2b (Q : Bool → Hp → Prop) (X2 : Int → Hp → Prop) (y10 : Int) (y11 : Int) (y12 : Sl) (y13 : Int) (y9 : Int) (H_2 : Hp) : Prop :=
((decide (y9 < y13)) = true → (∃ a15 : Addr, (y12).b = some a15 ∧ (0 : Int) ≤ y9 ∧ y9 < ((y12).n : Int) ∧ (
 ∃ (x20 : Int) (x21 : Int) (x22 : ByteArray) (x23 : Bool), cells H_2 (Addr.add a15 (y9.toNat * 4)) [(.int .i64 x20), (.int .i64 x21), (.string x22), (.bool x23)] 0 ∧ (
 ∀ H24 : Hp, H24 = Array.push H_2 (.cells #[(.int .i64 0), (.int .i64 0), (.string (ByteArray.mk #[])), (.bool false)] 38) → (
 mayw H24 ⟨H_2.size, 0, none⟩ 4 0 ∧ ∀ H26 : Hp, H26 = sets H24 ⟨H_2.size, 0, none⟩ [(.int .i64 x20), (.int .i64 x21), (.string x22), (.bool x23)] 0 → (
 ∃ x30 : Int, cell H26 ⟨H_2.size, 0, none⟩ = some (.int .i64 x30) ∧ (
 ((decide (x30 ≠ y11)) = true → (Q false H26)) ∧
 ((decide (x30 ≠ y11)) = false → (X2 (IntKind.i64.wrap (y9 + 1)) H26))))))))) ∧
 ((decide (y9 < y13)) = false → (F81_1 Q y10 y11 H_2))
def F81_L2 (Q : Bool → Hp → Prop) (y10 : Int) (y11 : Int) (y12 : Sl) (y13 : Int) (y9 : Int) (H_2 : Hp) : Prop :=
  ∀ X2 : Int → Hp → Prop, (∀ (y9 : Int) (H_2 : Hp), F81_L2b Q X2 y10 y11 y12 y13 y9 H_2 → X2 y9 H_2) → X2 y9 H_2
def F81 (p0 : Int) (p1 : Sl) (H : Hp) (Q : Bool → Hp → Prop) : Prop :=
∃ a1 : Addr, (p1).b = some a1 ∧ (0 : Int) ≤ 0 ∧ (0 : Int) < ((p1).n : Int) ∧ (
 ∃ x6 : Int, cell H (Addr.add a1 ((0 : Int).toNat * 4)) = some (.int .i64 x6) ∧ (
 F81_L2 Q p0 x6 p1 ((p1).n : Int) 0 H))
set_option maxRecDepth 100000 in
set_option maxHeartbeats 4000000 in
theorem walk81 {w0 : World} {p0 : Int} {p1 : Sl} {H : Hp} {Q : Bool → Hp → Prop} (h : F81 p0 p1 H Q) :
    Good Tryd.prog w0 81 #[(.int .i64 p0), (Sl.v p1)] H (fun v H => ∃ (r0 : Bool) , v = (.bool r0) ∧ Q r0 H) := by
  unfold F81 at h
  refine Good.enter' (fn := Tryd.f81) Tryd.func81 rfl rfl rfl ?_
  refine HW.seq ?_
  refine HW.region ?_
  refine HList.vals (v := (.bool false)) rfl (HVal.assign' rfl) ?_
  refine HList.nil ?_
  refine nt ?_
  refine HW.seq ?_
  refine HW.region ?_
  refine HList.vals (v := (Sl.v p1)) rfl (HVal.move' rfl) ?_
  obtain ⟨a1, e2, b3, b4, h⟩ := h
  refine HList.vals (v := (.pointer (some (Addr.add a1 ((0 : Int).toNat * 4))))) rfl (HVal.indexAddr Tryd.runUnderlying34 Tryd.sizeOf38 (Sl.v_some rfl e2) rfl b3 b4) ?_
  refine HList.vals (v := (.pointer (some (Addr.add a1 ((0 : Int).toNat * 4))))) rfl (HVal.fieldAddr0 Tryd.runUnderlying38 rfl rfl Tryd.sizeOf3 rfl) ?_
  obtain ⟨x6, c5, h⟩ := h
  refine HList.vals (v := (.int .i64 x6)) rfl (HVal.load1 Tryd.isAgg3 rfl c5) ?_
  refine HList.vals (v := (.int .i64 x6)) rfl (HVal.assign' rfl) ?_
  refine HList.nil ?_
  refine nt ?_
  refine HW.cut (fun ρ H_1 => Env.Is ρ [(0, (.int .i64 p0)), (5, (.int .i64 x6))] ∧ F81_1 Q p0 x6 H_1) ?_ ?_
  · refine HW.seq ?_
    refine HW.region ?_
    refine HList.vals (v := (Sl.v p1)) rfl (HVal.move' rfl) ?_
    refine HList.vals (v := (.int .i64 ((p1).n : Int))) rfl (HVal.len Tryd.runUnderlying34 rfl) ?_
    refine HList.vals (v := (.int .i64 0)) rfl (HVal.move' rfl) ?_
    refine HList.nil ?_
    refine nt ?_
    refine HW.block ?_
    refine HW.loop' (fun L2 hL2 => ?_)
    obtain ⟨X2, hX2⟩ : ∃ X2 : Int → Hp → Prop, ∀ (y9 : Int) (H_2 : Hp), X2 y9 H_2 ↔ ∀ ρ, Env.Is ρ [(0, (.int .i64 p0)), (5, (.int .i64 x6)), (12, (Sl.v p1)), (13, (.int .i64 ((p1).n : Int))), (14, (.int .i64 y9))] → L2 ρ H_2 := ⟨_, fun _ _ => Iff.rfl⟩
    refine (hX2 _ _).1 (h X2 ?_) _ ?_
    rotate_left
    · exact ⟨rfl, rfl, rfl, rfl, rfl, trivial⟩
    clear h
    intro y9 H_2 h
    refine (hX2 _ _).2 fun ρ hI => ?_
    obtain ⟨ρ0, rfl⟩ : ∃ ρ0, ρ = (Env.set (Env.set (Env.set (Env.set (Env.set ρ0 14 (.int .i64 y9)) 13 (.int .i64 ((p1).n : Int))) 12 (Sl.v p1)) 5 (.int .i64 x6)) 0 (.int .i64 p0)) := ⟨ρ, hI.eq⟩
    clear hI; unfold F81_L2b at h; refine hL2 _ _ ?_
    refine HW.seq ?_
    refine HW.region ?_
    refine HList.vals (v := (.bool (decide (y9 < ((p1).n : Int))))) rfl (HVal.lss rfl rfl) ?_
    refine HList.nil ?_
    refine nt ?_
    refine HW.seq ?_
    obtain ⟨hT, hF⟩ := h
    refine HW.cond (decide (y9 < ((p1).n : Int))) rfl (fun hb14 => ?_) (fun hb14 => ?_)
    · have h := hT hb14
      clear hT hF
      refine HW.skip ?_
      refine nt ?_
      refine HW.seq ?_
      refine HW.block ?_
      refine HW.seq ?_
      refine HW.region ?_
      obtain ⟨a15, e16, b17, b18, h⟩ := h
      refine HList.vals (v := (.pointer (some (Addr.add a15 (y9.toNat * 4))))) rfl (HVal.indexAddr Tryd.runUnderlying34 Tryd.sizeOf38 (Sl.v_some rfl e16) rfl b17 b18) ?_
      obtain ⟨x20, x21, x22, x23, c19, h⟩ := h
      refine HList.vals (v := (.agg #[(.int .i64 x20), (.int .i64 x21), (.string x22), (.bool x23)])) rfl (HVal.loadN [(.int .i64 x20), (.int .i64 x21), (.string x22), (.bool x23)] Tryd.isAgg38 Tryd.sizeOf38 rfl c19) ?_
      refine HList.ops' rfl (HOp.alloc Tryd.zeroValue38) ?_
      rintro _ H24 ⟨rfl, e25⟩
      replace h := h H24 e25
      obtain ⟨z28, h⟩ := h
      refine HList.opsn (HOp.storeN' (l := [(.int .i64 x20), (.int .i64 x21), (.string x22), (.bool x23)]) Tryd.sizeOf38 rfl rfl rfl z28) ?_
      rintro _ H26 e27
      replace h := h H26 e27
      refine HList.nil ?_
      refine nt ?_
      refine HW.seq ?_
      refine HW.region ?_
      refine HList.vals (v := (.pointer (some ⟨H_2.size, 0, none⟩))) rfl (HVal.fieldAddr0 Tryd.runUnderlying38 rfl rfl Tryd.sizeOf3 rfl) ?_
      obtain ⟨x30, c29, h⟩ := h
      refine HList.vals (v := (.int .i64 x30)) rfl (HVal.load1 Tryd.isAgg3 rfl c29) ?_
      refine HList.vals (v := (.int .i64 x6)) rfl (HVal.move' rfl) ?_
      refine HList.vals (v := (.bool (decide (x30 ≠ x6)))) rfl (HVal.neqI rfl rfl) ?_
      refine HList.nil ?_
      refine nt ?_
      obtain ⟨hT, hF⟩ := h
      refine HW.cond (decide (x30 ≠ x6)) rfl (fun hb31 => ?_) (fun hb31 => ?_)
      · have h := hT hb31
        clear hT hF
        refine HW.seq ?_
        refine HW.region ?_
        refine HList.vals (v := (.bool false)) rfl (HVal.assign' rfl) ?_
        refine HList.nil ?_
        refine nt ?_
        refine HW.ret ?_
        refine br ?_
        refine tr ?_
        refine tr ?_
        refine br ?_
        refine tr ?_
        exact ⟨_, resOf1 rfl Res1.t, ⟨false, rfl, h⟩⟩
      · have h := hF hb31
        clear hT hF
        refine HW.skip ?_
        refine nb ?_
        refine nt ?_
        refine HW.region ?_
        refine HList.vals (v := (.int .i64 (IntKind.i64.wrap (y9 + 1)))) rfl (HVal.add rfl rfl) ?_
        refine HList.vals (v := (.int .i64 (IntKind.i64.wrap (y9 + 1)))) rfl (HVal.move' rfl) ?_
        refine HList.nil ?_
        refine nt ?_
        exact (hX2 _ _).1 h _ ⟨rfl, rfl, rfl, rfl, rfl, trivial⟩
    · have h := hF hb14
      clear hT hF
      refine HW.exit ?_
      refine te ?_
      refine te ?_
      refine be ?_
      refine nt ?_
      exact ⟨⟨rfl, rfl, trivial⟩, h⟩
  · rintro ρ H_1 ⟨hI, h⟩
    obtain ⟨ρ0, rfl⟩ : ∃ ρ0, ρ = (Env.set (Env.set ρ0 5 (.int .i64 x6)) 0 (.int .i64 p0)) := ⟨ρ, hI.eq⟩
    clear hI; unfold F81_1 at h
    refine HW.seq ?_
    refine HW.seq ?_
    refine HW.region ?_
    refine HList.vals (v := (.int .i64 p0)) rfl (HVal.move' rfl) ?_
    refine HList.nil ?_
    refine nt ?_
    refine HW.block ?_
    refine HW.seq ?_
    refine HW.region ?_
    refine HList.vals (v := (.bool (decide (p0 = 1)))) rfl (HVal.eqlI rfl rfl) ?_
    refine HList.vals (v := (.bool (decide (p0 = 1)))) rfl (HVal.assign' rfl) ?_
    refine HList.nil ?_
    refine nt ?_
    obtain ⟨hT, hF⟩ := h
    refine HW.cond (decide (p0 = 1)) rfl (fun hb32 => ?_) (fun hb32 => ?_)
    · have h := hT hb32
      clear hT hF
      refine HW.seq ?_
      refine HW.region ?_
      refine HList.vals (v := (.int .i64 x6)) rfl (HVal.move' rfl) ?_
      refine HList.vals (v := (.bool (decide (x6 = 1)))) rfl (HVal.eqlI rfl rfl) ?_
      refine HList.vals (v := (.bool (decide (x6 = 1)))) rfl (HVal.assign' rfl) ?_
      refine HList.nil ?_
      refine nt ?_
      refine HW.ret ?_
      refine br ?_
      refine tr ?_
      exact ⟨_, resOf1 rfl Res1.t, ⟨(decide (x6 = 1)), rfl, h⟩⟩
    · have h := hF hb32
      clear hT hF
      refine HW.seq ?_
      refine HW.region ?_
      refine HList.vals (v := (.bool (decide (p0 = 2)))) rfl (HVal.eqlI rfl rfl) ?_
      refine HList.vals (v := (.bool (decide (p0 = 2)))) rfl (HVal.assign' rfl) ?_
      refine HList.nil ?_
      refine nt ?_
      obtain ⟨hT, hF⟩ := h
      refine HW.cond (decide (p0 = 2)) rfl (fun hb33 => ?_) (fun hb33 => ?_)
      · have h := hT hb33
        clear hT hF
        refine HW.seq ?_
        refine HW.region ?_
        refine HList.vals (v := (.int .i64 x6)) rfl (HVal.move' rfl) ?_
        refine HList.vals (v := (.bool (decide (x6 = 3)))) rfl (HVal.eqlI rfl rfl) ?_
        refine HList.vals (v := (.bool (decide (x6 = 3)))) rfl (HVal.assign' rfl) ?_
        refine HList.nil ?_
        refine nt ?_
        refine HW.ret ?_
        refine br ?_
        refine tr ?_
        exact ⟨_, resOf1 rfl Res1.t, ⟨(decide (x6 = 3)), rfl, h⟩⟩
      · have h := hF hb33
        clear hT hF
        refine HW.seq ?_
        refine HW.region ?_
        refine HList.vals (v := (.bool (decide (p0 = 4)))) rfl (HVal.eqlI rfl rfl) ?_
        refine HList.vals (v := (.bool (decide (p0 = 4)))) rfl (HVal.assign' rfl) ?_
        refine HList.nil ?_
        refine nt ?_
        obtain ⟨hT, hF⟩ := h
        refine HW.cond (decide (p0 = 4)) rfl (fun hb34 => ?_) (fun hb34 => ?_)
        · have h := hT hb34
          clear hT hF
          refine HW.seq ?_
          refine HW.region ?_
          refine HList.vals (v := (.int .i64 x6)) rfl (HVal.move' rfl) ?_
          refine HList.vals (v := (.bool (decide (x6 ≠ 3)))) rfl (HVal.neqI rfl rfl) ?_
          refine HList.vals (v := (.bool (decide (x6 ≠ 3)))) rfl (HVal.assign' rfl) ?_
          refine HList.nil ?_
          refine nt ?_
          refine HW.ret ?_
          refine br ?_
          refine tr ?_
          exact ⟨_, resOf1 rfl Res1.t, ⟨(decide (x6 ≠ 3)), rfl, h⟩⟩
        · have h := hF hb34
          clear hT hF
          refine HW.skip ?_
          refine nb ?_
          refine nt ?_
          refine HW.seq ?_
          refine HW.region ?_
          refine HList.vals (v := (.bool true)) rfl (HVal.assign' rfl) ?_
          refine HList.nil ?_
          refine nt ?_
          refine HW.ret ?_
          exact ⟨_, resOf1 rfl Res1.t, ⟨true, rfl, h⟩⟩

def F72_2 (Q : Int → Hp → Prop) (y7 : Int) (y8 : Sl) (H_2 : Hp) : Prop :=
(0 : Int) ≤ y7 ∧ y7 < ((14 : Nat) : Int) ∧ (
 ∃ x41 : Int, cell H_2 (Addr.add ⟨0, 0, none⟩ (y7.toNat * 1)) = some (.int .i64 x41) ∧ (
 F81 x41 y8 H_2 (fun (r44 : Bool) (H42 : Hp) => 
 ((!r44) = true → (Q 10 H42)) ∧
 ((!r44) = false → (Q 0 H42)))))
def F72_L3b (Q : Int → Hp → Prop) (X3 : Int → Hp → Prop) (y10 : Int) (y11 : Sl) (y12 : Sl) (y13 : Int) (y9 : Int) (H_3 : Hp) : Prop :=
((decide (y9 < y13)) = true → (∃ a15 : Addr, (y12).b = some a15 ∧ (0 : Int) ≤ y9 ∧ y9 < ((y12).n : Int) ∧ (
 ∃ (x20 : Int) (x21 : Int) (x22 : ByteArray) (x23 : Bool), cells H_3 (Addr.add a15 (y9.toNat * 4)) [(.int .i64 x20), (.int .i64 x21), (.string x22), (.bool x23)] 0 ∧ (
 ∀ H24 : Hp, H24 = Array.push H_3 (.cells #[(.int .i64 0), (.int .i64 0), (.string (ByteArray.mk #[])), (.bool false)] 38) → (
 mayw H24 ⟨H_3.size, 0, none⟩ 4 0 ∧ ∀ H26 : Hp, H26 = sets H24 ⟨H_3.size, 0, none⟩ [(.int .i64 x20), (.int .i64 x21), (.string x22), (.bool x23)] 0 → (
 ∃ (x30 : Int) (x31 : Int) (x32 : ByteArray) (x33 : Bool), cells H26 ⟨H_3.size, 0, none⟩ [(.int .i64 x30), (.int .i64 x31), (.string x32), (.bool x33)] 0 ∧ (
 F46 x30 x31 x32 x33 H26 (fun (r36 : Bool) (H34 : Hp) => 
 ((!r36) = true → (Q 12 H34)) ∧
 ((!r36) = false → (X3 (IntKind.i64.wrap (y9 + 1)) H34)))))))))) ∧
 ((decide (y9 < y13)) = false → (F72_2 Q y10 y11 H_3))
def F72_L3 (Q : Int → Hp → Prop) (y10 : Int) (y11 : Sl) (y12 : Sl) (y13 : Int) (y9 : Int) (H_3 : Hp) : Prop :=
  ∀ X3 : Int → Hp → Prop, (∀ (y9 : Int) (H_3 : Hp), F72_L3b Q X3 y10 y11 y12 y13 y9 H_3 → X3 y9 H_3) → X3 y9 H_3
def F72_1 (Q : Int → Hp → Prop) (y1 : Int) (y2 : Sl) (y5 : Bool) (H_1 : Hp) : Prop :=
(y5 = true → (Q 11 H_1)) ∧
 (y5 = false → (F72_L3 Q y1 y2 y2 ((y2).n : Int) 0 H_1))
def F72 (p0 : Int) (p1 : Int) (p2 : Int) (p3 : Sl) (H : Hp) (Q : Int → Hp → Prop) : Prop :=
((decide (p0 < p1)) = true → (F72_1 Q p0 p3 true H)) ∧
 ((decide (p0 < p1)) = false → (F72_1 Q p0 p3 (decide (p2 < p0)) H))
set_option maxRecDepth 100000 in
set_option maxHeartbeats 4000000 in
theorem walk72 {w0 : World} {p0 : Int} {p1 : Int} {p2 : Int} {p3 : Sl} {H : Hp} {Q : Int → Hp → Prop} (h : F72 p0 p1 p2 p3 H Q) :
    Good Tryd.prog w0 72 #[(.int .i64 p0), (.int .i64 p1), (.int .i64 p2), (Sl.v p3)] H (fun v H => ∃ (r0 : Int) , v = (.int .i64 r0) ∧ Q r0 H) := by
  unfold F72 at h
  refine Good.enter' (fn := Tryd.f72) Tryd.func72 rfl rfl rfl ?_
  refine HW.seq ?_
  refine HW.region ?_
  refine HList.vals (v := (.int .i64 0)) rfl (HVal.assign' rfl) ?_
  refine HList.nil ?_
  refine nt ?_
  refine HW.seq ?_
  refine HW.cut (fun ρ H_1 => ∃ (y5 : Bool), Env.Is ρ [(0, (.int .i64 p0)), (3, (Sl.v p3)), (18, (.bool y5))] ∧ F72_1 Q p0 p3 y5 H_1) ?_ ?_
  · refine HW.region ?_
    refine HList.vals (v := (.int .i64 p0)) rfl (HVal.move' rfl) ?_
    refine HList.vals (v := (.int .i64 p1)) rfl (HVal.move' rfl) ?_
    refine HList.vals (v := (.bool (decide (p0 < p1)))) rfl (HVal.lss rfl rfl) ?_
    refine HList.vals (v := (.bool (decide (p0 < p1)))) rfl (HVal.move' rfl) ?_
    obtain ⟨hT, hF⟩ := h
    rcases Bool.eq_false_or_eq_true (decide (p0 < p1)) with hb3 | hb4
    · have h := hT hb3
      clear hT hF
      refine HList.gskips rfl rfl rfl rfl (congrArg Value.bool hb3) ?_
      refine HList.gskips rfl rfl rfl rfl (congrArg Value.bool hb3) ?_
      refine HList.gskips rfl rfl rfl rfl (congrArg Value.bool hb3) ?_
      refine HList.vals (v := (.bool true)) rfl (HVal.pickT rfl hb3 rfl) ?_
      refine HList.nil ?_
      refine nt ?_
      exact ⟨true, ⟨rfl, rfl, rfl, trivial⟩, h⟩
    · have h := hF hb4
      clear hT hF
      refine HList.gvals (v := (.int .i64 p0)) rfl rfl rfl rfl (congrArg Value.bool hb4) (HVal.move' rfl) ?_
      refine HList.gvals (v := (.int .i64 p2)) rfl rfl rfl rfl (congrArg Value.bool hb4) (HVal.move' rfl) ?_
      refine HList.gvals (v := (.bool (decide (p2 < p0)))) rfl rfl rfl rfl (congrArg Value.bool hb4) (HVal.gtr rfl rfl) ?_
      refine HList.vals (v := (.bool (decide (p2 < p0)))) rfl (HVal.pickF rfl hb4 rfl) ?_
      refine HList.nil ?_
      refine nt ?_
      exact ⟨(decide (p2 < p0)), ⟨rfl, rfl, rfl, trivial⟩, h⟩
  · rintro ρ H_1 ⟨y5, hI, h⟩
    obtain ⟨ρ0, rfl⟩ : ∃ ρ0, ρ = (Env.set (Env.set (Env.set ρ0 18 (.bool y5)) 3 (Sl.v p3)) 0 (.int .i64 p0)) := ⟨ρ, hI.eq⟩
    clear hI; unfold F72_1 at h
    obtain ⟨hT, hF⟩ := h
    refine HW.cond y5 rfl (fun hb6 => ?_) (fun hb6 => ?_)
    · have h := hT hb6
      clear hT hF
      refine HW.seq ?_
      refine HW.region ?_
      refine HList.vals (v := (.int .i64 11)) rfl (HVal.assign' rfl) ?_
      refine HList.nil ?_
      refine nt ?_
      refine HW.ret ?_
      refine tr ?_
      exact ⟨_, resOf1 rfl Res1.t, ⟨11, rfl, h⟩⟩
    · have h := hF hb6
      clear hT hF
      refine HW.skip ?_
      refine nt ?_
      refine HW.cut (fun ρ H_2 => Env.Is ρ [(0, (.int .i64 p0)), (3, (Sl.v p3))] ∧ F72_2 Q p0 p3 H_2) ?_ ?_
      · refine HW.seq ?_
        refine HW.region ?_
        refine HList.vals (v := (Sl.v p3)) rfl (HVal.move' rfl) ?_
        refine HList.vals (v := (.int .i64 ((p3).n : Int))) rfl (HVal.len Tryd.runUnderlying34 rfl) ?_
        refine HList.vals (v := (.int .i64 0)) rfl (HVal.move' rfl) ?_
        refine HList.nil ?_
        refine nt ?_
        refine HW.block ?_
        refine HW.loop' (fun L3 hL3 => ?_)
        obtain ⟨X3, hX3⟩ : ∃ X3 : Int → Hp → Prop, ∀ (y9 : Int) (H_3 : Hp), X3 y9 H_3 ↔ ∀ ρ, Env.Is ρ [(0, (.int .i64 p0)), (3, (Sl.v p3)), (19, (Sl.v p3)), (20, (.int .i64 ((p3).n : Int))), (21, (.int .i64 y9))] → L3 ρ H_3 := ⟨_, fun _ _ => Iff.rfl⟩
        refine (hX3 _ _).1 (h X3 ?_) _ ?_
        rotate_left
        · exact ⟨rfl, rfl, rfl, rfl, rfl, trivial⟩
        clear h
        intro y9 H_3 h
        refine (hX3 _ _).2 fun ρ hI => ?_
        obtain ⟨ρ0, rfl⟩ : ∃ ρ0, ρ = (Env.set (Env.set (Env.set (Env.set (Env.set ρ0 21 (.int .i64 y9)) 20 (.int .i64 ((p3).n : Int))) 19 (Sl.v p3)) 3 (Sl.v p3)) 0 (.int .i64 p0)) := ⟨ρ, hI.eq⟩
        clear hI; unfold F72_L3b at h; refine hL3 _ _ ?_
        refine HW.seq ?_
        refine HW.region ?_
        refine HList.vals (v := (.bool (decide (y9 < ((p3).n : Int))))) rfl (HVal.lss rfl rfl) ?_
        refine HList.nil ?_
        refine nt ?_
        refine HW.seq ?_
        obtain ⟨hT, hF⟩ := h
        refine HW.cond (decide (y9 < ((p3).n : Int))) rfl (fun hb14 => ?_) (fun hb14 => ?_)
        · have h := hT hb14
          clear hT hF
          refine HW.skip ?_
          refine nt ?_
          refine HW.seq ?_
          refine HW.block ?_
          refine HW.seq ?_
          refine HW.region ?_
          obtain ⟨a15, e16, b17, b18, h⟩ := h
          refine HList.vals (v := (.pointer (some (Addr.add a15 (y9.toNat * 4))))) rfl (HVal.indexAddr Tryd.runUnderlying34 Tryd.sizeOf38 (Sl.v_some rfl e16) rfl b17 b18) ?_
          obtain ⟨x20, x21, x22, x23, c19, h⟩ := h
          refine HList.vals (v := (.agg #[(.int .i64 x20), (.int .i64 x21), (.string x22), (.bool x23)])) rfl (HVal.loadN [(.int .i64 x20), (.int .i64 x21), (.string x22), (.bool x23)] Tryd.isAgg38 Tryd.sizeOf38 rfl c19) ?_
          refine HList.ops' rfl (HOp.alloc Tryd.zeroValue38) ?_
          rintro _ H24 ⟨rfl, e25⟩
          replace h := h H24 e25
          obtain ⟨z28, h⟩ := h
          refine HList.opsn (HOp.storeN' (l := [(.int .i64 x20), (.int .i64 x21), (.string x22), (.bool x23)]) Tryd.sizeOf38 rfl rfl rfl z28) ?_
          rintro _ H26 e27
          replace h := h H26 e27
          refine HList.nil ?_
          refine nt ?_
          refine HW.seq ?_
          refine HW.region ?_
          obtain ⟨x30, x31, x32, x33, c29, h⟩ := h
          refine HList.vals (v := (.agg #[(.int .i64 x30), (.int .i64 x31), (.string x32), (.bool x33)])) rfl (HVal.loadN [(.int .i64 x30), (.int .i64 x31), (.string x32), (.bool x33)] Tryd.isAgg38 Tryd.sizeOf38 rfl c29) ?_
          refine HList.ops' rfl (HOp.call' 46 [(.agg #[(.int .i64 x30), (.int .i64 x31), (.string x32), (.bool x33)])] (cap := []) rfl rfl Tryd.call46 (walk46 h)) ?_
          rintro _ H34 ⟨r36, rfl, h⟩
          refine HList.vals (v := (.bool (!r36))) rfl (HVal.not rfl) ?_
          refine HList.nil ?_
          refine nt ?_
          obtain ⟨hT, hF⟩ := h
          refine HW.cond (!r36) rfl (fun hb37 => ?_) (fun hb37 => ?_)
          · have h := hT hb37
            clear hT hF
            refine HW.seq ?_
            refine HW.region ?_
            refine HList.vals (v := (.int .i64 12)) rfl (HVal.assign' rfl) ?_
            refine HList.nil ?_
            refine nt ?_
            refine HW.ret ?_
            refine br ?_
            refine tr ?_
            refine tr ?_
            refine br ?_
            refine tr ?_
            exact ⟨_, resOf1 rfl Res1.t, ⟨12, rfl, h⟩⟩
          · have h := hF hb37
            clear hT hF
            refine HW.skip ?_
            refine nb ?_
            refine nt ?_
            refine HW.region ?_
            refine HList.vals (v := (.int .i64 (IntKind.i64.wrap (y9 + 1)))) rfl (HVal.add rfl rfl) ?_
            refine HList.vals (v := (.int .i64 (IntKind.i64.wrap (y9 + 1)))) rfl (HVal.move' rfl) ?_
            refine HList.nil ?_
            refine nt ?_
            exact (hX3 _ _).1 h _ ⟨rfl, rfl, rfl, rfl, rfl, trivial⟩
        · have h := hF hb14
          clear hT hF
          refine HW.exit ?_
          refine te ?_
          refine te ?_
          refine be ?_
          refine nt ?_
          exact ⟨⟨rfl, rfl, trivial⟩, h⟩
      · rintro ρ H_2 ⟨hI, h⟩
        obtain ⟨ρ0, rfl⟩ : ∃ ρ0, ρ = (Env.set (Env.set ρ0 3 (Sl.v p3)) 0 (.int .i64 p0)) := ⟨ρ, hI.eq⟩
        clear hI; unfold F72_2 at h
        refine HW.seq ?_
        refine HW.seq ?_
        refine HW.region ?_
        refine HList.vals (v := (.int .i64 p0)) rfl (HVal.move' rfl) ?_
        obtain ⟨b38, b39, h⟩ := h
        refine HList.vals (v := (.pointer (some (Addr.add ⟨0, 0, none⟩ (p0.toNat * 1))))) rfl (HVal.indexAddrA Tryd.runUnderlying129 Tryd.sizeOf3 rfl rfl b38 b39) ?_
        obtain ⟨x41, c40, h⟩ := h
        refine HList.vals (v := (.int .i64 x41)) rfl (HVal.load1 Tryd.isAgg3 rfl c40) ?_
        refine HList.vals (v := (Sl.v p3)) rfl (HVal.move' rfl) ?_
        refine HList.ops' rfl (HOp.call' 81 [(.int .i64 x41), (Sl.v p3)] (cap := []) rfl rfl Tryd.call81 (walk81 h)) ?_
        rintro _ H42 ⟨r44, rfl, h⟩
        refine HList.vals (v := (.bool (!r44))) rfl (HVal.not rfl) ?_
        refine HList.nil ?_
        refine nt ?_
        obtain ⟨hT, hF⟩ := h
        refine HW.cond (!r44) rfl (fun hb45 => ?_) (fun hb45 => ?_)
        · have h := hT hb45
          clear hT hF
          refine HW.seq ?_
          refine HW.region ?_
          refine HList.vals (v := (.int .i64 10)) rfl (HVal.assign' rfl) ?_
          refine HList.nil ?_
          refine nt ?_
          refine HW.ret ?_
          refine tr ?_
          exact ⟨_, resOf1 rfl Res1.t, ⟨10, rfl, h⟩⟩
        · have h := hF hb45
          clear hT hF
          refine HW.skip ?_
          refine nt ?_
          refine HW.seq ?_
          refine HW.region ?_
          refine HList.vals (v := (.int .i64 0)) rfl (HVal.assign' rfl) ?_
          refine HList.nil ?_
          refine nt ?_
          refine HW.ret ?_
          exact ⟨_, resOf1 rfl Res1.t, ⟨0, rfl, h⟩⟩

def F58 (p0 : Int) (p1_0 : Int) (p1_1 : Int) (p1_2 : ByteArray) (p1_3 : Bool) (H : Hp) (Q : Int → Int → ByteArray → Bool → Int → Hp → Prop) : Prop :=
∀ H1 : Hp, H1 = Array.push H (.cells #[(.int .i64 p1_0), (.int .i64 p1_1), (.string p1_2), (.bool p1_3)] 38) → (
 ∀ H3 : Hp, H3 = Array.push H1 (.cells #[(.int .i64 0), (.int .i64 0), (.string (ByteArray.mk #[])), (.bool false)] 38) → (
 ∃ (x6 : Int) (x7 : Int) (x8 : ByteArray) (x9 : Bool), cells H3 ⟨H.size, 0, none⟩ [(.int .i64 x6), (.int .i64 x7), (.string x8), (.bool x9)] 0 ∧ (
 ∀ H10 : Hp, H10 = Array.push H3 (.cells #[(.int .i64 x6), (.int .i64 x7), (.string x8), (.bool x9)] 38) → (
 F72 p0 1 2 (Sl.mk (some ⟨H3.size, 0, none⟩) 1 1) H10 (fun (r14 : Int) (H12 : Hp) => 
 ((decide (r14 ≠ 0)) = true → (mayw H12 ⟨H1.size, 0, none⟩ 4 0 ∧ ∀ H16 : Hp, H16 = sets H12 ⟨H1.size, 0, none⟩ [(.int .i64 0), (.int .i64 0), (.string (ByteArray.mk #[])), (.bool false)] 0 → (
 ∃ (x19 : Int) (x20 : Int) (x21 : ByteArray) (x22 : Bool), cells H16 ⟨H1.size, 0, none⟩ [(.int .i64 x19), (.int .i64 x20), (.string x21), (.bool x22)] 0 ∧ (
 Q x19 x20 x21 x22 r14 H16)))) ∧
 ((decide (r14 ≠ 0)) = false → (((decide (p0 = 1)) = true → (∃ x26 : Int, cell H12 (Addr.add ⟨H.size, 0, none⟩ 1) = some (.int .i64 x26) ∧ (
 F60 (IntKind.i64.wrap (0 - x26)) H12 (fun (r29 : Int) (r30 : Int) (r31 : ByteArray) (r32 : Bool) (H27 : Hp) => 
 mayw H27 ⟨H1.size, 0, none⟩ 4 0 ∧ ∀ H33 : Hp, H33 = sets H27 ⟨H1.size, 0, none⟩ [(.int .i64 r29), (.int .i64 r30), (.string r31), (.bool r32)] 0 → (
 ∃ (x36 : Int) (x37 : Int) (x38 : ByteArray) (x39 : Bool), cells H33 ⟨H1.size, 0, none⟩ [(.int .i64 x36), (.int .i64 x37), (.string x38), (.bool x39)] 0 ∧ (
 Q x36 x37 x38 x39 0 H33)))))) ∧
 ((decide (p0 = 1)) = false → (∃ x42 : Bool, cell H12 (Addr.add ⟨H.size, 0, none⟩ 3) = some (.bool x42) ∧ (
 F62 (!x42) H12 (fun (r45 : Int) (r46 : Int) (r47 : ByteArray) (r48 : Bool) (H43 : Hp) => 
 mayw H43 ⟨H1.size, 0, none⟩ 4 0 ∧ ∀ H49 : Hp, H49 = sets H43 ⟨H1.size, 0, none⟩ [(.int .i64 r45), (.int .i64 r46), (.string r47), (.bool r48)] 0 → (
 ∃ (x52 : Int) (x53 : Int) (x54 : ByteArray) (x55 : Bool), cells H49 ⟨H1.size, 0, none⟩ [(.int .i64 x52), (.int .i64 x53), (.string x54), (.bool x55)] 0 ∧ (
 Q x52 x53 x54 x55 0 H49)))))))))))))
set_option maxRecDepth 100000 in
set_option maxHeartbeats 4000000 in
theorem walk58 {w0 : World} {p0 : Int} {p1_0 : Int} {p1_1 : Int} {p1_2 : ByteArray} {p1_3 : Bool} {H : Hp} {Q : Int → Int → ByteArray → Bool → Int → Hp → Prop} (h : F58 p0 p1_0 p1_1 p1_2 p1_3 H Q) :
    Good Tryd.prog w0 58 #[(.int .i64 p0), (.agg #[(.int .i64 p1_0), (.int .i64 p1_1), (.string p1_2), (.bool p1_3)])] H (fun v H => ∃ (r0 : Int) (r1 : Int) (r2 : ByteArray) (r3 : Bool) (r4 : Int) , v = (.tuple #[(.agg #[(.int .i64 r0), (.int .i64 r1), (.string r2), (.bool r3)]), (.int .i64 r4)]) ∧ Q r0 r1 r2 r3 r4 H) := by
  unfold F58 at h
  refine Good.enter' (fn := Tryd.f58) Tryd.func58 rfl rfl rfl ?_
  refine HW.seq ?_
  refine HW.region ?_
  refine HList.ops' rfl (HOp.box (v := (.agg #[(.int .i64 p1_0), (.int .i64 p1_1), (.string p1_2), (.bool p1_3)])) rfl) ?_
  rintro _ H1 ⟨rfl, e2⟩
  replace h := h H1 e2
  refine HList.ops' rfl (HOp.alloc Tryd.zeroValue38) ?_
  rintro _ H3 ⟨rfl, e4⟩
  replace h := h H3 e4
  refine HList.vals (v := (.int .i64 0)) rfl (HVal.assign' rfl) ?_
  refine HList.nil ?_
  refine nt ?_
  refine HW.seq ?_
  refine HW.seq ?_
  refine HW.region ?_
  refine HList.vals (v := (.int .i64 p0)) rfl (HVal.move' rfl) ?_
  obtain ⟨x6, x7, x8, x9, c5, h⟩ := h
  refine HList.vals (v := (.agg #[(.int .i64 x6), (.int .i64 x7), (.string x8), (.bool x9)])) rfl (HVal.loadN [(.int .i64 x6), (.int .i64 x7), (.string x8), (.bool x9)] Tryd.isAgg38 Tryd.sizeOf38 rfl c5) ?_
  refine HList.ops' rfl (HOp.buildSlice' (zs := [(.int .i64 0), (.int .i64 0), (.string (ByteArray.mk #[])), (.bool false)]) (cs := [(.int .i64 x6), (.int .i64 x7), (.string x8), (.bool x9)]) Tryd.runUnderlying34 Tryd.sizeOf38 Tryd.zeroValue38 (by decide) (by kernel_rfl) rfl (by decide)) ?_
  rintro _ H10 ⟨rfl, e11⟩
  replace h := h H10 e11
  refine HList.ops' rfl (HOp.call' 72 [(.int .i64 p0), (.int .i64 1), (.int .i64 2), (Sl.v (Sl.mk (some ⟨H3.size, 0, none⟩) 1 1))] (cap := []) rfl rfl Tryd.call72 (walk72 h)) ?_
  rintro _ H12 ⟨r14, rfl, h⟩
  refine HList.vals (v := (.int .i64 r14)) rfl (HVal.assign' rfl) ?_
  refine HList.nil ?_
  refine nt ?_
  refine HW.seq ?_
  refine HW.region ?_
  refine HList.vals (v := (.int .i64 r14)) rfl (HVal.move' rfl) ?_
  refine HList.vals (v := (.bool (decide (r14 ≠ 0)))) rfl (HVal.neqI rfl rfl) ?_
  refine HList.nil ?_
  refine nt ?_
  obtain ⟨hT, hF⟩ := h
  refine HW.cond (decide (r14 ≠ 0)) rfl (fun hb15 => ?_) (fun hb15 => ?_)
  · have h := hT hb15
    clear hT hF
    refine HW.seq ?_
    refine HW.region ?_
    refine HList.vals (v := (.agg #[(.int .i64 0), (.int .i64 0), (.string (ByteArray.mk #[])), (.bool false)])) rfl (HVal.build' (cs := [(.int .i64 0), (.int .i64 0), (.string (ByteArray.mk #[])), (.bool false)]) Tryd.runUnderlying38 Tryd.zeroValue38 places38 rfl) ?_
    refine HList.vals (v := (.int .i64 r14)) rfl (HVal.move' rfl) ?_
    obtain ⟨z18, h⟩ := h
    refine HList.opsn (HOp.storeN' (l := [(.int .i64 0), (.int .i64 0), (.string (ByteArray.mk #[])), (.bool false)]) Tryd.sizeOf38 rfl rfl rfl z18) ?_
    rintro _ H16 e17
    replace h := h H16 e17
    refine HList.vals (v := (.int .i64 r14)) rfl (HVal.assign' rfl) ?_
    refine HList.nil ?_
    refine nt ?_
    refine HW.ret ?_
    refine tr ?_
    obtain ⟨x19, x20, x21, x22, c23, h⟩ := h
    exact ⟨_, resOf2 rfl (Res1.n [(.int .i64 x19), (.int .i64 x20), (.string x21), (.bool x22)] Tryd.isAgg38 Tryd.sizeOf38 rfl c23) Res1.t, ⟨x19, x20, x21, x22, r14, rfl, h⟩⟩
  · have h := hF hb15
    clear hT hF
    refine HW.skip ?_
    refine nt ?_
    refine HW.seq ?_
    refine HW.seq ?_
    refine HW.region ?_
    refine HList.vals (v := (.int .i64 p0)) rfl (HVal.move' rfl) ?_
    refine HList.vals (v := (.bool (decide (p0 = 1)))) rfl (HVal.eqlI rfl rfl) ?_
    refine HList.nil ?_
    refine nt ?_
    obtain ⟨hT, hF⟩ := h
    refine HW.cond (decide (p0 = 1)) rfl (fun hb24 => ?_) (fun hb24 => ?_)
    · have h := hT hb24
      clear hT hF
      refine HW.seq ?_
      refine HW.region ?_
      refine HList.vals (v := (.pointer (some (Addr.add ⟨H.size, 0, none⟩ 1)))) rfl (HVal.fieldAddr' Tryd.runUnderlying38 rfl rfl Tryd.sizeOf2 rfl) ?_
      obtain ⟨x26, c25, h⟩ := h
      refine HList.vals (v := (.int .i64 x26)) rfl (HVal.load1 Tryd.isAgg2 rfl c25) ?_
      refine HList.vals (v := (.int .i64 (IntKind.i64.wrap (0 - x26)))) rfl (HVal.neg rfl) ?_
      refine HList.ops' rfl (HOp.call' 60 [(.int .i64 (IntKind.i64.wrap (0 - x26)))] (cap := []) rfl rfl Tryd.call60 (walk60 h)) ?_
      rintro _ H27 ⟨r29, r30, r31, r32, rfl, h⟩
      obtain ⟨z35, h⟩ := h
      refine HList.opsn (HOp.storeN' (l := [(.int .i64 r29), (.int .i64 r30), (.string r31), (.bool r32)]) Tryd.sizeOf38 rfl rfl rfl z35) ?_
      rintro _ H33 e34
      replace h := h H33 e34
      refine HList.vals (v := (.int .i64 0)) rfl (HVal.assign' rfl) ?_
      refine HList.nil ?_
      refine nt ?_
      refine HW.ret ?_
      refine tr ?_
      obtain ⟨x36, x37, x38, x39, c40, h⟩ := h
      exact ⟨_, resOf2 rfl (Res1.n [(.int .i64 x36), (.int .i64 x37), (.string x38), (.bool x39)] Tryd.isAgg38 Tryd.sizeOf38 rfl c40) Res1.t, ⟨x36, x37, x38, x39, 0, rfl, h⟩⟩
    · have h := hF hb24
      clear hT hF
      refine HW.skip ?_
      refine nt ?_
      refine HW.seq ?_
      refine HW.region ?_
      refine HList.vals (v := (.pointer (some (Addr.add ⟨H.size, 0, none⟩ 3)))) rfl (HVal.fieldAddr' Tryd.runUnderlying38 rfl rfl Tryd.sizeOf4 rfl) ?_
      obtain ⟨x42, c41, h⟩ := h
      refine HList.vals (v := (.bool x42)) rfl (HVal.load1 Tryd.isAgg4 rfl c41) ?_
      refine HList.vals (v := (.bool (!x42))) rfl (HVal.not rfl) ?_
      refine HList.ops' rfl (HOp.call' 62 [(.bool (!x42))] (cap := []) rfl rfl Tryd.call62 (walk62 h)) ?_
      rintro _ H43 ⟨r45, r46, r47, r48, rfl, h⟩
      obtain ⟨z51, h⟩ := h
      refine HList.opsn (HOp.storeN' (l := [(.int .i64 r45), (.int .i64 r46), (.string r47), (.bool r48)]) Tryd.sizeOf38 rfl rfl rfl z51) ?_
      rintro _ H49 e50
      replace h := h H49 e50
      refine HList.vals (v := (.int .i64 0)) rfl (HVal.assign' rfl) ?_
      refine HList.nil ?_
      refine nt ?_
      refine HW.ret ?_
      obtain ⟨x52, x53, x54, x55, c56, h⟩ := h
      exact ⟨_, resOf2 rfl (Res1.n [(.int .i64 x52), (.int .i64 x53), (.string x54), (.bool x55)] Tryd.isAgg38 Tryd.sizeOf38 rfl c56) Res1.t, ⟨x52, x53, x54, x55, 0, rfl, h⟩⟩

def F83_1 (Q : Int → Hp → Prop) (y1 : Int) (H_1 : Hp) : Prop :=
Q y1 H_1
def F83_L2b (Q : Int → Hp → Prop) (X2 : Int → Hp → Prop) (y3 : Int) (y4 : Sl) (y5 : Int) (y2 : Int) (H_2 : Hp) : Prop :=
((decide (y2 < y5)) = true → (∃ a7 : Addr, (y4).b = some a7 ∧ (0 : Int) ≤ y2 ∧ y2 < ((y4).n : Int) ∧ (
 ∃ x12 : Int, cell H_2 (Addr.add a7 (y2.toNat * 1)) = some (.int .i64 x12) ∧ (
 ((decide (x12 ≠ y3)) = true → (Q x12 H_2)) ∧
 ((decide (x12 ≠ y3)) = false → (X2 (IntKind.i64.wrap (y2 + 1)) H_2)))))) ∧
 ((decide (y2 < y5)) = false → (F83_1 Q y3 H_2))
def F83_L2 (Q : Int → Hp → Prop) (y3 : Int) (y4 : Sl) (y5 : Int) (y2 : Int) (H_2 : Hp) : Prop :=
  ∀ X2 : Int → Hp → Prop, (∀ (y2 : Int) (H_2 : Hp), F83_L2b Q X2 y3 y4 y5 y2 H_2 → X2 y2 H_2) → X2 y2 H_2
def F83 (p0 : Sl) (H : Hp) (Q : Int → Hp → Prop) : Prop :=
F83_L2 Q 0 p0 ((p0).n : Int) 0 H
set_option maxRecDepth 100000 in
set_option maxHeartbeats 4000000 in
theorem walk83 {w0 : World} {p0 : Sl} {H : Hp} {Q : Int → Hp → Prop} (h : F83 p0 H Q) :
    Good Tryd.prog w0 83 #[(Sl.v p0)] H (fun v H => ∃ (r0 : Int) , v = (.int .i64 r0) ∧ Q r0 H) := by
  unfold F83 at h
  refine Good.enter' (fn := Tryd.f83) Tryd.func83 rfl rfl rfl ?_
  refine HW.seq ?_
  refine HW.region ?_
  refine HList.vals (v := (.int .i64 0)) rfl (HVal.assign' rfl) ?_
  refine HList.nil ?_
  refine nt ?_
  refine HW.seq ?_
  refine HW.region ?_
  refine HList.vals (v := (.int .i64 0)) rfl (HVal.assign' rfl) ?_
  refine HList.nil ?_
  refine nt ?_
  refine HW.cut (fun ρ H_1 => Env.Is ρ [(3, (.int .i64 0))] ∧ F83_1 Q 0 H_1) ?_ ?_
  · refine HW.seq ?_
    refine HW.region ?_
    refine HList.vals (v := (Sl.v p0)) rfl (HVal.move' rfl) ?_
    refine HList.vals (v := (.int .i64 ((p0).n : Int))) rfl (HVal.len Tryd.runUnderlying136 rfl) ?_
    refine HList.vals (v := (.int .i64 0)) rfl (HVal.move' rfl) ?_
    refine HList.nil ?_
    refine nt ?_
    refine HW.block ?_
    refine HW.loop' (fun L2 hL2 => ?_)
    obtain ⟨X2, hX2⟩ : ∃ X2 : Int → Hp → Prop, ∀ (y2 : Int) (H_2 : Hp), X2 y2 H_2 ↔ ∀ ρ, Env.Is ρ [(3, (.int .i64 0)), (6, (Sl.v p0)), (7, (.int .i64 ((p0).n : Int))), (8, (.int .i64 y2))] → L2 ρ H_2 := ⟨_, fun _ _ => Iff.rfl⟩
    refine (hX2 _ _).1 (h X2 ?_) _ ?_
    rotate_left
    · exact ⟨rfl, rfl, rfl, rfl, trivial⟩
    clear h
    intro y2 H_2 h
    refine (hX2 _ _).2 fun ρ hI => ?_
    obtain ⟨ρ0, rfl⟩ : ∃ ρ0, ρ = (Env.set (Env.set (Env.set (Env.set ρ0 8 (.int .i64 y2)) 7 (.int .i64 ((p0).n : Int))) 6 (Sl.v p0)) 3 (.int .i64 0)) := ⟨ρ, hI.eq⟩
    clear hI; unfold F83_L2b at h; refine hL2 _ _ ?_
    refine HW.seq ?_
    refine HW.region ?_
    refine HList.vals (v := (.bool (decide (y2 < ((p0).n : Int))))) rfl (HVal.lss rfl rfl) ?_
    refine HList.nil ?_
    refine nt ?_
    refine HW.seq ?_
    obtain ⟨hT, hF⟩ := h
    refine HW.cond (decide (y2 < ((p0).n : Int))) rfl (fun hb6 => ?_) (fun hb6 => ?_)
    · have h := hT hb6
      clear hT hF
      refine HW.skip ?_
      refine nt ?_
      refine HW.seq ?_
      refine HW.block ?_
      refine HW.seq ?_
      refine HW.region ?_
      obtain ⟨a7, e8, b9, b10, h⟩ := h
      refine HList.vals (v := (.pointer (some (Addr.add a7 (y2.toNat * 1))))) rfl (HVal.indexAddr Tryd.runUnderlying136 Tryd.sizeOf3 (Sl.v_some rfl e8) rfl b9 b10) ?_
      obtain ⟨x12, c11, h⟩ := h
      refine HList.vals (v := (.int .i64 x12)) rfl (HVal.load1 Tryd.isAgg3 rfl c11) ?_
      refine HList.vals (v := (.int .i64 x12)) rfl (HVal.assign' rfl) ?_
      refine HList.nil ?_
      refine nt ?_
      refine HW.seq ?_
      refine HW.region ?_
      refine HList.vals (v := (.int .i64 x12)) rfl (HVal.move' rfl) ?_
      refine HList.vals (v := (.int .i64 0)) rfl (HVal.move' rfl) ?_
      refine HList.vals (v := (.bool (decide (x12 ≠ 0)))) rfl (HVal.neqI rfl rfl) ?_
      refine HList.nil ?_
      refine nt ?_
      obtain ⟨hT, hF⟩ := h
      refine HW.cond (decide (x12 ≠ 0)) rfl (fun hb13 => ?_) (fun hb13 => ?_)
      · have h := hT hb13
        clear hT hF
        refine HW.seq ?_
        refine HW.region ?_
        refine HList.vals (v := (.int .i64 x12)) rfl (HVal.move' rfl) ?_
        refine HList.vals (v := (.int .i64 x12)) rfl (HVal.assign' rfl) ?_
        refine HList.nil ?_
        refine nt ?_
        refine HW.ret ?_
        refine br ?_
        refine tr ?_
        refine tr ?_
        refine br ?_
        refine tr ?_
        exact ⟨_, resOf1 rfl Res1.t, ⟨x12, rfl, h⟩⟩
      · have h := hF hb13
        clear hT hF
        refine HW.skip ?_
        refine nb ?_
        refine nt ?_
        refine HW.region ?_
        refine HList.vals (v := (.int .i64 (IntKind.i64.wrap (y2 + 1)))) rfl (HVal.add rfl rfl) ?_
        refine HList.vals (v := (.int .i64 (IntKind.i64.wrap (y2 + 1)))) rfl (HVal.move' rfl) ?_
        refine HList.nil ?_
        refine nt ?_
        exact (hX2 _ _).1 h _ ⟨rfl, rfl, rfl, rfl, trivial⟩
    · have h := hF hb6
      clear hT hF
      refine HW.exit ?_
      refine te ?_
      refine te ?_
      refine be ?_
      refine nt ?_
      exact ⟨⟨rfl, trivial⟩, h⟩
  · rintro ρ H_1 ⟨hI, h⟩
    obtain ⟨ρ0, rfl⟩ : ∃ ρ0, ρ = (Env.set ρ0 3 (.int .i64 0)) := ⟨ρ, hI.eq⟩
    clear hI; unfold F83_1 at h
    refine HW.seq ?_
    refine HW.region ?_
    refine HList.vals (v := (.int .i64 0)) rfl (HVal.move' rfl) ?_
    refine HList.vals (v := (.int .i64 0)) rfl (HVal.assign' rfl) ?_
    refine HList.nil ?_
    refine nt ?_
    refine HW.ret ?_
    exact ⟨_, resOf1 rfl Res1.t, ⟨0, rfl, h⟩⟩

def F88 (p0 : Int) (H : Hp) (Q : Bool → Hp → Prop) : Prop :=
Q (decide (p0 ≠ p0)) H
set_option maxRecDepth 100000 in
set_option maxHeartbeats 4000000 in
theorem walk88 {w0 : World} {p0 : Int} {H : Hp} {Q : Bool → Hp → Prop} (h : F88 p0 H Q) :
    Good Tryd.prog w0 88 #[(.int .i64 p0)] H (fun v H => ∃ (r0 : Bool) , v = (.bool r0) ∧ Q r0 H) := by
  unfold F88 at h
  refine Good.enter' (fn := Tryd.f88) Tryd.func88 rfl rfl rfl ?_
  refine HW.seq ?_
  refine HW.region ?_
  refine HList.vals (v := (.bool false)) rfl (HVal.assign' rfl) ?_
  refine HList.nil ?_
  refine nt ?_
  refine HW.seq ?_
  refine HW.region ?_
  refine HList.vals (v := (.int .i64 p0)) rfl (HVal.move' rfl) ?_
  refine HList.vals (v := (.int .i64 p0)) rfl (HVal.move' rfl) ?_
  refine HList.vals (v := (.bool (decide (p0 ≠ p0)))) rfl (HVal.neqI rfl rfl) ?_
  refine HList.vals (v := (.bool (decide (p0 ≠ p0)))) rfl (HVal.assign' rfl) ?_
  refine HList.nil ?_
  refine nt ?_
  refine HW.ret ?_
  exact ⟨_, resOf1 rfl Res1.t, ⟨(decide (p0 ≠ p0)), rfl, h⟩⟩

def F84 (p0 : Int) (p1 : Int) (H : Hp) (Q : Int → Hp → Prop) : Prop :=
F88 p0 H (fun (r3 : Bool) (H1 : Hp) => 
 F88 p1 H1 (fun (r6 : Bool) (H4 : Hp) => 
 (r3 = true → ((r6 = true → (Q 0 H4)) ∧
 (r6 = false → (Q (-1) H4)))) ∧
 (r3 = false → ((r6 = true → (Q 1 H4)) ∧
 (r6 = false → (((decide (p0 < p1)) = true → (Q (-1) H4)) ∧
 ((decide (p0 < p1)) = false → (((decide (p1 < p0)) = true → (Q 1 H4)) ∧
 ((decide (p1 < p0)) = false → (Q 0 H4))))))))))
set_option maxRecDepth 100000 in
set_option maxHeartbeats 4000000 in
theorem walk84 {w0 : World} {p0 : Int} {p1 : Int} {H : Hp} {Q : Int → Hp → Prop} (h : F84 p0 p1 H Q) :
    Good Tryd.prog w0 84 #[(.int .i64 p0), (.int .i64 p1)] H (fun v H => ∃ (r0 : Int) , v = (.int .i64 r0) ∧ Q r0 H) := by
  unfold F84 at h
  refine Good.enter' (fn := Tryd.f84) Tryd.func84 rfl rfl rfl ?_
  refine HW.seq ?_
  refine HW.region ?_
  refine HList.vals (v := (.int .i64 0)) rfl (HVal.assign' rfl) ?_
  refine HList.nil ?_
  refine nt ?_
  refine HW.seq ?_
  refine HW.region ?_
  refine HList.vals (v := (.int .i64 p0)) rfl (HVal.move' rfl) ?_
  refine HList.ops' rfl (HOp.call' 88 [(.int .i64 p0)] (cap := []) rfl rfl Tryd.call88 (walk88 h)) ?_
  rintro _ H1 ⟨r3, rfl, h⟩
  refine HList.vals (v := (.bool r3)) rfl (HVal.assign' rfl) ?_
  refine HList.nil ?_
  refine nt ?_
  refine HW.seq ?_
  refine HW.region ?_
  refine HList.vals (v := (.int .i64 p1)) rfl (HVal.move' rfl) ?_
  refine HList.ops' rfl (HOp.call' 88 [(.int .i64 p1)] (cap := []) rfl rfl Tryd.call88 (walk88 h)) ?_
  rintro _ H4 ⟨r6, rfl, h⟩
  refine HList.vals (v := (.bool r6)) rfl (HVal.assign' rfl) ?_
  refine HList.nil ?_
  refine nt ?_
  refine HW.seq ?_
  refine HW.seq ?_
  refine HW.region ?_
  refine HList.vals (v := (.bool r3)) rfl (HVal.move' rfl) ?_
  refine HList.nil ?_
  refine nt ?_
  obtain ⟨hT, hF⟩ := h
  refine HW.cond r3 rfl (fun hb7 => ?_) (fun hb7 => ?_)
  · have h := hT hb7
    clear hT hF
    refine HW.seq ?_
    refine HW.seq ?_
    refine HW.region ?_
    refine HList.vals (v := (.bool r6)) rfl (HVal.move' rfl) ?_
    refine HList.nil ?_
    refine nt ?_
    obtain ⟨hT, hF⟩ := h
    refine HW.cond r6 rfl (fun hb8 => ?_) (fun hb8 => ?_)
    · have h := hT hb8
      clear hT hF
      refine HW.seq ?_
      refine HW.region ?_
      refine HList.vals (v := (.int .i64 0)) rfl (HVal.assign' rfl) ?_
      refine HList.nil ?_
      refine nt ?_
      refine HW.ret ?_
      refine tr ?_
      refine tr ?_
      exact ⟨_, resOf1 rfl Res1.t, ⟨0, rfl, h⟩⟩
    · have h := hF hb8
      clear hT hF
      refine HW.skip ?_
      refine nt ?_
      refine HW.seq ?_
      refine HW.region ?_
      refine HList.vals (v := (.int .i64 (-1))) rfl (HVal.assign' rfl) ?_
      refine HList.nil ?_
      refine nt ?_
      refine HW.ret ?_
      refine tr ?_
      exact ⟨_, resOf1 rfl Res1.t, ⟨(-1), rfl, h⟩⟩
  · have h := hF hb7
    clear hT hF
    refine HW.skip ?_
    refine nt ?_
    refine HW.seq ?_
    refine HW.seq ?_
    refine HW.region ?_
    refine HList.vals (v := (.bool r6)) rfl (HVal.move' rfl) ?_
    refine HList.nil ?_
    refine nt ?_
    obtain ⟨hT, hF⟩ := h
    refine HW.cond r6 rfl (fun hb9 => ?_) (fun hb9 => ?_)
    · have h := hT hb9
      clear hT hF
      refine HW.seq ?_
      refine HW.region ?_
      refine HList.vals (v := (.int .i64 1)) rfl (HVal.assign' rfl) ?_
      refine HList.nil ?_
      refine nt ?_
      refine HW.ret ?_
      refine tr ?_
      exact ⟨_, resOf1 rfl Res1.t, ⟨1, rfl, h⟩⟩
    · have h := hF hb9
      clear hT hF
      refine HW.skip ?_
      refine nt ?_
      refine HW.seq ?_
      refine HW.seq ?_
      refine HW.region ?_
      refine HList.vals (v := (.int .i64 p0)) rfl (HVal.move' rfl) ?_
      refine HList.vals (v := (.int .i64 p1)) rfl (HVal.move' rfl) ?_
      refine HList.vals (v := (.bool (decide (p0 < p1)))) rfl (HVal.lss rfl rfl) ?_
      refine HList.nil ?_
      refine nt ?_
      obtain ⟨hT, hF⟩ := h
      refine HW.cond (decide (p0 < p1)) rfl (fun hb10 => ?_) (fun hb10 => ?_)
      · have h := hT hb10
        clear hT hF
        refine HW.seq ?_
        refine HW.region ?_
        refine HList.vals (v := (.int .i64 (-1))) rfl (HVal.assign' rfl) ?_
        refine HList.nil ?_
        refine nt ?_
        refine HW.ret ?_
        refine tr ?_
        exact ⟨_, resOf1 rfl Res1.t, ⟨(-1), rfl, h⟩⟩
      · have h := hF hb10
        clear hT hF
        refine HW.skip ?_
        refine nt ?_
        refine HW.seq ?_
        refine HW.seq ?_
        refine HW.region ?_
        refine HList.vals (v := (.int .i64 p0)) rfl (HVal.move' rfl) ?_
        refine HList.vals (v := (.int .i64 p1)) rfl (HVal.move' rfl) ?_
        refine HList.vals (v := (.bool (decide (p1 < p0)))) rfl (HVal.gtr rfl rfl) ?_
        refine HList.nil ?_
        refine nt ?_
        obtain ⟨hT, hF⟩ := h
        refine HW.cond (decide (p1 < p0)) rfl (fun hb11 => ?_) (fun hb11 => ?_)
        · have h := hT hb11
          clear hT hF
          refine HW.seq ?_
          refine HW.region ?_
          refine HList.vals (v := (.int .i64 1)) rfl (HVal.assign' rfl) ?_
          refine HList.nil ?_
          refine nt ?_
          refine HW.ret ?_
          refine tr ?_
          exact ⟨_, resOf1 rfl Res1.t, ⟨1, rfl, h⟩⟩
        · have h := hF hb11
          clear hT hF
          refine HW.skip ?_
          refine nt ?_
          refine HW.seq ?_
          refine HW.region ?_
          refine HList.vals (v := (.int .i64 0)) rfl (HVal.assign' rfl) ?_
          refine HList.nil ?_
          refine nt ?_
          refine HW.ret ?_
          exact ⟨_, resOf1 rfl Res1.t, ⟨0, rfl, h⟩⟩

def F89 (p0 : Int) (H : Hp) (Q : Bool → Hp → Prop) : Prop :=
Q (decide (p0 ≠ p0)) H
set_option maxRecDepth 100000 in
set_option maxHeartbeats 4000000 in
theorem walk89 {w0 : World} {p0 : Int} {H : Hp} {Q : Bool → Hp → Prop} (h : F89 p0 H Q) :
    Good Tryd.prog w0 89 #[(.int .i64 p0)] H (fun v H => ∃ (r0 : Bool) , v = (.bool r0) ∧ Q r0 H) := by
  unfold F89 at h
  refine Good.enter' (fn := Tryd.f89) Tryd.func89 rfl rfl rfl ?_
  refine HW.seq ?_
  refine HW.region ?_
  refine HList.vals (v := (.bool false)) rfl (HVal.assign' rfl) ?_
  refine HList.nil ?_
  refine nt ?_
  refine HW.seq ?_
  refine HW.region ?_
  refine HList.vals (v := (.int .i64 p0)) rfl (HVal.move' rfl) ?_
  refine HList.vals (v := (.int .i64 p0)) rfl (HVal.move' rfl) ?_
  refine HList.vals (v := (.bool (decide (p0 ≠ p0)))) rfl (HVal.neqI rfl rfl) ?_
  refine HList.vals (v := (.bool (decide (p0 ≠ p0)))) rfl (HVal.assign' rfl) ?_
  refine HList.nil ?_
  refine nt ?_
  refine HW.ret ?_
  exact ⟨_, resOf1 rfl Res1.t, ⟨(decide (p0 ≠ p0)), rfl, h⟩⟩

def F85 (p0 : Int) (p1 : Int) (H : Hp) (Q : Int → Hp → Prop) : Prop :=
F89 p0 H (fun (r3 : Bool) (H1 : Hp) => 
 F89 p1 H1 (fun (r6 : Bool) (H4 : Hp) => 
 (r3 = true → ((r6 = true → (Q 0 H4)) ∧
 (r6 = false → (Q (-1) H4)))) ∧
 (r3 = false → ((r6 = true → (Q 1 H4)) ∧
 (r6 = false → (((decide (p0 < p1)) = true → (Q (-1) H4)) ∧
 ((decide (p0 < p1)) = false → (((decide (p1 < p0)) = true → (Q 1 H4)) ∧
 ((decide (p1 < p0)) = false → (Q 0 H4))))))))))
set_option maxRecDepth 100000 in
set_option maxHeartbeats 4000000 in
theorem walk85 {w0 : World} {p0 : Int} {p1 : Int} {H : Hp} {Q : Int → Hp → Prop} (h : F85 p0 p1 H Q) :
    Good Tryd.prog w0 85 #[(.int .i64 p0), (.int .i64 p1)] H (fun v H => ∃ (r0 : Int) , v = (.int .i64 r0) ∧ Q r0 H) := by
  unfold F85 at h
  refine Good.enter' (fn := Tryd.f85) Tryd.func85 rfl rfl rfl ?_
  refine HW.seq ?_
  refine HW.region ?_
  refine HList.vals (v := (.int .i64 0)) rfl (HVal.assign' rfl) ?_
  refine HList.nil ?_
  refine nt ?_
  refine HW.seq ?_
  refine HW.region ?_
  refine HList.vals (v := (.int .i64 p0)) rfl (HVal.move' rfl) ?_
  refine HList.ops' rfl (HOp.call' 89 [(.int .i64 p0)] (cap := []) rfl rfl Tryd.call89 (walk89 h)) ?_
  rintro _ H1 ⟨r3, rfl, h⟩
  refine HList.vals (v := (.bool r3)) rfl (HVal.assign' rfl) ?_
  refine HList.nil ?_
  refine nt ?_
  refine HW.seq ?_
  refine HW.region ?_
  refine HList.vals (v := (.int .i64 p1)) rfl (HVal.move' rfl) ?_
  refine HList.ops' rfl (HOp.call' 89 [(.int .i64 p1)] (cap := []) rfl rfl Tryd.call89 (walk89 h)) ?_
  rintro _ H4 ⟨r6, rfl, h⟩
  refine HList.vals (v := (.bool r6)) rfl (HVal.assign' rfl) ?_
  refine HList.nil ?_
  refine nt ?_
  refine HW.seq ?_
  refine HW.seq ?_
  refine HW.region ?_
  refine HList.vals (v := (.bool r3)) rfl (HVal.move' rfl) ?_
  refine HList.nil ?_
  refine nt ?_
  obtain ⟨hT, hF⟩ := h
  refine HW.cond r3 rfl (fun hb7 => ?_) (fun hb7 => ?_)
  · have h := hT hb7
    clear hT hF
    refine HW.seq ?_
    refine HW.seq ?_
    refine HW.region ?_
    refine HList.vals (v := (.bool r6)) rfl (HVal.move' rfl) ?_
    refine HList.nil ?_
    refine nt ?_
    obtain ⟨hT, hF⟩ := h
    refine HW.cond r6 rfl (fun hb8 => ?_) (fun hb8 => ?_)
    · have h := hT hb8
      clear hT hF
      refine HW.seq ?_
      refine HW.region ?_
      refine HList.vals (v := (.int .i64 0)) rfl (HVal.assign' rfl) ?_
      refine HList.nil ?_
      refine nt ?_
      refine HW.ret ?_
      refine tr ?_
      refine tr ?_
      exact ⟨_, resOf1 rfl Res1.t, ⟨0, rfl, h⟩⟩
    · have h := hF hb8
      clear hT hF
      refine HW.skip ?_
      refine nt ?_
      refine HW.seq ?_
      refine HW.region ?_
      refine HList.vals (v := (.int .i64 (-1))) rfl (HVal.assign' rfl) ?_
      refine HList.nil ?_
      refine nt ?_
      refine HW.ret ?_
      refine tr ?_
      exact ⟨_, resOf1 rfl Res1.t, ⟨(-1), rfl, h⟩⟩
  · have h := hF hb7
    clear hT hF
    refine HW.skip ?_
    refine nt ?_
    refine HW.seq ?_
    refine HW.seq ?_
    refine HW.region ?_
    refine HList.vals (v := (.bool r6)) rfl (HVal.move' rfl) ?_
    refine HList.nil ?_
    refine nt ?_
    obtain ⟨hT, hF⟩ := h
    refine HW.cond r6 rfl (fun hb9 => ?_) (fun hb9 => ?_)
    · have h := hT hb9
      clear hT hF
      refine HW.seq ?_
      refine HW.region ?_
      refine HList.vals (v := (.int .i64 1)) rfl (HVal.assign' rfl) ?_
      refine HList.nil ?_
      refine nt ?_
      refine HW.ret ?_
      refine tr ?_
      exact ⟨_, resOf1 rfl Res1.t, ⟨1, rfl, h⟩⟩
    · have h := hF hb9
      clear hT hF
      refine HW.skip ?_
      refine nt ?_
      refine HW.seq ?_
      refine HW.seq ?_
      refine HW.region ?_
      refine HList.vals (v := (.int .i64 p0)) rfl (HVal.move' rfl) ?_
      refine HList.vals (v := (.int .i64 p1)) rfl (HVal.move' rfl) ?_
      refine HList.vals (v := (.bool (decide (p0 < p1)))) rfl (HVal.lss rfl rfl) ?_
      refine HList.nil ?_
      refine nt ?_
      obtain ⟨hT, hF⟩ := h
      refine HW.cond (decide (p0 < p1)) rfl (fun hb10 => ?_) (fun hb10 => ?_)
      · have h := hT hb10
        clear hT hF
        refine HW.seq ?_
        refine HW.region ?_
        refine HList.vals (v := (.int .i64 (-1))) rfl (HVal.assign' rfl) ?_
        refine HList.nil ?_
        refine nt ?_
        refine HW.ret ?_
        refine tr ?_
        exact ⟨_, resOf1 rfl Res1.t, ⟨(-1), rfl, h⟩⟩
      · have h := hF hb10
        clear hT hF
        refine HW.skip ?_
        refine nt ?_
        refine HW.seq ?_
        refine HW.seq ?_
        refine HW.region ?_
        refine HList.vals (v := (.int .i64 p0)) rfl (HVal.move' rfl) ?_
        refine HList.vals (v := (.int .i64 p1)) rfl (HVal.move' rfl) ?_
        refine HList.vals (v := (.bool (decide (p1 < p0)))) rfl (HVal.gtr rfl rfl) ?_
        refine HList.nil ?_
        refine nt ?_
        obtain ⟨hT, hF⟩ := h
        refine HW.cond (decide (p1 < p0)) rfl (fun hb11 => ?_) (fun hb11 => ?_)
        · have h := hT hb11
          clear hT hF
          refine HW.seq ?_
          refine HW.region ?_
          refine HList.vals (v := (.int .i64 1)) rfl (HVal.assign' rfl) ?_
          refine HList.nil ?_
          refine nt ?_
          refine HW.ret ?_
          refine tr ?_
          exact ⟨_, resOf1 rfl Res1.t, ⟨1, rfl, h⟩⟩
        · have h := hF hb11
          clear hT hF
          refine HW.skip ?_
          refine nt ?_
          refine HW.seq ?_
          refine HW.region ?_
          refine HList.vals (v := (.int .i64 0)) rfl (HVal.assign' rfl) ?_
          refine HList.nil ?_
          refine nt ?_
          refine HW.ret ?_
          exact ⟨_, resOf1 rfl Res1.t, ⟨0, rfl, h⟩⟩

def F90 (p0 : ByteArray) (H : Hp) (Q : Bool → Hp → Prop) : Prop :=
Q (!(seq p0 p0)) H
set_option maxRecDepth 100000 in
set_option maxHeartbeats 4000000 in
theorem walk90 {w0 : World} {p0 : ByteArray} {H : Hp} {Q : Bool → Hp → Prop} (h : F90 p0 H Q) :
    Good Tryd.prog w0 90 #[(.string p0)] H (fun v H => ∃ (r0 : Bool) , v = (.bool r0) ∧ Q r0 H) := by
  unfold F90 at h
  refine Good.enter' (fn := Tryd.f90) Tryd.func90 rfl rfl rfl ?_
  refine HW.seq ?_
  refine HW.region ?_
  refine HList.vals (v := (.bool false)) rfl (HVal.assign' rfl) ?_
  refine HList.nil ?_
  refine nt ?_
  refine HW.seq ?_
  refine HW.region ?_
  refine HList.vals (v := (.string p0)) rfl (HVal.move' rfl) ?_
  refine HList.vals (v := (.string p0)) rfl (HVal.move' rfl) ?_
  refine HList.vals (v := (.bool (!(seq p0 p0)))) rfl (HVal.neqS rfl rfl) ?_
  refine HList.vals (v := (.bool (!(seq p0 p0)))) rfl (HVal.assign' rfl) ?_
  refine HList.nil ?_
  refine nt ?_
  refine HW.ret ?_
  exact ⟨_, resOf1 rfl Res1.t, ⟨(!(seq p0 p0)), rfl, h⟩⟩

def F86 (p0 : ByteArray) (p1 : ByteArray) (H : Hp) (Q : Int → Hp → Prop) : Prop :=
F90 p0 H (fun (r3 : Bool) (H1 : Hp) => 
 F90 p1 H1 (fun (r6 : Bool) (H4 : Hp) => 
 (r3 = true → ((r6 = true → (Q 0 H4)) ∧
 (r6 = false → (Q (-1) H4)))) ∧
 (r3 = false → ((r6 = true → (Q 1 H4)) ∧
 (r6 = false → (((slt p0 p1) = true → (Q (-1) H4)) ∧
 ((slt p0 p1) = false → (((!(slt p0 p1) && !(seq p0 p1)) = true → (Q 1 H4)) ∧
 ((!(slt p0 p1) && !(seq p0 p1)) = false → (Q 0 H4))))))))))
set_option maxRecDepth 100000 in
set_option maxHeartbeats 4000000 in
theorem walk86 {w0 : World} {p0 : ByteArray} {p1 : ByteArray} {H : Hp} {Q : Int → Hp → Prop} (h : F86 p0 p1 H Q) :
    Good Tryd.prog w0 86 #[(.string p0), (.string p1)] H (fun v H => ∃ (r0 : Int) , v = (.int .i64 r0) ∧ Q r0 H) := by
  unfold F86 at h
  refine Good.enter' (fn := Tryd.f86) Tryd.func86 rfl rfl rfl ?_
  refine HW.seq ?_
  refine HW.region ?_
  refine HList.vals (v := (.int .i64 0)) rfl (HVal.assign' rfl) ?_
  refine HList.nil ?_
  refine nt ?_
  refine HW.seq ?_
  refine HW.region ?_
  refine HList.vals (v := (.string p0)) rfl (HVal.move' rfl) ?_
  refine HList.ops' rfl (HOp.call' 90 [(.string p0)] (cap := []) rfl rfl Tryd.call90 (walk90 h)) ?_
  rintro _ H1 ⟨r3, rfl, h⟩
  refine HList.vals (v := (.bool r3)) rfl (HVal.assign' rfl) ?_
  refine HList.nil ?_
  refine nt ?_
  refine HW.seq ?_
  refine HW.region ?_
  refine HList.vals (v := (.string p1)) rfl (HVal.move' rfl) ?_
  refine HList.ops' rfl (HOp.call' 90 [(.string p1)] (cap := []) rfl rfl Tryd.call90 (walk90 h)) ?_
  rintro _ H4 ⟨r6, rfl, h⟩
  refine HList.vals (v := (.bool r6)) rfl (HVal.assign' rfl) ?_
  refine HList.nil ?_
  refine nt ?_
  refine HW.seq ?_
  refine HW.seq ?_
  refine HW.region ?_
  refine HList.vals (v := (.bool r3)) rfl (HVal.move' rfl) ?_
  refine HList.nil ?_
  refine nt ?_
  obtain ⟨hT, hF⟩ := h
  refine HW.cond r3 rfl (fun hb7 => ?_) (fun hb7 => ?_)
  · have h := hT hb7
    clear hT hF
    refine HW.seq ?_
    refine HW.seq ?_
    refine HW.region ?_
    refine HList.vals (v := (.bool r6)) rfl (HVal.move' rfl) ?_
    refine HList.nil ?_
    refine nt ?_
    obtain ⟨hT, hF⟩ := h
    refine HW.cond r6 rfl (fun hb8 => ?_) (fun hb8 => ?_)
    · have h := hT hb8
      clear hT hF
      refine HW.seq ?_
      refine HW.region ?_
      refine HList.vals (v := (.int .i64 0)) rfl (HVal.assign' rfl) ?_
      refine HList.nil ?_
      refine nt ?_
      refine HW.ret ?_
      refine tr ?_
      refine tr ?_
      exact ⟨_, resOf1 rfl Res1.t, ⟨0, rfl, h⟩⟩
    · have h := hF hb8
      clear hT hF
      refine HW.skip ?_
      refine nt ?_
      refine HW.seq ?_
      refine HW.region ?_
      refine HList.vals (v := (.int .i64 (-1))) rfl (HVal.assign' rfl) ?_
      refine HList.nil ?_
      refine nt ?_
      refine HW.ret ?_
      refine tr ?_
      exact ⟨_, resOf1 rfl Res1.t, ⟨(-1), rfl, h⟩⟩
  · have h := hF hb7
    clear hT hF
    refine HW.skip ?_
    refine nt ?_
    refine HW.seq ?_
    refine HW.seq ?_
    refine HW.region ?_
    refine HList.vals (v := (.bool r6)) rfl (HVal.move' rfl) ?_
    refine HList.nil ?_
    refine nt ?_
    obtain ⟨hT, hF⟩ := h
    refine HW.cond r6 rfl (fun hb9 => ?_) (fun hb9 => ?_)
    · have h := hT hb9
      clear hT hF
      refine HW.seq ?_
      refine HW.region ?_
      refine HList.vals (v := (.int .i64 1)) rfl (HVal.assign' rfl) ?_
      refine HList.nil ?_
      refine nt ?_
      refine HW.ret ?_
      refine tr ?_
      exact ⟨_, resOf1 rfl Res1.t, ⟨1, rfl, h⟩⟩
    · have h := hF hb9
      clear hT hF
      refine HW.skip ?_
      refine nt ?_
      refine HW.seq ?_
      refine HW.seq ?_
      refine HW.region ?_
      refine HList.vals (v := (.string p0)) rfl (HVal.move' rfl) ?_
      refine HList.vals (v := (.string p1)) rfl (HVal.move' rfl) ?_
      refine HList.vals (v := (.bool (slt p0 p1))) rfl (HVal.lssS rfl rfl) ?_
      refine HList.nil ?_
      refine nt ?_
      obtain ⟨hT, hF⟩ := h
      refine HW.cond (slt p0 p1) rfl (fun hb10 => ?_) (fun hb10 => ?_)
      · have h := hT hb10
        clear hT hF
        refine HW.seq ?_
        refine HW.region ?_
        refine HList.vals (v := (.int .i64 (-1))) rfl (HVal.assign' rfl) ?_
        refine HList.nil ?_
        refine nt ?_
        refine HW.ret ?_
        refine tr ?_
        exact ⟨_, resOf1 rfl Res1.t, ⟨(-1), rfl, h⟩⟩
      · have h := hF hb10
        clear hT hF
        refine HW.skip ?_
        refine nt ?_
        refine HW.seq ?_
        refine HW.seq ?_
        refine HW.region ?_
        refine HList.vals (v := (.string p0)) rfl (HVal.move' rfl) ?_
        refine HList.vals (v := (.string p1)) rfl (HVal.move' rfl) ?_
        refine HList.vals (v := (.bool (!(slt p0 p1) && !(seq p0 p1)))) rfl (HVal.gtrS rfl rfl) ?_
        refine HList.nil ?_
        refine nt ?_
        obtain ⟨hT, hF⟩ := h
        refine HW.cond (!(slt p0 p1) && !(seq p0 p1)) rfl (fun hb11 => ?_) (fun hb11 => ?_)
        · have h := hT hb11
          clear hT hF
          refine HW.seq ?_
          refine HW.region ?_
          refine HList.vals (v := (.int .i64 1)) rfl (HVal.assign' rfl) ?_
          refine HList.nil ?_
          refine nt ?_
          refine HW.ret ?_
          refine tr ?_
          exact ⟨_, resOf1 rfl Res1.t, ⟨1, rfl, h⟩⟩
        · have h := hF hb11
          clear hT hF
          refine HW.skip ?_
          refine nt ?_
          refine HW.seq ?_
          refine HW.region ?_
          refine HList.vals (v := (.int .i64 0)) rfl (HVal.assign' rfl) ?_
          refine HList.nil ?_
          refine nt ?_
          refine HW.ret ?_
          exact ⟨_, resOf1 rfl Res1.t, ⟨0, rfl, h⟩⟩

def F87 (p0 : Bool) (H : Hp) (Q : Int → Hp → Prop) : Prop :=
(p0 = true → (Q 1 H)) ∧
 (p0 = false → (Q 0 H))
set_option maxRecDepth 100000 in
set_option maxHeartbeats 4000000 in
theorem walk87 {w0 : World} {p0 : Bool} {H : Hp} {Q : Int → Hp → Prop} (h : F87 p0 H Q) :
    Good Tryd.prog w0 87 #[(.bool p0)] H (fun v H => ∃ (r0 : Int) , v = (.int .i64 r0) ∧ Q r0 H) := by
  unfold F87 at h
  refine Good.enter' (fn := Tryd.f87) Tryd.func87 rfl rfl rfl ?_
  refine HW.seq ?_
  refine HW.region ?_
  refine HList.vals (v := (.int .i64 0)) rfl (HVal.assign' rfl) ?_
  refine HList.nil ?_
  refine nt ?_
  refine HW.seq ?_
  refine HW.seq ?_
  refine HW.region ?_
  refine HList.vals (v := (.bool p0)) rfl (HVal.move' rfl) ?_
  refine HList.nil ?_
  refine nt ?_
  obtain ⟨hT, hF⟩ := h
  refine HW.cond p0 rfl (fun hb1 => ?_) (fun hb1 => ?_)
  · have h := hT hb1
    clear hT hF
    refine HW.seq ?_
    refine HW.region ?_
    refine HList.vals (v := (.int .i64 1)) rfl (HVal.assign' rfl) ?_
    refine HList.nil ?_
    refine nt ?_
    refine HW.ret ?_
    refine tr ?_
    exact ⟨_, resOf1 rfl Res1.t, ⟨1, rfl, h⟩⟩
  · have h := hF hb1
    clear hT hF
    refine HW.skip ?_
    refine nt ?_
    refine HW.seq ?_
    refine HW.region ?_
    refine HList.vals (v := (.int .i64 0)) rfl (HVal.assign' rfl) ?_
    refine HList.nil ?_
    refine nt ?_
    refine HW.ret ?_
    exact ⟨_, resOf1 rfl Res1.t, ⟨0, rfl, h⟩⟩

def F82 (p0_0 : Int) (p0_1 : Int) (p0_2 : ByteArray) (p0_3 : Bool) (p1_0 : Int) (p1_1 : Int) (p1_2 : ByteArray) (p1_3 : Bool) (H : Hp) (Q : Int → Hp → Prop) : Prop :=
∀ H1 : Hp, H1 = Array.push H (.cells #[(.int .i64 p0_0), (.int .i64 p0_1), (.string p0_2), (.bool p0_3)] 38) → (
 ∀ H3 : Hp, H3 = Array.push H1 (.cells #[(.int .i64 p1_0), (.int .i64 p1_1), (.string p1_2), (.bool p1_3)] 38) → (
 ∃ x6 : Int, cell H3 ⟨H.size, 0, none⟩ = some (.int .i64 x6) ∧ (
 ∃ x8 : Int, cell H3 ⟨H1.size, 0, none⟩ = some (.int .i64 x8) ∧ (
 ∃ x10 : Int, cell H3 (Addr.add ⟨H.size, 0, none⟩ 1) = some (.int .i64 x10) ∧ (
 ∃ x12 : Int, cell H3 (Addr.add ⟨H1.size, 0, none⟩ 1) = some (.int .i64 x12) ∧ (
 ∃ x14 : ByteArray, cell H3 (Addr.add ⟨H.size, 0, none⟩ 2) = some (.string x14) ∧ (
 ∃ x16 : ByteArray, cell H3 (Addr.add ⟨H1.size, 0, none⟩ 2) = some (.string x16) ∧ (
 ∃ x18 : Bool, cell H3 (Addr.add ⟨H.size, 0, none⟩ 3) = some (.bool x18) ∧ (
 ∃ x20 : Bool, cell H3 (Addr.add ⟨H1.size, 0, none⟩ 3) = some (.bool x20) ∧ (
 F84 x6 x8 H3 (fun (r23 : Int) (H21 : Hp) => 
 cell H21 (Addr.add ⟨H1.size, 0, none⟩ 3) = some (.bool x20) ∧ cell H21 (Addr.add ⟨H.size, 0, none⟩ 3) = some (.bool x18) ∧ cell H21 (Addr.add ⟨H1.size, 0, none⟩ 2) = some (.string x16) ∧ cell H21 (Addr.add ⟨H.size, 0, none⟩ 2) = some (.string x14) ∧ cell H21 (Addr.add ⟨H1.size, 0, none⟩ 1) = some (.int .i64 x12) ∧ cell H21 (Addr.add ⟨H.size, 0, none⟩ 1) = some (.int .i64 x10) ∧ (
 F85 x10 x12 H21 (fun (r32 : Int) (H30 : Hp) => 
 cell H30 (Addr.add ⟨H1.size, 0, none⟩ 3) = some (.bool x20) ∧ cell H30 (Addr.add ⟨H.size, 0, none⟩ 3) = some (.bool x18) ∧ cell H30 (Addr.add ⟨H1.size, 0, none⟩ 2) = some (.string x16) ∧ cell H30 (Addr.add ⟨H.size, 0, none⟩ 2) = some (.string x14) ∧ (
 F86 x14 x16 H30 (fun (r39 : Int) (H37 : Hp) => 
 cell H37 (Addr.add ⟨H1.size, 0, none⟩ 3) = some (.bool x20) ∧ cell H37 (Addr.add ⟨H.size, 0, none⟩ 3) = some (.bool x18) ∧ (
 F87 x18 H37 (fun (r44 : Int) (H42 : Hp) => 
 cell H42 (Addr.add ⟨H1.size, 0, none⟩ 3) = some (.bool x20) ∧ (
 F87 x20 H42 (fun (r48 : Int) (H46 : Hp) => 
 F84 r44 r48 H46 (fun (r51 : Int) (H49 : Hp) => 
 ∀ H52 : Hp, H52 = Array.push H49 (.cells #[(.int .i64 r23), (.int .i64 r32), (.int .i64 r39), (.int .i64 r51)] 3) → (
 F83 (Sl.mk (some ⟨H49.size, 0, none⟩) 4 4) H52 (fun (r56 : Int) (H54 : Hp) => 
 Q r56 H54))))))))))))))))))))))
set_option maxRecDepth 100000 in
set_option maxHeartbeats 4000000 in
theorem walk82 {w0 : World} {p0_0 : Int} {p0_1 : Int} {p0_2 : ByteArray} {p0_3 : Bool} {p1_0 : Int} {p1_1 : Int} {p1_2 : ByteArray} {p1_3 : Bool} {H : Hp} {Q : Int → Hp → Prop} (h : F82 p0_0 p0_1 p0_2 p0_3 p1_0 p1_1 p1_2 p1_3 H Q) :
    Good Tryd.prog w0 82 #[(.agg #[(.int .i64 p0_0), (.int .i64 p0_1), (.string p0_2), (.bool p0_3)]), (.agg #[(.int .i64 p1_0), (.int .i64 p1_1), (.string p1_2), (.bool p1_3)])] H (fun v H => ∃ (r0 : Int) , v = (.int .i64 r0) ∧ Q r0 H) := by
  unfold F82 at h
  refine Good.enter' (fn := Tryd.f82) Tryd.func82 rfl rfl rfl ?_
  refine HW.seq ?_
  refine HW.region ?_
  refine HList.ops' rfl (HOp.box (v := (.agg #[(.int .i64 p0_0), (.int .i64 p0_1), (.string p0_2), (.bool p0_3)])) rfl) ?_
  rintro _ H1 ⟨rfl, e2⟩
  replace h := h H1 e2
  refine HList.ops' rfl (HOp.box (v := (.agg #[(.int .i64 p1_0), (.int .i64 p1_1), (.string p1_2), (.bool p1_3)])) rfl) ?_
  rintro _ H3 ⟨rfl, e4⟩
  replace h := h H3 e4
  refine HList.vals (v := (.int .i64 0)) rfl (HVal.assign' rfl) ?_
  refine HList.nil ?_
  refine nt ?_
  refine HW.seq ?_
  refine HW.draw mixed [(0, some []), (1, some [4]), (2, some []), (3, some [4]), (5, some []), (6, some [9]), (7, some []), (8, some [9]), (10, some []), (11, some [14]), (12, some []), (13, some [14]), (15, some []), (16, some [17]), (18, some []), (19, some [20]), (4, none), (9, none), (14, none), (17, none), (20, none), (21, none), (22, none), (23, none), (24, some [])] rfl (by kernel_rfl) (by kernel_rfl) ?_
  refine HPlan.takev (v := (.pointer (some ⟨H.size, 0, none⟩))) rfl rfl (fun _ => HVal.fieldAddr0 Tryd.runUnderlying38 rfl rfl Tryd.sizeOf3 rfl) ?_
  obtain ⟨x6, c5, h⟩ := h
  refine HPlan.takel (v := (.int .i64 x6)) (fun X => cell X ⟨H.size, 0, none⟩ = some (.int .i64 x6)) rfl rfl (fun _ hX => HVal.load1 Tryd.isAgg3 rfl hX) c5 ?_
  refine HPlan.takev (v := (.pointer (some ⟨H1.size, 0, none⟩))) rfl rfl (fun _ => HVal.fieldAddr0 Tryd.runUnderlying38 rfl rfl Tryd.sizeOf3 rfl) ?_
  obtain ⟨x8, c7, h⟩ := h
  refine HPlan.takel (v := (.int .i64 x8)) (fun X => cell X ⟨H1.size, 0, none⟩ = some (.int .i64 x8)) rfl rfl (fun _ hX => HVal.load1 Tryd.isAgg3 rfl hX) c7 ?_
  refine HPlan.takev (v := (.pointer (some (Addr.add ⟨H.size, 0, none⟩ 1)))) rfl rfl (fun _ => HVal.fieldAddr' Tryd.runUnderlying38 rfl rfl Tryd.sizeOf2 rfl) ?_
  obtain ⟨x10, c9, h⟩ := h
  refine HPlan.takel (v := (.int .i64 x10)) (fun X => cell X (Addr.add ⟨H.size, 0, none⟩ 1) = some (.int .i64 x10)) rfl rfl (fun _ hX => HVal.load1 Tryd.isAgg2 rfl hX) c9 ?_
  refine HPlan.takev (v := (.pointer (some (Addr.add ⟨H1.size, 0, none⟩ 1)))) rfl rfl (fun _ => HVal.fieldAddr' Tryd.runUnderlying38 rfl rfl Tryd.sizeOf2 rfl) ?_
  obtain ⟨x12, c11, h⟩ := h
  refine HPlan.takel (v := (.int .i64 x12)) (fun X => cell X (Addr.add ⟨H1.size, 0, none⟩ 1) = some (.int .i64 x12)) rfl rfl (fun _ hX => HVal.load1 Tryd.isAgg2 rfl hX) c11 ?_
  refine HPlan.takev (v := (.pointer (some (Addr.add ⟨H.size, 0, none⟩ 2)))) rfl rfl (fun _ => HVal.fieldAddr' Tryd.runUnderlying38 rfl rfl Tryd.sizeOf9 rfl) ?_
  obtain ⟨x14, c13, h⟩ := h
  refine HPlan.takel (v := (.string x14)) (fun X => cell X (Addr.add ⟨H.size, 0, none⟩ 2) = some (.string x14)) rfl rfl (fun _ hX => HVal.load1 Tryd.isAgg9 rfl hX) c13 ?_
  refine HPlan.takev (v := (.pointer (some (Addr.add ⟨H1.size, 0, none⟩ 2)))) rfl rfl (fun _ => HVal.fieldAddr' Tryd.runUnderlying38 rfl rfl Tryd.sizeOf9 rfl) ?_
  obtain ⟨x16, c15, h⟩ := h
  refine HPlan.takel (v := (.string x16)) (fun X => cell X (Addr.add ⟨H1.size, 0, none⟩ 2) = some (.string x16)) rfl rfl (fun _ hX => HVal.load1 Tryd.isAgg9 rfl hX) c15 ?_
  refine HPlan.takev (v := (.pointer (some (Addr.add ⟨H.size, 0, none⟩ 3)))) rfl rfl (fun _ => HVal.fieldAddr' Tryd.runUnderlying38 rfl rfl Tryd.sizeOf4 rfl) ?_
  obtain ⟨x18, c17, h⟩ := h
  refine HPlan.takel (v := (.bool x18)) (fun X => cell X (Addr.add ⟨H.size, 0, none⟩ 3) = some (.bool x18)) rfl rfl (fun _ hX => HVal.load1 Tryd.isAgg4 rfl hX) c17 ?_
  refine HPlan.takev (v := (.pointer (some (Addr.add ⟨H1.size, 0, none⟩ 3)))) rfl rfl (fun _ => HVal.fieldAddr' Tryd.runUnderlying38 rfl rfl Tryd.sizeOf4 rfl) ?_
  obtain ⟨x20, c19, h⟩ := h
  refine HPlan.takel (v := (.bool x20)) (fun X => cell X (Addr.add ⟨H1.size, 0, none⟩ 3) = some (.bool x20)) rfl rfl (fun _ hX => HVal.load1 Tryd.isAgg4 rfl hX) c19 ?_
  refine HPlan.ops' rfl rfl (HOp.call' 84 [(.int .i64 x6), (.int .i64 x8)] (cap := []) rfl rfl Tryd.call84 (walk84 h)) ?_
  rintro _ H21 ⟨r23, rfl, h⟩
  obtain ⟨s24, s25, s26, s27, s28, s29, h⟩ := h
  refine ⟨SC_of ⟨fun _ => s24, fun _ => s25, fun _ => s26, fun _ => s27, fun _ => s28, fun _ => s29, fun e => absurd e (by decide), fun e => absurd e (by decide), trivial⟩, ?_⟩
  refine HPlan.ops' rfl rfl (HOp.call' 85 [(.int .i64 x10), (.int .i64 x12)] (cap := []) rfl rfl Tryd.call85 (walk85 h)) ?_
  rintro _ H30 ⟨r32, rfl, h⟩
  obtain ⟨s33, s34, s35, s36, h⟩ := h
  refine ⟨SC_of ⟨fun _ => s33, fun _ => s34, fun _ => s35, fun _ => s36, fun e => absurd e (by decide), fun e => absurd e (by decide), fun e => absurd e (by decide), fun e => absurd e (by decide), trivial⟩, ?_⟩
  refine HPlan.ops' rfl rfl (HOp.call' 86 [(.string x14), (.string x16)] (cap := []) rfl rfl Tryd.call86 (walk86 h)) ?_
  rintro _ H37 ⟨r39, rfl, h⟩
  obtain ⟨s40, s41, h⟩ := h
  refine ⟨SC_of ⟨fun _ => s40, fun _ => s41, fun e => absurd e (by decide), fun e => absurd e (by decide), fun e => absurd e (by decide), fun e => absurd e (by decide), fun e => absurd e (by decide), fun e => absurd e (by decide), trivial⟩, ?_⟩
  refine HPlan.ops' rfl rfl (HOp.call' 87 [(.bool x18)] (cap := []) rfl rfl Tryd.call87 (walk87 h)) ?_
  rintro _ H42 ⟨r44, rfl, h⟩
  obtain ⟨s45, h⟩ := h
  refine ⟨SC_of ⟨fun _ => s45, fun e => absurd e (by decide), fun e => absurd e (by decide), fun e => absurd e (by decide), fun e => absurd e (by decide), fun e => absurd e (by decide), fun e => absurd e (by decide), fun e => absurd e (by decide), trivial⟩, ?_⟩
  refine HPlan.ops' rfl rfl (HOp.call' 87 [(.bool x20)] (cap := []) rfl rfl Tryd.call87 (walk87 h)) ?_
  rintro _ H46 ⟨r48, rfl, h⟩
  refine ⟨SC_of ⟨fun e => absurd e (by decide), fun e => absurd e (by decide), fun e => absurd e (by decide), fun e => absurd e (by decide), fun e => absurd e (by decide), fun e => absurd e (by decide), fun e => absurd e (by decide), fun e => absurd e (by decide), trivial⟩, ?_⟩
  refine HPlan.ops' rfl rfl (HOp.call' 84 [(.int .i64 r44), (.int .i64 r48)] (cap := []) rfl rfl Tryd.call84 (walk84 h)) ?_
  rintro _ H49 ⟨r51, rfl, h⟩
  refine ⟨SC_of ⟨fun e => absurd e (by decide), fun e => absurd e (by decide), fun e => absurd e (by decide), fun e => absurd e (by decide), fun e => absurd e (by decide), fun e => absurd e (by decide), fun e => absurd e (by decide), fun e => absurd e (by decide), trivial⟩, ?_⟩
  refine HPlan.ops' rfl rfl (HOp.buildSlice' (zs := [(.int .i64 0), (.int .i64 0), (.int .i64 0), (.int .i64 0)]) (cs := [(.int .i64 r23), (.int .i64 r32), (.int .i64 r39), (.int .i64 r51)]) Tryd.runUnderlying136 Tryd.sizeOf3 Tryd.zeroValue3 (by decide) (by kernel_rfl) rfl (by decide)) ?_
  rintro _ H52 ⟨rfl, e53⟩
  replace h := h H52 e53
  refine ⟨SC_of ⟨fun e => absurd e (by decide), fun e => absurd e (by decide), fun e => absurd e (by decide), fun e => absurd e (by decide), fun e => absurd e (by decide), fun e => absurd e (by decide), fun e => absurd e (by decide), fun e => absurd e (by decide), trivial⟩, ?_⟩
  refine HPlan.ops' rfl rfl (HOp.call' 83 [(Sl.v (Sl.mk (some ⟨H49.size, 0, none⟩) 4 4))] (cap := []) rfl rfl Tryd.call83 (walk83 h)) ?_
  rintro _ H54 ⟨r56, rfl, h⟩
  refine ⟨SC_of ⟨fun e => absurd e (by decide), fun e => absurd e (by decide), fun e => absurd e (by decide), fun e => absurd e (by decide), fun e => absurd e (by decide), fun e => absurd e (by decide), fun e => absurd e (by decide), fun e => absurd e (by decide), trivial⟩, ?_⟩
  refine HPlan.takev (v := (.int .i64 r56)) rfl rfl (fun _ => HVal.assign' rfl) ?_
  refine HPlan.done ?_
  refine nt ?_
  refine HW.ret ?_
  exact ⟨_, resOf1 rfl Res1.t, ⟨r56, rfl, h⟩⟩

def F73_1 (Q : Bool → Hp → Prop) (y27 : Bool) (H_1 : Hp) : Prop :=
Q y27 H_1
def F73_2 (Q : Bool → Hp → Prop) (y18 : Int) (y24 : Bool) (H_2 : Hp) : Prop :=
(y24 = true → (F73_1 Q true H_2)) ∧
 (y24 = false → (F73_1 Q (decide (y18 < 0)) H_2))
def F73_3 (Q : Bool → Hp → Prop) (y19 : Int) (y21 : Bool) (H_3 : Hp) : Prop :=
(y21 = true → (F73_1 Q true H_3)) ∧
 (y21 = false → (F73_1 Q (decide (y19 = 0)) H_3))
def F73 (p0 : Int) (p1_0 : Int) (p1_1 : Int) (p1_2 : ByteArray) (p1_3 : Bool) (p2_0 : Int) (p2_1 : Int) (p2_2 : ByteArray) (p2_3 : Bool) (H : Hp) (Q : Bool → Hp → Prop) : Prop :=
∀ H1 : Hp, H1 = Array.push H (.cells #[(.int .i64 p1_0), (.int .i64 p1_1), (.string p1_2), (.bool p1_3)] 38) → (
 ∀ H3 : Hp, H3 = Array.push H1 (.cells #[(.int .i64 p2_0), (.int .i64 p2_1), (.string p2_2), (.bool p2_3)] 38) → (
 ∃ (x6 : Int) (x7 : Int) (x8 : ByteArray) (x9 : Bool), cells H3 ⟨H.size, 0, none⟩ [(.int .i64 x6), (.int .i64 x7), (.string x8), (.bool x9)] 0 ∧ (
 ∃ (x11 : Int) (x12 : Int) (x13 : ByteArray) (x14 : Bool), cells H3 ⟨H1.size, 0, none⟩ [(.int .i64 x11), (.int .i64 x12), (.string x13), (.bool x14)] 0 ∧ (
 F82 x6 x7 x8 x9 x11 x12 x13 x14 H3 (fun (r17 : Int) (H15 : Hp) => 
 ((decide (p0 = 11)) = true → (F73_3 Q r17 (decide ((0 : Int) < r17)) H15)) ∧
 ((decide (p0 = 11)) = false → (((decide (p0 = 6)) = true → (F73_3 Q r17 false H15)) ∧
 ((decide (p0 = 6)) = false → (((decide (p0 = 9)) = true → (F73_2 Q r17 (decide (r17 = 0)) H15)) ∧
 ((decide (p0 = 9)) = false → (((decide (p0 = 8)) = true → (F73_2 Q r17 false H15)) ∧
 ((decide (p0 = 8)) = false → (((decide (p0 = 7)) = true → (F73_1 Q (decide (r17 ≠ 0)) H15)) ∧
 ((decide (p0 = 7)) = false → (((decide (p0 = 10)) = true → (F73_1 Q (decide ((0 : Int) < r17)) H15)) ∧
 ((decide (p0 = 10)) = false → (((decide (p0 = 12)) = true → (∃ x31 : Bool, cell H15 (Addr.add ⟨H.size, 0, none⟩ 3) = some (.bool x31) ∧ (
 (x31 = true → (∃ x35 : Bool, cell H15 (Addr.add ⟨H1.size, 0, none⟩ 3) = some (.bool x35) ∧ (
 F73_1 Q x35 H15))) ∧
 (x31 = false → (F73_1 Q false H15))))) ∧
 ((decide (p0 = 12)) = false → (((decide (p0 = 13)) = true → (∃ x38 : Bool, cell H15 (Addr.add ⟨H.size, 0, none⟩ 3) = some (.bool x38) ∧ (
 (x38 = true → (F73_1 Q true H15)) ∧
 (x38 = false → (∃ x42 : Bool, cell H15 (Addr.add ⟨H1.size, 0, none⟩ 3) = some (.bool x42) ∧ (
 F73_1 Q x42 H15)))))) ∧
 ((decide (p0 = 13)) = false → (F73_1 Q false H15)))))))))))))))))))))
set_option maxRecDepth 100000 in
set_option maxHeartbeats 4000000 in
theorem walk73 {w0 : World} {p0 : Int} {p1_0 : Int} {p1_1 : Int} {p1_2 : ByteArray} {p1_3 : Bool} {p2_0 : Int} {p2_1 : Int} {p2_2 : ByteArray} {p2_3 : Bool} {H : Hp} {Q : Bool → Hp → Prop} (h : F73 p0 p1_0 p1_1 p1_2 p1_3 p2_0 p2_1 p2_2 p2_3 H Q) :
    Good Tryd.prog w0 73 #[(.int .i64 p0), (.agg #[(.int .i64 p1_0), (.int .i64 p1_1), (.string p1_2), (.bool p1_3)]), (.agg #[(.int .i64 p2_0), (.int .i64 p2_1), (.string p2_2), (.bool p2_3)])] H (fun v H => ∃ (r0 : Bool) , v = (.bool r0) ∧ Q r0 H) := by
  unfold F73 at h
  refine Good.enter' (fn := Tryd.f73) Tryd.func73 rfl rfl rfl ?_
  refine HW.seq ?_
  refine HW.region ?_
  refine HList.ops' rfl (HOp.box (v := (.agg #[(.int .i64 p1_0), (.int .i64 p1_1), (.string p1_2), (.bool p1_3)])) rfl) ?_
  rintro _ H1 ⟨rfl, e2⟩
  replace h := h H1 e2
  refine HList.ops' rfl (HOp.box (v := (.agg #[(.int .i64 p2_0), (.int .i64 p2_1), (.string p2_2), (.bool p2_3)])) rfl) ?_
  rintro _ H3 ⟨rfl, e4⟩
  replace h := h H3 e4
  refine HList.vals (v := (.bool false)) rfl (HVal.assign' rfl) ?_
  refine HList.nil ?_
  refine nt ?_
  refine HW.seq ?_
  refine HW.region ?_
  refine HList.vals (v := (.bool false)) rfl (HVal.assign' rfl) ?_
  refine HList.nil ?_
  refine nt ?_
  refine HW.seq ?_
  refine HW.region ?_
  obtain ⟨x6, x7, x8, x9, c5, h⟩ := h
  refine HList.vals (v := (.agg #[(.int .i64 x6), (.int .i64 x7), (.string x8), (.bool x9)])) rfl (HVal.loadN [(.int .i64 x6), (.int .i64 x7), (.string x8), (.bool x9)] Tryd.isAgg38 Tryd.sizeOf38 rfl c5) ?_
  obtain ⟨x11, x12, x13, x14, c10, h⟩ := h
  refine HList.vals (v := (.agg #[(.int .i64 x11), (.int .i64 x12), (.string x13), (.bool x14)])) rfl (HVal.loadN [(.int .i64 x11), (.int .i64 x12), (.string x13), (.bool x14)] Tryd.isAgg38 Tryd.sizeOf38 rfl c10) ?_
  refine HList.ops' rfl (HOp.call' 82 [(.agg #[(.int .i64 x6), (.int .i64 x7), (.string x8), (.bool x9)]), (.agg #[(.int .i64 x11), (.int .i64 x12), (.string x13), (.bool x14)])] (cap := []) rfl rfl Tryd.call82 (walk82 h)) ?_
  rintro _ H15 ⟨r17, rfl, h⟩
  refine HList.vals (v := (.int .i64 r17)) rfl (HVal.assign' rfl) ?_
  refine HList.nil ?_
  refine nt ?_
  refine HW.cut (fun ρ H_1 => ∃ (y27 : Bool), Env.Is ρ [(7, (.bool y27))] ∧ F73_1 Q y27 H_1) ?_ ?_
  · refine HW.seq ?_
    refine HW.region ?_
    refine HList.vals (v := (.int .i64 p0)) rfl (HVal.move' rfl) ?_
    refine HList.nil ?_
    refine nt ?_
    refine HW.block ?_
    refine HW.seq ?_
    refine HW.block ?_
    refine HW.seq ?_
    refine HW.block ?_
    refine HW.seq ?_
    refine HW.block ?_
    refine HW.seq ?_
    refine HW.block ?_
    refine HW.cut (fun ρ H_2 => ∃ (y24 : Bool), Env.Is ρ [(8, (.int .i64 r17)), (7, (.bool y24))] ∧ F73_2 Q r17 y24 H_2) ?_ ?_
    · refine HW.block ?_
      refine HW.seq ?_
      refine HW.block ?_
      refine HW.cut (fun ρ H_3 => ∃ (y21 : Bool), Env.Is ρ [(8, (.int .i64 r17)), (7, (.bool y21))] ∧ F73_3 Q r17 y21 H_3) ?_ ?_
      · refine HW.block ?_
        refine HW.seq ?_
        refine HW.block ?_
        refine HW.seq ?_
        refine HW.seq ?_
        refine HW.seq ?_
        refine HW.region ?_
        refine HList.vals (v := (.bool (decide (p0 = 11)))) rfl (HVal.eqlI rfl rfl) ?_
        refine HList.vals (v := (.bool (decide (p0 = 11)))) rfl (HVal.assign' rfl) ?_
        refine HList.nil ?_
        refine nt ?_
        obtain ⟨hT, hF⟩ := h
        refine HW.cond (decide (p0 = 11)) rfl (fun hb20 => ?_) (fun hb20 => ?_)
        · have h := hT hb20
          clear hT hF
          refine HW.exit ?_
          refine te ?_
          refine te ?_
          refine be ?_
          refine nt ?_
          refine HW.region ?_
          refine HList.vals (v := (.int .i64 r17)) rfl (HVal.move' rfl) ?_
          refine HList.vals (v := (.bool (decide ((0 : Int) < r17)))) rfl (HVal.gtr rfl rfl) ?_
          refine HList.vals (v := (.bool (decide ((0 : Int) < r17)))) rfl (HVal.assign' rfl) ?_
          refine HList.nil ?_
          refine nb ?_
          refine nt ?_
          exact ⟨(decide ((0 : Int) < r17)), ⟨rfl, rfl, trivial⟩, h⟩
        · have h := hF hb20
          clear hT hF
          refine HW.skip ?_
          refine nt ?_
          refine HW.seq ?_
          refine HW.seq ?_
          refine HW.region ?_
          refine HList.vals (v := (.bool (decide (p0 = 6)))) rfl (HVal.eqlI rfl rfl) ?_
          refine HList.vals (v := (.bool (decide (p0 = 6)))) rfl (HVal.assign' rfl) ?_
          refine HList.nil ?_
          refine nt ?_
          obtain ⟨hT, hF⟩ := h
          refine HW.cond (decide (p0 = 6)) rfl (fun hb22 => ?_) (fun hb22 => ?_)
          · have h := hT hb22
            clear hT hF
            refine HW.exit ?_
            refine te ?_
            refine te ?_
            refine bx rfl ?_
            refine te ?_
            refine be ?_
            refine nt ?_
            exact ⟨false, ⟨rfl, rfl, trivial⟩, h⟩
          · have h := hF hb22
            clear hT hF
            refine HW.skip ?_
            refine nt ?_
            refine HW.seq ?_
            refine HW.seq ?_
            refine HW.region ?_
            refine HList.vals (v := (.bool (decide (p0 = 9)))) rfl (HVal.eqlI rfl rfl) ?_
            refine HList.vals (v := (.bool (decide (p0 = 9)))) rfl (HVal.assign' rfl) ?_
            refine HList.nil ?_
            refine nt ?_
            obtain ⟨hT, hF⟩ := h
            refine HW.cond (decide (p0 = 9)) rfl (fun hb23 => ?_) (fun hb23 => ?_)
            · have h := hT hb23
              clear hT hF
              refine HW.exit ?_
              refine te ?_
              refine te ?_
              refine bx rfl ?_
              refine te ?_
              refine bx rfl ?_
              refine te ?_
              refine be ?_
              refine nt ?_
              refine HW.region ?_
              refine HList.vals (v := (.int .i64 r17)) rfl (HVal.move' rfl) ?_
              refine HList.vals (v := (.bool (decide (r17 = 0)))) rfl (HVal.eqlI rfl rfl) ?_
              refine HList.vals (v := (.bool (decide (r17 = 0)))) rfl (HVal.assign' rfl) ?_
              refine HList.nil ?_
              refine nb ?_
              refine nt ?_
              exact ⟨(decide (r17 = 0)), ⟨rfl, rfl, trivial⟩, h⟩
            · have h := hF hb23
              clear hT hF
              refine HW.skip ?_
              refine nt ?_
              refine HW.seq ?_
              refine HW.seq ?_
              refine HW.region ?_
              refine HList.vals (v := (.bool (decide (p0 = 8)))) rfl (HVal.eqlI rfl rfl) ?_
              refine HList.vals (v := (.bool (decide (p0 = 8)))) rfl (HVal.assign' rfl) ?_
              refine HList.nil ?_
              refine nt ?_
              obtain ⟨hT, hF⟩ := h
              refine HW.cond (decide (p0 = 8)) rfl (fun hb25 => ?_) (fun hb25 => ?_)
              · have h := hT hb25
                clear hT hF
                refine HW.exit ?_
                refine te ?_
                refine te ?_
                refine bx rfl ?_
                refine te ?_
                refine bx rfl ?_
                refine te ?_
                refine bx rfl ?_
                refine te ?_
                refine be ?_
                refine nt ?_
                exact ⟨false, ⟨rfl, rfl, trivial⟩, h⟩
              · have h := hF hb25
                clear hT hF
                refine HW.skip ?_
                refine nt ?_
                refine HW.seq ?_
                refine HW.seq ?_
                refine HW.region ?_
                refine HList.vals (v := (.bool (decide (p0 = 7)))) rfl (HVal.eqlI rfl rfl) ?_
                refine HList.vals (v := (.bool (decide (p0 = 7)))) rfl (HVal.assign' rfl) ?_
                refine HList.nil ?_
                refine nt ?_
                obtain ⟨hT, hF⟩ := h
                refine HW.cond (decide (p0 = 7)) rfl (fun hb26 => ?_) (fun hb26 => ?_)
                · have h := hT hb26
                  clear hT hF
                  refine HW.exit ?_
                  refine te ?_
                  refine te ?_
                  refine bx rfl ?_
                  refine te ?_
                  refine bx rfl ?_
                  refine te ?_
                  refine bx rfl ?_
                  refine te ?_
                  refine bx rfl ?_
                  refine te ?_
                  refine be ?_
                  refine nt ?_
                  refine HW.seq ?_
                  refine HW.region ?_
                  refine HList.vals (v := (.int .i64 r17)) rfl (HVal.move' rfl) ?_
                  refine HList.vals (v := (.bool (decide (r17 ≠ 0)))) rfl (HVal.neqI rfl rfl) ?_
                  refine HList.vals (v := (.bool (decide (r17 ≠ 0)))) rfl (HVal.assign' rfl) ?_
                  refine HList.nil ?_
                  refine nt ?_
                  refine HW.exit ?_
                  refine bx rfl ?_
                  refine te ?_
                  refine bx rfl ?_
                  refine te ?_
                  refine bx rfl ?_
                  refine te ?_
                  refine be ?_
                  refine nt ?_
                  exact ⟨(decide (r17 ≠ 0)), ⟨rfl, trivial⟩, h⟩
                · have h := hF hb26
                  clear hT hF
                  refine HW.skip ?_
                  refine nt ?_
                  refine HW.seq ?_
                  refine HW.seq ?_
                  refine HW.region ?_
                  refine HList.vals (v := (.bool (decide (p0 = 10)))) rfl (HVal.eqlI rfl rfl) ?_
                  refine HList.vals (v := (.bool (decide (p0 = 10)))) rfl (HVal.assign' rfl) ?_
                  refine HList.nil ?_
                  refine nt ?_
                  obtain ⟨hT, hF⟩ := h
                  refine HW.cond (decide (p0 = 10)) rfl (fun hb28 => ?_) (fun hb28 => ?_)
                  · have h := hT hb28
                    clear hT hF
                    refine HW.exit ?_
                    refine te ?_
                    refine te ?_
                    refine bx rfl ?_
                    refine te ?_
                    refine bx rfl ?_
                    refine te ?_
                    refine bx rfl ?_
                    refine te ?_
                    refine bx rfl ?_
                    refine te ?_
                    refine bx rfl ?_
                    refine te ?_
                    refine be ?_
                    refine nt ?_
                    refine HW.seq ?_
                    refine HW.region ?_
                    refine HList.vals (v := (.int .i64 r17)) rfl (HVal.move' rfl) ?_
                    refine HList.vals (v := (.bool (decide ((0 : Int) < r17)))) rfl (HVal.gtr rfl rfl) ?_
                    refine HList.vals (v := (.bool (decide ((0 : Int) < r17)))) rfl (HVal.assign' rfl) ?_
                    refine HList.nil ?_
                    refine nt ?_
                    refine HW.exit ?_
                    refine bx rfl ?_
                    refine te ?_
                    refine bx rfl ?_
                    refine te ?_
                    refine be ?_
                    refine nt ?_
                    exact ⟨(decide ((0 : Int) < r17)), ⟨rfl, trivial⟩, h⟩
                  · have h := hF hb28
                    clear hT hF
                    refine HW.skip ?_
                    refine nt ?_
                    refine HW.seq ?_
                    refine HW.seq ?_
                    refine HW.region ?_
                    refine HList.vals (v := (.bool (decide (p0 = 12)))) rfl (HVal.eqlI rfl rfl) ?_
                    refine HList.vals (v := (.bool (decide (p0 = 12)))) rfl (HVal.assign' rfl) ?_
                    refine HList.nil ?_
                    refine nt ?_
                    obtain ⟨hT, hF⟩ := h
                    refine HW.cond (decide (p0 = 12)) rfl (fun hb29 => ?_) (fun hb29 => ?_)
                    · have h := hT hb29
                      clear hT hF
                      refine HW.exit ?_
                      refine te ?_
                      refine te ?_
                      refine bx rfl ?_
                      refine te ?_
                      refine bx rfl ?_
                      refine te ?_
                      refine bx rfl ?_
                      refine te ?_
                      refine bx rfl ?_
                      refine te ?_
                      refine bx rfl ?_
                      refine te ?_
                      refine bx rfl ?_
                      refine te ?_
                      refine be ?_
                      refine nt ?_
                      refine HW.seq ?_
                      refine HW.region ?_
                      refine HList.vals (v := (.pointer (some (Addr.add ⟨H.size, 0, none⟩ 3)))) rfl (HVal.fieldAddr' Tryd.runUnderlying38 rfl rfl Tryd.sizeOf4 rfl) ?_
                      obtain ⟨x31, c30, h⟩ := h
                      refine HList.vals (v := (.bool x31)) rfl (HVal.load1 Tryd.isAgg4 rfl c30) ?_
                      refine HList.vals (v := (.bool x31)) rfl (HVal.move' rfl) ?_
                      obtain ⟨hT, hF⟩ := h
                      rcases Bool.eq_false_or_eq_true x31 with hb32 | hb33
                      · have h := hT hb32
                        clear hT hF
                        refine HList.gvals (v := (.pointer (some (Addr.add ⟨H1.size, 0, none⟩ 3)))) rfl rfl rfl rfl (congrArg Value.bool hb32) (HVal.fieldAddr' Tryd.runUnderlying38 rfl rfl Tryd.sizeOf4 rfl) ?_
                        obtain ⟨x35, c34, h⟩ := h
                        refine HList.gvals (v := (.bool x35)) rfl rfl rfl rfl (congrArg Value.bool hb32) (HVal.load1 Tryd.isAgg4 rfl c34) ?_
                        refine HList.vals (v := (.bool x35)) rfl (HVal.pickT rfl hb32 rfl) ?_
                        refine HList.vals (v := (.bool x35)) rfl (HVal.assign' rfl) ?_
                        refine HList.nil ?_
                        refine nt ?_
                        refine HW.exit ?_
                        refine bx rfl ?_
                        refine te ?_
                        refine be ?_
                        refine nt ?_
                        exact ⟨x35, ⟨rfl, trivial⟩, h⟩
                      · have h := hF hb33
                        clear hT hF
                        refine HList.gskips rfl rfl rfl rfl (congrArg Value.bool hb33) ?_
                        refine HList.gskips rfl rfl rfl rfl (congrArg Value.bool hb33) ?_
                        refine HList.vals (v := (.bool false)) rfl (HVal.pickF rfl hb33 rfl) ?_
                        refine HList.vals (v := (.bool false)) rfl (HVal.assign' rfl) ?_
                        refine HList.nil ?_
                        refine nt ?_
                        refine HW.exit ?_
                        refine bx rfl ?_
                        refine te ?_
                        refine be ?_
                        refine nt ?_
                        exact ⟨false, ⟨rfl, trivial⟩, h⟩
                    · have h := hF hb29
                      clear hT hF
                      refine HW.skip ?_
                      refine nt ?_
                      refine HW.seq ?_
                      refine HW.region ?_
                      refine HList.vals (v := (.bool (decide (p0 = 13)))) rfl (HVal.eqlI rfl rfl) ?_
                      refine HList.vals (v := (.bool (decide (p0 = 13)))) rfl (HVal.assign' rfl) ?_
                      refine HList.nil ?_
                      refine nt ?_
                      obtain ⟨hT, hF⟩ := h
                      refine HW.cond (decide (p0 = 13)) rfl (fun hb36 => ?_) (fun hb36 => ?_)
                      · have h := hT hb36
                        clear hT hF
                        refine HW.exit ?_
                        refine te ?_
                        refine bx rfl ?_
                        refine te ?_
                        refine bx rfl ?_
                        refine te ?_
                        refine bx rfl ?_
                        refine te ?_
                        refine bx rfl ?_
                        refine te ?_
                        refine bx rfl ?_
                        refine te ?_
                        refine bx rfl ?_
                        refine te ?_
                        refine bx rfl ?_
                        refine te ?_
                        refine be ?_
                        refine nt ?_
                        refine HW.seq ?_
                        refine HW.region ?_
                        refine HList.vals (v := (.pointer (some (Addr.add ⟨H.size, 0, none⟩ 3)))) rfl (HVal.fieldAddr' Tryd.runUnderlying38 rfl rfl Tryd.sizeOf4 rfl) ?_
                        obtain ⟨x38, c37, h⟩ := h
                        refine HList.vals (v := (.bool x38)) rfl (HVal.load1 Tryd.isAgg4 rfl c37) ?_
                        refine HList.vals (v := (.bool x38)) rfl (HVal.move' rfl) ?_
                        obtain ⟨hT, hF⟩ := h
                        rcases Bool.eq_false_or_eq_true x38 with hb39 | hb40
                        · have h := hT hb39
                          clear hT hF
                          refine HList.gskips rfl rfl rfl rfl (congrArg Value.bool hb39) ?_
                          refine HList.gskips rfl rfl rfl rfl (congrArg Value.bool hb39) ?_
                          refine HList.vals (v := (.bool true)) rfl (HVal.pickT rfl hb39 rfl) ?_
                          refine HList.vals (v := (.bool true)) rfl (HVal.assign' rfl) ?_
                          refine HList.nil ?_
                          refine nt ?_
                          refine HW.exit ?_
                          refine be ?_
                          refine nt ?_
                          exact ⟨true, ⟨rfl, trivial⟩, h⟩
                        · have h := hF hb40
                          clear hT hF
                          refine HList.gvals (v := (.pointer (some (Addr.add ⟨H1.size, 0, none⟩ 3)))) rfl rfl rfl rfl (congrArg Value.bool hb40) (HVal.fieldAddr' Tryd.runUnderlying38 rfl rfl Tryd.sizeOf4 rfl) ?_
                          obtain ⟨x42, c41, h⟩ := h
                          refine HList.gvals (v := (.bool x42)) rfl rfl rfl rfl (congrArg Value.bool hb40) (HVal.load1 Tryd.isAgg4 rfl c41) ?_
                          refine HList.vals (v := (.bool x42)) rfl (HVal.pickF rfl hb40 rfl) ?_
                          refine HList.vals (v := (.bool x42)) rfl (HVal.assign' rfl) ?_
                          refine HList.nil ?_
                          refine nt ?_
                          refine HW.exit ?_
                          refine be ?_
                          refine nt ?_
                          exact ⟨x42, ⟨rfl, trivial⟩, h⟩
                      · have h := hF hb36
                        clear hT hF
                        refine HW.skip ?_
                        refine nt ?_
                        refine HW.exit ?_
                        refine bx rfl ?_
                        refine te ?_
                        refine bx rfl ?_
                        refine te ?_
                        refine bx rfl ?_
                        refine te ?_
                        refine bx rfl ?_
                        refine te ?_
                        refine bx rfl ?_
                        refine te ?_
                        refine bx rfl ?_
                        refine te ?_
                        refine bx rfl ?_
                        refine te ?_
                        refine bx rfl ?_
                        refine te ?_
                        refine be ?_
                        refine nt ?_
                        exact ⟨false, ⟨rfl, trivial⟩, h⟩
      · rintro ρ H_3 ⟨y21, hI, h⟩
        obtain ⟨ρ0, rfl⟩ : ∃ ρ0, ρ = (Env.set (Env.set ρ0 7 (.bool y21)) 8 (.int .i64 r17)) := ⟨ρ, hI.eq⟩
        clear hI; unfold F73_3 at h
        refine HW.seq ?_
        refine HW.region ?_
        refine HList.vals (v := (.bool y21)) rfl (HVal.move' rfl) ?_
        refine HList.vals (v := (.bool y21)) rfl (HVal.move' rfl) ?_
        obtain ⟨hT, hF⟩ := h
        rcases Bool.eq_false_or_eq_true y21 with hb43 | hb44
        · have h := hT hb43
          clear hT hF
          refine HList.gskips rfl rfl rfl rfl (congrArg Value.bool hb43) ?_
          refine HList.gskips rfl rfl rfl rfl (congrArg Value.bool hb43) ?_
          refine HList.vals (v := (.bool true)) rfl (HVal.pickT rfl hb43 rfl) ?_
          refine HList.vals (v := (.bool true)) rfl (HVal.assign' rfl) ?_
          refine HList.nil ?_
          refine nt ?_
          refine HW.exit ?_
          refine bx rfl ?_
          refine te ?_
          refine bx rfl ?_
          refine te ?_
          refine bx rfl ?_
          refine te ?_
          refine bx rfl ?_
          refine te ?_
          refine bx rfl ?_
          refine te ?_
          refine bx rfl ?_
          refine te ?_
          refine be ?_
          refine nt ?_
          exact ⟨true, ⟨rfl, trivial⟩, h⟩
        · have h := hF hb44
          clear hT hF
          refine HList.gvals (v := (.int .i64 r17)) rfl rfl rfl rfl (congrArg Value.bool hb44) (HVal.move' rfl) ?_
          refine HList.gvals (v := (.bool (decide (r17 = 0)))) rfl rfl rfl rfl (congrArg Value.bool hb44) (HVal.eqlI rfl rfl) ?_
          refine HList.vals (v := (.bool (decide (r17 = 0)))) rfl (HVal.pickF rfl hb44 rfl) ?_
          refine HList.vals (v := (.bool (decide (r17 = 0)))) rfl (HVal.assign' rfl) ?_
          refine HList.nil ?_
          refine nt ?_
          refine HW.exit ?_
          refine bx rfl ?_
          refine te ?_
          refine bx rfl ?_
          refine te ?_
          refine bx rfl ?_
          refine te ?_
          refine bx rfl ?_
          refine te ?_
          refine bx rfl ?_
          refine te ?_
          refine bx rfl ?_
          refine te ?_
          refine be ?_
          refine nt ?_
          exact ⟨(decide (r17 = 0)), ⟨rfl, trivial⟩, h⟩
    · rintro ρ H_2 ⟨y24, hI, h⟩
      obtain ⟨ρ0, rfl⟩ : ∃ ρ0, ρ = (Env.set (Env.set ρ0 7 (.bool y24)) 8 (.int .i64 r17)) := ⟨ρ, hI.eq⟩
      clear hI; unfold F73_2 at h
      refine HW.seq ?_
      refine HW.region ?_
      refine HList.vals (v := (.bool y24)) rfl (HVal.move' rfl) ?_
      refine HList.vals (v := (.bool y24)) rfl (HVal.move' rfl) ?_
      obtain ⟨hT, hF⟩ := h
      rcases Bool.eq_false_or_eq_true y24 with hb45 | hb46
      · have h := hT hb45
        clear hT hF
        refine HList.gskips rfl rfl rfl rfl (congrArg Value.bool hb45) ?_
        refine HList.gskips rfl rfl rfl rfl (congrArg Value.bool hb45) ?_
        refine HList.vals (v := (.bool true)) rfl (HVal.pickT rfl hb45 rfl) ?_
        refine HList.vals (v := (.bool true)) rfl (HVal.assign' rfl) ?_
        refine HList.nil ?_
        refine nt ?_
        refine HW.exit ?_
        refine bx rfl ?_
        refine te ?_
        refine bx rfl ?_
        refine te ?_
        refine bx rfl ?_
        refine te ?_
        refine bx rfl ?_
        refine te ?_
        refine be ?_
        refine nt ?_
        exact ⟨true, ⟨rfl, trivial⟩, h⟩
      · have h := hF hb46
        clear hT hF
        refine HList.gvals (v := (.int .i64 r17)) rfl rfl rfl rfl (congrArg Value.bool hb46) (HVal.move' rfl) ?_
        refine HList.gvals (v := (.bool (decide (r17 < 0)))) rfl rfl rfl rfl (congrArg Value.bool hb46) (HVal.lss rfl rfl) ?_
        refine HList.vals (v := (.bool (decide (r17 < 0)))) rfl (HVal.pickF rfl hb46 rfl) ?_
        refine HList.vals (v := (.bool (decide (r17 < 0)))) rfl (HVal.assign' rfl) ?_
        refine HList.nil ?_
        refine nt ?_
        refine HW.exit ?_
        refine bx rfl ?_
        refine te ?_
        refine bx rfl ?_
        refine te ?_
        refine bx rfl ?_
        refine te ?_
        refine bx rfl ?_
        refine te ?_
        refine be ?_
        refine nt ?_
        exact ⟨(decide (r17 < 0)), ⟨rfl, trivial⟩, h⟩
  · rintro ρ H_1 ⟨y27, hI, h⟩
    obtain ⟨ρ0, rfl⟩ : ∃ ρ0, ρ = (Env.set ρ0 7 (.bool y27)) := ⟨ρ, hI.eq⟩
    clear hI; unfold F73_1 at h
    refine HW.seq ?_
    refine HW.region ?_
    refine HList.vals (v := (.bool y27)) rfl (HVal.move' rfl) ?_
    refine HList.vals (v := (.bool y27)) rfl (HVal.assign' rfl) ?_
    refine HList.nil ?_
    refine nt ?_
    refine HW.ret ?_
    exact ⟨_, resOf1 rfl Res1.t, ⟨y27, rfl, h⟩⟩

def F59 (p0 : Int) (p1_0 : Int) (p1_1 : Int) (p1_2 : ByteArray) (p1_3 : Bool) (p2_0 : Int) (p2_1 : Int) (p2_2 : ByteArray) (p2_3 : Bool) (H : Hp) (Q : Int → Int → ByteArray → Bool → Int → Hp → Prop) : Prop :=
∀ H1 : Hp, H1 = Array.push H (.cells #[(.int .i64 p1_0), (.int .i64 p1_1), (.string p1_2), (.bool p1_3)] 38) → (
 ∀ H3 : Hp, H3 = Array.push H1 (.cells #[(.int .i64 p2_0), (.int .i64 p2_1), (.string p2_2), (.bool p2_3)] 38) → (
 ∀ H5 : Hp, H5 = Array.push H3 (.cells #[(.int .i64 0), (.int .i64 0), (.string (ByteArray.mk #[])), (.bool false)] 38) → (
 ∃ (x8 : Int) (x9 : Int) (x10 : ByteArray) (x11 : Bool), cells H5 ⟨H.size, 0, none⟩ [(.int .i64 x8), (.int .i64 x9), (.string x10), (.bool x11)] 0 ∧ (
 ∃ (x13 : Int) (x14 : Int) (x15 : ByteArray) (x16 : Bool), cells H5 ⟨H1.size, 0, none⟩ [(.int .i64 x13), (.int .i64 x14), (.string x15), (.bool x16)] 0 ∧ (
 ∀ H17 : Hp, H17 = Array.push H5 (.cells #[(.int .i64 x8), (.int .i64 x9), (.string x10), (.bool x11), (.int .i64 x13), (.int .i64 x14), (.string x15), (.bool x16)] 38) → (
 F72 p0 3 13 (Sl.mk (some ⟨H5.size, 0, none⟩) 2 2) H17 (fun (r21 : Int) (H19 : Hp) => 
 ((decide (r21 ≠ 0)) = true → (mayw H19 ⟨H3.size, 0, none⟩ 4 0 ∧ ∀ H23 : Hp, H23 = sets H19 ⟨H3.size, 0, none⟩ [(.int .i64 0), (.int .i64 0), (.string (ByteArray.mk #[])), (.bool false)] 0 → (
 ∃ (x26 : Int) (x27 : Int) (x28 : ByteArray) (x29 : Bool), cells H23 ⟨H3.size, 0, none⟩ [(.int .i64 x26), (.int .i64 x27), (.string x28), (.bool x29)] 0 ∧ (
 Q x26 x27 x28 x29 r21 H23)))) ∧
 ((decide (r21 ≠ 0)) = false → (((decide (p0 = 3)) = true → (∃ x33 : Int, cell H19 (Addr.add ⟨H.size, 0, none⟩ 1) = some (.int .i64 x33) ∧ (
 ∃ x35 : Int, cell H19 (Addr.add ⟨H1.size, 0, none⟩ 1) = some (.int .i64 x35) ∧ (
 F60 (IntKind.i64.wrap (x33 + x35)) H19 (fun (r38 : Int) (r39 : Int) (r40 : ByteArray) (r41 : Bool) (H36 : Hp) => 
 mayw H36 ⟨H3.size, 0, none⟩ 4 0 ∧ ∀ H42 : Hp, H42 = sets H36 ⟨H3.size, 0, none⟩ [(.int .i64 r38), (.int .i64 r39), (.string r40), (.bool r41)] 0 → (
 ∃ (x45 : Int) (x46 : Int) (x47 : ByteArray) (x48 : Bool), cells H42 ⟨H3.size, 0, none⟩ [(.int .i64 x45), (.int .i64 x46), (.string x47), (.bool x48)] 0 ∧ (
 Q x45 x46 x47 x48 0 H42))))))) ∧
 ((decide (p0 = 3)) = false → (((decide (p0 = 4)) = true → (∃ x52 : Int, cell H19 (Addr.add ⟨H.size, 0, none⟩ 1) = some (.int .i64 x52) ∧ (
 ∃ x54 : Int, cell H19 (Addr.add ⟨H1.size, 0, none⟩ 1) = some (.int .i64 x54) ∧ (
 F60 (IntKind.i64.wrap (x52 - x54)) H19 (fun (r57 : Int) (r58 : Int) (r59 : ByteArray) (r60 : Bool) (H55 : Hp) => 
 mayw H55 ⟨H3.size, 0, none⟩ 4 0 ∧ ∀ H61 : Hp, H61 = sets H55 ⟨H3.size, 0, none⟩ [(.int .i64 r57), (.int .i64 r58), (.string r59), (.bool r60)] 0 → (
 ∃ (x64 : Int) (x65 : Int) (x66 : ByteArray) (x67 : Bool), cells H61 ⟨H3.size, 0, none⟩ [(.int .i64 x64), (.int .i64 x65), (.string x66), (.bool x67)] 0 ∧ (
 Q x64 x65 x66 x67 0 H61))))))) ∧
 ((decide (p0 = 4)) = false → (((decide (p0 = 5)) = true → (∃ x71 : Int, cell H19 (Addr.add ⟨H.size, 0, none⟩ 1) = some (.int .i64 x71) ∧ (
 ∃ x73 : Int, cell H19 (Addr.add ⟨H1.size, 0, none⟩ 1) = some (.int .i64 x73) ∧ (
 F60 (IntKind.i64.wrap (x71 * x73)) H19 (fun (r76 : Int) (r77 : Int) (r78 : ByteArray) (r79 : Bool) (H74 : Hp) => 
 mayw H74 ⟨H3.size, 0, none⟩ 4 0 ∧ ∀ H80 : Hp, H80 = sets H74 ⟨H3.size, 0, none⟩ [(.int .i64 r76), (.int .i64 r77), (.string r78), (.bool r79)] 0 → (
 ∃ (x83 : Int) (x84 : Int) (x85 : ByteArray) (x86 : Bool), cells H80 ⟨H3.size, 0, none⟩ [(.int .i64 x83), (.int .i64 x84), (.string x85), (.bool x86)] 0 ∧ (
 Q x83 x84 x85 x86 0 H80))))))) ∧
 ((decide (p0 = 5)) = false → (∃ (x89 : Int) (x90 : Int) (x91 : ByteArray) (x92 : Bool), cells H19 ⟨H.size, 0, none⟩ [(.int .i64 x89), (.int .i64 x90), (.string x91), (.bool x92)] 0 ∧ (
 ∃ (x94 : Int) (x95 : Int) (x96 : ByteArray) (x97 : Bool), cells H19 ⟨H1.size, 0, none⟩ [(.int .i64 x94), (.int .i64 x95), (.string x96), (.bool x97)] 0 ∧ (
 F73 p0 x89 x90 x91 x92 x94 x95 x96 x97 H19 (fun (r100 : Bool) (H98 : Hp) => 
 F62 r100 H98 (fun (r103 : Int) (r104 : Int) (r105 : ByteArray) (r106 : Bool) (H101 : Hp) => 
 mayw H101 ⟨H3.size, 0, none⟩ 4 0 ∧ ∀ H107 : Hp, H107 = sets H101 ⟨H3.size, 0, none⟩ [(.int .i64 r103), (.int .i64 r104), (.string r105), (.bool r106)] 0 → (
 ∃ (x110 : Int) (x111 : Int) (x112 : ByteArray) (x113 : Bool), cells H107 ⟨H3.size, 0, none⟩ [(.int .i64 x110), (.int .i64 x111), (.string x112), (.bool x113)] 0 ∧ (
 Q x110 x111 x112 x113 0 H107)))))))))))))))))))))
set_option maxRecDepth 100000 in
set_option maxHeartbeats 4000000 in
theorem walk59 {w0 : World} {p0 : Int} {p1_0 : Int} {p1_1 : Int} {p1_2 : ByteArray} {p1_3 : Bool} {p2_0 : Int} {p2_1 : Int} {p2_2 : ByteArray} {p2_3 : Bool} {H : Hp} {Q : Int → Int → ByteArray → Bool → Int → Hp → Prop} (h : F59 p0 p1_0 p1_1 p1_2 p1_3 p2_0 p2_1 p2_2 p2_3 H Q) :
    Good Tryd.prog w0 59 #[(.int .i64 p0), (.agg #[(.int .i64 p1_0), (.int .i64 p1_1), (.string p1_2), (.bool p1_3)]), (.agg #[(.int .i64 p2_0), (.int .i64 p2_1), (.string p2_2), (.bool p2_3)])] H (fun v H => ∃ (r0 : Int) (r1 : Int) (r2 : ByteArray) (r3 : Bool) (r4 : Int) , v = (.tuple #[(.agg #[(.int .i64 r0), (.int .i64 r1), (.string r2), (.bool r3)]), (.int .i64 r4)]) ∧ Q r0 r1 r2 r3 r4 H) := by
  unfold F59 at h
  refine Good.enter' (fn := Tryd.f59) Tryd.func59 rfl rfl rfl ?_
  refine HW.seq ?_
  refine HW.region ?_
  refine HList.ops' rfl (HOp.box (v := (.agg #[(.int .i64 p1_0), (.int .i64 p1_1), (.string p1_2), (.bool p1_3)])) rfl) ?_
  rintro _ H1 ⟨rfl, e2⟩
  replace h := h H1 e2
  refine HList.ops' rfl (HOp.box (v := (.agg #[(.int .i64 p2_0), (.int .i64 p2_1), (.string p2_2), (.bool p2_3)])) rfl) ?_
  rintro _ H3 ⟨rfl, e4⟩
  replace h := h H3 e4
  refine HList.ops' rfl (HOp.alloc Tryd.zeroValue38) ?_
  rintro _ H5 ⟨rfl, e6⟩
  replace h := h H5 e6
  refine HList.vals (v := (.int .i64 0)) rfl (HVal.assign' rfl) ?_
  refine HList.nil ?_
  refine nt ?_
  refine HW.seq ?_
  refine HW.seq ?_
  refine HW.region ?_
  refine HList.vals (v := (.int .i64 p0)) rfl (HVal.move' rfl) ?_
  obtain ⟨x8, x9, x10, x11, c7, h⟩ := h
  refine HList.vals (v := (.agg #[(.int .i64 x8), (.int .i64 x9), (.string x10), (.bool x11)])) rfl (HVal.loadN [(.int .i64 x8), (.int .i64 x9), (.string x10), (.bool x11)] Tryd.isAgg38 Tryd.sizeOf38 rfl c7) ?_
  obtain ⟨x13, x14, x15, x16, c12, h⟩ := h
  refine HList.vals (v := (.agg #[(.int .i64 x13), (.int .i64 x14), (.string x15), (.bool x16)])) rfl (HVal.loadN [(.int .i64 x13), (.int .i64 x14), (.string x15), (.bool x16)] Tryd.isAgg38 Tryd.sizeOf38 rfl c12) ?_
  refine HList.ops' rfl (HOp.buildSlice' (zs := [(.int .i64 0), (.int .i64 0), (.string (ByteArray.mk #[])), (.bool false), (.int .i64 0), (.int .i64 0), (.string (ByteArray.mk #[])), (.bool false)]) (cs := [(.int .i64 x8), (.int .i64 x9), (.string x10), (.bool x11), (.int .i64 x13), (.int .i64 x14), (.string x15), (.bool x16)]) Tryd.runUnderlying34 Tryd.sizeOf38 Tryd.zeroValue38 (by decide) (by kernel_rfl) (by kernel_rfl) (by decide)) ?_
  rintro _ H17 ⟨rfl, e18⟩
  replace h := h H17 e18
  refine HList.ops' rfl (HOp.call' 72 [(.int .i64 p0), (.int .i64 3), (.int .i64 13), (Sl.v (Sl.mk (some ⟨H5.size, 0, none⟩) 2 2))] (cap := []) rfl rfl Tryd.call72 (walk72 h)) ?_
  rintro _ H19 ⟨r21, rfl, h⟩
  refine HList.vals (v := (.int .i64 r21)) rfl (HVal.assign' rfl) ?_
  refine HList.nil ?_
  refine nt ?_
  refine HW.seq ?_
  refine HW.region ?_
  refine HList.vals (v := (.int .i64 r21)) rfl (HVal.move' rfl) ?_
  refine HList.vals (v := (.bool (decide (r21 ≠ 0)))) rfl (HVal.neqI rfl rfl) ?_
  refine HList.nil ?_
  refine nt ?_
  obtain ⟨hT, hF⟩ := h
  refine HW.cond (decide (r21 ≠ 0)) rfl (fun hb22 => ?_) (fun hb22 => ?_)
  · have h := hT hb22
    clear hT hF
    refine HW.seq ?_
    refine HW.region ?_
    refine HList.vals (v := (.agg #[(.int .i64 0), (.int .i64 0), (.string (ByteArray.mk #[])), (.bool false)])) rfl (HVal.build' (cs := [(.int .i64 0), (.int .i64 0), (.string (ByteArray.mk #[])), (.bool false)]) Tryd.runUnderlying38 Tryd.zeroValue38 places38 rfl) ?_
    refine HList.vals (v := (.int .i64 r21)) rfl (HVal.move' rfl) ?_
    obtain ⟨z25, h⟩ := h
    refine HList.opsn (HOp.storeN' (l := [(.int .i64 0), (.int .i64 0), (.string (ByteArray.mk #[])), (.bool false)]) Tryd.sizeOf38 rfl rfl rfl z25) ?_
    rintro _ H23 e24
    replace h := h H23 e24
    refine HList.vals (v := (.int .i64 r21)) rfl (HVal.assign' rfl) ?_
    refine HList.nil ?_
    refine nt ?_
    refine HW.ret ?_
    refine tr ?_
    obtain ⟨x26, x27, x28, x29, c30, h⟩ := h
    exact ⟨_, resOf2 rfl (Res1.n [(.int .i64 x26), (.int .i64 x27), (.string x28), (.bool x29)] Tryd.isAgg38 Tryd.sizeOf38 rfl c30) Res1.t, ⟨x26, x27, x28, x29, r21, rfl, h⟩⟩
  · have h := hF hb22
    clear hT hF
    refine HW.skip ?_
    refine nt ?_
    refine HW.seq ?_
    refine HW.seq ?_
    refine HW.region ?_
    refine HList.vals (v := (.int .i64 p0)) rfl (HVal.move' rfl) ?_
    refine HList.nil ?_
    refine nt ?_
    refine HW.block ?_
    refine HW.seq ?_
    refine HW.region ?_
    refine HList.vals (v := (.bool (decide (p0 = 3)))) rfl (HVal.eqlI rfl rfl) ?_
    refine HList.vals (v := (.bool (decide (p0 = 3)))) rfl (HVal.assign' rfl) ?_
    refine HList.nil ?_
    refine nt ?_
    obtain ⟨hT, hF⟩ := h
    refine HW.cond (decide (p0 = 3)) rfl (fun hb31 => ?_) (fun hb31 => ?_)
    · have h := hT hb31
      clear hT hF
      refine HW.seq ?_
      refine HW.region ?_
      refine HList.vals (v := (.pointer (some (Addr.add ⟨H.size, 0, none⟩ 1)))) rfl (HVal.fieldAddr' Tryd.runUnderlying38 rfl rfl Tryd.sizeOf2 rfl) ?_
      obtain ⟨x33, c32, h⟩ := h
      refine HList.vals (v := (.int .i64 x33)) rfl (HVal.load1 Tryd.isAgg2 rfl c32) ?_
      refine HList.vals (v := (.pointer (some (Addr.add ⟨H1.size, 0, none⟩ 1)))) rfl (HVal.fieldAddr' Tryd.runUnderlying38 rfl rfl Tryd.sizeOf2 rfl) ?_
      obtain ⟨x35, c34, h⟩ := h
      refine HList.vals (v := (.int .i64 x35)) rfl (HVal.load1 Tryd.isAgg2 rfl c34) ?_
      refine HList.vals (v := (.int .i64 (IntKind.i64.wrap (x33 + x35)))) rfl (HVal.add rfl rfl) ?_
      refine HList.ops' rfl (HOp.call' 60 [(.int .i64 (IntKind.i64.wrap (x33 + x35)))] (cap := []) rfl rfl Tryd.call60 (walk60 h)) ?_
      rintro _ H36 ⟨r38, r39, r40, r41, rfl, h⟩
      obtain ⟨z44, h⟩ := h
      refine HList.opsn (HOp.storeN' (l := [(.int .i64 r38), (.int .i64 r39), (.string r40), (.bool r41)]) Tryd.sizeOf38 rfl rfl rfl z44) ?_
      rintro _ H42 e43
      replace h := h H42 e43
      refine HList.vals (v := (.int .i64 0)) rfl (HVal.assign' rfl) ?_
      refine HList.nil ?_
      refine nt ?_
      refine HW.ret ?_
      refine br ?_
      refine tr ?_
      obtain ⟨x45, x46, x47, x48, c49, h⟩ := h
      exact ⟨_, resOf2 rfl (Res1.n [(.int .i64 x45), (.int .i64 x46), (.string x47), (.bool x48)] Tryd.isAgg38 Tryd.sizeOf38 rfl c49) Res1.t, ⟨x45, x46, x47, x48, 0, rfl, h⟩⟩
    · have h := hF hb31
      clear hT hF
      refine HW.seq ?_
      refine HW.region ?_
      refine HList.vals (v := (.bool (decide (p0 = 4)))) rfl (HVal.eqlI rfl rfl) ?_
      refine HList.vals (v := (.bool (decide (p0 = 4)))) rfl (HVal.assign' rfl) ?_
      refine HList.nil ?_
      refine nt ?_
      obtain ⟨hT, hF⟩ := h
      refine HW.cond (decide (p0 = 4)) rfl (fun hb50 => ?_) (fun hb50 => ?_)
      · have h := hT hb50
        clear hT hF
        refine HW.seq ?_
        refine HW.region ?_
        refine HList.vals (v := (.pointer (some (Addr.add ⟨H.size, 0, none⟩ 1)))) rfl (HVal.fieldAddr' Tryd.runUnderlying38 rfl rfl Tryd.sizeOf2 rfl) ?_
        obtain ⟨x52, c51, h⟩ := h
        refine HList.vals (v := (.int .i64 x52)) rfl (HVal.load1 Tryd.isAgg2 rfl c51) ?_
        refine HList.vals (v := (.pointer (some (Addr.add ⟨H1.size, 0, none⟩ 1)))) rfl (HVal.fieldAddr' Tryd.runUnderlying38 rfl rfl Tryd.sizeOf2 rfl) ?_
        obtain ⟨x54, c53, h⟩ := h
        refine HList.vals (v := (.int .i64 x54)) rfl (HVal.load1 Tryd.isAgg2 rfl c53) ?_
        refine HList.vals (v := (.int .i64 (IntKind.i64.wrap (x52 - x54)))) rfl (HVal.sub rfl rfl) ?_
        refine HList.ops' rfl (HOp.call' 60 [(.int .i64 (IntKind.i64.wrap (x52 - x54)))] (cap := []) rfl rfl Tryd.call60 (walk60 h)) ?_
        rintro _ H55 ⟨r57, r58, r59, r60, rfl, h⟩
        obtain ⟨z63, h⟩ := h
        refine HList.opsn (HOp.storeN' (l := [(.int .i64 r57), (.int .i64 r58), (.string r59), (.bool r60)]) Tryd.sizeOf38 rfl rfl rfl z63) ?_
        rintro _ H61 e62
        replace h := h H61 e62
        refine HList.vals (v := (.int .i64 0)) rfl (HVal.assign' rfl) ?_
        refine HList.nil ?_
        refine nt ?_
        refine HW.ret ?_
        refine br ?_
        refine tr ?_
        obtain ⟨x64, x65, x66, x67, c68, h⟩ := h
        exact ⟨_, resOf2 rfl (Res1.n [(.int .i64 x64), (.int .i64 x65), (.string x66), (.bool x67)] Tryd.isAgg38 Tryd.sizeOf38 rfl c68) Res1.t, ⟨x64, x65, x66, x67, 0, rfl, h⟩⟩
      · have h := hF hb50
        clear hT hF
        refine HW.seq ?_
        refine HW.region ?_
        refine HList.vals (v := (.bool (decide (p0 = 5)))) rfl (HVal.eqlI rfl rfl) ?_
        refine HList.vals (v := (.bool (decide (p0 = 5)))) rfl (HVal.assign' rfl) ?_
        refine HList.nil ?_
        refine nt ?_
        obtain ⟨hT, hF⟩ := h
        refine HW.cond (decide (p0 = 5)) rfl (fun hb69 => ?_) (fun hb69 => ?_)
        · have h := hT hb69
          clear hT hF
          refine HW.seq ?_
          refine HW.region ?_
          refine HList.vals (v := (.pointer (some (Addr.add ⟨H.size, 0, none⟩ 1)))) rfl (HVal.fieldAddr' Tryd.runUnderlying38 rfl rfl Tryd.sizeOf2 rfl) ?_
          obtain ⟨x71, c70, h⟩ := h
          refine HList.vals (v := (.int .i64 x71)) rfl (HVal.load1 Tryd.isAgg2 rfl c70) ?_
          refine HList.vals (v := (.pointer (some (Addr.add ⟨H1.size, 0, none⟩ 1)))) rfl (HVal.fieldAddr' Tryd.runUnderlying38 rfl rfl Tryd.sizeOf2 rfl) ?_
          obtain ⟨x73, c72, h⟩ := h
          refine HList.vals (v := (.int .i64 x73)) rfl (HVal.load1 Tryd.isAgg2 rfl c72) ?_
          refine HList.vals (v := (.int .i64 (IntKind.i64.wrap (x71 * x73)))) rfl (HVal.mul rfl rfl) ?_
          refine HList.ops' rfl (HOp.call' 60 [(.int .i64 (IntKind.i64.wrap (x71 * x73)))] (cap := []) rfl rfl Tryd.call60 (walk60 h)) ?_
          rintro _ H74 ⟨r76, r77, r78, r79, rfl, h⟩
          obtain ⟨z82, h⟩ := h
          refine HList.opsn (HOp.storeN' (l := [(.int .i64 r76), (.int .i64 r77), (.string r78), (.bool r79)]) Tryd.sizeOf38 rfl rfl rfl z82) ?_
          rintro _ H80 e81
          replace h := h H80 e81
          refine HList.vals (v := (.int .i64 0)) rfl (HVal.assign' rfl) ?_
          refine HList.nil ?_
          refine nt ?_
          refine HW.ret ?_
          refine br ?_
          refine tr ?_
          obtain ⟨x83, x84, x85, x86, c87, h⟩ := h
          exact ⟨_, resOf2 rfl (Res1.n [(.int .i64 x83), (.int .i64 x84), (.string x85), (.bool x86)] Tryd.isAgg38 Tryd.sizeOf38 rfl c87) Res1.t, ⟨x83, x84, x85, x86, 0, rfl, h⟩⟩
        · have h := hF hb69
          clear hT hF
          refine HW.skip ?_
          refine nb ?_
          refine nt ?_
          refine HW.seq ?_
          refine HW.region ?_
          refine HList.vals (v := (.int .i64 p0)) rfl (HVal.move' rfl) ?_
          obtain ⟨x89, x90, x91, x92, c88, h⟩ := h
          refine HList.vals (v := (.agg #[(.int .i64 x89), (.int .i64 x90), (.string x91), (.bool x92)])) rfl (HVal.loadN [(.int .i64 x89), (.int .i64 x90), (.string x91), (.bool x92)] Tryd.isAgg38 Tryd.sizeOf38 rfl c88) ?_
          obtain ⟨x94, x95, x96, x97, c93, h⟩ := h
          refine HList.vals (v := (.agg #[(.int .i64 x94), (.int .i64 x95), (.string x96), (.bool x97)])) rfl (HVal.loadN [(.int .i64 x94), (.int .i64 x95), (.string x96), (.bool x97)] Tryd.isAgg38 Tryd.sizeOf38 rfl c93) ?_
          refine HList.ops' rfl (HOp.call' 73 [(.int .i64 p0), (.agg #[(.int .i64 x89), (.int .i64 x90), (.string x91), (.bool x92)]), (.agg #[(.int .i64 x94), (.int .i64 x95), (.string x96), (.bool x97)])] (cap := []) rfl rfl Tryd.call73 (walk73 h)) ?_
          rintro _ H98 ⟨r100, rfl, h⟩
          refine HList.ops' rfl (HOp.call' 62 [(.bool r100)] (cap := []) rfl rfl Tryd.call62 (walk62 h)) ?_
          rintro _ H101 ⟨r103, r104, r105, r106, rfl, h⟩
          obtain ⟨z109, h⟩ := h
          refine HList.opsn (HOp.storeN' (l := [(.int .i64 r103), (.int .i64 r104), (.string r105), (.bool r106)]) Tryd.sizeOf38 rfl rfl rfl z109) ?_
          rintro _ H107 e108
          replace h := h H107 e108
          refine HList.vals (v := (.int .i64 0)) rfl (HVal.assign' rfl) ?_
          refine HList.nil ?_
          refine nt ?_
          refine HW.ret ?_
          obtain ⟨x110, x111, x112, x113, c114, h⟩ := h
          exact ⟨_, resOf2 rfl (Res1.n [(.int .i64 x110), (.int .i64 x111), (.string x112), (.bool x113)] Tryd.isAgg38 Tryd.sizeOf38 rfl c114) Res1.t, ⟨x110, x111, x112, x113, 0, rfl, h⟩⟩

def F11_1 (Q : Sl → Hp → Prop) (y21 : Sl) (H_1 : Hp) : Prop :=
Q y21 H_1
def F11_L2b (Q : Sl → Hp → Prop) (X2 : Sl → Int → Hp → Prop) (y3 : Sl) (y1 : Sl) (y2 : Int) (H_2 : Hp) : Prop :=
((decide (y2 < ((y3).n : Int))) = true → (∃ a5 : Addr, (y3).b = some a5 ∧ (0 : Int) ≤ y2 ∧ y2 < ((y3).n : Int) ∧ (
 ∃ x10 : Int, cell H_2 (Addr.add a5 (y2.toNat * 1)) = some (.int .i64 x10) ∧ (
 F10 y2 x10 S_s H_2 (fun (r13 : ByteArray) (r14 : Int) (r15 : Sl) (H11 : Hp) => 
 ∀ H16 : Hp, H16 = Array.push H11 (.cells #[(.string r13), (.int .i64 r14), (Sl.v r15)] 36) → (
 AppendF H16 36 3 48 #[(.string (ByteArray.mk #[])), (.int .i64 0), (Sl.v Sl.nil)] y1 ((Sl.mk (some ⟨H11.size, 0, none⟩) 1 1)).b ((Sl.mk (some ⟨H11.size, 0, none⟩) 1 1)).n (fun (r20 : Sl) (H18 : Hp) => 
 X2 r20 (IntKind.i64.wrap (y2 + 1)) H18))))))) ∧
 ((decide (y2 < ((y3).n : Int))) = false → (F11_1 Q y1 H_2))
def F11_L2 (Q : Sl → Hp → Prop) (y3 : Sl) (y1 : Sl) (y2 : Int) (H_2 : Hp) : Prop :=
  ∀ X2 : Sl → Int → Hp → Prop, (∀ (y1 : Sl) (y2 : Int) (H_2 : Hp), F11_L2b Q X2 y3 y1 y2 H_2 → X2 y1 y2 H_2) → X2 y1 y2 H_2
def F11 (p0 : Sl) (H : Hp) (Q : Sl → Hp → Prop) : Prop :=
F11_L2 Q p0 Sl.nil 0 H
set_option maxRecDepth 100000 in
set_option maxHeartbeats 4000000 in
theorem walk11 {w0 : World} {p0 : Sl} {H : Hp} {Q : Sl → Hp → Prop} (h : F11 p0 H Q) :
    Good Tryd.prog w0 11 #[(Sl.v p0)] H (fun v H => ∃ (r0 : Sl) , v = (Sl.v r0) ∧ Q r0 H) := by
  unfold F11 at h
  refine Good.enter' (fn := Tryd.f11) Tryd.func11 rfl rfl rfl ?_
  refine HW.seq ?_
  refine HW.region ?_
  refine HList.vals (v := (Sl.v Sl.nil)) rfl (HVal.assign' rfl) ?_
  refine HList.nil ?_
  refine nt ?_
  refine HW.seq ?_
  refine HW.region ?_
  refine HList.vals (v := (Sl.v Sl.nil)) rfl (HVal.assign' rfl) ?_
  refine HList.nil ?_
  refine nt ?_
  refine HW.cut (fun ρ H_1 => ∃ (y21 : Sl), Env.Is ρ [(3, (Sl.v y21))] ∧ F11_1 Q y21 H_1) ?_ ?_
  · refine HW.seq ?_
    refine HW.region ?_
    refine HList.vals (v := (.int .i64 0)) rfl (HVal.assign' rfl) ?_
    refine HList.nil ?_
    refine nt ?_
    refine HW.block ?_
    refine HW.loop' (fun L2 hL2 => ?_)
    obtain ⟨X2, hX2⟩ : ∃ X2 : Sl → Int → Hp → Prop, ∀ (y1 : Sl) (y2 : Int) (H_2 : Hp), X2 y1 y2 H_2 ↔ ∀ ρ, Env.Is ρ [(0, (Sl.v p0)), (3, (Sl.v y1)), (4, (.int .i64 y2))] → L2 ρ H_2 := ⟨_, fun _ _ _ => Iff.rfl⟩
    refine (hX2 _ _ _).1 (h X2 ?_) _ ?_
    rotate_left
    · exact ⟨rfl, rfl, rfl, trivial⟩
    clear h
    intro y1 y2 H_2 h
    refine (hX2 _ _ _).2 fun ρ hI => ?_
    obtain ⟨ρ0, rfl⟩ : ∃ ρ0, ρ = (Env.set (Env.set (Env.set ρ0 4 (.int .i64 y2)) 3 (Sl.v y1)) 0 (Sl.v p0)) := ⟨ρ, hI.eq⟩
    clear hI; unfold F11_L2b at h; refine hL2 _ _ ?_
    refine HW.seq ?_
    refine HW.seq ?_
    refine HW.region ?_
    refine HList.vals (v := (.int .i64 y2)) rfl (HVal.move' rfl) ?_
    refine HList.vals (v := (Sl.v p0)) rfl (HVal.move' rfl) ?_
    refine HList.vals (v := (.int .i64 ((p0).n : Int))) rfl (HVal.len Tryd.runUnderlying47 rfl) ?_
    refine HList.vals (v := (.bool (decide (y2 < ((p0).n : Int))))) rfl (HVal.lss rfl rfl) ?_
    refine HList.nil ?_
    refine nt ?_
    obtain ⟨hT, hF⟩ := h
    refine HW.cond (decide (y2 < ((p0).n : Int))) rfl (fun hb4 => ?_) (fun hb4 => ?_)
    · have h := hT hb4
      clear hT hF
      refine HW.skip ?_
      refine nt ?_
      refine HW.seq ?_
      refine HW.block ?_
      refine HW.region ?_
      refine HList.vals (v := (Sl.v y1)) rfl (HVal.move' rfl) ?_
      refine HList.vals (v := (.int .i64 y2)) rfl (HVal.move' rfl) ?_
      refine HList.vals (v := (Sl.v p0)) rfl (HVal.move' rfl) ?_
      refine HList.vals (v := (.int .i64 y2)) rfl (HVal.move' rfl) ?_
      obtain ⟨a5, e6, b7, b8, h⟩ := h
      refine HList.vals (v := (.pointer (some (Addr.add a5 (y2.toNat * 1))))) rfl (HVal.indexAddr Tryd.runUnderlying47 Tryd.sizeOf2 (Sl.v_some rfl e6) rfl b7 b8) ?_
      obtain ⟨x10, c9, h⟩ := h
      refine HList.vals (v := (.int .i64 x10)) rfl (HVal.load1 Tryd.isAgg2 rfl c9) ?_
      refine HList.ops' rfl (HOp.call' 10 [(.int .i64 y2), (.int .i64 x10), (.string S_s)] (cap := []) rfl rfl Tryd.call10 (walk10 h)) ?_
      rintro _ H11 ⟨r13, r14, r15, rfl, h⟩
      refine HList.ops' rfl (HOp.buildSlice' (zs := [(.string (ByteArray.mk #[])), (.int .i64 0), (Sl.v Sl.nil)]) (cs := [(.string r13), (.int .i64 r14), (Sl.v r15)]) Tryd.runUnderlying49 Tryd.sizeOf36 Tryd.zeroValue36 (by decide) (by kernel_rfl) rfl (by decide)) ?_
      rintro _ H16 ⟨rfl, e17⟩
      replace h := h H16 e17
      refine HList.ops' rfl (HOp.append (k := 3) (b := 48) Tryd.runUnderlying49 Tryd.runUnderlying49 Tryd.typeInfo36 rfl rfl Tryd.zeroValue36 rfl rfl h) ?_
      rintro _ H18 ⟨r20, rfl, h⟩
      refine HList.vals (v := (Sl.v r20)) rfl (HVal.assign' rfl) ?_
      refine HList.nil ?_
      refine nb ?_
      refine nt ?_
      refine HW.region ?_
      refine HList.vals (v := (.int .i64 y2)) rfl (HVal.move' rfl) ?_
      refine HList.vals (v := (.int .i64 (IntKind.i64.wrap (y2 + 1)))) rfl (HVal.add rfl rfl) ?_
      refine HList.vals (v := (.int .i64 (IntKind.i64.wrap (y2 + 1)))) rfl (HVal.assign' rfl) ?_
      refine HList.nil ?_
      refine nt ?_
      exact (hX2 _ _ _).1 h _ ⟨rfl, rfl, rfl, trivial⟩
    · have h := hF hb4
      clear hT hF
      refine HW.exit ?_
      refine te ?_
      refine te ?_
      refine be ?_
      refine nt ?_
      exact ⟨y1, ⟨rfl, trivial⟩, h⟩
  · rintro ρ H_1 ⟨y21, hI, h⟩
    obtain ⟨ρ0, rfl⟩ : ∃ ρ0, ρ = (Env.set ρ0 3 (Sl.v y21)) := ⟨ρ, hI.eq⟩
    clear hI; unfold F11_1 at h
    refine HW.seq ?_
    refine HW.region ?_
    refine HList.vals (v := (Sl.v y21)) rfl (HVal.move' rfl) ?_
    refine HList.vals (v := (Sl.v y21)) rfl (HVal.assign' rfl) ?_
    refine HList.nil ?_
    refine nt ?_
    refine HW.ret ?_
    exact ⟨_, resOf1 rfl Res1.t, ⟨y21, rfl, h⟩⟩

def F20 (p0 : Bool) (H : Hp) (Q : Int → Int → Int → Int → ByteArray → Bool → ByteArray → Int → ByteArray → Sl → Hp → Prop) : Prop :=
∀ H1 : Hp, H1 = Array.push H (.cells #[(.int .i64 0), (.int .i64 0), (.int .i64 0), (.int .i64 0), (.string (ByteArray.mk #[])), (.bool false), (.string (ByteArray.mk #[])), (.int .i64 0), (.string (ByteArray.mk #[])), (Sl.v Sl.nil)] 41) → (
 mayw H1 ⟨H.size, 0, none⟩ 10 0 ∧ ∀ H3 : Hp, H3 = sets H1 ⟨H.size, 0, none⟩ [(.int .i64 1), (.int .i64 0), (.int .i64 3), (.int .i64 0), (.string (ByteArray.mk #[])), (.bool p0), (.string (ByteArray.mk #[])), (.int .i64 0), (.string (ByteArray.mk #[])), (Sl.v Sl.nil)] 0 → (
 ∃ (x6 : Int) (x7 : Int) (x8 : Int) (x9 : Int) (x10 : ByteArray) (x11 : Bool) (x12 : ByteArray) (x13 : Int) (x14 : ByteArray) (x15 : Sl), cells H3 ⟨H.size, 0, none⟩ [(.int .i64 x6), (.int .i64 x7), (.int .i64 x8), (.int .i64 x9), (.string x10), (.bool x11), (.string x12), (.int .i64 x13), (.string x14), (Sl.v x15)] 0 ∧ (
 Q x6 x7 x8 x9 x10 x11 x12 x13 x14 x15 H3)))
set_option maxRecDepth 100000 in
set_option maxHeartbeats 4000000 in
theorem walk20 {w0 : World} {p0 : Bool} {H : Hp} {Q : Int → Int → Int → Int → ByteArray → Bool → ByteArray → Int → ByteArray → Sl → Hp → Prop} (h : F20 p0 H Q) :
    Good Tryd.prog w0 20 #[(.bool p0)] H (fun v H => ∃ (r0 : Int) (r1 : Int) (r2 : Int) (r3 : Int) (r4 : ByteArray) (r5 : Bool) (r6 : ByteArray) (r7 : Int) (r8 : ByteArray) (r9 : Sl) , v = (.agg #[(.int .i64 r0), (.int .i64 r1), (.int .i64 r2), (.int .i64 r3), (.string r4), (.bool r5), (.string r6), (.int .i64 r7), (.string r8), (Sl.v r9)]) ∧ Q r0 r1 r2 r3 r4 r5 r6 r7 r8 r9 H) := by
  unfold F20 at h
  refine Good.enter' (fn := Tryd.f20) Tryd.func20 rfl rfl rfl ?_
  refine HW.seq ?_
  refine HW.region ?_
  refine HList.ops' rfl (HOp.alloc Tryd.zeroValue41) ?_
  rintro _ H1 ⟨rfl, e2⟩
  replace h := h H1 e2
  refine HList.nil ?_
  refine nt ?_
  refine HW.seq ?_
  refine HW.region ?_
  refine HList.vals (v := (.bool p0)) rfl (HVal.move' rfl) ?_
  refine HList.vals (v := (.agg #[(.int .i64 3), (.int .i64 0), (.string (ByteArray.mk #[])), (.bool p0)])) rfl (HVal.build' (cs := [(.int .i64 3), (.int .i64 0), (.string (ByteArray.mk #[])), (.bool p0)]) Tryd.runUnderlying38 Tryd.zeroValue38 places38 rfl) ?_
  refine HList.vals (v := (.agg #[(.int .i64 1), (.int .i64 0), (.int .i64 3), (.int .i64 0), (.string (ByteArray.mk #[])), (.bool p0), (.string (ByteArray.mk #[])), (.int .i64 0), (.string (ByteArray.mk #[])), (Sl.v Sl.nil)])) rfl (HVal.build' (cs := [(.int .i64 1), (.int .i64 0), (.int .i64 3), (.int .i64 0), (.string (ByteArray.mk #[])), (.bool p0), (.string (ByteArray.mk #[])), (.int .i64 0), (.string (ByteArray.mk #[])), (Sl.v Sl.nil)]) Tryd.runUnderlying41 Tryd.zeroValue41 places41 (by kernel_rfl)) ?_
  obtain ⟨z5, h⟩ := h
  refine HList.opsn (HOp.storeN' (l := [(.int .i64 1), (.int .i64 0), (.int .i64 3), (.int .i64 0), (.string (ByteArray.mk #[])), (.bool p0), (.string (ByteArray.mk #[])), (.int .i64 0), (.string (ByteArray.mk #[])), (Sl.v Sl.nil)]) Tryd.sizeOf41 rfl rfl rfl z5) ?_
  rintro _ H3 e4
  replace h := h H3 e4
  refine HList.nil ?_
  refine nt ?_
  refine HW.ret ?_
  obtain ⟨x6, x7, x8, x9, x10, x11, x12, x13, x14, x15, c16, h⟩ := h
  exact ⟨_, resOf1 rfl (Res1.n [(.int .i64 x6), (.int .i64 x7), (.int .i64 x8), (.int .i64 x9), (.string x10), (.bool x11), (.string x12), (.int .i64 x13), (.string x14), (Sl.v x15)] Tryd.isAgg41 Tryd.sizeOf41 rfl c16), ⟨x6, x7, x8, x9, x10, x11, x12, x13, x14, x15, rfl, h⟩⟩

def F43 (p0_0 : ByteArray) (p0_1 : Sl) (p1 : Addr) (H : Hp) (Q : Bool → Hp → Prop) : Prop :=
∀ H1 : Hp, H1 = Array.push H (.cells #[(.string p0_0), (Sl.v p0_1)] 86) → (
 ∃ x4 : ByteArray, cell H1 ⟨H.size, 0, none⟩ = some (.string x4) ∧ (
 ∃ x6 : ByteArray, cell H1 p1 = some (.string x6) ∧ (
 Q (seq x4 x6) H1)))
set_option maxRecDepth 100000 in
set_option maxHeartbeats 4000000 in
theorem walk43 {w0 : World} {p0_0 : ByteArray} {p0_1 : Sl} {p1 : Addr} {H : Hp} {Q : Bool → Hp → Prop} (h : F43 p0_0 p0_1 p1 H Q) :
    Good Tryd.prog w0 43 #[(.agg #[(.string p0_0), (Sl.v p0_1)]), (.pointer (some p1))] H (fun v H => ∃ (r0 : Bool) , v = (.bool r0) ∧ Q r0 H) := by
  unfold F43 at h
  refine Good.enter' (fn := Tryd.f43) Tryd.func43 rfl rfl rfl ?_
  refine HW.seq ?_
  refine HW.region ?_
  refine HList.ops' rfl (HOp.box (v := (.agg #[(.string p0_0), (Sl.v p0_1)])) rfl) ?_
  rintro _ H1 ⟨rfl, e2⟩
  replace h := h H1 e2
  refine HList.vals (v := (.bool false)) rfl (HVal.assign' rfl) ?_
  refine HList.nil ?_
  refine nt ?_
  refine HW.seq ?_
  refine HW.region ?_
  refine HList.vals (v := (.pointer (some ⟨H.size, 0, none⟩))) rfl (HVal.fieldAddr0 Tryd.runUnderlying86 rfl rfl Tryd.sizeOf9 rfl) ?_
  obtain ⟨x4, c3, h⟩ := h
  refine HList.vals (v := (.string x4)) rfl (HVal.load1 Tryd.isAgg9 rfl c3) ?_
  refine HList.vals (v := (.pointer (some p1))) rfl (HVal.fieldAddr0 Tryd.runUnderlying36 rfl rfl Tryd.sizeOf9 rfl) ?_
  obtain ⟨x6, c5, h⟩ := h
  refine HList.vals (v := (.string x6)) rfl (HVal.load1 Tryd.isAgg9 rfl c5) ?_
  refine HList.vals (v := (.bool (seq x4 x6))) rfl (HVal.eqlS rfl rfl) ?_
  refine HList.vals (v := (.bool (seq x4 x6))) rfl (HVal.assign' rfl) ?_
  refine HList.nil ?_
  refine nt ?_
  refine HW.ret ?_
  exact ⟨_, resOf1 rfl Res1.t, ⟨(seq x4 x6), rfl, h⟩⟩

def F42_43_L1b (Q : Int → Hp → Prop) (X1 : Int → Hp → Prop) (y2 : Sl) (y3 : Addr) (y4 : Int) (y1 : Int) (H_1 : Hp) : Prop :=
((decide (y1 < y4)) = true → (∃ a6 : Addr, (y2).b = some a6 ∧ (0 : Int) ≤ y1 ∧ y1 < ((y2).n : Int) ∧ (
 ∃ (x11 : ByteArray) (x12 : Sl), cells H_1 (Addr.add a6 (y1.toNat * 2)) [(.string x11), (Sl.v x12)] 0 ∧ (
 F43 x11 x12 y3 H_1 (fun (r15 : Bool) (H13 : Hp) => 
 (r15 = true → (Q y1 H13)) ∧
 (r15 = false → (X1 (IntKind.i64.wrap (y1 + 1)) H13))))))) ∧
 ((decide (y1 < y4)) = false → (Q (-1) H_1))
def F42_43_L1 (Q : Int → Hp → Prop) (y2 : Sl) (y3 : Addr) (y4 : Int) (y1 : Int) (H_1 : Hp) : Prop :=
  ∀ X1 : Int → Hp → Prop, (∀ (y1 : Int) (H_1 : Hp), F42_43_L1b Q X1 y2 y3 y4 y1 H_1 → X1 y1 H_1) → X1 y1 H_1
def F42_43 (p0 : Sl) (p1 : Addr) (H : Hp) (Q : Int → Hp → Prop) : Prop :=
F42_43_L1 Q p0 p1 ((p0).n : Int) 0 H
set_option maxRecDepth 100000 in
set_option maxHeartbeats 4000000 in
theorem walk42_43 {w0 : World} {p0 : Sl} {p1 : Addr} {H : Hp} {Q : Int → Hp → Prop} (h : F42_43 p0 p1 H Q) :
    Good Tryd.prog w0 42 #[(Sl.v p0), (.func (.func 43) #[] #[(.pointer (some p1))])] H (fun v H => ∃ (r0 : Int) , v = (.int .i64 r0) ∧ Q r0 H) := by
  unfold F42_43 at h
  refine Good.enter' (fn := Tryd.f42) Tryd.func42 rfl rfl rfl ?_
  refine HW.seq ?_
  refine HW.region ?_
  refine HList.vals (v := (.int .i64 0)) rfl (HVal.assign' rfl) ?_
  refine HList.nil ?_
  refine nt ?_
  refine HW.seq ?_
  refine HW.seq ?_
  refine HW.region ?_
  refine HList.vals (v := (Sl.v p0)) rfl (HVal.move' rfl) ?_
  refine HList.vals (v := (.int .i64 ((p0).n : Int))) rfl (HVal.len Tryd.runUnderlying30 rfl) ?_
  refine HList.vals (v := (.int .i64 0)) rfl (HVal.move' rfl) ?_
  refine HList.nil ?_
  refine nt ?_
  refine HW.block ?_
  refine HW.loop' (fun L1 hL1 => ?_)
  obtain ⟨X1, hX1⟩ : ∃ X1 : Int → Hp → Prop, ∀ (y1 : Int) (H_1 : Hp), X1 y1 H_1 ↔ ∀ ρ, Env.Is ρ [(0, (Sl.v p0)), (1, (.func (.func 43) #[] #[(.pointer (some p1))])), (7, (.int .i64 ((p0).n : Int))), (8, (.int .i64 y1))] → L1 ρ H_1 := ⟨_, fun _ _ => Iff.rfl⟩
  refine (hX1 _ _).1 (h X1 ?_) _ ?_
  rotate_left
  · exact ⟨rfl, rfl, rfl, rfl, trivial⟩
  clear h
  intro y1 H_1 h
  refine (hX1 _ _).2 fun ρ hI => ?_
  obtain ⟨ρ0, rfl⟩ : ∃ ρ0, ρ = (Env.set (Env.set (Env.set (Env.set ρ0 8 (.int .i64 y1)) 7 (.int .i64 ((p0).n : Int))) 1 (.func (.func 43) #[] #[(.pointer (some p1))])) 0 (Sl.v p0)) := ⟨ρ, hI.eq⟩
  clear hI; unfold F42_43_L1b at h; refine hL1 _ _ ?_
  refine HW.seq ?_
  refine HW.region ?_
  refine HList.vals (v := (.bool (decide (y1 < ((p0).n : Int))))) rfl (HVal.lss rfl rfl) ?_
  refine HList.nil ?_
  refine nt ?_
  refine HW.seq ?_
  obtain ⟨hT, hF⟩ := h
  refine HW.cond (decide (y1 < ((p0).n : Int))) rfl (fun hb5 => ?_) (fun hb5 => ?_)
  · have h := hT hb5
    clear hT hF
    refine HW.skip ?_
    refine nt ?_
    refine HW.seq ?_
    refine HW.block ?_
    refine HW.seq ?_
    refine HW.region ?_
    refine HList.vals (v := (.int .i64 y1)) rfl (HVal.move' rfl) ?_
    refine HList.vals (v := (.int .i64 y1)) rfl (HVal.assign' rfl) ?_
    refine HList.nil ?_
    refine nt ?_
    refine HW.seq ?_
    refine HW.region ?_
    refine HList.vals (v := (.func (.func 43) #[] #[(.pointer (some p1))])) rfl (HVal.move' rfl) ?_
    refine HList.vals (v := (Sl.v p0)) rfl (HVal.move' rfl) ?_
    refine HList.vals (v := (.int .i64 y1)) rfl (HVal.move' rfl) ?_
    obtain ⟨a6, e7, b8, b9, h⟩ := h
    refine HList.vals (v := (.pointer (some (Addr.add a6 (y1.toNat * 2))))) rfl (HVal.indexAddr Tryd.runUnderlying30 Tryd.sizeOf86 (Sl.v_some rfl e7) rfl b8 b9) ?_
    obtain ⟨x11, x12, c10, h⟩ := h
    refine HList.vals (v := (.agg #[(.string x11), (Sl.v x12)])) rfl (HVal.loadN [(.string x11), (Sl.v x12)] Tryd.isAgg86 Tryd.sizeOf86 rfl c10) ?_
    refine HList.ops' rfl (HOp.call' 43 [(.agg #[(.string x11), (Sl.v x12)]), (.pointer (some p1))] (cap := [(.pointer (some p1))]) rfl rfl Tryd.call43 (walk43 h)) ?_
    rintro _ H13 ⟨r15, rfl, h⟩
    refine HList.nil ?_
    refine nt ?_
    obtain ⟨hT, hF⟩ := h
    refine HW.cond r15 rfl (fun hb16 => ?_) (fun hb16 => ?_)
    · have h := hT hb16
      clear hT hF
      refine HW.seq ?_
      refine HW.region ?_
      refine HList.vals (v := (.int .i64 y1)) rfl (HVal.move' rfl) ?_
      refine HList.vals (v := (.int .i64 y1)) rfl (HVal.assign' rfl) ?_
      refine HList.nil ?_
      refine nt ?_
      refine HW.ret ?_
      refine br ?_
      refine tr ?_
      refine tr ?_
      refine br ?_
      refine tr ?_
      exact ⟨_, resOf1 rfl Res1.t, ⟨y1, rfl, h⟩⟩
    · have h := hF hb16
      clear hT hF
      refine HW.skip ?_
      refine nb ?_
      refine nt ?_
      refine HW.region ?_
      refine HList.vals (v := (.int .i64 (IntKind.i64.wrap (y1 + 1)))) rfl (HVal.add rfl rfl) ?_
      refine HList.vals (v := (.int .i64 (IntKind.i64.wrap (y1 + 1)))) rfl (HVal.move' rfl) ?_
      refine HList.nil ?_
      refine nt ?_
      exact (hX1 _ _).1 h _ ⟨rfl, rfl, rfl, rfl, trivial⟩
  · have h := hF hb5
    clear hT hF
    refine HW.exit ?_
    refine te ?_
    refine te ?_
    refine be ?_
    refine nt ?_
    refine HW.seq ?_
    refine HW.region ?_
    refine HList.vals (v := (.int .i64 (-1))) rfl (HVal.assign' rfl) ?_
    refine HList.nil ?_
    refine nt ?_
    refine HW.ret ?_
    exact ⟨_, resOf1 rfl Res1.t, ⟨(-1), rfl, h⟩⟩

def F45 (p0_0 : ByteArray) (p0_1 : Int) (p1 : Addr) (H : Hp) (Q : Bool → Hp → Prop) : Prop :=
∀ H1 : Hp, H1 = Array.push H (.cells #[(.string p0_0), (.int .i64 p0_1)] 83) → (
 ∃ x4 : ByteArray, cell H1 ⟨H.size, 0, none⟩ = some (.string x4) ∧ (
 ∃ x6 : ByteArray, cell H1 p1 = some (.string x6) ∧ (
 Q (seq x4 x6) H1)))
set_option maxRecDepth 100000 in
set_option maxHeartbeats 4000000 in
theorem walk45 {w0 : World} {p0_0 : ByteArray} {p0_1 : Int} {p1 : Addr} {H : Hp} {Q : Bool → Hp → Prop} (h : F45 p0_0 p0_1 p1 H Q) :
    Good Tryd.prog w0 45 #[(.agg #[(.string p0_0), (.int .i64 p0_1)]), (.pointer (some p1))] H (fun v H => ∃ (r0 : Bool) , v = (.bool r0) ∧ Q r0 H) := by
  unfold F45 at h
  refine Good.enter' (fn := Tryd.f45) Tryd.func45 rfl rfl rfl ?_
  refine HW.seq ?_
  refine HW.region ?_
  refine HList.ops' rfl (HOp.box (v := (.agg #[(.string p0_0), (.int .i64 p0_1)])) rfl) ?_
  rintro _ H1 ⟨rfl, e2⟩
  replace h := h H1 e2
  refine HList.vals (v := (.bool false)) rfl (HVal.assign' rfl) ?_
  refine HList.nil ?_
  refine nt ?_
  refine HW.seq ?_
  refine HW.region ?_
  refine HList.vals (v := (.pointer (some ⟨H.size, 0, none⟩))) rfl (HVal.fieldAddr0 Tryd.runUnderlying83 rfl rfl Tryd.sizeOf9 rfl) ?_
  obtain ⟨x4, c3, h⟩ := h
  refine HList.vals (v := (.string x4)) rfl (HVal.load1 Tryd.isAgg9 rfl c3) ?_
  obtain ⟨x6, c5, h⟩ := h
  refine HList.vals (v := (.string x6)) rfl (HVal.load1 Tryd.isAgg9 rfl c5) ?_
  refine HList.vals (v := (.bool (seq x4 x6))) rfl (HVal.eqlS rfl rfl) ?_
  refine HList.vals (v := (.bool (seq x4 x6))) rfl (HVal.assign' rfl) ?_
  refine HList.nil ?_
  refine nt ?_
  refine HW.ret ?_
  exact ⟨_, resOf1 rfl Res1.t, ⟨(seq x4 x6), rfl, h⟩⟩

def F44_45_L1b (Q : Int → Hp → Prop) (X1 : Int → Hp → Prop) (y2 : Sl) (y3 : Addr) (y4 : Int) (y1 : Int) (H_1 : Hp) : Prop :=
((decide (y1 < y4)) = true → (∃ a6 : Addr, (y2).b = some a6 ∧ (0 : Int) ≤ y1 ∧ y1 < ((y2).n : Int) ∧ (
 ∃ (x11 : ByteArray) (x12 : Int), cells H_1 (Addr.add a6 (y1.toNat * 2)) [(.string x11), (.int .i64 x12)] 0 ∧ (
 F45 x11 x12 y3 H_1 (fun (r15 : Bool) (H13 : Hp) => 
 (r15 = true → (Q y1 H13)) ∧
 (r15 = false → (X1 (IntKind.i64.wrap (y1 + 1)) H13))))))) ∧
 ((decide (y1 < y4)) = false → (Q (-1) H_1))
def F44_45_L1 (Q : Int → Hp → Prop) (y2 : Sl) (y3 : Addr) (y4 : Int) (y1 : Int) (H_1 : Hp) : Prop :=
  ∀ X1 : Int → Hp → Prop, (∀ (y1 : Int) (H_1 : Hp), F44_45_L1b Q X1 y2 y3 y4 y1 H_1 → X1 y1 H_1) → X1 y1 H_1
def F44_45 (p0 : Sl) (p1 : Addr) (H : Hp) (Q : Int → Hp → Prop) : Prop :=
F44_45_L1 Q p0 p1 ((p0).n : Int) 0 H
set_option maxRecDepth 100000 in
set_option maxHeartbeats 4000000 in
theorem walk44_45 {w0 : World} {p0 : Sl} {p1 : Addr} {H : Hp} {Q : Int → Hp → Prop} (h : F44_45 p0 p1 H Q) :
    Good Tryd.prog w0 44 #[(Sl.v p0), (.func (.func 45) #[] #[(.pointer (some p1))])] H (fun v H => ∃ (r0 : Int) , v = (.int .i64 r0) ∧ Q r0 H) := by
  unfold F44_45 at h
  refine Good.enter' (fn := Tryd.f44) Tryd.func44 rfl rfl rfl ?_
  refine HW.seq ?_
  refine HW.region ?_
  refine HList.vals (v := (.int .i64 0)) rfl (HVal.assign' rfl) ?_
  refine HList.nil ?_
  refine nt ?_
  refine HW.seq ?_
  refine HW.seq ?_
  refine HW.region ?_
  refine HList.vals (v := (Sl.v p0)) rfl (HVal.move' rfl) ?_
  refine HList.vals (v := (.int .i64 ((p0).n : Int))) rfl (HVal.len Tryd.runUnderlying84 rfl) ?_
  refine HList.vals (v := (.int .i64 0)) rfl (HVal.move' rfl) ?_
  refine HList.nil ?_
  refine nt ?_
  refine HW.block ?_
  refine HW.loop' (fun L1 hL1 => ?_)
  obtain ⟨X1, hX1⟩ : ∃ X1 : Int → Hp → Prop, ∀ (y1 : Int) (H_1 : Hp), X1 y1 H_1 ↔ ∀ ρ, Env.Is ρ [(0, (Sl.v p0)), (1, (.func (.func 45) #[] #[(.pointer (some p1))])), (7, (.int .i64 ((p0).n : Int))), (8, (.int .i64 y1))] → L1 ρ H_1 := ⟨_, fun _ _ => Iff.rfl⟩
  refine (hX1 _ _).1 (h X1 ?_) _ ?_
  rotate_left
  · exact ⟨rfl, rfl, rfl, rfl, trivial⟩
  clear h
  intro y1 H_1 h
  refine (hX1 _ _).2 fun ρ hI => ?_
  obtain ⟨ρ0, rfl⟩ : ∃ ρ0, ρ = (Env.set (Env.set (Env.set (Env.set ρ0 8 (.int .i64 y1)) 7 (.int .i64 ((p0).n : Int))) 1 (.func (.func 45) #[] #[(.pointer (some p1))])) 0 (Sl.v p0)) := ⟨ρ, hI.eq⟩
  clear hI; unfold F44_45_L1b at h; refine hL1 _ _ ?_
  refine HW.seq ?_
  refine HW.region ?_
  refine HList.vals (v := (.bool (decide (y1 < ((p0).n : Int))))) rfl (HVal.lss rfl rfl) ?_
  refine HList.nil ?_
  refine nt ?_
  refine HW.seq ?_
  obtain ⟨hT, hF⟩ := h
  refine HW.cond (decide (y1 < ((p0).n : Int))) rfl (fun hb5 => ?_) (fun hb5 => ?_)
  · have h := hT hb5
    clear hT hF
    refine HW.skip ?_
    refine nt ?_
    refine HW.seq ?_
    refine HW.block ?_
    refine HW.seq ?_
    refine HW.region ?_
    refine HList.vals (v := (.int .i64 y1)) rfl (HVal.move' rfl) ?_
    refine HList.vals (v := (.int .i64 y1)) rfl (HVal.assign' rfl) ?_
    refine HList.nil ?_
    refine nt ?_
    refine HW.seq ?_
    refine HW.region ?_
    refine HList.vals (v := (.func (.func 45) #[] #[(.pointer (some p1))])) rfl (HVal.move' rfl) ?_
    refine HList.vals (v := (Sl.v p0)) rfl (HVal.move' rfl) ?_
    refine HList.vals (v := (.int .i64 y1)) rfl (HVal.move' rfl) ?_
    obtain ⟨a6, e7, b8, b9, h⟩ := h
    refine HList.vals (v := (.pointer (some (Addr.add a6 (y1.toNat * 2))))) rfl (HVal.indexAddr Tryd.runUnderlying84 Tryd.sizeOf83 (Sl.v_some rfl e7) rfl b8 b9) ?_
    obtain ⟨x11, x12, c10, h⟩ := h
    refine HList.vals (v := (.agg #[(.string x11), (.int .i64 x12)])) rfl (HVal.loadN [(.string x11), (.int .i64 x12)] Tryd.isAgg83 Tryd.sizeOf83 rfl c10) ?_
    refine HList.ops' rfl (HOp.call' 45 [(.agg #[(.string x11), (.int .i64 x12)]), (.pointer (some p1))] (cap := [(.pointer (some p1))]) rfl rfl Tryd.call45 (walk45 h)) ?_
    rintro _ H13 ⟨r15, rfl, h⟩
    refine HList.nil ?_
    refine nt ?_
    obtain ⟨hT, hF⟩ := h
    refine HW.cond r15 rfl (fun hb16 => ?_) (fun hb16 => ?_)
    · have h := hT hb16
      clear hT hF
      refine HW.seq ?_
      refine HW.region ?_
      refine HList.vals (v := (.int .i64 y1)) rfl (HVal.move' rfl) ?_
      refine HList.vals (v := (.int .i64 y1)) rfl (HVal.assign' rfl) ?_
      refine HList.nil ?_
      refine nt ?_
      refine HW.ret ?_
      refine br ?_
      refine tr ?_
      refine tr ?_
      refine br ?_
      refine tr ?_
      exact ⟨_, resOf1 rfl Res1.t, ⟨y1, rfl, h⟩⟩
    · have h := hF hb16
      clear hT hF
      refine HW.skip ?_
      refine nb ?_
      refine nt ?_
      refine HW.region ?_
      refine HList.vals (v := (.int .i64 (IntKind.i64.wrap (y1 + 1)))) rfl (HVal.add rfl rfl) ?_
      refine HList.vals (v := (.int .i64 (IntKind.i64.wrap (y1 + 1)))) rfl (HVal.move' rfl) ?_
      refine HList.nil ?_
      refine nt ?_
      exact (hX1 _ _).1 h _ ⟨rfl, rfl, rfl, rfl, trivial⟩
  · have h := hF hb5
    clear hT hF
    refine HW.exit ?_
    refine te ?_
    refine te ?_
    refine be ?_
    refine nt ?_
    refine HW.seq ?_
    refine HW.region ?_
    refine HList.vals (v := (.int .i64 (-1))) rfl (HVal.assign' rfl) ?_
    refine HList.nil ?_
    refine nt ?_
    refine HW.ret ?_
    exact ⟨_, resOf1 rfl Res1.t, ⟨(-1), rfl, h⟩⟩

end Go.Hw
