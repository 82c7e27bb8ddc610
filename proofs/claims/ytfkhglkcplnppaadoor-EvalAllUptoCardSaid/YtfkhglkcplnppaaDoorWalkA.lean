/- The walks of this seat, printed by a program of this session (wip/tools/gen.py): of each function what it does to the heap, and that it does so. -/
import Derived.Test.YtfkhglkcplnppaaDoorHwZ
import Derived.Test.YtfkhglkcplnppaaDoorProg
import Derived.Test.YtfkhglkcplnppaaDoorWAux
import Derived.Test.YtfkhglkcplnppaaDoorWLib
set_option linter.unusedVariables false
set_option linter.unusedSimpArgs false
set_option maxRecDepth 100000
set_option maxHeartbeats 4000000
namespace Go.Hw
open Go Go.Proofs Tryd
def F78 (p0 p1 : Int) (H : Hp) (Q : ZQI) : Prop :=
Q (IntKind.i64.wrap (p0 + p1)) H
theorem walk78 {w0 : World} {p0 p1 : Int} {H : Hp} {Q : ZQI} (h : F78 p0 p1 H Q) :
  Good prog w0 78 #[(iv p0), (iv p1)] H (fun v H => ∃ r0, v = (iv r0) ∧ Q r0 H) := by
 unfold F78 at h
 refine Good.enter' (fn := f78) func78 rfl rfl rfl (ws (wr_ (hv (v := iv 0) rfl (av rfl) (hn (nt (ws ?_))))))
 refine wr_ (hv (v := iv p0) rfl (mv rfl) (hv (v := iv p1) rfl (mv rfl) (hv (v := iv (IntKind.i64.wrap (p0 + p1))) rfl (HVal.add rfl rfl) ?_)))
 refine hv (v := iv (IntKind.i64.wrap (p0 + p1))) rfl (av rfl) (hn (nt (HW.ret ?_)))
 exact ⟨_, resOf1 rfl Res1.t, ⟨(IntKind.i64.wrap (p0 + p1)), rfl, h⟩⟩

def F79 (p0 p1 : Int) (H : Hp) (Q : ZQI) : Prop :=
Q (if p1 < p0 then p1 else p0) H
theorem walk79 {w0 : World} {p0 p1 : Int} {H : Hp} {Q : ZQI} (h : F79 p0 p1 H Q) :
  Good prog w0 79 #[(iv p0), (iv p1)] H (fun v H => ∃ r0, v = (iv r0) ∧ Q r0 H) := by
 unfold F79 at h
 refine Good.enter' (fn := f79) func79 rfl rfl rfl (ws (wr_ (hv (v := iv 0) rfl (av rfl) (hn (nt (ws ?_))))))
 refine wr_ (hv (v := iv p0) rfl (mv rfl) (hv (v := iv p1) rfl (mv rfl) (hv (v := iv (if p1 < p0 then p1 else p0)) rfl (HVal.min rfl rfl) ?_)))
 refine hv (v := iv (if p1 < p0 then p1 else p0)) rfl (av rfl) (hn (nt (HW.ret ?_)))
 exact ⟨_, resOf1 rfl Res1.t, ⟨(if p1 < p0 then p1 else p0), rfl, h⟩⟩

def F80 (p0 p1 : Int) (H : Hp) (Q : ZQI) : Prop :=
Q (if p0 < p1 then p1 else p0) H
theorem walk80 {w0 : World} {p0 p1 : Int} {H : Hp} {Q : ZQI} (h : F80 p0 p1 H Q) :
  Good prog w0 80 #[(iv p0), (iv p1)] H (fun v H => ∃ r0, v = (iv r0) ∧ Q r0 H) := by
 unfold F80 at h
 refine Good.enter' (fn := f80) func80 rfl rfl rfl (ws (wr_ (hv (v := iv 0) rfl (av rfl) (hn (nt (ws ?_))))))
 refine wr_ (hv (v := iv p0) rfl (mv rfl) (hv (v := iv p1) rfl (mv rfl) (hv (v := iv (if p0 < p1 then p1 else p0)) rfl (HVal.max rfl rfl) ?_)))
 refine hv (v := iv (if p0 < p1 then p1 else p0)) rfl (av rfl) (hn (nt (HW.ret ?_)))
 exact ⟨_, resOf1 rfl Res1.t, ⟨(if p0 < p1 then p1 else p0), rfl, h⟩⟩

def F14 (p0 : Int) (p1 : ByteArray) (p2 : Int) (p3 : ByteArray) (H : Hp) (Q : Int → Int → Int → Int → ByteArray → Bool → ByteArray → Int → ByteArray → Sl → Hp → Prop) : Prop :=
∀ H1, H1 = Array.push H (.cells zR.toArray 41) → (
 mayw H1 (bk H) 10 0 ∧ ∀ H3, H3 = sets H1 (bk H) (eR 3 p0 0 0 bE false p1 p2 p3 Sl.nil) 0 → (
 ∃ x6 x7 x8 x9 x10 x11 x12 x13 x14 x15, cells H3 (bk H) (eR x6 x7 x8 x9 x10 x11 x12 x13 x14 x15) 0 ∧ (
 Q x6 x7 x8 x9 x10 x11 x12 x13 x14 x15 H3)))
theorem walk14 {w0 : World} {p0 : Int} {p1 : ByteArray} {p2 : Int} {p3 : ByteArray} {H : Hp} {Q : Int → Int → Int → Int → ByteArray → Bool → ByteArray → Int → ByteArray → Sl → Hp → Prop} (h : F14 p0 p1 p2 p3 H Q) :
  Good prog w0 14 #[(iv p0), (sv p1), (iv p2), (sv p3)] H (fun v H => ∃ r0 r1 r2 r3 r4 r5 r6 r7 r8 r9, v = (.agg (eR r0 r1 r2 r3 r4 r5 r6 r7 r8 r9).toArray) ∧ Q r0 r1 r2 r3 r4 r5 r6 r7 r8 r9 H) := by
 unfold F14 at h
 refine Good.enter' (fn := f14) func14 rfl rfl rfl (ws (wr_ (ho rfl (HOp.alloc zeroValue41) ?_)))
 rintro _ H1 ⟨rfl, e2⟩
 replace h := h H1 e2
 refine hn (nt (ws (wr_ (hv (v := iv p0) rfl (mv rfl) (hv (v := sv p1) rfl (mv rfl) (hv (v := iv p2) rfl (mv rfl) ?_))))))
 refine hv (v := sv p3) rfl (mv rfl) (hv (v := .agg (eR 3 p0 0 0 bE false p1 p2 p3 Sl.nil).toArray) rfl (HVal.build' (cs := (eR 3 p0 0 0 bE false p1 p2 p3 Sl.nil)) runUnderlying41 zeroValue41 places41 (by kernel_rfl)) ?_)
 obtain ⟨z5, h⟩ := h
 refine hq (HOp.storeN' (l := (eR 3 p0 0 0 bE false p1 p2 p3 Sl.nil)) sizeOf41 rfl rfl rfl z5) ?_
 rintro _ H3 e4
 replace h := h H3 e4
 refine hn (nt (HW.ret ?_))
 obtain ⟨x6, x7, x8, x9, x10, x11, x12, x13, x14, x15, c16, h⟩ := h
 exact ⟨_, resOf1 rfl (Res1.n (eR x6 x7 x8 x9 x10 x11 x12 x13 x14 x15) isAgg41 sizeOf41 rfl c16), ⟨x6, x7, x8, x9, x10, x11, x12, x13, x14, x15, rfl, h⟩⟩

def F16 (p0 : ByteArray) (p1 : Int) (p2 : ByteArray) (H : Hp) (Q : Int → Int → Int → Int → ByteArray → Bool → ByteArray → Int → ByteArray → Sl → Hp → Prop) : Prop :=
∀ H1, H1 = Array.push H (.cells zR.toArray 41) → (
 mayw H1 (bk H) 10 0 ∧ ∀ H3, H3 = sets H1 (bk H) (eR 2 0 0 0 bE false p0 p1 p2 Sl.nil) 0 → (
 ∃ x6 x7 x8 x9 x10 x11 x12 x13 x14 x15, cells H3 (bk H) (eR x6 x7 x8 x9 x10 x11 x12 x13 x14 x15) 0 ∧ (
 Q x6 x7 x8 x9 x10 x11 x12 x13 x14 x15 H3)))
theorem walk16 {w0 : World} {p0 : ByteArray} {p1 : Int} {p2 : ByteArray} {H : Hp} {Q : Int → Int → Int → Int → ByteArray → Bool → ByteArray → Int → ByteArray → Sl → Hp → Prop} (h : F16 p0 p1 p2 H Q) :
  Good prog w0 16 #[(sv p0), (iv p1), (sv p2)] H (fun v H => ∃ r0 r1 r2 r3 r4 r5 r6 r7 r8 r9, v = (.agg (eR r0 r1 r2 r3 r4 r5 r6 r7 r8 r9).toArray) ∧ Q r0 r1 r2 r3 r4 r5 r6 r7 r8 r9 H) := by
 unfold F16 at h
 refine Good.enter' (fn := f16) func16 rfl rfl rfl (ws (wr_ (ho rfl (HOp.alloc zeroValue41) ?_)))
 rintro _ H1 ⟨rfl, e2⟩
 replace h := h H1 e2
 refine hn (nt (ws (wr_ (hv (v := sv p0) rfl (mv rfl) (hv (v := iv p1) rfl (mv rfl) (hv (v := sv p2) rfl (mv rfl) ?_))))))
 refine hv (v := .agg (eR 2 0 0 0 bE false p0 p1 p2 Sl.nil).toArray) rfl (HVal.build' (cs := (eR 2 0 0 0 bE false p0 p1 p2 Sl.nil)) runUnderlying41 zeroValue41 places41 (by kernel_rfl)) ?_
 obtain ⟨z5, h⟩ := h
 refine hq (HOp.storeN' (l := (eR 2 0 0 0 bE false p0 p1 p2 Sl.nil)) sizeOf41 rfl rfl rfl z5) ?_
 rintro _ H3 e4
 replace h := h H3 e4
 refine hn (nt (HW.ret ?_))
 obtain ⟨x6, x7, x8, x9, x10, x11, x12, x13, x14, x15, c16, h⟩ := h
 exact ⟨_, resOf1 rfl (Res1.n (eR x6 x7 x8 x9 x10 x11 x12 x13 x14 x15) isAgg41 sizeOf41 rfl c16), ⟨x6, x7, x8, x9, x10, x11, x12, x13, x14, x15, rfl, h⟩⟩

def F23 (p0 : Int) (H : Hp) (Q : Int → Int → ByteArray → ZQB) : Prop :=
∀ H1, H1 = Array.push H (.cells (vR 0 0 bE false).toArray 38) → (
 mayw H1 (bk H) 4 0 ∧ ∀ H3, H3 = sets H1 (bk H) (vR 1 p0 bE false) 0 → (
 ∃ x6 x7 x8 x9, cells H3 (bk H) (vR x6 x7 x8 x9) 0 ∧ (
 Q x6 x7 x8 x9 H3)))
theorem walk23 {w0 : World} {p0 : Int} {H : Hp} {Q : Int → Int → ByteArray → ZQB} (h : F23 p0 H Q) :
  Good prog w0 23 #[(iv p0)] H (fun v H => ∃ r0 r1 r2 r3, v = (.agg (vR r0 r1 r2 r3).toArray) ∧ Q r0 r1 r2 r3 H) := by
 unfold F23 at h
 refine Good.enter' (fn := f23) func23 rfl rfl rfl (ws (wr_ (ho rfl (HOp.alloc zeroValue38) ?_)))
 rintro _ H1 ⟨rfl, e2⟩
 replace h := h H1 e2
 refine hn (nt (ws (wr_ (hv (v := iv p0) rfl (mv rfl) (hv (v := .agg (vR 1 p0 bE false).toArray) rfl (HVal.build' (cs := (vR 1 p0 bE false)) runUnderlying38 zeroValue38 places38 rfl) ?_)))))
 obtain ⟨z5, h⟩ := h
 refine hq (HOp.storeN' (l := (vR 1 p0 bE false)) sizeOf38 rfl rfl rfl z5) ?_
 rintro _ H3 e4
 replace h := h H3 e4
 refine hn (nt (HW.ret ?_))
 obtain ⟨x6, x7, x8, x9, c10, h⟩ := h
 exact ⟨_, resOf1 rfl (Res1.n (vR x6 x7 x8 x9) isAgg38 sizeOf38 rfl c10), ⟨x6, x7, x8, x9, rfl, h⟩⟩

def F10 (p0 p1 : Int) (p2 : ByteArray) (H : Hp) (Q : ByteArray → Int → Sl → Hp → Prop) : Prop :=
∀ H1, H1 = Array.push H (.cells (tR bE 0 Sl.nil).toArray 36) → (
 F23 p1 H1 (fun r5 r6 r7 r8 H3 =>
 ∀ H9, H9 = Array.push H3 (.cells #[(iv r5), (iv r6), (sv r7), (bv r8), (iv 2), (iv 0), (sv p2), (bv false)] 38) → (
 mayw H9 (bk H) 3 0 ∧ ∀ H11, H11 = sets H9 (bk H) (tR S_T p0 (Sl.mk (some (bk H3)) 2 2)) 0 → (
 ∃ x14 x15 x16, cells H11 (bk H) (tR x14 x15 x16) 0 ∧ (
 Q x14 x15 x16 H11)))))
theorem walk10 {w0 : World} {p0 p1 : Int} {p2 : ByteArray} {H : Hp} {Q : ByteArray → Int → Sl → Hp → Prop} (h : F10 p0 p1 p2 H Q) :
  Good prog w0 10 #[(iv p0), (iv p1), (sv p2)] H (fun v H => ∃ r0 r1 r2, v = (.agg (tR r0 r1 r2).toArray) ∧ Q r0 r1 r2 H) := by
 unfold F10 at h
 refine Good.enter' (fn := f10) func10 rfl rfl rfl (ws (wr_ (ho rfl (HOp.alloc zeroValue36) ?_)))
 rintro _ H1 ⟨rfl, e2⟩
 replace h := h H1 e2
 refine hn (nt (ws (wr_ (hv (v := iv p0) rfl (mv rfl) (hv (v := iv p1) rfl (mv rfl) (ho rfl (HOp.call' 23 [(iv p1)] (cap := []) rfl rfl call23 (walk23 h)) ?_))))))
 rintro _ H3 ⟨r5, r6, r7, r8, rfl, h⟩
 refine hv (v := sv p2) rfl (mv rfl) (hv (v := .agg (vR 2 0 p2 false).toArray) rfl (HVal.build' (cs := (vR 2 0 p2 false)) runUnderlying38 zeroValue38 places38 rfl) ?_)
 refine ho rfl (HOp.buildSlice' (zs := [(iv 0), (iv 0), (sv bE), (bv false), (iv 0), (iv 0), (sv bE), (bv false)]) (cs := [(iv r5), (iv r6), (sv r7), (bv r8), (iv 2), (iv 0), (sv p2), (bv false)]) runUnderlying34 sizeOf38 zeroValue38 (by decide) (by kernel_rfl) (by kernel_rfl) (by decide)) ?_
 rintro _ H9 ⟨rfl, e10⟩
 replace h := h H9 e10
 refine hv (v := .agg (tR S_T p0 (Sl.mk (some (bk H3)) 2 2)).toArray) rfl (HVal.build' (cs := (tR S_T p0 (Sl.mk (some (bk H3)) 2 2))) runUnderlying36 zeroValue36 places36 rfl) ?_
 obtain ⟨z13, h⟩ := h
 refine hq (HOp.storeN' (l := (tR S_T p0 (Sl.mk (some (bk H3)) 2 2))) sizeOf36 rfl rfl rfl z13) ?_
 rintro _ H11 e12
 replace h := h H11 e12
 refine hn (nt (HW.ret ?_))
 obtain ⟨x14, x15, x16, c17, h⟩ := h
 exact ⟨_, resOf1 rfl (Res1.n (tR x14 x15 x16) isAgg36 sizeOf36 rfl c17), ⟨x14, x15, x16, rfl, h⟩⟩

def F12 (H : Hp) (Q : Sl → Hp → Prop) : Prop :=
∀ H1, H1 = Array.push H (.cells #[(sv S_x), (iv 1), (sv S_s), (iv 2)] 83) → (
 ∀ H3, H3 = Array.push H1 (.cells #[(sv S_T), (Sl.v (Sl.mk (some (bk H)) 2 2))] 86) → (
 Q (Sl.mk (some (bk H1)) 1 1) H3))
theorem walk12 {w0 : World} {H : Hp} {Q : Sl → Hp → Prop} (h : F12 H Q) :
  Good prog w0 12 #[] H (fun v H => ∃ r0, v = (Sl.v r0) ∧ Q r0 H) := by
 unfold F12 at h
 refine Good.enter' (fn := f12) func12 rfl rfl rfl (ws (wr_ (hv (v := sN) rfl (av rfl) (hn (nt (ws (wr_ ?_)))))))
 refine hv (v := .agg #[(sv S_x), (iv 1)]) rfl (HVal.build' (cs := [(sv S_x), (iv 1)]) runUnderlying83 zeroValue83 places83 rfl) (hv (v := .agg #[(sv S_s), (iv 2)]) rfl (HVal.build' (cs := [(sv S_s), (iv 2)]) runUnderlying83 zeroValue83 places83 rfl) ?_)
 refine ho rfl (HOp.buildSlice' (zs := [(sv bE), (iv 0), (sv bE), (iv 0)]) (cs := [(sv S_x), (iv 1), (sv S_s), (iv 2)]) runUnderlying84 sizeOf83 zeroValue83 (by decide) (by kernel_rfl) rfl (by decide)) ?_
 rintro _ H1 ⟨rfl, e2⟩
 replace h := h H1 e2
 refine hv (v := .agg #[(sv S_T), (Sl.v (Sl.mk (some (bk H)) 2 2))]) rfl (HVal.build' (cs := [(sv S_T), (Sl.v (Sl.mk (some (bk H)) 2 2))]) runUnderlying86 zeroValue86 places86 rfl) ?_
 refine ho rfl (HOp.buildSlice' (zs := [(sv bE), sN]) (cs := [(sv S_T), (Sl.v (Sl.mk (some (bk H)) 2 2))]) runUnderlying30 sizeOf86 zeroValue86 (by decide) (by kernel_rfl) rfl (by decide)) ?_
 rintro _ H3 ⟨rfl, e4⟩
 replace h := h H3 e4
 refine hv (v := Sl.v (Sl.mk (some (bk H1)) 1 1)) rfl (av rfl) (hn (nt (HW.ret ?_)))
 exact ⟨_, resOf1 rfl Res1.t, ⟨(Sl.mk (some (bk H1)) 1 1), rfl, h⟩⟩

def F17 (H : Hp) (Q : Sl → Sl → ByteArray → ByteArray → Int → Sl → Sl → Hp → Prop) : Prop :=
∀ H1, H1 = Array.push H (.cells (xR Sl.nil Sl.nil bE bE 0 Sl.nil Sl.nil).toArray 43) → (
 ∀ H3, H3 = Array.push H1 (.cells #[(sv S_a), (sv S_b), (sv S_c)] 9) → (
 F10 1 5 S_p H3 (fun r7 r8 r9 H5 =>
 ∀ H10, H10 = Array.push H5 (.cells (tR r7 r8 r9).toArray 36) → (
 F10 2 7 S_q H10 (fun r14 r15 r16 H12 =>
 F10 3 6 S_r H12 (fun r19 r20 r21 H17 =>
 ∀ H22, H22 = Array.push H17 (.cells #[(sv r14), (iv r15), (Sl.v r16), (sv r19), (iv r20), (Sl.v r21)] 36) → (
 ∀ H24, H24 = Array.push H22 (.cells #[(Sl.v (Sl.mk (some (bk H5)) 1 1)), (Sl.v (Sl.mk (some (bk H17)) 2 2)), sN] 49) → (
 F10 4 9 S_z H24 (fun r28 r29 r30 H26 =>
 F12 H26 (fun r33 H31 =>
 mayw H31 (bk H) 7 0 ∧ ∀ H34, H34 = sets H31 (bk H) (xR (Sl.mk (some (bk H1)) 3 3) (Sl.mk (some (bk H22)) 3 3) S_b r28 r29 r30 r33) 0 → (
 ∃ x37 x38 x39 x40 x41 x42 x43, cells H34 (bk H) (xR x37 x38 x39 x40 x41 x42 x43) 0 ∧ (
 Q x37 x38 x39 x40 x41 x42 x43 H34))))))))))))
theorem walk17 {w0 : World} {H : Hp} {Q : Sl → Sl → ByteArray → ByteArray → Int → Sl → Sl → Hp → Prop} (h : F17 H Q) :
  Good prog w0 17 #[] H (fun v H => ∃ r0 r1 r2 r3 r4 r5 r6, v = (.agg (xR r0 r1 r2 r3 r4 r5 r6).toArray) ∧ Q r0 r1 r2 r3 r4 r5 r6 H) := by
 unfold F17 at h
 refine Good.enter' (fn := f17) func17 rfl rfl rfl (ws (wr_ (ho rfl (HOp.alloc zeroValue43) ?_)))
 rintro _ H1 ⟨rfl, e2⟩
 replace h := h H1 e2
 refine hn (nt (ws (wr_ (ho rfl (HOp.buildSlice' (zs := [(sv bE), (sv bE), (sv bE)]) (cs := [(sv S_a), (sv S_b), (sv S_c)]) runUnderlying29 sizeOf9 zeroValue9 (by decide) (by kernel_rfl) rfl (by decide)) ?_))))
 rintro _ H3 ⟨rfl, e4⟩
 replace h := h H3 e4
 refine ho rfl (HOp.call' 10 [(iv 1), (iv 5), (sv S_p)] (cap := []) rfl rfl call10 (walk10 h)) ?_
 rintro _ H5 ⟨r7, r8, r9, rfl, h⟩
 refine ho rfl (HOp.buildSlice' (zs := (tR bE 0 Sl.nil)) (cs := (tR r7 r8 r9)) runUnderlying49 sizeOf36 zeroValue36 (by decide) (by kernel_rfl) rfl (by decide)) ?_
 rintro _ H10 ⟨rfl, e11⟩
 replace h := h H10 e11
 refine ho rfl (HOp.call' 10 [(iv 2), (iv 7), (sv S_q)] (cap := []) rfl rfl call10 (walk10 h)) ?_
 rintro _ H12 ⟨r14, r15, r16, rfl, h⟩
 refine ho rfl (HOp.call' 10 [(iv 3), (iv 6), (sv S_r)] (cap := []) rfl rfl call10 (walk10 h)) ?_
 rintro _ H17 ⟨r19, r20, r21, rfl, h⟩
 refine ho rfl (HOp.buildSlice' (zs := [(sv bE), (iv 0), sN, (sv bE), (iv 0), sN]) (cs := [(sv r14), (iv r15), (Sl.v r16), (sv r19), (iv r20), (Sl.v r21)]) runUnderlying49 sizeOf36 zeroValue36 (by decide) (by kernel_rfl) (by kernel_rfl) (by decide)) ?_
 rintro _ H22 ⟨rfl, e23⟩
 replace h := h H22 e23
 refine ho rfl (HOp.buildSlice' (zs := [sN, sN, sN]) (cs := [(Sl.v (Sl.mk (some (bk H5)) 1 1)), (Sl.v (Sl.mk (some (bk H17)) 2 2)), sN]) runUnderlying27 sizeOf49 zeroValue49 (by decide) (by kernel_rfl) rfl (by decide)) ?_
 rintro _ H24 ⟨rfl, e25⟩
 replace h := h H24 e25
 refine ho rfl (HOp.call' 10 [(iv 4), (iv 9), (sv S_z)] (cap := []) rfl rfl call10 (walk10 h)) ?_
 rintro _ H26 ⟨r28, r29, r30, rfl, h⟩
 refine ho rfl (HOp.call' 12 [] (cap := []) rfl rfl call12 (walk12 h)) ?_
 rintro _ H31 ⟨r33, rfl, h⟩
 refine hv (v := .agg (xR (Sl.mk (some (bk H1)) 3 3) (Sl.mk (some (bk H22)) 3 3) S_b r28 r29 r30 r33).toArray) rfl (HVal.build' (cs := (xR (Sl.mk (some (bk H1)) 3 3) (Sl.mk (some (bk H22)) 3 3) S_b r28 r29 r30 r33)) runUnderlying43 zeroValue43 places43 (by kernel_rfl)) ?_
 obtain ⟨z36, h⟩ := h
 refine hq (HOp.storeN' (l := (xR (Sl.mk (some (bk H1)) 3 3) (Sl.mk (some (bk H22)) 3 3) S_b r28 r29 r30 r33)) sizeOf43 rfl rfl rfl z36) ?_
 rintro _ H34 e35
 replace h := h H34 e35
 refine hn (nt (HW.ret ?_))
 obtain ⟨x37, x38, x39, x40, x41, x42, x43, c44, h⟩ := h
 exact ⟨_, resOf1 rfl (Res1.n (xR x37 x38 x39 x40 x41 x42 x43) isAgg43 sizeOf43 rfl c44), ⟨x37, x38, x39, x40, x41, x42, x43, rfl, h⟩⟩

def F18 (p0 p1_0 p1_1 p1_2 p1_3 : Int) (p1_4 : ByteArray) (p1_5 : Bool) (p1_6 : ByteArray) (p1_7 : Int) (p1_8 : ByteArray) (p1_9 : Sl) (p2_0 p2_1 p2_2 p2_3 : Int) (p2_4 : ByteArray) (p2_5 : Bool) (p2_6 : ByteArray) (p2_7 : Int) (p2_8 : ByteArray) (p2_9 : Sl) (H : Hp) (Q : Int → Int → Int → Int → ByteArray → Bool → ByteArray → Int → ByteArray → Sl → Hp → Prop) : Prop :=
∀ H1, H1 = Array.push H (.cells (eR p1_0 p1_1 p1_2 p1_3 p1_4 p1_5 p1_6 p1_7 p1_8 p1_9).toArray 41) → (
 ∀ H3, H3 = Array.push H1 (.cells (eR p2_0 p2_1 p2_2 p2_3 p2_4 p2_5 p2_6 p2_7 p2_8 p2_9).toArray 41) → (
 ∀ H5, H5 = Array.push H3 (.cells zR.toArray 41) → (
 ∃ x8 x9 x10 x11 x12 x13 x14 x15 x16 x17, cells H5 (bk H) (eR x8 x9 x10 x11 x12 x13 x14 x15 x16 x17) 0 ∧ (
 ∃ x19 x20 x21 x22 x23 x24 x25 x26 x27 x28, cells H5 (bk H1) (eR x19 x20 x21 x22 x23 x24 x25 x26 x27 x28) 0 ∧ (
 ∀ H29, H29 = Array.push H5 (.cells #[(iv x8), (iv x9), (iv x10), (iv x11), (sv x12), (bv x13), (sv x14), (iv x15), (sv x16), (Sl.v x17), (iv x19), (iv x20), (iv x21), (iv x22), (sv x23), (bv x24), (sv x25), (iv x26), (sv x27), (Sl.v x28)] 41) → (
 mayw H29 (bk H3) 10 0 ∧ ∀ H31, H31 = sets H29 (bk H3) (eR 5 p0 0 0 bE false bE 0 bE (Sl.mk (some (bk H5)) 2 2)) 0 → (
 ∃ x34 x35 x36 x37 x38 x39 x40 x41 x42 x43, cells H31 (bk H3) (eR x34 x35 x36 x37 x38 x39 x40 x41 x42 x43) 0 ∧ (
 Q x34 x35 x36 x37 x38 x39 x40 x41 x42 x43 H31))))))))
theorem walk18 {w0 : World} {p0 p1_0 p1_1 p1_2 p1_3 : Int} {p1_4 : ByteArray} {p1_5 : Bool} {p1_6 : ByteArray} {p1_7 : Int} {p1_8 : ByteArray} {p1_9 : Sl} {p2_0 p2_1 p2_2 p2_3 : Int} {p2_4 : ByteArray} {p2_5 : Bool} {p2_6 : ByteArray} {p2_7 : Int} {p2_8 : ByteArray} {p2_9 : Sl} {H : Hp} {Q : Int → Int → Int → Int → ByteArray → Bool → ByteArray → Int → ByteArray → Sl → Hp → Prop} (h : F18 p0 p1_0 p1_1 p1_2 p1_3 p1_4 p1_5 p1_6 p1_7 p1_8 p1_9 p2_0 p2_1 p2_2 p2_3 p2_4 p2_5 p2_6 p2_7 p2_8 p2_9 H Q) :
  Good prog w0 18 #[(iv p0), (.agg (eR p1_0 p1_1 p1_2 p1_3 p1_4 p1_5 p1_6 p1_7 p1_8 p1_9).toArray), (.agg (eR p2_0 p2_1 p2_2 p2_3 p2_4 p2_5 p2_6 p2_7 p2_8 p2_9).toArray)] H (fun v H => ∃ r0 r1 r2 r3 r4 r5 r6 r7 r8 r9, v = (.agg (eR r0 r1 r2 r3 r4 r5 r6 r7 r8 r9).toArray) ∧ Q r0 r1 r2 r3 r4 r5 r6 r7 r8 r9 H) := by
 unfold F18 at h
 refine Good.enter' (fn := f18) func18 rfl rfl rfl (ws (wr_ (ho rfl (ob (v := .agg (eR p1_0 p1_1 p1_2 p1_3 p1_4 p1_5 p1_6 p1_7 p1_8 p1_9).toArray) rfl) ?_)))
 rintro _ H1 ⟨rfl, e2⟩
 replace h := h H1 e2
 refine ho rfl (ob (v := .agg (eR p2_0 p2_1 p2_2 p2_3 p2_4 p2_5 p2_6 p2_7 p2_8 p2_9).toArray) rfl) ?_
 rintro _ H3 ⟨rfl, e4⟩
 replace h := h H3 e4
 refine ho rfl (HOp.alloc zeroValue41) ?_
 rintro _ H5 ⟨rfl, e6⟩
 replace h := h H5 e6
 refine hn (nt (ws (wr_ (hv (v := iv p0) rfl (mv rfl) ?_))))
 obtain ⟨x8, x9, x10, x11, x12, x13, x14, x15, x16, x17, c7, h⟩ := h
 refine hv (v := .agg (eR x8 x9 x10 x11 x12 x13 x14 x15 x16 x17).toArray) rfl (ln (eR x8 x9 x10 x11 x12 x13 x14 x15 x16 x17) isAgg41 sizeOf41 rfl c7) ?_
 obtain ⟨x19, x20, x21, x22, x23, x24, x25, x26, x27, x28, c18, h⟩ := h
 refine hv (v := .agg (eR x19 x20 x21 x22 x23 x24 x25 x26 x27 x28).toArray) rfl (ln (eR x19 x20 x21 x22 x23 x24 x25 x26 x27 x28) isAgg41 sizeOf41 rfl c18) ?_
 refine ho rfl (HOp.buildSlice' (zs := [(iv 0), (iv 0), (iv 0), (iv 0), (sv bE), (bv false), (sv bE), (iv 0), (sv bE), sN, (iv 0), (iv 0), (iv 0), (iv 0), (sv bE), (bv false), (sv bE), (iv 0), (sv bE), sN]) (cs := [(iv x8), (iv x9), (iv x10), (iv x11), (sv x12), (bv x13), (sv x14), (iv x15), (sv x16), (Sl.v x17), (iv x19), (iv x20), (iv x21), (iv x22), (sv x23), (bv x24), (sv x25), (iv x26), (sv x27), (Sl.v x28)]) runUnderlying39 sizeOf41 zeroValue41 (by decide) (by kernel_rfl) (by kernel_rfl) (by decide)) ?_
 rintro _ H29 ⟨rfl, e30⟩
 replace h := h H29 e30
 refine hv (v := .agg (eR 5 p0 0 0 bE false bE 0 bE (Sl.mk (some (bk H5)) 2 2)).toArray) rfl (HVal.build' (cs := (eR 5 p0 0 0 bE false bE 0 bE (Sl.mk (some (bk H5)) 2 2))) runUnderlying41 zeroValue41 places41 (by kernel_rfl)) ?_
 obtain ⟨z33, h⟩ := h
 refine hq (HOp.storeN' (l := (eR 5 p0 0 0 bE false bE 0 bE (Sl.mk (some (bk H5)) 2 2))) sizeOf41 rfl rfl rfl z33) ?_
 rintro _ H31 e32
 replace h := h H31 e32
 refine hn (nt (HW.ret ?_))
 obtain ⟨x34, x35, x36, x37, x38, x39, x40, x41, x42, x43, c44, h⟩ := h
 exact ⟨_, resOf1 rfl (Res1.n (eR x34 x35 x36 x37 x38 x39 x40 x41 x42 x43) isAgg41 sizeOf41 rfl c44), ⟨x34, x35, x36, x37, x38, x39, x40, x41, x42, x43, rfl, h⟩⟩

def F19 (p0 : Int) (H : Hp) (Q : Int → Int → Int → Int → ByteArray → Bool → ByteArray → Int → ByteArray → Sl → Hp → Prop) : Prop :=
∀ H1, H1 = Array.push H (.cells zR.toArray 41) → (
 F23 p0 H1 (fun r5 r6 r7 r8 H3 =>
 mayw H3 (bk H) 10 0 ∧ ∀ H9, H9 = sets H3 (bk H) (eR 1 0 r5 r6 r7 r8 bE 0 bE Sl.nil) 0 → (
 ∃ x12 x13 x14 x15 x16 x17 x18 x19 x20 x21, cells H9 (bk H) (eR x12 x13 x14 x15 x16 x17 x18 x19 x20 x21) 0 ∧ (
 Q x12 x13 x14 x15 x16 x17 x18 x19 x20 x21 H9))))
theorem walk19 {w0 : World} {p0 : Int} {H : Hp} {Q : Int → Int → Int → Int → ByteArray → Bool → ByteArray → Int → ByteArray → Sl → Hp → Prop} (h : F19 p0 H Q) :
  Good prog w0 19 #[(iv p0)] H (fun v H => ∃ r0 r1 r2 r3 r4 r5 r6 r7 r8 r9, v = (.agg (eR r0 r1 r2 r3 r4 r5 r6 r7 r8 r9).toArray) ∧ Q r0 r1 r2 r3 r4 r5 r6 r7 r8 r9 H) := by
 unfold F19 at h
 refine Good.enter' (fn := f19) func19 rfl rfl rfl (ws (wr_ (ho rfl (HOp.alloc zeroValue41) ?_)))
 rintro _ H1 ⟨rfl, e2⟩
 replace h := h H1 e2
 refine hn (nt (ws (wr_ (hv (v := iv p0) rfl (mv rfl) (ho rfl (HOp.call' 23 [(iv p0)] (cap := []) rfl rfl call23 (walk23 h)) ?_)))))
 rintro _ H3 ⟨r5, r6, r7, r8, rfl, h⟩
 refine hv (v := .agg (eR 1 0 r5 r6 r7 r8 bE 0 bE Sl.nil).toArray) rfl (HVal.build' (cs := (eR 1 0 r5 r6 r7 r8 bE 0 bE Sl.nil)) runUnderlying41 zeroValue41 places41 (by kernel_rfl)) ?_
 obtain ⟨z11, h⟩ := h
 refine hq (HOp.storeN' (l := (eR 1 0 r5 r6 r7 r8 bE 0 bE Sl.nil)) sizeOf41 rfl rfl rfl z11) ?_
 rintro _ H9 e10
 replace h := h H9 e10
 refine hn (nt (HW.ret ?_))
 obtain ⟨x12, x13, x14, x15, x16, x17, x18, x19, x20, x21, c22, h⟩ := h
 exact ⟨_, resOf1 rfl (Res1.n (eR x12 x13 x14 x15 x16 x17 x18 x19 x20 x21) isAgg41 sizeOf41 rfl c22), ⟨x12, x13, x14, x15, x16, x17, x18, x19, x20, x21, rfl, h⟩⟩

def F60 (p0 : Int) (H : Hp) (Q : Int → Int → ByteArray → ZQB) : Prop :=
∀ H1, H1 = Array.push H (.cells (vR 0 0 bE false).toArray 38) → (
 mayw H1 (bk H) 4 0 ∧ ∀ H3, H3 = sets H1 (bk H) (vR 1 p0 bE false) 0 → (
 ∃ x6 x7 x8 x9, cells H3 (bk H) (vR x6 x7 x8 x9) 0 ∧ (
 Q x6 x7 x8 x9 H3)))
theorem walk60 {w0 : World} {p0 : Int} {H : Hp} {Q : Int → Int → ByteArray → ZQB} (h : F60 p0 H Q) :
  Good prog w0 60 #[(iv p0)] H (fun v H => ∃ r0 r1 r2 r3, v = (.agg (vR r0 r1 r2 r3).toArray) ∧ Q r0 r1 r2 r3 H) := by
 unfold F60 at h
 refine Good.enter' (fn := f60) func60 rfl rfl rfl (ws (wr_ (ho rfl (HOp.alloc zeroValue38) ?_)))
 rintro _ H1 ⟨rfl, e2⟩
 replace h := h H1 e2
 refine hn (nt (ws (wr_ (hv (v := iv p0) rfl (mv rfl) (hv (v := .agg (vR 1 p0 bE false).toArray) rfl (HVal.build' (cs := (vR 1 p0 bE false)) runUnderlying38 zeroValue38 places38 rfl) ?_)))))
 obtain ⟨z5, h⟩ := h
 refine hq (HOp.storeN' (l := (vR 1 p0 bE false)) sizeOf38 rfl rfl rfl z5) ?_
 rintro _ H3 e4
 replace h := h H3 e4
 refine hn (nt (HW.ret ?_))
 obtain ⟨x6, x7, x8, x9, c10, h⟩ := h
 exact ⟨_, resOf1 rfl (Res1.n (vR x6 x7 x8 x9) isAgg38 sizeOf38 rfl c10), ⟨x6, x7, x8, x9, rfl, h⟩⟩

def F61 (p0 : ByteArray) (H : Hp) (Q : Int → Int → ByteArray → ZQB) : Prop :=
∀ H1, H1 = Array.push H (.cells (vR 0 0 bE false).toArray 38) → (
 mayw H1 (bk H) 4 0 ∧ ∀ H3, H3 = sets H1 (bk H) (vR 2 0 p0 false) 0 → (
 ∃ x6 x7 x8 x9, cells H3 (bk H) (vR x6 x7 x8 x9) 0 ∧ (
 Q x6 x7 x8 x9 H3)))
theorem walk61 {w0 : World} {p0 : ByteArray} {H : Hp} {Q : Int → Int → ByteArray → ZQB} (h : F61 p0 H Q) :
  Good prog w0 61 #[(sv p0)] H (fun v H => ∃ r0 r1 r2 r3, v = (.agg (vR r0 r1 r2 r3).toArray) ∧ Q r0 r1 r2 r3 H) := by
 unfold F61 at h
 refine Good.enter' (fn := f61) func61 rfl rfl rfl (ws (wr_ (ho rfl (HOp.alloc zeroValue38) ?_)))
 rintro _ H1 ⟨rfl, e2⟩
 replace h := h H1 e2
 refine hn (nt (ws (wr_ (hv (v := sv p0) rfl (mv rfl) (hv (v := .agg (vR 2 0 p0 false).toArray) rfl (HVal.build' (cs := (vR 2 0 p0 false)) runUnderlying38 zeroValue38 places38 rfl) ?_)))))
 obtain ⟨z5, h⟩ := h
 refine hq (HOp.storeN' (l := (vR 2 0 p0 false)) sizeOf38 rfl rfl rfl z5) ?_
 rintro _ H3 e4
 replace h := h H3 e4
 refine hn (nt (HW.ret ?_))
 obtain ⟨x6, x7, x8, x9, c10, h⟩ := h
 exact ⟨_, resOf1 rfl (Res1.n (vR x6 x7 x8 x9) isAgg38 sizeOf38 rfl c10), ⟨x6, x7, x8, x9, rfl, h⟩⟩

def F62 (p0 : Bool) (H : Hp) (Q : Int → Int → ByteArray → ZQB) : Prop :=
∀ H1, H1 = Array.push H (.cells (vR 0 0 bE false).toArray 38) → (
 mayw H1 (bk H) 4 0 ∧ ∀ H3, H3 = sets H1 (bk H) (vR 3 0 bE p0) 0 → (
 ∃ x6 x7 x8 x9, cells H3 (bk H) (vR x6 x7 x8 x9) 0 ∧ (
 Q x6 x7 x8 x9 H3)))
theorem walk62 {w0 : World} {p0 : Bool} {H : Hp} {Q : Int → Int → ByteArray → ZQB} (h : F62 p0 H Q) :
  Good prog w0 62 #[(bv p0)] H (fun v H => ∃ r0 r1 r2 r3, v = (.agg (vR r0 r1 r2 r3).toArray) ∧ Q r0 r1 r2 r3 H) := by
 unfold F62 at h
 refine Good.enter' (fn := f62) func62 rfl rfl rfl (ws (wr_ (ho rfl (HOp.alloc zeroValue38) ?_)))
 rintro _ H1 ⟨rfl, e2⟩
 replace h := h H1 e2
 refine hn (nt (ws (wr_ (hv (v := bv p0) rfl (mv rfl) (hv (v := .agg (vR 3 0 bE p0).toArray) rfl (HVal.build' (cs := (vR 3 0 bE p0)) runUnderlying38 zeroValue38 places38 rfl) ?_)))))
 obtain ⟨z5, h⟩ := h
 refine hq (HOp.storeN' (l := (vR 3 0 bE p0)) sizeOf38 rfl rfl rfl z5) ?_
 rintro _ H3 e4
 replace h := h H3 e4
 refine hn (nt (HW.ret ?_))
 obtain ⟨x6, x7, x8, x9, c10, h⟩ := h
 exact ⟨_, resOf1 rfl (Res1.n (vR x6 x7 x8 x9) isAgg38 sizeOf38 rfl c10), ⟨x6, x7, x8, x9, rfl, h⟩⟩

def F46 (p0_0 p0_1 : Int) (p0_2 : ByteArray) (p0_3 : Bool) (H : Hp) (Q : ZQB) : Prop :=
∀ H1, H1 = Array.push H (.cells (vR p0_0 p0_1 p0_2 p0_3).toArray 38) → (
 ∃ x4, cell H1 (bk H) = some (iv x4) ∧ (
 (decide (x4 = 1) = true → (∃ x7 x8 x9 x10, cells H1 (bk H) (vR x7 x8 x9 x10) 0 ∧ (
 ∃ x12, cell H1 (Addr.add (bk H) 1) = some (iv x12) ∧ (
 F60 x12 H1 (fun r15 r16 r17 r18 H13 =>
 cells H13 (bk H) (vR x7 x8 x9 x10) 0 ∧ (
 Q (decide (x7 = r15) && (decide (x8 = r16) && (seq x9 r17 && (x10 == r18)))) H13)))))) ∧
 (decide (x4 = 1) = false → ((decide (x4 = 2) = true → (∃ x22 x23 x24 x25, cells H1 (bk H) (vR x22 x23 x24 x25) 0 ∧ (
 ∃ x27, cell H1 (Addr.add (bk H) 2) = some (sv x27) ∧ (
 F61 x27 H1 (fun r30 r31 r32 r33 H28 =>
 cells H28 (bk H) (vR x22 x23 x24 x25) 0 ∧ (
 ((decide (x22 = r30) && (decide (x23 = r31) && (seq x24 r32 && (x25 == r33)))) = true → (∃ x38, cell H28 (Addr.add (bk H) 2) = some (sv x38) ∧ (
 Q (decide (((x38).size : Int) ≤ 256)) H28))) ∧
 ((decide (x22 = r30) && (decide (x23 = r31) && (seq x24 r32 && (x25 == r33)))) = false → (Q false H28)))))))) ∧
 (decide (x4 = 2) = false → ((decide (x4 = 3) = true → (∃ x41 x42 x43 x44, cells H1 (bk H) (vR x41 x42 x43 x44) 0 ∧ (
 ∃ x46, cell H1 (Addr.add (bk H) 3) = some (bv x46) ∧ (
 F62 x46 H1 (fun r49 r50 r51 r52 H47 =>
 cells H47 (bk H) (vR x41 x42 x43 x44) 0 ∧ (
 Q (decide (x41 = r49) && (decide (x42 = r50) && (seq x43 r51 && (x44 == r52)))) H47)))))) ∧
 (decide (x4 = 3) = false → (Q false H1))))))))
theorem walk46 {w0 : World} {p0_0 p0_1 : Int} {p0_2 : ByteArray} {p0_3 : Bool} {H : Hp} {Q : ZQB} (h : F46 p0_0 p0_1 p0_2 p0_3 H Q) :
  Good prog w0 46 #[(.agg (vR p0_0 p0_1 p0_2 p0_3).toArray)] H (fun v H => ∃ r0, v = (bv r0) ∧ Q r0 H) := by
 unfold F46 at h
 refine Good.enter' (fn := f46) func46 rfl rfl rfl (ws (wr_ (ho rfl (ob (v := .agg (vR p0_0 p0_1 p0_2 p0_3).toArray) rfl) ?_)))
 rintro _ H1 ⟨rfl, e2⟩
 replace h := h H1 e2
 refine hv (v := bv false) rfl (av rfl) (hn (nt (ws (ws (wr_ (hv (v := pp (bk H)) rfl (HVal.fieldAddr0 runUnderlying38 rfl rfl sizeOf3 rfl) ?_))))))
 obtain ⟨x4, c3, h⟩ := h
 refine hv (v := iv x4) rfl (l1 isAgg3 rfl c3) (hn (nt (wb (ws (wr_ (hv (v := bv (decide (x4 = 1))) rfl (HVal.eqlI rfl rfl) ?_))))))
 refine hv (v := bv (decide (x4 = 1))) rfl (av rfl) (hn (nt ?_))
 obtain ⟨hT, hF⟩ := h
 refine wk (decide (x4 = 1)) rfl (fun hb5 => ?_) (fun hb5 => ?_)
 ·have h := hT hb5
  refine ws (HW.draw mixed [(0, some []), (1, some []), (2, some [3]), (3, none), (4, some []), (5, some [])] rfl (by kernel_rfl) (by kernel_rfl) ?_)
  obtain ⟨x7, x8, x9, x10, c6, h⟩ := h
  refine pl (v := .agg (vR x7 x8 x9 x10).toArray) (fun X => cells X (bk H) (vR x7 x8 x9 x10) 0) rfl rfl (fun _ hX => ln (vR x7 x8 x9 x10) isAgg38 sizeOf38 rfl hX) c6 ?_
  refine pv (v := pp (Addr.add (bk H) 1)) rfl rfl (fun _ => fa runUnderlying38 rfl rfl sizeOf2 rfl) ?_
  obtain ⟨x12, c11, h⟩ := h
  refine pl (v := iv x12) (fun X => cell X (Addr.add (bk H) 1) = some (iv x12)) rfl rfl (fun _ hX => l1 isAgg2 rfl hX) c11 (po rfl rfl (HOp.call' 60 [(iv x12)] (cap := []) rfl rfl call60 (walk60 h)) ?_)
  rintro _ H13 ⟨r15, r16, r17, r18, rfl, h⟩
  obtain ⟨s19, h⟩ := h
  refine ⟨SC_of ⟨nofun, fun _ => s19, trivial⟩, ?_⟩
  refine pv (v := bv (decide (x7 = r15) && (decide (x8 = r16) && (seq x9 r17 && (x10 == r18))))) rfl rfl (fun _ => eqs38_eql rfl rfl) (pv (v := bv (decide (x7 = r15) && (decide (x8 = r16) && (seq x9 r17 && (x10 == r18))))) rfl rfl (fun _ => av rfl) ?_)
  refine HPlan.done (nt (HW.ret (br (tr ?_))))
  exact ⟨_, resOf1 rfl Res1.t, ⟨(decide (x7 = r15) && (decide (x8 = r16) && (seq x9 r17 && (x10 == r18)))), rfl, h⟩⟩
 have h := hF hb5
 refine ws (wr_ (hv (v := bv (decide (x4 = 2))) rfl (HVal.eqlI rfl rfl) (hv (v := bv (decide (x4 = 2))) rfl (av rfl) ?_)))
 refine hn (nt ?_)
 obtain ⟨hT, hF⟩ := h
 refine wk (decide (x4 = 2)) rfl (fun hb20 => ?_) (fun hb20 => ?_)
 ·have h := hT hb20
  refine ws (HW.draw mixed [(0, some []), (1, some []), (2, some [3]), (3, none), (4, some []), (5, some []), (6, some []), (7, some []), (8, some []), (9, some []), (10, some []), (11, some [])] rfl (by kernel_rfl) (by kernel_rfl) ?_)
  obtain ⟨x22, x23, x24, x25, c21, h⟩ := h
  refine pl (v := .agg (vR x22 x23 x24 x25).toArray) (fun X => cells X (bk H) (vR x22 x23 x24 x25) 0) rfl rfl (fun _ hX => ln (vR x22 x23 x24 x25) isAgg38 sizeOf38 rfl hX) c21 ?_
  refine pv (v := pp (Addr.add (bk H) 2)) rfl rfl (fun _ => fa runUnderlying38 rfl rfl sizeOf9 rfl) ?_
  obtain ⟨x27, c26, h⟩ := h
  refine pl (v := sv x27) (fun X => cell X (Addr.add (bk H) 2) = some (sv x27)) rfl rfl (fun _ hX => l1 isAgg9 rfl hX) c26 (po rfl rfl (HOp.call' 61 [(sv x27)] (cap := []) rfl rfl call61 (walk61 h)) ?_)
  rintro _ H28 ⟨r30, r31, r32, r33, rfl, h⟩
  obtain ⟨s34, h⟩ := h
  refine ⟨SC_of ⟨nofun, fun _ => s34, trivial⟩, ?_⟩
  refine pv (v := bv (decide (x22 = r30) && (decide (x23 = r31) && (seq x24 r32 && (x25 == r33))))) rfl rfl (fun _ => eqs38_eql rfl rfl) (pv (v := bv (decide (x22 = r30) && (decide (x23 = r31) && (seq x24 r32 && (x25 == r33))))) rfl rfl (fun _ => mv rfl) ?_)
  obtain ⟨hT, hF⟩ := h
  rcases Bool.eq_false_or_eq_true (decide (x22 = r30) && (decide (x23 = r31) && (seq x24 r32 && (x25 == r33)))) with hb35 | hb36
  ·have h := hT hb35
   refine HPlan.gtakev (v := pp (Addr.add (bk H) 2)) rfl rfl rfl rfl rfl (cB hb35) (fun _ => fa runUnderlying38 rfl rfl sizeOf9 rfl) ?_
   obtain ⟨x38, c37, h⟩ := h
   refine HPlan.gtakel (v := sv x38) (fun X => cell X (Addr.add (bk H) 2) = some (sv x38)) rfl rfl rfl rfl rfl (cB hb35) (fun _ hX => l1 isAgg9 rfl hX) c37 ?_
   refine HPlan.gtakev (v := iv ((x38).size : Int)) rfl rfl rfl rfl rfl (cB hb35) (fun _ => HVal.lenS runUnderlying9 rfl) (HPlan.gtakev (v := bv (decide (((x38).size : Int) ≤ 256))) rfl rfl rfl rfl rfl (cB hb35) (fun _ => HVal.leq rfl rfl) ?_)
   refine pv (v := bv (decide (((x38).size : Int) ≤ 256))) rfl rfl (fun _ => pt_ rfl hb35 rfl) (pv (v := bv (decide (((x38).size : Int) ≤ 256))) rfl rfl (fun _ => av rfl) ?_)
   refine HPlan.done (nt (HW.ret (br (tr ?_))))
   exact ⟨_, resOf1 rfl Res1.t, ⟨(decide (((x38).size : Int) ≤ 256)), rfl, h⟩⟩
  have h := hF hb36
  refine pg rfl rfl rfl rfl (cB hb36) (pg rfl rfl rfl rfl (cB hb36) (pg rfl rfl rfl rfl (cB hb36) (pg rfl rfl rfl rfl (cB hb36) ?_)))
  refine pv (v := bv false) rfl rfl (fun _ => pf_ rfl hb36 rfl) (pv (v := bv false) rfl rfl (fun _ => av rfl) (HPlan.done ?_))
  refine nt (HW.ret (br (tr ?_)))
  exact ⟨_, resOf1 rfl Res1.t, ⟨false, rfl, h⟩⟩
 have h := hF hb20
 refine ws (wr_ (hv (v := bv (decide (x4 = 3))) rfl (HVal.eqlI rfl rfl) (hv (v := bv (decide (x4 = 3))) rfl (av rfl) ?_)))
 refine hn (nt ?_)
 obtain ⟨hT, hF⟩ := h
 refine wk (decide (x4 = 3)) rfl (fun hb39 => ?_) (fun hb39 => ?_)
 ·have h := hT hb39
  refine ws (HW.draw mixed [(0, some []), (1, some []), (2, some [3]), (3, none), (4, some []), (5, some [])] rfl (by kernel_rfl) (by kernel_rfl) ?_)
  obtain ⟨x41, x42, x43, x44, c40, h⟩ := h
  refine pl (v := .agg (vR x41 x42 x43 x44).toArray) (fun X => cells X (bk H) (vR x41 x42 x43 x44) 0) rfl rfl (fun _ hX => ln (vR x41 x42 x43 x44) isAgg38 sizeOf38 rfl hX) c40 ?_
  refine pv (v := pp (Addr.add (bk H) 3)) rfl rfl (fun _ => fa runUnderlying38 rfl rfl sizeOf4 rfl) ?_
  obtain ⟨x46, c45, h⟩ := h
  refine pl (v := bv x46) (fun X => cell X (Addr.add (bk H) 3) = some (bv x46)) rfl rfl (fun _ hX => l1 isAgg4 rfl hX) c45 (po rfl rfl (HOp.call' 62 [(bv x46)] (cap := []) rfl rfl call62 (walk62 h)) ?_)
  rintro _ H47 ⟨r49, r50, r51, r52, rfl, h⟩
  obtain ⟨s53, h⟩ := h
  refine ⟨SC_of ⟨nofun, fun _ => s53, trivial⟩, ?_⟩
  refine pv (v := bv (decide (x41 = r49) && (decide (x42 = r50) && (seq x43 r51 && (x44 == r52))))) rfl rfl (fun _ => eqs38_eql rfl rfl) (pv (v := bv (decide (x41 = r49) && (decide (x42 = r50) && (seq x43 r51 && (x44 == r52))))) rfl rfl (fun _ => av rfl) ?_)
  refine HPlan.done (nt (HW.ret (br (tr ?_))))
  exact ⟨_, resOf1 rfl Res1.t, ⟨(decide (x41 = r49) && (decide (x42 = r50) && (seq x43 r51 && (x44 == r52)))), rfl, h⟩⟩
 have h := hF hb39
 refine wp_ (nb (nt (ws (wr_ (hv (v := bv false) rfl (av rfl) (hn (nt (HW.ret ?_))))))))
 exact ⟨_, resOf1 rfl Res1.t, ⟨false, rfl, h⟩⟩

def F77_L1b (Q X1 : ZQI) (y2 : Sl) (y3 : ByteArray) (y4 y1 : Int) (H_1 : Hp) : Prop :=
(decide (y1 < y4) = true → (∃ a6, (y2).b = some a6 ∧ (0 : Int) ≤ y1 ∧ y1 < ((y2).n : Int) ∧ (
 ∃ x11, cell H_1 (Addr.add a6 (y1.toNat * 1)) = some (sv x11) ∧ (
 ((seq y3 x11) = true → (Q y1 H_1)) ∧
 ((seq y3 x11) = false → (X1 (IntKind.i64.wrap (y1 + 1)) H_1)))))) ∧
 (decide (y1 < y4) = false → (Q (-1) H_1))
def F77_L1 (Q : ZQI) (y2 : Sl) (y3 : ByteArray) (y4 y1 : Int) (H_1 : Hp) : Prop :=
 ∀ X1 : ZQI, (∀ (y1 : Int) (H_1 : Hp), F77_L1b Q X1 y2 y3 y4 y1 H_1 → X1 y1 H_1) → X1 y1 H_1
def F77 (p0 : Sl) (p1 : ByteArray) (H : Hp) (Q : ZQI) : Prop :=
F77_L1 Q p0 p1 ((p0).n : Int) 0 H
theorem walk77 {w0 : World} {p0 : Sl} {p1 : ByteArray} {H : Hp} {Q : ZQI} (h : F77 p0 p1 H Q) :
  Good prog w0 77 #[(Sl.v p0), (sv p1)] H (fun v H => ∃ r0, v = (iv r0) ∧ Q r0 H) := by
 unfold F77 at h
 refine Good.enter' (fn := f77) func77 rfl rfl rfl (ws (wr_ (hv (v := iv 0) rfl (av rfl) (hn (nt (ws ?_))))))
 refine ws (wr_ (hv (v := Sl.v p0) rfl (mv rfl) (hv (v := iv ((p0).n : Int)) rfl (HVal.len runUnderlying29 rfl) ?_)))
 refine hv (v := iv 0) rfl (mv rfl) (hn (nt (wb (HW.loop' (fun L1 hL1 => ?_)))))
 obtain ⟨X1, hX1⟩ : ∃ X1 : ZQI, ∀ (y1 : Int) (H_1 : Hp), X1 y1 H_1 ↔ ∀ ρ, Env.Is ρ [(0, (Sl.v p0)), (1, (sv p1)), (7, (iv ((p0).n : Int))), (8, (iv y1))] → L1 ρ H_1 := ⟨_, fun _ _ => Iff.rfl⟩
 refine (hX1 _ _).1 (h X1 ?_) _ ?_
 rotate_left
 ·exact (isp rfl)
 clear h
 intro y1 H_1 h
 refine (hX1 _ _).2 fun ρ hI => ?_
 obtain ⟨ρ0, rfl⟩ := hI.ex
 clear hI; unfold F77_L1b at h; refine hL1 _ _ ?_
 refine ws (wr_ (hv (v := bv (decide (y1 < ((p0).n : Int)))) rfl (HVal.lss rfl rfl) (hn (nt (ws ?_)))))
 obtain ⟨hT, hF⟩ := h
 refine wk (decide (y1 < ((p0).n : Int))) rfl (fun hb5 => ?_) (fun hb5 => ?_)
 ·have h := hT hb5
  refine wp_ (nt (ws (wb (ws (wr_ (hv (v := iv y1) rfl (mv rfl) (hv (v := iv y1) rfl (av rfl) ?_)))))))
  refine hn (nt (ws (wr_ (hv (v := sv p1) rfl (mv rfl) (hv (v := Sl.v p0) rfl (mv rfl) (hv (v := iv y1) rfl (mv rfl) ?_))))))
  obtain ⟨a6, e7, b8, b9, h⟩ := h
  refine hv (v := pp (Addr.add a6 (y1.toNat * 1))) rfl (ia runUnderlying29 sizeOf9 (Sl.v_some rfl e7) rfl b8 b9) ?_
  obtain ⟨x11, c10, h⟩ := h
  refine hv (v := sv x11) rfl (l1 isAgg9 rfl c10) (hv (v := bv (seq p1 x11)) rfl (HVal.eqlS rfl rfl) (hn (nt ?_)))
  obtain ⟨hT, hF⟩ := h
  refine wk (seq p1 x11) rfl (fun hb12 => ?_) (fun hb12 => ?_)
  ·have h := hT hb12
   refine ws (wr_ (hv (v := iv y1) rfl (mv rfl) (hv (v := iv y1) rfl (av rfl) (hn (nt (HW.ret (br ?_)))))))
   refine tr (tr (br (tr ?_)))
   exact ⟨_, resOf1 rfl Res1.t, ⟨y1, rfl, h⟩⟩
  have h := hF hb12
  refine wp_ (nb (nt (wr_ (hv (v := iv (IntKind.i64.wrap (y1 + 1))) rfl (HVal.add rfl rfl) (hv (v := iv (IntKind.i64.wrap (y1 + 1))) rfl (mv rfl) ?_)))))
  refine hn (nt ?_)
  exact (hX1 _ _).1 h _ (isp rfl)
 have h := hF hb5
 refine we (te (te (be (nt (ws (wr_ (hv (v := iv (-1)) rfl (av rfl) (hn (nt (HW.ret ?_))))))))))
 exact ⟨_, resOf1 rfl Res1.t, ⟨(-1), rfl, h⟩⟩

def F69_1 (Q : Sl → ZQB) (y8 : Addr) (y9 : Int) (y12 : Bool) (H_1 : Hp) : Prop :=
(y12 = true → (Q Sl.nil false H_1)) ∧
 (y12 = false → (∃ x17, cell H_1 (Addr.add y8 1) = some (Sl.v x17) ∧ (
 ∃ a18, (x17).b = some a18 ∧ (0 : Int) ≤ y9 ∧ y9 < ((x17).n : Int) ∧ (
 ∃ x23, cell H_1 (Addr.add a18 (y9.toNat * 1)) = some (Sl.v x23) ∧ (
 Q x23 true H_1)))))
def F69 (p0_0 p0_1 : Sl) (p0_2 p0_3 : ByteArray) (p0_4 : Int) (p0_5 p0_6 : Sl) (p1 : ByteArray) (H : Hp) (Q : Sl → ZQB) : Prop :=
∀ H1, H1 = Array.push H (.cells (xR p0_0 p0_1 p0_2 p0_3 p0_4 p0_5 p0_6).toArray 90) → (
 ∃ x4, cell H1 (bk H) = some (Sl.v x4) ∧ (
 F77 x4 p1 H1 (fun r7 H5 =>
 (decide (r7 < 0) = true → (F69_1 Q (bk H) r7 true H5)) ∧
 (decide (r7 < 0) = false → (∃ x14, cell H5 (Addr.add (bk H) 1) = some (Sl.v x14) ∧ (
 F69_1 Q (bk H) r7 (decide (((x14).n : Int) ≤ r7)) H5))))))
theorem walk69 {w0 : World} {p0_0 p0_1 : Sl} {p0_2 p0_3 : ByteArray} {p0_4 : Int} {p0_5 p0_6 : Sl} {p1 : ByteArray} {H : Hp} {Q : Sl → ZQB} (h : F69 p0_0 p0_1 p0_2 p0_3 p0_4 p0_5 p0_6 p1 H Q) :
  Good prog w0 69 #[(.agg (xR p0_0 p0_1 p0_2 p0_3 p0_4 p0_5 p0_6).toArray), (sv p1)] H (fun v H => ∃ r0 r1, v = (.tuple #[(Sl.v r0), (bv r1)]) ∧ Q r0 r1 H) := by
 unfold F69 at h
 refine Good.enter' (fn := f69) func69 rfl rfl rfl (ws (wr_ (ho rfl (ob (v := .agg (xR p0_0 p0_1 p0_2 p0_3 p0_4 p0_5 p0_6).toArray) rfl) ?_)))
 rintro _ H1 ⟨rfl, e2⟩
 replace h := h H1 e2
 refine hv (v := sN) rfl (av rfl) (hv (v := bv false) rfl (av rfl) (hn (nt (ws (wr_ (hv (v := pp (bk H)) rfl (HVal.fieldAddr0 runUnderlying90 rfl rfl sizeOf43 rfl) ?_))))))
 refine hv (v := pp (bk H)) rfl (HVal.fieldAddr0 runUnderlying43 rfl rfl sizeOf29 rfl) ?_
 obtain ⟨x4, c3, h⟩ := h
 refine hv (v := Sl.v x4) rfl (l1 isAgg29 rfl c3) (hv (v := sv p1) rfl (mv rfl) (ho rfl (HOp.call' 77 [(Sl.v x4), (sv p1)] (cap := []) rfl rfl call77 (walk77 h)) ?_))
 rintro _ H5 ⟨r7, rfl, h⟩
 refine hv (v := iv r7) rfl (av rfl) (hn (nt (ws (wc (fun ρ H_1 => ∃ y12, Env.Is ρ [(2, (pp (bk H))), (6, (iv r7)), (21, (bv y12))] ∧ F69_1 Q (bk H) r7 y12 H_1) ?_ ?_))))
 ·refine wr_ (hv (v := iv r7) rfl (mv rfl) (hv (v := bv (decide (r7 < 0))) rfl (HVal.lss rfl rfl) (hv (v := bv (decide (r7 < 0))) rfl (mv rfl) ?_)))
  obtain ⟨hT, hF⟩ := h
  rcases Bool.eq_false_or_eq_true (decide (r7 < 0)) with hb10 | hb11
  ·have h := hT hb10
   refine hs_ rfl rfl rfl rfl (cB hb10) (hs_ rfl rfl rfl rfl (cB hb10) (hs_ rfl rfl rfl rfl (cB hb10) (hs_ rfl rfl rfl rfl (cB hb10) ?_)))
   refine hs_ rfl rfl rfl rfl (cB hb10) (hs_ rfl rfl rfl rfl (cB hb10) (hv (v := bv true) rfl (pt_ rfl hb10 rfl) (hn (nt ?_))))
   exact ⟨true, (isp rfl), h⟩
  have h := hF hb11
  refine hg (v := iv r7) rfl rfl rfl rfl (cB hb11) (mv rfl) (hg (v := pp (bk H)) rfl rfl rfl rfl (cB hb11) (HVal.fieldAddr0 runUnderlying90 rfl rfl sizeOf43 rfl) ?_)
  refine hg (v := pp (Addr.add (bk H) 1)) rfl rfl rfl rfl (cB hb11) (fa runUnderlying43 rfl rfl sizeOf27 rfl) ?_
  obtain ⟨x14, c13, h⟩ := h
  refine hg (v := Sl.v x14) rfl rfl rfl rfl (cB hb11) (l1 isAgg27 rfl c13) (hg (v := iv ((x14).n : Int)) rfl rfl rfl rfl (cB hb11) (HVal.len runUnderlying27 rfl) ?_)
  refine hg (v := bv (decide (((x14).n : Int) ≤ r7))) rfl rfl rfl rfl (cB hb11) (HVal.geq rfl rfl) (hv (v := bv (decide (((x14).n : Int) ≤ r7))) rfl (pf_ rfl hb11 rfl) ?_)
  refine hn (nt ?_)
  exact ⟨(decide (((x14).n : Int) ≤ r7)), (isp rfl), h⟩
 rintro ρ H_1 ⟨y12, hI, h⟩
 obtain ⟨ρ0, rfl⟩ := hI.ex
 clear hI; unfold F69_1 at h
 obtain ⟨hT, hF⟩ := h
 refine wk y12 rfl (fun hb15 => ?_) (fun hb15 => ?_)
 ·have h := hT hb15
  refine ws (wr_ (hv (v := sN) rfl (av rfl) (hv (v := bv false) rfl (av rfl) (hn (nt (HW.ret (tr ?_)))))))
  exact ⟨_, resOf2 rfl Res1.t Res1.t, ⟨Sl.nil, false, rfl, h⟩⟩
 have h := hF hb15
 refine wp_ (nt (ws (wr_ (hv (v := pp (bk H)) rfl (HVal.fieldAddr0 runUnderlying90 rfl rfl sizeOf43 rfl) (hv (v := pp (Addr.add (bk H) 1)) rfl (fa runUnderlying43 rfl rfl sizeOf27 rfl) ?_)))))
 obtain ⟨x17, c16, h⟩ := h
 refine hv (v := Sl.v x17) rfl (l1 isAgg27 rfl c16) (hv (v := iv r7) rfl (mv rfl) ?_)
 obtain ⟨a18, e19, b20, b21, h⟩ := h
 refine hv (v := pp (Addr.add a18 (r7.toNat * 1))) rfl (ia runUnderlying27 sizeOf49 (Sl.v_some rfl e19) rfl b20 b21) ?_
 obtain ⟨x23, c22, h⟩ := h
 refine hv (v := Sl.v x23) rfl (l1 isAgg49 rfl c22) (hv (v := Sl.v x23) rfl (av rfl) (hv (v := bv true) rfl (av rfl) ?_))
 refine hn (nt (HW.ret ?_))
 exact ⟨_, resOf2 rfl Res1.t Res1.t, ⟨x23, true, rfl, h⟩⟩

def F70 (p0_0 p0_1 : Sl) (p0_2 p0_3 : ByteArray) (p0_4 : Int) (p0_5 p0_6 : Sl) (p1 : ByteArray) (H : Hp) (Q : ZQB) : Prop :=
∀ H1, H1 = Array.push H (.cells (xR p0_0 p0_1 p0_2 p0_3 p0_4 p0_5 p0_6).toArray 90) → (
 ((!(seq p1 bE)) = true → (∃ x6, cell H1 (Addr.add (bk H) 2) = some (sv x6) ∧ (
 Q (seq p1 x6) H1))) ∧
 ((!(seq p1 bE)) = false → (Q false H1)))
theorem walk70 {w0 : World} {p0_0 p0_1 : Sl} {p0_2 p0_3 : ByteArray} {p0_4 : Int} {p0_5 p0_6 : Sl} {p1 : ByteArray} {H : Hp} {Q : ZQB} (h : F70 p0_0 p0_1 p0_2 p0_3 p0_4 p0_5 p0_6 p1 H Q) :
  Good prog w0 70 #[(.agg (xR p0_0 p0_1 p0_2 p0_3 p0_4 p0_5 p0_6).toArray), (sv p1)] H (fun v H => ∃ r0, v = (bv r0) ∧ Q r0 H) := by
 unfold F70 at h
 refine Good.enter' (fn := f70) func70 rfl rfl rfl (ws (wr_ (ho rfl (ob (v := .agg (xR p0_0 p0_1 p0_2 p0_3 p0_4 p0_5 p0_6).toArray) rfl) ?_)))
 rintro _ H1 ⟨rfl, e2⟩
 replace h := h H1 e2
 refine hv (v := bv false) rfl (av rfl) (hn (nt (ws (wr_ (hv (v := sv p1) rfl (mv rfl) (hv (v := bv (!(seq p1 bE))) rfl (HVal.neqS rfl rfl) ?_))))))
 refine hv (v := bv (!(seq p1 bE))) rfl (mv rfl) ?_
 obtain ⟨hT, hF⟩ := h
 rcases Bool.eq_false_or_eq_true (!(seq p1 bE)) with hb3 | hb4
 ·have h := hT hb3
  refine hg (v := sv p1) rfl rfl rfl rfl (cB hb3) (mv rfl) (hg (v := pp (bk H)) rfl rfl rfl rfl (cB hb3) (HVal.fieldAddr0 runUnderlying90 rfl rfl sizeOf43 rfl) ?_)
  refine hg (v := pp (Addr.add (bk H) 2)) rfl rfl rfl rfl (cB hb3) (fa runUnderlying43 rfl rfl sizeOf9 rfl) ?_
  obtain ⟨x6, c5, h⟩ := h
  refine hg (v := sv x6) rfl rfl rfl rfl (cB hb3) (l1 isAgg9 rfl c5) (hg (v := bv (seq p1 x6)) rfl rfl rfl rfl (cB hb3) (HVal.eqlS rfl rfl) ?_)
  refine hv (v := bv (seq p1 x6)) rfl (pt_ rfl hb3 rfl) (hv (v := bv (seq p1 x6)) rfl (av rfl) (hn (nt (HW.ret ?_))))
  exact ⟨_, resOf1 rfl Res1.t, ⟨(seq p1 x6), rfl, h⟩⟩
 have h := hF hb4
 refine hs_ rfl rfl rfl rfl (cB hb4) (hs_ rfl rfl rfl rfl (cB hb4) (hs_ rfl rfl rfl rfl (cB hb4) (hs_ rfl rfl rfl rfl (cB hb4) ?_)))
 refine hs_ rfl rfl rfl rfl (cB hb4) (hv (v := bv false) rfl (pf_ rfl hb4 rfl) (hv (v := bv false) rfl (av rfl) ?_))
 refine hn (nt (HW.ret ?_))
 exact ⟨_, resOf1 rfl Res1.t, ⟨false, rfl, h⟩⟩

def F56_1 (Q : ByteArray → Int → Sl → ZQI) (y23 : Addr) (y24 : Sl) (y84 : Int) (H_1 : Hp) : Prop :=
((decide (((y24).n : Int) = 0)) = true → (mayw H_1 y23 3 0 ∧ ∀ H94, H94 = sets H_1 y23 (tR bE 0 Sl.nil) 0 → (
 ∃ x97 x98 x99, cells H94 y23 (tR x97 x98 x99) 0 ∧ (
 Q x97 x98 x99 110 H94)))) ∧
 ((decide (((y24).n : Int) = 0)) = false → (∃ a101, (y24).b = some a101 ∧ (0 : Int) ≤ y84 ∧ y84 < ((y24).n : Int) ∧ (
 ∃ x106 x107 x108, cells H_1 (Addr.add a101 (y84.toNat * 3)) (tR x106 x107 x108) 0 ∧ (
 mayw H_1 y23 3 0 ∧ ∀ H109, H109 = sets H_1 y23 (tR x106 x107 x108) 0 → (
 ∃ x112 x113 x114, cells H109 y23 (tR x112 x113 x114) 0 ∧ (
 Q x112 x113 x114 0 H109))))))
def F56_2 (Q : ByteArray → Int → Sl → ZQI) (y25 : Addr) (y26 : Sl) (H_2 : Hp) : Prop :=
F56_1 Q y25 y26 (IntKind.i64.wrap (((y26).n : Int) - 1)) H_2
def F56 (p0_0 p0_1 : Sl) (p0_2 p0_3 : ByteArray) (p0_4 : Int) (p0_5 p0_6 : Sl) (p1_0 p1_1 p1_2 p1_3 : Int) (p1_4 : ByteArray) (p1_5 : Bool) (p1_6 : ByteArray) (p1_7 : Int) (p1_8 : ByteArray) (p1_9 : Sl) (H : Hp) (Q : ByteArray → Int → Sl → ZQI) : Prop :=
∀ H1, H1 = Array.push H (.cells (xR p0_0 p0_1 p0_2 p0_3 p0_4 p0_5 p0_6).toArray 90) → (
 ∀ H3, H3 = Array.push H1 (.cells (eR p1_0 p1_1 p1_2 p1_3 p1_4 p1_5 p1_6 p1_7 p1_8 p1_9).toArray 41) → (
 ∀ H5, H5 = Array.push H3 (.cells (tR bE 0 Sl.nil).toArray 36) → (
 ∃ x8 x9 x10 x11 x12 x13 x14, cells H5 (bk H) (xR x8 x9 x10 x11 x12 x13 x14) 0 ∧ (
 ∃ x16, cell H5 (Addr.add (bk H1) 6) = some (sv x16) ∧ (
 F69 x8 x9 x10 x11 x12 x13 x14 x16 H5 (fun r19 r20 H17 =>
 ∃ x22, cell H17 (Addr.add (bk H1) 7) = some (iv x22) ∧ (
 (decide (x22 = 2) = true → (∃ x29 x30 x31 x32 x33 x34 x35, cells H17 (bk H) (xR x29 x30 x31 x32 x33 x34 x35) 0 ∧ (
 ∃ x37, cell H17 (Addr.add (bk H1) 6) = some (sv x37) ∧ (
 F70 x29 x30 x31 x32 x33 x34 x35 x37 H17 (fun r40 H38 =>
 ((!r40) = true → (mayw H38 (bk H3) 3 0 ∧ ∀ H42, H42 = sets H38 (bk H3) (tR bE 0 Sl.nil) 0 → (
 ∃ x45 x46 x47, cells H42 (bk H3) (tR x45 x46 x47) 0 ∧ (
 Q x45 x46 x47 110 H42)))) ∧
 ((!r40) = false → (∃ x50 x51 x52, cells H38 (Addr.add (bk H) 3) (tR x50 x51 x52) 0 ∧ (
 mayw H38 (bk H3) 3 0 ∧ ∀ H53, H53 = sets H38 (bk H3) (tR x50 x51 x52) 0 → (
 ∃ x56 x57 x58, cells H53 (bk H3) (tR x56 x57 x58) 0 ∧ (
 Q x56 x57 x58 0 H53)))))))))) ∧
 (decide (x22 = 2) = false → ((decide (x22 = 3) = true → (∃ x62 x63 x64 x65 x66 x67 x68, cells H17 (bk H) (xR x62 x63 x64 x65 x66 x67 x68) 0 ∧ (
 ∃ x70, cell H17 (Addr.add (bk H1) 6) = some (sv x70) ∧ (
 F70 x62 x63 x64 x65 x66 x67 x68 x70 H17 (fun r73 H71 =>
 ((!r73) = true → (mayw H71 (bk H3) 3 0 ∧ ∀ H75, H75 = sets H71 (bk H3) (tR bE 0 Sl.nil) 0 → (
 ∃ x78 x79 x80, cells H75 (bk H3) (tR x78 x79 x80) 0 ∧ (
 Q x78 x79 x80 110 H75)))) ∧
 ((!r73) = false → (F56_2 Q (bk H3) r19 H71))))))) ∧
 (decide (x22 = 3) = false → ((decide (x22 = 5) = true → (F56_2 Q (bk H3) r19 H17)) ∧
 (decide (x22 = 5) = false → ((decide (x22 = 1) = true → (F56_1 Q (bk H3) r19 0 H17)) ∧
 (decide (x22 = 1) = false → ((decide (x22 = 4) = true → (F56_1 Q (bk H3) r19 0 H17)) ∧
 (decide (x22 = 4) = false → (mayw H17 (bk H3) 3 0 ∧ ∀ H86, H86 = sets H17 (bk H3) (tR bE 0 Sl.nil) 0 → (
 ∃ x89 x90 x91, cells H86 (bk H3) (tR x89 x90 x91) 0 ∧ (
 Q x89 x90 x91 60 H86)))))))))))))))))))
theorem walk56 {w0 : World} {p0_0 p0_1 : Sl} {p0_2 p0_3 : ByteArray} {p0_4 : Int} {p0_5 p0_6 : Sl} {p1_0 p1_1 p1_2 p1_3 : Int} {p1_4 : ByteArray} {p1_5 : Bool} {p1_6 : ByteArray} {p1_7 : Int} {p1_8 : ByteArray} {p1_9 : Sl} {H : Hp} {Q : ByteArray → Int → Sl → ZQI} (h : F56 p0_0 p0_1 p0_2 p0_3 p0_4 p0_5 p0_6 p1_0 p1_1 p1_2 p1_3 p1_4 p1_5 p1_6 p1_7 p1_8 p1_9 H Q) :
  Good prog w0 56 #[(.agg (xR p0_0 p0_1 p0_2 p0_3 p0_4 p0_5 p0_6).toArray), (.agg (eR p1_0 p1_1 p1_2 p1_3 p1_4 p1_5 p1_6 p1_7 p1_8 p1_9).toArray)] H (fun v H => ∃ r0 r1 r2 r3, v = (.tuple #[(.agg (tR r0 r1 r2).toArray), (iv r3)]) ∧ Q r0 r1 r2 r3 H) := by
 unfold F56 at h
 refine Good.enter' (fn := f56) func56 rfl rfl rfl (ws (wr_ (ho rfl (ob (v := .agg (xR p0_0 p0_1 p0_2 p0_3 p0_4 p0_5 p0_6).toArray) rfl) ?_)))
 rintro _ H1 ⟨rfl, e2⟩
 replace h := h H1 e2
 refine ho rfl (ob (v := .agg (eR p1_0 p1_1 p1_2 p1_3 p1_4 p1_5 p1_6 p1_7 p1_8 p1_9).toArray) rfl) ?_
 rintro _ H3 ⟨rfl, e4⟩
 replace h := h H3 e4
 refine ho rfl (HOp.alloc zeroValue36) ?_
 rintro _ H5 ⟨rfl, e6⟩
 replace h := h H5 e6
 refine hv (v := iv 0) rfl (av rfl) (hn (nt (ws (wr_ ?_))))
 obtain ⟨x8, x9, x10, x11, x12, x13, x14, c7, h⟩ := h
 refine hv (v := .agg (xR x8 x9 x10 x11 x12 x13 x14).toArray) rfl (ln (xR x8 x9 x10 x11 x12 x13 x14) isAgg90 sizeOf90 rfl c7) (hv (v := pp (Addr.add (bk H1) 6)) rfl (fa runUnderlying41 rfl rfl sizeOf9 rfl) ?_)
 obtain ⟨x16, c15, h⟩ := h
 refine hv (v := sv x16) rfl (l1 isAgg9 rfl c15) (ho rfl (HOp.call' 69 [(.agg (xR x8 x9 x10 x11 x12 x13 x14).toArray), (sv x16)] (cap := []) rfl rfl call69 (walk69 h)) ?_)
 rintro _ H17 ⟨r19, r20, rfl, h⟩
 refine hv (v := .tuple #[(Sl.v r19), (bv r20)]) rfl (mv rfl) (hv (v := Sl.v r19) rfl (HVal.extract rfl rfl) (hv (v := bv r20) rfl (HVal.extract rfl rfl) ?_))
 refine hv (v := Sl.v r19) rfl (av rfl) (hv (v := bv r20) rfl (av rfl) (hn (nt (ws (wr_ (hv (v := iv 0) rfl (av rfl) ?_))))))
 refine hn (nt (ws (ws (wr_ (hv (v := pp (Addr.add (bk H1) 7)) rfl (fa runUnderlying41 rfl rfl sizeOf3 rfl) ?_)))))
 obtain ⟨x22, c21, h⟩ := h
 refine hv (v := iv x22) rfl (l1 isAgg3 rfl c21) (hn (nt (wb (wc (fun ρ H_1 => ∃ y84, Env.Is ρ [(4, (pp (bk H3))), (6, (Sl.v r19)), (8, (iv y84))] ∧ F56_1 Q (bk H3) r19 y84 H_1) ?_ ?_))))
 ·refine wb (wc (fun ρ H_2 => Env.Is ρ [(4, (pp (bk H3))), (6, (Sl.v r19))] ∧ F56_2 Q (bk H3) r19 H_2) ?_ ?_)
  ·refine wb (ws (wb (ws (wb (ws (ws (ws (wr_ (hv (v := bv (decide (x22 = 2))) rfl (HVal.eqlI rfl rfl) ?_)))))))))
   refine hv (v := bv (decide (x22 = 2))) rfl (av rfl) (hn (nt ?_))
   obtain ⟨hT, hF⟩ := h
   refine wk (decide (x22 = 2)) rfl (fun hb27 => ?_) (fun hb27 => ?_)
   ·have h := hT hb27
    refine we (te (te (be (nt (ws (ws (ws (wr_ ?_))))))))
    obtain ⟨x29, x30, x31, x32, x33, x34, x35, c28, h⟩ := h
    refine hv (v := .agg (xR x29 x30 x31 x32 x33 x34 x35).toArray) rfl (ln (xR x29 x30 x31 x32 x33 x34 x35) isAgg90 sizeOf90 rfl c28) ?_
    refine hv (v := pp (Addr.add (bk H1) 6)) rfl (fa runUnderlying41 rfl rfl sizeOf9 rfl) ?_
    obtain ⟨x37, c36, h⟩ := h
    refine hv (v := sv x37) rfl (l1 isAgg9 rfl c36) (ho rfl (HOp.call' 70 [(.agg (xR x29 x30 x31 x32 x33 x34 x35).toArray), (sv x37)] (cap := []) rfl rfl call70 (walk70 h)) ?_)
    rintro _ H38 ⟨r40, rfl, h⟩
    refine hv (v := bv (!r40)) rfl (HVal.not rfl) (hn (nt ?_))
    obtain ⟨hT, hF⟩ := h
    refine wk (!r40) rfl (fun hb41 => ?_) (fun hb41 => ?_)
    ·have h := hT hb41
     refine ws (wr_ (hv (v := .agg (tR bE 0 Sl.nil).toArray) rfl (HVal.build' (cs := (tR bE 0 Sl.nil)) runUnderlying36 zeroValue36 places36 rfl) ?_))
     obtain ⟨z44, h⟩ := h
     refine hq (HOp.storeN' (l := (tR bE 0 Sl.nil)) sizeOf36 rfl rfl rfl z44) ?_
     rintro _ H42 e43
     replace h := h H42 e43
     refine hv (v := iv 110) rfl (av rfl) (hn (nt (HW.ret (tr (tr (br (tr (br (tr (br (tr (br (tr ?_)))))))))))))
     obtain ⟨x45, x46, x47, c48, h⟩ := h
     exact ⟨_, resOf2 rfl (Res1.n (tR x45 x46 x47) isAgg36 sizeOf36 rfl c48) Res1.t, ⟨x45, x46, x47, 110, rfl, h⟩⟩
    have h := hF hb41
    refine wp_ (nt (ws (wr_ (hv (v := pp (bk H)) rfl (HVal.fieldAddr0 runUnderlying90 rfl rfl sizeOf43 rfl) ?_))))
    refine hv (v := pp (Addr.add (bk H) 3)) rfl (fa runUnderlying43 rfl rfl sizeOf36 rfl) ?_
    obtain ⟨x50, x51, x52, c49, h⟩ := h
    refine hv (v := .agg (tR x50 x51 x52).toArray) rfl (ln (tR x50 x51 x52) isAgg36 sizeOf36 rfl c49) ?_
    obtain ⟨z55, h⟩ := h
    refine hq (HOp.storeN' (l := (tR x50 x51 x52)) sizeOf36 rfl rfl rfl z55) ?_
    rintro _ H53 e54
    replace h := h H53 e54
    refine hv (v := iv 0) rfl (av rfl) (hn (nt (HW.ret (tr (br (tr (br (tr (br (tr (br (tr ?_))))))))))))
    obtain ⟨x56, x57, x58, c59, h⟩ := h
    exact ⟨_, resOf2 rfl (Res1.n (tR x56 x57 x58) isAgg36 sizeOf36 rfl c59) Res1.t, ⟨x56, x57, x58, 0, rfl, h⟩⟩
   have h := hF hb27
   refine wp_ (nt (ws (ws (wr_ (hv (v := bv (decide (x22 = 3))) rfl (HVal.eqlI rfl rfl) (hv (v := bv (decide (x22 = 3))) rfl (av rfl) ?_))))))
   refine hn (nt ?_)
   obtain ⟨hT, hF⟩ := h
   refine wk (decide (x22 = 3)) rfl (fun hb60 => ?_) (fun hb60 => ?_)
   ·have h := hT hb60
    refine we (te (te (bx rfl (te (be (nt (ws (wr_ ?_))))))))
    obtain ⟨x62, x63, x64, x65, x66, x67, x68, c61, h⟩ := h
    refine hv (v := .agg (xR x62 x63 x64 x65 x66 x67 x68).toArray) rfl (ln (xR x62 x63 x64 x65 x66 x67 x68) isAgg90 sizeOf90 rfl c61) ?_
    refine hv (v := pp (Addr.add (bk H1) 6)) rfl (fa runUnderlying41 rfl rfl sizeOf9 rfl) ?_
    obtain ⟨x70, c69, h⟩ := h
    refine hv (v := sv x70) rfl (l1 isAgg9 rfl c69) (ho rfl (HOp.call' 70 [(.agg (xR x62 x63 x64 x65 x66 x67 x68).toArray), (sv x70)] (cap := []) rfl rfl call70 (walk70 h)) ?_)
    rintro _ H71 ⟨r73, rfl, h⟩
    refine hv (v := bv (!r73)) rfl (HVal.not rfl) (hn (nt ?_))
    obtain ⟨hT, hF⟩ := h
    refine wk (!r73) rfl (fun hb74 => ?_) (fun hb74 => ?_)
    ·have h := hT hb74
     refine ws (wr_ (hv (v := .agg (tR bE 0 Sl.nil).toArray) rfl (HVal.build' (cs := (tR bE 0 Sl.nil)) runUnderlying36 zeroValue36 places36 rfl) ?_))
     obtain ⟨z77, h⟩ := h
     refine hq (HOp.storeN' (l := (tR bE 0 Sl.nil)) sizeOf36 rfl rfl rfl z77) ?_
     rintro _ H75 e76
     replace h := h H75 e76
     refine hv (v := iv 110) rfl (av rfl) (hn (nt (HW.ret (br (tr (br (tr (br (tr ?_)))))))))
     obtain ⟨x78, x79, x80, c81, h⟩ := h
     exact ⟨_, resOf2 rfl (Res1.n (tR x78 x79 x80) isAgg36 sizeOf36 rfl c81) Res1.t, ⟨x78, x79, x80, 110, rfl, h⟩⟩
    have h := hF hb74
    refine wp_ (nb (nt ?_))
    exact ⟨(isp rfl), h⟩
   have h := hF hb60
   refine wp_ (nt (ws (ws (wr_ (hv (v := bv (decide (x22 = 5))) rfl (HVal.eqlI rfl rfl) (hv (v := bv (decide (x22 = 5))) rfl (av rfl) ?_))))))
   refine hn (nt ?_)
   obtain ⟨hT, hF⟩ := h
   refine wk (decide (x22 = 5)) rfl (fun hb82 => ?_) (fun hb82 => ?_)
   ·have h := hT hb82
    refine we (te (te (bx rfl (te (bx rfl (te (be (nt ?_))))))))
    exact ⟨(isp rfl), h⟩
   have h := hF hb82
   refine wp_ (nt (ws (ws (wr_ (hv (v := bv (decide (x22 = 1))) rfl (HVal.eqlI rfl rfl) (hv (v := bv (decide (x22 = 1))) rfl (av rfl) ?_))))))
   refine hn (nt ?_)
   obtain ⟨hT, hF⟩ := h
   refine wk (decide (x22 = 1)) rfl (fun hb83 => ?_) (fun hb83 => ?_)
   ·have h := hT hb83
    refine wp_ (nt (HW.condT (decide (x22 = 1)) rfl hb83 (we (te (bx rfl (te (bx rfl (te (bx rfl (te (be (nt ?_))))))))))))
    exact ⟨0, (isp rfl), h⟩
   have h := hF hb83
   refine wr_ (hv (v := bv (decide (x22 = 4))) rfl (HVal.eqlI rfl rfl) (hv (v := bv (decide (x22 = 4))) rfl (av rfl) (hn (nt ?_))))
   obtain ⟨hT, hF⟩ := h
   refine wk (decide (x22 = 4)) rfl (fun hb85 => ?_) (fun hb85 => ?_)
   ·have h := hT hb85
    refine we (te (bx rfl (te (bx rfl (te (bx rfl (te (be (nt ?_)))))))))
    exact ⟨0, (isp rfl), h⟩
   have h := hF hb85
   refine wp_ (nt (we (bx rfl (te (bx rfl (te (bx rfl (te (bx rfl (te (be (nt (ws (wr_ (hv (v := .agg (tR bE 0 Sl.nil).toArray) rfl (HVal.build' (cs := (tR bE 0 Sl.nil)) runUnderlying36 zeroValue36 places36 rfl) ?_)))))))))))))))
   obtain ⟨z88, h⟩ := h
   refine hq (HOp.storeN' (l := (tR bE 0 Sl.nil)) sizeOf36 rfl rfl rfl z88) ?_
   rintro _ H86 e87
   replace h := h H86 e87
   refine hv (v := iv 60) rfl (av rfl) (hn (nt (HW.ret ?_)))
   obtain ⟨x89, x90, x91, c92, h⟩ := h
   exact ⟨_, resOf2 rfl (Res1.n (tR x89 x90 x91) isAgg36 sizeOf36 rfl c92) Res1.t, ⟨x89, x90, x91, 60, rfl, h⟩⟩
  rintro ρ H_2 ⟨hI, h⟩
  obtain ⟨ρ0, rfl⟩ := hI.ex
  clear hI; unfold F56_2 at h
  refine wr_ (hv (v := Sl.v r19) rfl (mv rfl) (hv (v := iv ((r19).n : Int)) rfl (HVal.len runUnderlying49 rfl) (hv (v := iv (IntKind.i64.wrap (((r19).n : Int) - 1))) rfl (HVal.sub rfl rfl) ?_)))
  refine hv (v := iv (IntKind.i64.wrap (((r19).n : Int) - 1))) rfl (av rfl) (hn (nb (nt ?_)))
  exact ⟨(IntKind.i64.wrap (((r19).n : Int) - 1)), (isp rfl), h⟩
 rintro ρ H_1 ⟨y84, hI, h⟩
 obtain ⟨ρ0, rfl⟩ := hI.ex
 clear hI; unfold F56_1 at h
 refine ws (ws (ws (wr_ (hv (v := Sl.v r19) rfl (mv rfl) (hv (v := iv ((r19).n : Int)) rfl (HVal.len runUnderlying49 rfl) ?_)))))
 refine hv (v := bv (decide (((r19).n : Int) = 0))) rfl (HVal.eqlI rfl rfl) (hn (nt ?_))
 obtain ⟨hT, hF⟩ := h
 refine wk (decide (((r19).n : Int) = 0)) rfl (fun hb93 => ?_) (fun hb93 => ?_)
 ·have h := hT hb93
  refine ws (wr_ (hv (v := .agg (tR bE 0 Sl.nil).toArray) rfl (HVal.build' (cs := (tR bE 0 Sl.nil)) runUnderlying36 zeroValue36 places36 rfl) ?_))
  obtain ⟨z96, h⟩ := h
  refine hq (HOp.storeN' (l := (tR bE 0 Sl.nil)) sizeOf36 rfl rfl rfl z96) ?_
  rintro _ H94 e95
  replace h := h H94 e95
  refine hv (v := iv 110) rfl (av rfl) (hn (nt (HW.ret (tr (tr (br (tr ?_)))))))
  obtain ⟨x97, x98, x99, c100, h⟩ := h
  exact ⟨_, resOf2 rfl (Res1.n (tR x97 x98 x99) isAgg36 sizeOf36 rfl c100) Res1.t, ⟨x97, x98, x99, 110, rfl, h⟩⟩
 have h := hF hb93
 refine wp_ (nt (ws (wr_ (hv (v := Sl.v r19) rfl (mv rfl) (hv (v := iv y84) rfl (mv rfl) ?_)))))
 obtain ⟨a101, e102, b103, b104, h⟩ := h
 refine hv (v := pp (Addr.add a101 (y84.toNat * 3))) rfl (ia runUnderlying49 sizeOf36 (Sl.v_some rfl e102) rfl b103 b104) ?_
 obtain ⟨x106, x107, x108, c105, h⟩ := h
 refine hv (v := .agg (tR x106 x107 x108).toArray) rfl (ln (tR x106 x107 x108) isAgg36 sizeOf36 rfl c105) ?_
 obtain ⟨z111, h⟩ := h
 refine hq (HOp.storeN' (l := (tR x106 x107 x108)) sizeOf36 rfl rfl rfl z111) ?_
 rintro _ H109 e110
 replace h := h H109 e110
 refine hv (v := iv 0) rfl (av rfl) (hn (nt (HW.ret (tr (br (tr ?_))))))
 obtain ⟨x112, x113, x114, c115, h⟩ := h
 exact ⟨_, resOf2 rfl (Res1.n (tR x112 x113 x114) isAgg36 sizeOf36 rfl c115) Res1.t, ⟨x112, x113, x114, 0, rfl, h⟩⟩

def F71 (H : Hp) (Q : Value → Value → Value → Value → Value → Hp → Prop) : Prop :=
∀ H1, H1 = Array.push H (.cells #[.nilFunc, .nilFunc, .nilFunc, .nilFunc, .nilFunc] 120) → (
 mayw H1 (bk H) 5 0 ∧ ∀ H3, H3 = sets H1 (bk H) [.nilFunc, .nilFunc, (.func (.func 78) #[] #[]), (.func (.func 79) #[] #[]), (.func (.func 80) #[] #[])] 0 → (
 ∃ x6 x7 x8 x9 x10, cells H3 (bk H) [x6, x7, x8, x9, x10] 0 ∧ (
 Q x6 x7 x8 x9 x10 H3)))
theorem walk71 {w0 : World} {H : Hp} {Q : Value → Value → Value → Value → Value → Hp → Prop} (h : F71 H Q) :
  Good prog w0 71 #[] H (fun v H => ∃ r0 r1 r2 r3 r4, v = (.agg #[r0, r1, r2, r3, r4]) ∧ Q r0 r1 r2 r3 r4 H) := by
 unfold F71 at h
 refine Good.enter' (fn := f71) func71 rfl rfl rfl (ws (wr_ (ho rfl (HOp.alloc zeroValue120) ?_)))
 rintro _ H1 ⟨rfl, e2⟩
 replace h := h H1 e2
 refine hn (nt (ws (wr_ (hv (v := .agg #[.nilFunc, .nilFunc, (.func (.func 78) #[] #[]), (.func (.func 79) #[] #[]), (.func (.func 80) #[] #[])]) rfl (HVal.buildA' (cs := [.nilFunc, .nilFunc, (.func (.func 78) #[] #[]), (.func (.func 79) #[] #[]), (.func (.func 80) #[] #[])]) runUnderlying120 zeroValue120 sizeOf118 rfl) ?_))))
 obtain ⟨z5, h⟩ := h
 refine hq (HOp.storeN' (l := [.nilFunc, .nilFunc, (.func (.func 78) #[] #[]), (.func (.func 79) #[] #[]), (.func (.func 80) #[] #[])]) sizeOf120 rfl rfl rfl z5) ?_
 rintro _ H3 e4
 replace h := h H3 e4
 refine hn (nt (HW.ret ?_))
 obtain ⟨x6, x7, x8, x9, x10, c11, h⟩ := h
 exact ⟨_, resOf1 rfl (Res1.n [x6, x7, x8, x9, x10] isAgg120 sizeOf120 rfl c11), ⟨x6, x7, x8, x9, x10, rfl, h⟩⟩

def F81_1 (Q : ZQB) (y7 y8 : Int) (H_1 : Hp) : Prop :=
(decide (y7 = 1) = true → (Q (decide (y8 = 1)) H_1)) ∧
 (decide (y7 = 1) = false → ((decide (y7 = 2) = true → (Q (decide (y8 = 3)) H_1)) ∧
 (decide (y7 = 2) = false → ((decide (y7 = 4) = true → (Q (decide (y8 ≠ 3)) H_1)) ∧
 (decide (y7 = 4) = false → (Q true H_1))))))
def F81_L2b (Q : ZQB) (X2 : ZQI) (y10 y11 : Int) (y12 : Sl) (y13 y9 : Int) (H_2 : Hp) : Prop :=
(decide (y9 < y13) = true → (∃ a15, (y12).b = some a15 ∧ (0 : Int) ≤ y9 ∧ y9 < ((y12).n : Int) ∧ (
 ∃ x20 x21 x22 x23, cells H_2 (Addr.add a15 (y9.toNat * 4)) (vR x20 x21 x22 x23) 0 ∧ (
 ∀ H24, H24 = Array.push H_2 (.cells (vR 0 0 bE false).toArray 38) → (
 mayw H24 (bk H_2) 4 0 ∧ ∀ H26, H26 = sets H24 (bk H_2) (vR x20 x21 x22 x23) 0 → (
 ∃ x30, cell H26 (bk H_2) = some (iv x30) ∧ (
 (decide (x30 ≠ y11) = true → (Q false H26)) ∧
 (decide (x30 ≠ y11) = false → (X2 (IntKind.i64.wrap (y9 + 1)) H26))))))))) ∧
 (decide (y9 < y13) = false → (F81_1 Q y10 y11 H_2))
def F81_L2 (Q : ZQB) (y10 y11 : Int) (y12 : Sl) (y13 y9 : Int) (H_2 : Hp) : Prop :=
 ∀ X2 : ZQI, (∀ (y9 : Int) (H_2 : Hp), F81_L2b Q X2 y10 y11 y12 y13 y9 H_2 → X2 y9 H_2) → X2 y9 H_2
def F81 (p0 : Int) (p1 : Sl) (H : Hp) (Q : ZQB) : Prop :=
∃ a1, (p1).b = some a1 ∧ (0 : Int) ≤ 0 ∧ (0 : Int) < ((p1).n : Int) ∧ (
 ∃ x6, cell H (Addr.add a1 ((0 : Int).toNat * 4)) = some (iv x6) ∧ (
 F81_L2 Q p0 x6 p1 ((p1).n : Int) 0 H))
theorem walk81 {w0 : World} {p0 : Int} {p1 : Sl} {H : Hp} {Q : ZQB} (h : F81 p0 p1 H Q) :
  Good prog w0 81 #[(iv p0), (Sl.v p1)] H (fun v H => ∃ r0, v = (bv r0) ∧ Q r0 H) := by
 unfold F81 at h
 refine Good.enter' (fn := f81) func81 rfl rfl rfl (ws (wr_ (hv (v := bv false) rfl (av rfl) (hn (nt (ws ?_))))))
 refine wr_ (hv (v := Sl.v p1) rfl (mv rfl) ?_)
 obtain ⟨a1, e2, b3, b4, h⟩ := h
 refine hv (v := pp (Addr.add a1 ((0 : Int).toNat * 4))) rfl (ia runUnderlying34 sizeOf38 (Sl.v_some rfl e2) rfl b3 b4) ?_
 refine hv (v := pp (Addr.add a1 ((0 : Int).toNat * 4))) rfl (HVal.fieldAddr0 runUnderlying38 rfl rfl sizeOf3 rfl) ?_
 obtain ⟨x6, c5, h⟩ := h
 refine hv (v := iv x6) rfl (l1 isAgg3 rfl c5) (hv (v := iv x6) rfl (av rfl) (hn (nt (wc (fun ρ H_1 => Env.Is ρ [(0, (iv p0)), (5, (iv x6))] ∧ F81_1 Q p0 x6 H_1) ?_ ?_))))
 ·refine ws (wr_ (hv (v := Sl.v p1) rfl (mv rfl) (hv (v := iv ((p1).n : Int)) rfl (HVal.len runUnderlying34 rfl) ?_)))
  refine hv (v := iv 0) rfl (mv rfl) (hn (nt (wb (HW.loop' (fun L2 hL2 => ?_)))))
  obtain ⟨X2, hX2⟩ : ∃ X2 : ZQI, ∀ (y9 : Int) (H_2 : Hp), X2 y9 H_2 ↔ ∀ ρ, Env.Is ρ [(0, (iv p0)), (5, (iv x6)), (12, (Sl.v p1)), (13, (iv ((p1).n : Int))), (14, (iv y9))] → L2 ρ H_2 := ⟨_, fun _ _ => Iff.rfl⟩
  refine (hX2 _ _).1 (h X2 ?_) _ ?_
  rotate_left
  ·exact (isp rfl)
  clear h
  intro y9 H_2 h
  refine (hX2 _ _).2 fun ρ hI => ?_
  obtain ⟨ρ0, rfl⟩ := hI.ex
  clear hI; unfold F81_L2b at h; refine hL2 _ _ ?_
  refine ws (wr_ (hv (v := bv (decide (y9 < ((p1).n : Int)))) rfl (HVal.lss rfl rfl) (hn (nt (ws ?_)))))
  obtain ⟨hT, hF⟩ := h
  refine wk (decide (y9 < ((p1).n : Int))) rfl (fun hb14 => ?_) (fun hb14 => ?_)
  ·have h := hT hb14
   refine wp_ (nt (ws (wb (ws (wr_ ?_)))))
   obtain ⟨a15, e16, b17, b18, h⟩ := h
   refine hv (v := pp (Addr.add a15 (y9.toNat * 4))) rfl (ia runUnderlying34 sizeOf38 (Sl.v_some rfl e16) rfl b17 b18) ?_
   obtain ⟨x20, x21, x22, x23, c19, h⟩ := h
   refine hv (v := .agg (vR x20 x21 x22 x23).toArray) rfl (ln (vR x20 x21 x22 x23) isAgg38 sizeOf38 rfl c19) (ho rfl (HOp.alloc zeroValue38) ?_)
   rintro _ H24 ⟨rfl, e25⟩
   replace h := h H24 e25
   obtain ⟨z28, h⟩ := h
   refine hq (HOp.storeN' (l := (vR x20 x21 x22 x23)) sizeOf38 rfl rfl rfl z28) ?_
   rintro _ H26 e27
   replace h := h H26 e27
   refine hn (nt (ws (wr_ (hv (v := pp (bk H_2)) rfl (HVal.fieldAddr0 runUnderlying38 rfl rfl sizeOf3 rfl) ?_))))
   obtain ⟨x30, c29, h⟩ := h
   refine hv (v := iv x30) rfl (l1 isAgg3 rfl c29) (hv (v := iv x6) rfl (mv rfl) (hv (v := bv (decide (x30 ≠ x6))) rfl (HVal.neqI rfl rfl) ?_))
   refine hn (nt ?_)
   obtain ⟨hT, hF⟩ := h
   refine wk (decide (x30 ≠ x6)) rfl (fun hb31 => ?_) (fun hb31 => ?_)
   ·have h := hT hb31
    refine ws (wr_ (hv (v := bv false) rfl (av rfl) (hn (nt (HW.ret (br (tr (tr (br (tr ?_))))))))))
    exact ⟨_, resOf1 rfl Res1.t, ⟨false, rfl, h⟩⟩
   have h := hF hb31
   refine wp_ (nb (nt (wr_ (hv (v := iv (IntKind.i64.wrap (y9 + 1))) rfl (HVal.add rfl rfl) (hv (v := iv (IntKind.i64.wrap (y9 + 1))) rfl (mv rfl) ?_)))))
   refine hn (nt ?_)
   exact (hX2 _ _).1 h _ (isp rfl)
  have h := hF hb14
  refine we (te (te (be (nt ?_))))
  exact ⟨(isp rfl), h⟩
 rintro ρ H_1 ⟨hI, h⟩
 obtain ⟨ρ0, rfl⟩ := hI.ex
 clear hI; unfold F81_1 at h
 refine ws (ws (wr_ (hv (v := iv p0) rfl (mv rfl) (hn (nt (wb (ws (wr_ (hv (v := bv (decide (p0 = 1))) rfl (HVal.eqlI rfl rfl) ?_)))))))))
 refine hv (v := bv (decide (p0 = 1))) rfl (av rfl) (hn (nt ?_))
 obtain ⟨hT, hF⟩ := h
 refine wk (decide (p0 = 1)) rfl (fun hb32 => ?_) (fun hb32 => ?_)
 ·have h := hT hb32
  refine ws (wr_ (hv (v := iv x6) rfl (mv rfl) (hv (v := bv (decide (x6 = 1))) rfl (HVal.eqlI rfl rfl) (hv (v := bv (decide (x6 = 1))) rfl (av rfl) ?_))))
  refine hn (nt (HW.ret (br (tr ?_))))
  exact ⟨_, resOf1 rfl Res1.t, ⟨(decide (x6 = 1)), rfl, h⟩⟩
 have h := hF hb32
 refine ws (wr_ (hv (v := bv (decide (p0 = 2))) rfl (HVal.eqlI rfl rfl) (hv (v := bv (decide (p0 = 2))) rfl (av rfl) ?_)))
 refine hn (nt ?_)
 obtain ⟨hT, hF⟩ := h
 refine wk (decide (p0 = 2)) rfl (fun hb33 => ?_) (fun hb33 => ?_)
 ·have h := hT hb33
  refine ws (wr_ (hv (v := iv x6) rfl (mv rfl) (hv (v := bv (decide (x6 = 3))) rfl (HVal.eqlI rfl rfl) (hv (v := bv (decide (x6 = 3))) rfl (av rfl) ?_))))
  refine hn (nt (HW.ret (br (tr ?_))))
  exact ⟨_, resOf1 rfl Res1.t, ⟨(decide (x6 = 3)), rfl, h⟩⟩
 have h := hF hb33
 refine ws (wr_ (hv (v := bv (decide (p0 = 4))) rfl (HVal.eqlI rfl rfl) (hv (v := bv (decide (p0 = 4))) rfl (av rfl) ?_)))
 refine hn (nt ?_)
 obtain ⟨hT, hF⟩ := h
 refine wk (decide (p0 = 4)) rfl (fun hb34 => ?_) (fun hb34 => ?_)
 ·have h := hT hb34
  refine ws (wr_ (hv (v := iv x6) rfl (mv rfl) (hv (v := bv (decide (x6 ≠ 3))) rfl (HVal.neqI rfl rfl) (hv (v := bv (decide (x6 ≠ 3))) rfl (av rfl) ?_))))
  refine hn (nt (HW.ret (br (tr ?_))))
  exact ⟨_, resOf1 rfl Res1.t, ⟨(decide (x6 ≠ 3)), rfl, h⟩⟩
 have h := hF hb34
 refine wp_ (nb (nt (ws (wr_ (hv (v := bv true) rfl (av rfl) (hn (nt (HW.ret ?_))))))))
 exact ⟨_, resOf1 rfl Res1.t, ⟨true, rfl, h⟩⟩

def F72_2 (Q : ZQI) (y7 : Int) (y8 : Sl) (H_2 : Hp) : Prop :=
(0 : Int) ≤ y7 ∧ y7 < ((14 : Nat) : Int) ∧ (
 ∃ x41, cell H_2 (Addr.add ⟨0, 0, none⟩ (y7.toNat * 1)) = some (iv x41) ∧ (
 F81 x41 y8 H_2 (fun r44 H42 =>
 ((!r44) = true → (Q 10 H42)) ∧
 ((!r44) = false → (Q 0 H42)))))
def F72_L3b (Q X3 : ZQI) (y10 : Int) (y11 y12 : Sl) (y13 y9 : Int) (H_3 : Hp) : Prop :=
(decide (y9 < y13) = true → (∃ a15, (y12).b = some a15 ∧ (0 : Int) ≤ y9 ∧ y9 < ((y12).n : Int) ∧ (
 ∃ x20 x21 x22 x23, cells H_3 (Addr.add a15 (y9.toNat * 4)) (vR x20 x21 x22 x23) 0 ∧ (
 ∀ H24, H24 = Array.push H_3 (.cells (vR 0 0 bE false).toArray 38) → (
 mayw H24 (bk H_3) 4 0 ∧ ∀ H26, H26 = sets H24 (bk H_3) (vR x20 x21 x22 x23) 0 → (
 ∃ x30 x31 x32 x33, cells H26 (bk H_3) (vR x30 x31 x32 x33) 0 ∧ (
 F46 x30 x31 x32 x33 H26 (fun r36 H34 =>
 ((!r36) = true → (Q 12 H34)) ∧
 ((!r36) = false → (X3 (IntKind.i64.wrap (y9 + 1)) H34)))))))))) ∧
 (decide (y9 < y13) = false → (F72_2 Q y10 y11 H_3))
def F72_L3 (Q : ZQI) (y10 : Int) (y11 y12 : Sl) (y13 y9 : Int) (H_3 : Hp) : Prop :=
 ∀ X3 : ZQI, (∀ (y9 : Int) (H_3 : Hp), F72_L3b Q X3 y10 y11 y12 y13 y9 H_3 → X3 y9 H_3) → X3 y9 H_3
def F72_1 (Q : ZQI) (y1 : Int) (y2 : Sl) (y5 : Bool) (H_1 : Hp) : Prop :=
(y5 = true → (Q 11 H_1)) ∧
 (y5 = false → (F72_L3 Q y1 y2 y2 ((y2).n : Int) 0 H_1))
def F72 (p0 p1 p2 : Int) (p3 : Sl) (H : Hp) (Q : ZQI) : Prop :=
(decide (p0 < p1) = true → (F72_1 Q p0 p3 true H)) ∧
 (decide (p0 < p1) = false → (F72_1 Q p0 p3 (decide (p2 < p0)) H))
theorem walk72 {w0 : World} {p0 p1 p2 : Int} {p3 : Sl} {H : Hp} {Q : ZQI} (h : F72 p0 p1 p2 p3 H Q) :
  Good prog w0 72 #[(iv p0), (iv p1), (iv p2), (Sl.v p3)] H (fun v H => ∃ r0, v = (iv r0) ∧ Q r0 H) := by
 unfold F72 at h
 refine Good.enter' (fn := f72) func72 rfl rfl rfl (ws (wr_ (hv (v := iv 0) rfl (av rfl) (hn (nt (ws ?_))))))
 refine wc (fun ρ H_1 => ∃ y5, Env.Is ρ [(0, (iv p0)), (3, (Sl.v p3)), (18, (bv y5))] ∧ F72_1 Q p0 p3 y5 H_1) ?_ ?_
 ·refine wr_ (hv (v := iv p0) rfl (mv rfl) (hv (v := iv p1) rfl (mv rfl) (hv (v := bv (decide (p0 < p1))) rfl (HVal.lss rfl rfl) ?_)))
  refine hv (v := bv (decide (p0 < p1))) rfl (mv rfl) ?_
  obtain ⟨hT, hF⟩ := h
  rcases Bool.eq_false_or_eq_true (decide (p0 < p1)) with hb3 | hb4
  ·have h := hT hb3
   refine hs_ rfl rfl rfl rfl (cB hb3) (hs_ rfl rfl rfl rfl (cB hb3) (hs_ rfl rfl rfl rfl (cB hb3) (hv (v := bv true) rfl (pt_ rfl hb3 rfl) ?_)))
   refine hn (nt ?_)
   exact ⟨true, (isp rfl), h⟩
  have h := hF hb4
  refine hg (v := iv p0) rfl rfl rfl rfl (cB hb4) (mv rfl) (hg (v := iv p2) rfl rfl rfl rfl (cB hb4) (mv rfl) (hg (v := bv (decide (p2 < p0))) rfl rfl rfl rfl (cB hb4) (HVal.gtr rfl rfl) ?_))
  refine hv (v := bv (decide (p2 < p0))) rfl (pf_ rfl hb4 rfl) (hn (nt ?_))
  exact ⟨(decide (p2 < p0)), (isp rfl), h⟩
 rintro ρ H_1 ⟨y5, hI, h⟩
 obtain ⟨ρ0, rfl⟩ := hI.ex
 clear hI; unfold F72_1 at h
 obtain ⟨hT, hF⟩ := h
 refine wk y5 rfl (fun hb6 => ?_) (fun hb6 => ?_)
 ·have h := hT hb6
  refine ws (wr_ (hv (v := iv 11) rfl (av rfl) (hn (nt (HW.ret (tr ?_))))))
  exact ⟨_, resOf1 rfl Res1.t, ⟨11, rfl, h⟩⟩
 have h := hF hb6
 refine wp_ (nt (wc (fun ρ H_2 => Env.Is ρ [(0, (iv p0)), (3, (Sl.v p3))] ∧ F72_2 Q p0 p3 H_2) ?_ ?_))
 ·refine ws (wr_ (hv (v := Sl.v p3) rfl (mv rfl) (hv (v := iv ((p3).n : Int)) rfl (HVal.len runUnderlying34 rfl) ?_)))
  refine hv (v := iv 0) rfl (mv rfl) (hn (nt (wb (HW.loop' (fun L3 hL3 => ?_)))))
  obtain ⟨X3, hX3⟩ : ∃ X3 : ZQI, ∀ (y9 : Int) (H_3 : Hp), X3 y9 H_3 ↔ ∀ ρ, Env.Is ρ [(0, (iv p0)), (3, (Sl.v p3)), (19, (Sl.v p3)), (20, (iv ((p3).n : Int))), (21, (iv y9))] → L3 ρ H_3 := ⟨_, fun _ _ => Iff.rfl⟩
  refine (hX3 _ _).1 (h X3 ?_) _ ?_
  rotate_left
  ·exact (isp rfl)
  clear h
  intro y9 H_3 h
  refine (hX3 _ _).2 fun ρ hI => ?_
  obtain ⟨ρ0, rfl⟩ := hI.ex
  clear hI; unfold F72_L3b at h; refine hL3 _ _ ?_
  refine ws (wr_ (hv (v := bv (decide (y9 < ((p3).n : Int)))) rfl (HVal.lss rfl rfl) (hn (nt (ws ?_)))))
  obtain ⟨hT, hF⟩ := h
  refine wk (decide (y9 < ((p3).n : Int))) rfl (fun hb14 => ?_) (fun hb14 => ?_)
  ·have h := hT hb14
   refine wp_ (nt (ws (wb (ws (wr_ ?_)))))
   obtain ⟨a15, e16, b17, b18, h⟩ := h
   refine hv (v := pp (Addr.add a15 (y9.toNat * 4))) rfl (ia runUnderlying34 sizeOf38 (Sl.v_some rfl e16) rfl b17 b18) ?_
   obtain ⟨x20, x21, x22, x23, c19, h⟩ := h
   refine hv (v := .agg (vR x20 x21 x22 x23).toArray) rfl (ln (vR x20 x21 x22 x23) isAgg38 sizeOf38 rfl c19) (ho rfl (HOp.alloc zeroValue38) ?_)
   rintro _ H24 ⟨rfl, e25⟩
   replace h := h H24 e25
   obtain ⟨z28, h⟩ := h
   refine hq (HOp.storeN' (l := (vR x20 x21 x22 x23)) sizeOf38 rfl rfl rfl z28) ?_
   rintro _ H26 e27
   replace h := h H26 e27
   refine hn (nt (ws (wr_ ?_)))
   obtain ⟨x30, x31, x32, x33, c29, h⟩ := h
   refine hv (v := .agg (vR x30 x31 x32 x33).toArray) rfl (ln (vR x30 x31 x32 x33) isAgg38 sizeOf38 rfl c29) (ho rfl (HOp.call' 46 [(.agg (vR x30 x31 x32 x33).toArray)] (cap := []) rfl rfl call46 (walk46 h)) ?_)
   rintro _ H34 ⟨r36, rfl, h⟩
   refine hv (v := bv (!r36)) rfl (HVal.not rfl) (hn (nt ?_))
   obtain ⟨hT, hF⟩ := h
   refine wk (!r36) rfl (fun hb37 => ?_) (fun hb37 => ?_)
   ·have h := hT hb37
    refine ws (wr_ (hv (v := iv 12) rfl (av rfl) (hn (nt (HW.ret (br (tr (tr (br (tr ?_))))))))))
    exact ⟨_, resOf1 rfl Res1.t, ⟨12, rfl, h⟩⟩
   have h := hF hb37
   refine wp_ (nb (nt (wr_ (hv (v := iv (IntKind.i64.wrap (y9 + 1))) rfl (HVal.add rfl rfl) (hv (v := iv (IntKind.i64.wrap (y9 + 1))) rfl (mv rfl) ?_)))))
   refine hn (nt ?_)
   exact (hX3 _ _).1 h _ (isp rfl)
  have h := hF hb14
  refine we (te (te (be (nt ?_))))
  exact ⟨(isp rfl), h⟩
 rintro ρ H_2 ⟨hI, h⟩
 obtain ⟨ρ0, rfl⟩ := hI.ex
 clear hI; unfold F72_2 at h
 refine ws (ws (wr_ (hv (v := iv p0) rfl (mv rfl) ?_)))
 obtain ⟨b38, b39, h⟩ := h
 refine hv (v := pp (Addr.add ⟨0, 0, none⟩ (p0.toNat * 1))) rfl (HVal.indexAddrA runUnderlying129 sizeOf3 rfl rfl b38 b39) ?_
 obtain ⟨x41, c40, h⟩ := h
 refine hv (v := iv x41) rfl (l1 isAgg3 rfl c40) (hv (v := Sl.v p3) rfl (mv rfl) (ho rfl (HOp.call' 81 [(iv x41), (Sl.v p3)] (cap := []) rfl rfl call81 (walk81 h)) ?_))
 rintro _ H42 ⟨r44, rfl, h⟩
 refine hv (v := bv (!r44)) rfl (HVal.not rfl) (hn (nt ?_))
 obtain ⟨hT, hF⟩ := h
 refine wk (!r44) rfl (fun hb45 => ?_) (fun hb45 => ?_)
 ·have h := hT hb45
  refine ws (wr_ (hv (v := iv 10) rfl (av rfl) (hn (nt (HW.ret (tr ?_))))))
  exact ⟨_, resOf1 rfl Res1.t, ⟨10, rfl, h⟩⟩
 have h := hF hb45
 refine wp_ (nt (ws (wr_ (hv (v := iv 0) rfl (av rfl) (hn (nt (HW.ret ?_)))))))
 exact ⟨_, resOf1 rfl Res1.t, ⟨0, rfl, h⟩⟩

def F58 (p0 p1_0 p1_1 : Int) (p1_2 : ByteArray) (p1_3 : Bool) (H : Hp) (Q : ZQV) : Prop :=
∀ H1, H1 = Array.push H (.cells (vR p1_0 p1_1 p1_2 p1_3).toArray 38) → (
 ∀ H3, H3 = Array.push H1 (.cells (vR 0 0 bE false).toArray 38) → (
 ∃ x6 x7 x8 x9, cells H3 (bk H) (vR x6 x7 x8 x9) 0 ∧ (
 ∀ H10, H10 = Array.push H3 (.cells (vR x6 x7 x8 x9).toArray 38) → (
 F72 p0 1 2 (Sl.mk (some (bk H3)) 1 1) H10 (fun r14 H12 =>
 (decide (r14 ≠ 0) = true → (mayw H12 (bk H1) 4 0 ∧ ∀ H16, H16 = sets H12 (bk H1) (vR 0 0 bE false) 0 → (
 ∃ x19 x20 x21 x22, cells H16 (bk H1) (vR x19 x20 x21 x22) 0 ∧ (
 Q x19 x20 x21 x22 r14 H16)))) ∧
 (decide (r14 ≠ 0) = false → ((decide (p0 = 1) = true → (∃ x26, cell H12 (Addr.add (bk H) 1) = some (iv x26) ∧ (
 F60 (IntKind.i64.wrap (0 - x26)) H12 (fun r29 r30 r31 r32 H27 =>
 mayw H27 (bk H1) 4 0 ∧ ∀ H33, H33 = sets H27 (bk H1) (vR r29 r30 r31 r32) 0 → (
 ∃ x36 x37 x38 x39, cells H33 (bk H1) (vR x36 x37 x38 x39) 0 ∧ (
 Q x36 x37 x38 x39 0 H33)))))) ∧
 (decide (p0 = 1) = false → (∃ x42, cell H12 (Addr.add (bk H) 3) = some (bv x42) ∧ (
 F62 (!x42) H12 (fun r45 r46 r47 r48 H43 =>
 mayw H43 (bk H1) 4 0 ∧ ∀ H49, H49 = sets H43 (bk H1) (vR r45 r46 r47 r48) 0 → (
 ∃ x52 x53 x54 x55, cells H49 (bk H1) (vR x52 x53 x54 x55) 0 ∧ (
 Q x52 x53 x54 x55 0 H49)))))))))))))
theorem walk58 {w0 : World} {p0 p1_0 p1_1 : Int} {p1_2 : ByteArray} {p1_3 : Bool} {H : Hp} {Q : ZQV} (h : F58 p0 p1_0 p1_1 p1_2 p1_3 H Q) :
  Good prog w0 58 #[(iv p0), (.agg (vR p1_0 p1_1 p1_2 p1_3).toArray)] H (fun v H => ∃ r0 r1 r2 r3 r4, v = (.tuple #[(.agg (vR r0 r1 r2 r3).toArray), (iv r4)]) ∧ Q r0 r1 r2 r3 r4 H) := by
 unfold F58 at h
 refine Good.enter' (fn := f58) func58 rfl rfl rfl (ws (wr_ (ho rfl (ob (v := .agg (vR p1_0 p1_1 p1_2 p1_3).toArray) rfl) ?_)))
 rintro _ H1 ⟨rfl, e2⟩
 replace h := h H1 e2
 refine ho rfl (HOp.alloc zeroValue38) ?_
 rintro _ H3 ⟨rfl, e4⟩
 replace h := h H3 e4
 refine hv (v := iv 0) rfl (av rfl) (hn (nt (ws (ws (wr_ (hv (v := iv p0) rfl (mv rfl) ?_))))))
 obtain ⟨x6, x7, x8, x9, c5, h⟩ := h
 refine hv (v := .agg (vR x6 x7 x8 x9).toArray) rfl (ln (vR x6 x7 x8 x9) isAgg38 sizeOf38 rfl c5) (ho rfl (HOp.buildSlice' (zs := (vR 0 0 bE false)) (cs := (vR x6 x7 x8 x9)) runUnderlying34 sizeOf38 zeroValue38 (by decide) (by kernel_rfl) rfl (by decide)) ?_)
 rintro _ H10 ⟨rfl, e11⟩
 replace h := h H10 e11
 refine ho rfl (HOp.call' 72 [(iv p0), (iv 1), (iv 2), (Sl.v (Sl.mk (some (bk H3)) 1 1))] (cap := []) rfl rfl call72 (walk72 h)) ?_
 rintro _ H12 ⟨r14, rfl, h⟩
 refine hv (v := iv r14) rfl (av rfl) (hn (nt (ws (wr_ (hv (v := iv r14) rfl (mv rfl) (hv (v := bv (decide (r14 ≠ 0))) rfl (HVal.neqI rfl rfl) ?_))))))
 refine hn (nt ?_)
 obtain ⟨hT, hF⟩ := h
 refine wk (decide (r14 ≠ 0)) rfl (fun hb15 => ?_) (fun hb15 => ?_)
 ·have h := hT hb15
  refine ws (wr_ (hv (v := .agg (vR 0 0 bE false).toArray) rfl (HVal.build' (cs := (vR 0 0 bE false)) runUnderlying38 zeroValue38 places38 rfl) ?_))
  refine hv (v := iv r14) rfl (mv rfl) ?_
  obtain ⟨z18, h⟩ := h
  refine hq (HOp.storeN' (l := (vR 0 0 bE false)) sizeOf38 rfl rfl rfl z18) ?_
  rintro _ H16 e17
  replace h := h H16 e17
  refine hv (v := iv r14) rfl (av rfl) (hn (nt (HW.ret (tr ?_))))
  obtain ⟨x19, x20, x21, x22, c23, h⟩ := h
  exact ⟨_, resOf2 rfl (Res1.n (vR x19 x20 x21 x22) isAgg38 sizeOf38 rfl c23) Res1.t, ⟨x19, x20, x21, x22, r14, rfl, h⟩⟩
 have h := hF hb15
 refine wp_ (nt (ws (ws (wr_ (hv (v := iv p0) rfl (mv rfl) (hv (v := bv (decide (p0 = 1))) rfl (HVal.eqlI rfl rfl) ?_))))))
 refine hn (nt ?_)
 obtain ⟨hT, hF⟩ := h
 refine wk (decide (p0 = 1)) rfl (fun hb24 => ?_) (fun hb24 => ?_)
 ·have h := hT hb24
  refine ws (wr_ (hv (v := pp (Addr.add (bk H) 1)) rfl (fa runUnderlying38 rfl rfl sizeOf2 rfl) ?_))
  obtain ⟨x26, c25, h⟩ := h
  refine hv (v := iv x26) rfl (l1 isAgg2 rfl c25) (hv (v := iv (IntKind.i64.wrap (0 - x26))) rfl (HVal.neg rfl) (ho rfl (HOp.call' 60 [(iv (IntKind.i64.wrap (0 - x26)))] (cap := []) rfl rfl call60 (walk60 h)) ?_))
  rintro _ H27 ⟨r29, r30, r31, r32, rfl, h⟩
  obtain ⟨z35, h⟩ := h
  refine hq (HOp.storeN' (l := (vR r29 r30 r31 r32)) sizeOf38 rfl rfl rfl z35) ?_
  rintro _ H33 e34
  replace h := h H33 e34
  refine hv (v := iv 0) rfl (av rfl) (hn (nt (HW.ret (tr ?_))))
  obtain ⟨x36, x37, x38, x39, c40, h⟩ := h
  exact ⟨_, resOf2 rfl (Res1.n (vR x36 x37 x38 x39) isAgg38 sizeOf38 rfl c40) Res1.t, ⟨x36, x37, x38, x39, 0, rfl, h⟩⟩
 have h := hF hb24
 refine wp_ (nt (ws (wr_ (hv (v := pp (Addr.add (bk H) 3)) rfl (fa runUnderlying38 rfl rfl sizeOf4 rfl) ?_))))
 obtain ⟨x42, c41, h⟩ := h
 refine hv (v := bv x42) rfl (l1 isAgg4 rfl c41) (hv (v := bv (!x42)) rfl (HVal.not rfl) (ho rfl (HOp.call' 62 [(bv (!x42))] (cap := []) rfl rfl call62 (walk62 h)) ?_))
 rintro _ H43 ⟨r45, r46, r47, r48, rfl, h⟩
 obtain ⟨z51, h⟩ := h
 refine hq (HOp.storeN' (l := (vR r45 r46 r47 r48)) sizeOf38 rfl rfl rfl z51) ?_
 rintro _ H49 e50
 replace h := h H49 e50
 refine hv (v := iv 0) rfl (av rfl) (hn (nt (HW.ret ?_)))
 obtain ⟨x52, x53, x54, x55, c56, h⟩ := h
 exact ⟨_, resOf2 rfl (Res1.n (vR x52 x53 x54 x55) isAgg38 sizeOf38 rfl c56) Res1.t, ⟨x52, x53, x54, x55, 0, rfl, h⟩⟩

def F83_1 (Q : ZQI) (y1 : Int) (H_1 : Hp) : Prop :=
Q y1 H_1
def F83_L2b (Q X2 : ZQI) (y3 : Int) (y4 : Sl) (y5 y2 : Int) (H_2 : Hp) : Prop :=
(decide (y2 < y5) = true → (∃ a7, (y4).b = some a7 ∧ (0 : Int) ≤ y2 ∧ y2 < ((y4).n : Int) ∧ (
 ∃ x12, cell H_2 (Addr.add a7 (y2.toNat * 1)) = some (iv x12) ∧ (
 (decide (x12 ≠ y3) = true → (Q x12 H_2)) ∧
 (decide (x12 ≠ y3) = false → (X2 (IntKind.i64.wrap (y2 + 1)) H_2)))))) ∧
 (decide (y2 < y5) = false → (F83_1 Q y3 H_2))
def F83_L2 (Q : ZQI) (y3 : Int) (y4 : Sl) (y5 y2 : Int) (H_2 : Hp) : Prop :=
 ∀ X2 : ZQI, (∀ (y2 : Int) (H_2 : Hp), F83_L2b Q X2 y3 y4 y5 y2 H_2 → X2 y2 H_2) → X2 y2 H_2
def F83 (p0 : Sl) (H : Hp) (Q : ZQI) : Prop :=
F83_L2 Q 0 p0 ((p0).n : Int) 0 H
theorem walk83 {w0 : World} {p0 : Sl} {H : Hp} {Q : ZQI} (h : F83 p0 H Q) :
  Good prog w0 83 #[(Sl.v p0)] H (fun v H => ∃ r0, v = (iv r0) ∧ Q r0 H) := by
 unfold F83 at h
 refine Good.enter' (fn := f83) func83 rfl rfl rfl (ws (wr_ (hv (v := iv 0) rfl (av rfl) (hn (nt (ws ?_))))))
 refine wr_ (hv (v := iv 0) rfl (av rfl) (hn (nt (wc (fun ρ H_1 => Env.Is ρ [(3, (iv 0))] ∧ F83_1 Q 0 H_1) ?_ ?_))))
 ·refine ws (wr_ (hv (v := Sl.v p0) rfl (mv rfl) (hv (v := iv ((p0).n : Int)) rfl (HVal.len runUnderlying136 rfl) ?_)))
  refine hv (v := iv 0) rfl (mv rfl) (hn (nt (wb (HW.loop' (fun L2 hL2 => ?_)))))
  obtain ⟨X2, hX2⟩ : ∃ X2 : ZQI, ∀ (y2 : Int) (H_2 : Hp), X2 y2 H_2 ↔ ∀ ρ, Env.Is ρ [(3, (iv 0)), (6, (Sl.v p0)), (7, (iv ((p0).n : Int))), (8, (iv y2))] → L2 ρ H_2 := ⟨_, fun _ _ => Iff.rfl⟩
  refine (hX2 _ _).1 (h X2 ?_) _ ?_
  rotate_left
  ·exact (isp rfl)
  clear h
  intro y2 H_2 h
  refine (hX2 _ _).2 fun ρ hI => ?_
  obtain ⟨ρ0, rfl⟩ := hI.ex
  clear hI; unfold F83_L2b at h; refine hL2 _ _ ?_
  refine ws (wr_ (hv (v := bv (decide (y2 < ((p0).n : Int)))) rfl (HVal.lss rfl rfl) (hn (nt (ws ?_)))))
  obtain ⟨hT, hF⟩ := h
  refine wk (decide (y2 < ((p0).n : Int))) rfl (fun hb6 => ?_) (fun hb6 => ?_)
  ·have h := hT hb6
   refine wp_ (nt (ws (wb (ws (wr_ ?_)))))
   obtain ⟨a7, e8, b9, b10, h⟩ := h
   refine hv (v := pp (Addr.add a7 (y2.toNat * 1))) rfl (ia runUnderlying136 sizeOf3 (Sl.v_some rfl e8) rfl b9 b10) ?_
   obtain ⟨x12, c11, h⟩ := h
   refine hv (v := iv x12) rfl (l1 isAgg3 rfl c11) (hv (v := iv x12) rfl (av rfl) (hn (nt (ws (wr_ ?_)))))
   refine hv (v := iv x12) rfl (mv rfl) (hv (v := iv 0) rfl (mv rfl) (hv (v := bv (decide (x12 ≠ 0))) rfl (HVal.neqI rfl rfl) ?_))
   refine hn (nt ?_)
   obtain ⟨hT, hF⟩ := h
   refine wk (decide (x12 ≠ 0)) rfl (fun hb13 => ?_) (fun hb13 => ?_)
   ·have h := hT hb13
    refine ws (wr_ (hv (v := iv x12) rfl (mv rfl) (hv (v := iv x12) rfl (av rfl) (hn (nt (HW.ret ?_))))))
    refine br (tr (tr (br (tr ?_))))
    exact ⟨_, resOf1 rfl Res1.t, ⟨x12, rfl, h⟩⟩
   have h := hF hb13
   refine wp_ (nb (nt (wr_ (hv (v := iv (IntKind.i64.wrap (y2 + 1))) rfl (HVal.add rfl rfl) (hv (v := iv (IntKind.i64.wrap (y2 + 1))) rfl (mv rfl) ?_)))))
   refine hn (nt ?_)
   exact (hX2 _ _).1 h _ (isp rfl)
  have h := hF hb6
  refine we (te (te (be (nt ?_))))
  exact ⟨⟨rfl, trivial⟩, h⟩
 rintro ρ H_1 ⟨hI, h⟩
 obtain ⟨ρ0, rfl⟩ := hI.ex
 clear hI; unfold F83_1 at h
 refine ws (wr_ (hv (v := iv 0) rfl (mv rfl) (hv (v := iv 0) rfl (av rfl) (hn (nt (HW.ret ?_))))))
 exact ⟨_, resOf1 rfl Res1.t, ⟨0, rfl, h⟩⟩

def F88 (p0 : Int) (H : Hp) (Q : ZQB) : Prop :=
Q (decide (p0 ≠ p0)) H
theorem walk88 {w0 : World} {p0 : Int} {H : Hp} {Q : ZQB} (h : F88 p0 H Q) :
  Good prog w0 88 #[(iv p0)] H (fun v H => ∃ r0, v = (bv r0) ∧ Q r0 H) := by
 unfold F88 at h
 refine Good.enter' (fn := f88) func88 rfl rfl rfl (ws (wr_ (hv (v := bv false) rfl (av rfl) (hn (nt (ws ?_))))))
 refine wr_ (hv (v := iv p0) rfl (mv rfl) (hv (v := iv p0) rfl (mv rfl) (hv (v := bv (decide (p0 ≠ p0))) rfl (HVal.neqI rfl rfl) ?_)))
 refine hv (v := bv (decide (p0 ≠ p0))) rfl (av rfl) (hn (nt (HW.ret ?_)))
 exact ⟨_, resOf1 rfl Res1.t, ⟨(decide (p0 ≠ p0)), rfl, h⟩⟩

def F84 (p0 p1 : Int) (H : Hp) (Q : ZQI) : Prop :=
F88 p0 H (fun r3 H1 =>
 F88 p1 H1 (fun r6 H4 =>
 (r3 = true → ((r6 = true → (Q 0 H4)) ∧
 (r6 = false → (Q (-1) H4)))) ∧
 (r3 = false → ((r6 = true → (Q 1 H4)) ∧
 (r6 = false → ((decide (p0 < p1) = true → (Q (-1) H4)) ∧
 (decide (p0 < p1) = false → ((decide (p1 < p0) = true → (Q 1 H4)) ∧
 (decide (p1 < p0) = false → (Q 0 H4))))))))))
theorem walk84 {w0 : World} {p0 p1 : Int} {H : Hp} {Q : ZQI} (h : F84 p0 p1 H Q) :
  Good prog w0 84 #[(iv p0), (iv p1)] H (fun v H => ∃ r0, v = (iv r0) ∧ Q r0 H) := by
 unfold F84 at h
 refine Good.enter' (fn := f84) func84 rfl rfl rfl (ws (wr_ (hv (v := iv 0) rfl (av rfl) (hn (nt (ws ?_))))))
 refine wr_ (hv (v := iv p0) rfl (mv rfl) (ho rfl (HOp.call' 88 [(iv p0)] (cap := []) rfl rfl call88 (walk88 h)) ?_))
 rintro _ H1 ⟨r3, rfl, h⟩
 refine hv (v := bv r3) rfl (av rfl) (hn (nt (ws (wr_ (hv (v := iv p1) rfl (mv rfl) (ho rfl (HOp.call' 88 [(iv p1)] (cap := []) rfl rfl call88 (walk88 h)) ?_))))))
 rintro _ H4 ⟨r6, rfl, h⟩
 refine hv (v := bv r6) rfl (av rfl) (hn (nt (ws (ws (wr_ (hv (v := bv r3) rfl (mv rfl) (hn (nt ?_))))))))
 obtain ⟨hT, hF⟩ := h
 refine wk r3 rfl (fun hb7 => ?_) (fun hb7 => ?_)
 ·have h := hT hb7
  refine ws (ws (wr_ (hv (v := bv r6) rfl (mv rfl) (hn (nt ?_)))))
  obtain ⟨hT, hF⟩ := h
  refine wk r6 rfl (fun hb8 => ?_) (fun hb8 => ?_)
  ·have h := hT hb8
   refine ws (wr_ (hv (v := iv 0) rfl (av rfl) (hn (nt (HW.ret (tr (tr ?_)))))))
   exact ⟨_, resOf1 rfl Res1.t, ⟨0, rfl, h⟩⟩
  have h := hF hb8
  refine wp_ (nt (ws (wr_ (hv (v := iv (-1)) rfl (av rfl) (hn (nt (HW.ret (tr ?_))))))))
  exact ⟨_, resOf1 rfl Res1.t, ⟨(-1), rfl, h⟩⟩
 have h := hF hb7
 refine wp_ (nt (ws (ws (wr_ (hv (v := bv r6) rfl (mv rfl) (hn (nt ?_)))))))
 obtain ⟨hT, hF⟩ := h
 refine wk r6 rfl (fun hb9 => ?_) (fun hb9 => ?_)
 ·have h := hT hb9
  refine ws (wr_ (hv (v := iv 1) rfl (av rfl) (hn (nt (HW.ret (tr ?_))))))
  exact ⟨_, resOf1 rfl Res1.t, ⟨1, rfl, h⟩⟩
 have h := hF hb9
 refine wp_ (nt (ws (ws (wr_ (hv (v := iv p0) rfl (mv rfl) (hv (v := iv p1) rfl (mv rfl) (hv (v := bv (decide (p0 < p1))) rfl (HVal.lss rfl rfl) ?_)))))))
 refine hn (nt ?_)
 obtain ⟨hT, hF⟩ := h
 refine wk (decide (p0 < p1)) rfl (fun hb10 => ?_) (fun hb10 => ?_)
 ·have h := hT hb10
  refine ws (wr_ (hv (v := iv (-1)) rfl (av rfl) (hn (nt (HW.ret (tr ?_))))))
  exact ⟨_, resOf1 rfl Res1.t, ⟨(-1), rfl, h⟩⟩
 have h := hF hb10
 refine wp_ (nt (ws (ws (wr_ (hv (v := iv p0) rfl (mv rfl) (hv (v := iv p1) rfl (mv rfl) (hv (v := bv (decide (p1 < p0))) rfl (HVal.gtr rfl rfl) ?_)))))))
 refine hn (nt ?_)
 obtain ⟨hT, hF⟩ := h
 refine wk (decide (p1 < p0)) rfl (fun hb11 => ?_) (fun hb11 => ?_)
 ·have h := hT hb11
  refine ws (wr_ (hv (v := iv 1) rfl (av rfl) (hn (nt (HW.ret (tr ?_))))))
  exact ⟨_, resOf1 rfl Res1.t, ⟨1, rfl, h⟩⟩
 have h := hF hb11
 refine wp_ (nt (ws (wr_ (hv (v := iv 0) rfl (av rfl) (hn (nt (HW.ret ?_)))))))
 exact ⟨_, resOf1 rfl Res1.t, ⟨0, rfl, h⟩⟩

def F89 (p0 : Int) (H : Hp) (Q : ZQB) : Prop :=
Q (decide (p0 ≠ p0)) H
theorem walk89 {w0 : World} {p0 : Int} {H : Hp} {Q : ZQB} (h : F89 p0 H Q) :
  Good prog w0 89 #[(iv p0)] H (fun v H => ∃ r0, v = (bv r0) ∧ Q r0 H) := by
 unfold F89 at h
 refine Good.enter' (fn := f89) func89 rfl rfl rfl (ws (wr_ (hv (v := bv false) rfl (av rfl) (hn (nt (ws ?_))))))
 refine wr_ (hv (v := iv p0) rfl (mv rfl) (hv (v := iv p0) rfl (mv rfl) (hv (v := bv (decide (p0 ≠ p0))) rfl (HVal.neqI rfl rfl) ?_)))
 refine hv (v := bv (decide (p0 ≠ p0))) rfl (av rfl) (hn (nt (HW.ret ?_)))
 exact ⟨_, resOf1 rfl Res1.t, ⟨(decide (p0 ≠ p0)), rfl, h⟩⟩

def F85 (p0 p1 : Int) (H : Hp) (Q : ZQI) : Prop :=
F89 p0 H (fun r3 H1 =>
 F89 p1 H1 (fun r6 H4 =>
 (r3 = true → ((r6 = true → (Q 0 H4)) ∧
 (r6 = false → (Q (-1) H4)))) ∧
 (r3 = false → ((r6 = true → (Q 1 H4)) ∧
 (r6 = false → ((decide (p0 < p1) = true → (Q (-1) H4)) ∧
 (decide (p0 < p1) = false → ((decide (p1 < p0) = true → (Q 1 H4)) ∧
 (decide (p1 < p0) = false → (Q 0 H4))))))))))
theorem walk85 {w0 : World} {p0 p1 : Int} {H : Hp} {Q : ZQI} (h : F85 p0 p1 H Q) :
  Good prog w0 85 #[(iv p0), (iv p1)] H (fun v H => ∃ r0, v = (iv r0) ∧ Q r0 H) := by
 unfold F85 at h
 refine Good.enter' (fn := f85) func85 rfl rfl rfl (ws (wr_ (hv (v := iv 0) rfl (av rfl) (hn (nt (ws ?_))))))
 refine wr_ (hv (v := iv p0) rfl (mv rfl) (ho rfl (HOp.call' 89 [(iv p0)] (cap := []) rfl rfl call89 (walk89 h)) ?_))
 rintro _ H1 ⟨r3, rfl, h⟩
 refine hv (v := bv r3) rfl (av rfl) (hn (nt (ws (wr_ (hv (v := iv p1) rfl (mv rfl) (ho rfl (HOp.call' 89 [(iv p1)] (cap := []) rfl rfl call89 (walk89 h)) ?_))))))
 rintro _ H4 ⟨r6, rfl, h⟩
 refine hv (v := bv r6) rfl (av rfl) (hn (nt (ws (ws (wr_ (hv (v := bv r3) rfl (mv rfl) (hn (nt ?_))))))))
 obtain ⟨hT, hF⟩ := h
 refine wk r3 rfl (fun hb7 => ?_) (fun hb7 => ?_)
 ·have h := hT hb7
  refine ws (ws (wr_ (hv (v := bv r6) rfl (mv rfl) (hn (nt ?_)))))
  obtain ⟨hT, hF⟩ := h
  refine wk r6 rfl (fun hb8 => ?_) (fun hb8 => ?_)
  ·have h := hT hb8
   refine ws (wr_ (hv (v := iv 0) rfl (av rfl) (hn (nt (HW.ret (tr (tr ?_)))))))
   exact ⟨_, resOf1 rfl Res1.t, ⟨0, rfl, h⟩⟩
  have h := hF hb8
  refine wp_ (nt (ws (wr_ (hv (v := iv (-1)) rfl (av rfl) (hn (nt (HW.ret (tr ?_))))))))
  exact ⟨_, resOf1 rfl Res1.t, ⟨(-1), rfl, h⟩⟩
 have h := hF hb7
 refine wp_ (nt (ws (ws (wr_ (hv (v := bv r6) rfl (mv rfl) (hn (nt ?_)))))))
 obtain ⟨hT, hF⟩ := h
 refine wk r6 rfl (fun hb9 => ?_) (fun hb9 => ?_)
 ·have h := hT hb9
  refine ws (wr_ (hv (v := iv 1) rfl (av rfl) (hn (nt (HW.ret (tr ?_))))))
  exact ⟨_, resOf1 rfl Res1.t, ⟨1, rfl, h⟩⟩
 have h := hF hb9
 refine wp_ (nt (ws (ws (wr_ (hv (v := iv p0) rfl (mv rfl) (hv (v := iv p1) rfl (mv rfl) (hv (v := bv (decide (p0 < p1))) rfl (HVal.lss rfl rfl) ?_)))))))
 refine hn (nt ?_)
 obtain ⟨hT, hF⟩ := h
 refine wk (decide (p0 < p1)) rfl (fun hb10 => ?_) (fun hb10 => ?_)
 ·have h := hT hb10
  refine ws (wr_ (hv (v := iv (-1)) rfl (av rfl) (hn (nt (HW.ret (tr ?_))))))
  exact ⟨_, resOf1 rfl Res1.t, ⟨(-1), rfl, h⟩⟩
 have h := hF hb10
 refine wp_ (nt (ws (ws (wr_ (hv (v := iv p0) rfl (mv rfl) (hv (v := iv p1) rfl (mv rfl) (hv (v := bv (decide (p1 < p0))) rfl (HVal.gtr rfl rfl) ?_)))))))
 refine hn (nt ?_)
 obtain ⟨hT, hF⟩ := h
 refine wk (decide (p1 < p0)) rfl (fun hb11 => ?_) (fun hb11 => ?_)
 ·have h := hT hb11
  refine ws (wr_ (hv (v := iv 1) rfl (av rfl) (hn (nt (HW.ret (tr ?_))))))
  exact ⟨_, resOf1 rfl Res1.t, ⟨1, rfl, h⟩⟩
 have h := hF hb11
 refine wp_ (nt (ws (wr_ (hv (v := iv 0) rfl (av rfl) (hn (nt (HW.ret ?_)))))))
 exact ⟨_, resOf1 rfl Res1.t, ⟨0, rfl, h⟩⟩

def F90 (p0 : ByteArray) (H : Hp) (Q : ZQB) : Prop :=
Q (!(seq p0 p0)) H
theorem walk90 {w0 : World} {p0 : ByteArray} {H : Hp} {Q : ZQB} (h : F90 p0 H Q) :
  Good prog w0 90 #[(sv p0)] H (fun v H => ∃ r0, v = (bv r0) ∧ Q r0 H) := by
 unfold F90 at h
 refine Good.enter' (fn := f90) func90 rfl rfl rfl (ws (wr_ (hv (v := bv false) rfl (av rfl) (hn (nt (ws ?_))))))
 refine wr_ (hv (v := sv p0) rfl (mv rfl) (hv (v := sv p0) rfl (mv rfl) (hv (v := bv (!(seq p0 p0))) rfl (HVal.neqS rfl rfl) ?_)))
 refine hv (v := bv (!(seq p0 p0))) rfl (av rfl) (hn (nt (HW.ret ?_)))
 exact ⟨_, resOf1 rfl Res1.t, ⟨(!(seq p0 p0)), rfl, h⟩⟩

def F86 (p0 p1 : ByteArray) (H : Hp) (Q : ZQI) : Prop :=
F90 p0 H (fun r3 H1 =>
 F90 p1 H1 (fun r6 H4 =>
 (r3 = true → ((r6 = true → (Q 0 H4)) ∧
 (r6 = false → (Q (-1) H4)))) ∧
 (r3 = false → ((r6 = true → (Q 1 H4)) ∧
 (r6 = false → (((slt p0 p1) = true → (Q (-1) H4)) ∧
 ((slt p0 p1) = false → (((!(slt p0 p1) && !(seq p0 p1)) = true → (Q 1 H4)) ∧
 ((!(slt p0 p1) && !(seq p0 p1)) = false → (Q 0 H4))))))))))
theorem walk86 {w0 : World} {p0 p1 : ByteArray} {H : Hp} {Q : ZQI} (h : F86 p0 p1 H Q) :
  Good prog w0 86 #[(sv p0), (sv p1)] H (fun v H => ∃ r0, v = (iv r0) ∧ Q r0 H) := by
 unfold F86 at h
 refine Good.enter' (fn := f86) func86 rfl rfl rfl (ws (wr_ (hv (v := iv 0) rfl (av rfl) (hn (nt (ws ?_))))))
 refine wr_ (hv (v := sv p0) rfl (mv rfl) (ho rfl (HOp.call' 90 [(sv p0)] (cap := []) rfl rfl call90 (walk90 h)) ?_))
 rintro _ H1 ⟨r3, rfl, h⟩
 refine hv (v := bv r3) rfl (av rfl) (hn (nt (ws (wr_ (hv (v := sv p1) rfl (mv rfl) (ho rfl (HOp.call' 90 [(sv p1)] (cap := []) rfl rfl call90 (walk90 h)) ?_))))))
 rintro _ H4 ⟨r6, rfl, h⟩
 refine hv (v := bv r6) rfl (av rfl) (hn (nt (ws (ws (wr_ (hv (v := bv r3) rfl (mv rfl) (hn (nt ?_))))))))
 obtain ⟨hT, hF⟩ := h
 refine wk r3 rfl (fun hb7 => ?_) (fun hb7 => ?_)
 ·have h := hT hb7
  refine ws (ws (wr_ (hv (v := bv r6) rfl (mv rfl) (hn (nt ?_)))))
  obtain ⟨hT, hF⟩ := h
  refine wk r6 rfl (fun hb8 => ?_) (fun hb8 => ?_)
  ·have h := hT hb8
   refine ws (wr_ (hv (v := iv 0) rfl (av rfl) (hn (nt (HW.ret (tr (tr ?_)))))))
   exact ⟨_, resOf1 rfl Res1.t, ⟨0, rfl, h⟩⟩
  have h := hF hb8
  refine wp_ (nt (ws (wr_ (hv (v := iv (-1)) rfl (av rfl) (hn (nt (HW.ret (tr ?_))))))))
  exact ⟨_, resOf1 rfl Res1.t, ⟨(-1), rfl, h⟩⟩
 have h := hF hb7
 refine wp_ (nt (ws (ws (wr_ (hv (v := bv r6) rfl (mv rfl) (hn (nt ?_)))))))
 obtain ⟨hT, hF⟩ := h
 refine wk r6 rfl (fun hb9 => ?_) (fun hb9 => ?_)
 ·have h := hT hb9
  refine ws (wr_ (hv (v := iv 1) rfl (av rfl) (hn (nt (HW.ret (tr ?_))))))
  exact ⟨_, resOf1 rfl Res1.t, ⟨1, rfl, h⟩⟩
 have h := hF hb9
 refine wp_ (nt (ws (ws (wr_ (hv (v := sv p0) rfl (mv rfl) (hv (v := sv p1) rfl (mv rfl) (hv (v := bv (slt p0 p1)) rfl (HVal.lssS rfl rfl) ?_)))))))
 refine hn (nt ?_)
 obtain ⟨hT, hF⟩ := h
 refine wk (slt p0 p1) rfl (fun hb10 => ?_) (fun hb10 => ?_)
 ·have h := hT hb10
  refine ws (wr_ (hv (v := iv (-1)) rfl (av rfl) (hn (nt (HW.ret (tr ?_))))))
  exact ⟨_, resOf1 rfl Res1.t, ⟨(-1), rfl, h⟩⟩
 have h := hF hb10
 refine wp_ (nt (ws (ws (wr_ (hv (v := sv p0) rfl (mv rfl) (hv (v := sv p1) rfl (mv rfl) (hv (v := bv (!(slt p0 p1) && !(seq p0 p1))) rfl (HVal.gtrS rfl rfl) ?_)))))))
 refine hn (nt ?_)
 obtain ⟨hT, hF⟩ := h
 refine wk (!(slt p0 p1) && !(seq p0 p1)) rfl (fun hb11 => ?_) (fun hb11 => ?_)
 ·have h := hT hb11
  refine ws (wr_ (hv (v := iv 1) rfl (av rfl) (hn (nt (HW.ret (tr ?_))))))
  exact ⟨_, resOf1 rfl Res1.t, ⟨1, rfl, h⟩⟩
 have h := hF hb11
 refine wp_ (nt (ws (wr_ (hv (v := iv 0) rfl (av rfl) (hn (nt (HW.ret ?_)))))))
 exact ⟨_, resOf1 rfl Res1.t, ⟨0, rfl, h⟩⟩

def F87 (p0 : Bool) (H : Hp) (Q : ZQI) : Prop :=
(p0 = true → (Q 1 H)) ∧
 (p0 = false → (Q 0 H))
theorem walk87 {w0 : World} {p0 : Bool} {H : Hp} {Q : ZQI} (h : F87 p0 H Q) :
  Good prog w0 87 #[(bv p0)] H (fun v H => ∃ r0, v = (iv r0) ∧ Q r0 H) := by
 unfold F87 at h
 refine Good.enter' (fn := f87) func87 rfl rfl rfl (ws (wr_ (hv (v := iv 0) rfl (av rfl) (hn (nt (ws ?_))))))
 refine ws (wr_ (hv (v := bv p0) rfl (mv rfl) (hn (nt ?_))))
 obtain ⟨hT, hF⟩ := h
 refine wk p0 rfl (fun hb1 => ?_) (fun hb1 => ?_)
 ·have h := hT hb1
  refine ws (wr_ (hv (v := iv 1) rfl (av rfl) (hn (nt (HW.ret (tr ?_))))))
  exact ⟨_, resOf1 rfl Res1.t, ⟨1, rfl, h⟩⟩
 have h := hF hb1
 refine wp_ (nt (ws (wr_ (hv (v := iv 0) rfl (av rfl) (hn (nt (HW.ret ?_)))))))
 exact ⟨_, resOf1 rfl Res1.t, ⟨0, rfl, h⟩⟩

def F82 (p0_0 p0_1 : Int) (p0_2 : ByteArray) (p0_3 : Bool) (p1_0 p1_1 : Int) (p1_2 : ByteArray) (p1_3 : Bool) (H : Hp) (Q : ZQI) : Prop :=
∀ H1, H1 = Array.push H (.cells (vR p0_0 p0_1 p0_2 p0_3).toArray 38) → (
 ∀ H3, H3 = Array.push H1 (.cells (vR p1_0 p1_1 p1_2 p1_3).toArray 38) → (
 ∃ x6, cell H3 (bk H) = some (iv x6) ∧ (
 ∃ x8, cell H3 (bk H1) = some (iv x8) ∧ (
 ∃ x10, cell H3 (Addr.add (bk H) 1) = some (iv x10) ∧ (
 ∃ x12, cell H3 (Addr.add (bk H1) 1) = some (iv x12) ∧ (
 ∃ x14, cell H3 (Addr.add (bk H) 2) = some (sv x14) ∧ (
 ∃ x16, cell H3 (Addr.add (bk H1) 2) = some (sv x16) ∧ (
 ∃ x18, cell H3 (Addr.add (bk H) 3) = some (bv x18) ∧ (
 ∃ x20, cell H3 (Addr.add (bk H1) 3) = some (bv x20) ∧ (
 F84 x6 x8 H3 (fun r23 H21 =>
 cell H21 (Addr.add (bk H1) 3) = some (bv x20) ∧ cell H21 (Addr.add (bk H) 3) = some (bv x18) ∧ cell H21 (Addr.add (bk H1) 2) = some (sv x16) ∧ cell H21 (Addr.add (bk H) 2) = some (sv x14) ∧ cell H21 (Addr.add (bk H1) 1) = some (iv x12) ∧ cell H21 (Addr.add (bk H) 1) = some (iv x10) ∧ (
 F85 x10 x12 H21 (fun r32 H30 =>
 cell H30 (Addr.add (bk H1) 3) = some (bv x20) ∧ cell H30 (Addr.add (bk H) 3) = some (bv x18) ∧ cell H30 (Addr.add (bk H1) 2) = some (sv x16) ∧ cell H30 (Addr.add (bk H) 2) = some (sv x14) ∧ (
 F86 x14 x16 H30 (fun r39 H37 =>
 cell H37 (Addr.add (bk H1) 3) = some (bv x20) ∧ cell H37 (Addr.add (bk H) 3) = some (bv x18) ∧ (
 F87 x18 H37 (fun r44 H42 =>
 cell H42 (Addr.add (bk H1) 3) = some (bv x20) ∧ (
 F87 x20 H42 (fun r48 H46 =>
 F84 r44 r48 H46 (fun r51 H49 =>
 ∀ H52, H52 = Array.push H49 (.cells #[(iv r23), (iv r32), (iv r39), (iv r51)] 3) → (
 F83 (Sl.mk (some (bk H49)) 4 4) H52 (fun r56 H54 =>
 Q r56 H54))))))))))))))))))))))
theorem walk82 {w0 : World} {p0_0 p0_1 : Int} {p0_2 : ByteArray} {p0_3 : Bool} {p1_0 p1_1 : Int} {p1_2 : ByteArray} {p1_3 : Bool} {H : Hp} {Q : ZQI} (h : F82 p0_0 p0_1 p0_2 p0_3 p1_0 p1_1 p1_2 p1_3 H Q) :
  Good prog w0 82 #[(.agg (vR p0_0 p0_1 p0_2 p0_3).toArray), (.agg (vR p1_0 p1_1 p1_2 p1_3).toArray)] H (fun v H => ∃ r0, v = (iv r0) ∧ Q r0 H) := by
 unfold F82 at h
 refine Good.enter' (fn := f82) func82 rfl rfl rfl (ws (wr_ (ho rfl (ob (v := .agg (vR p0_0 p0_1 p0_2 p0_3).toArray) rfl) ?_)))
 rintro _ H1 ⟨rfl, e2⟩
 replace h := h H1 e2
 refine ho rfl (ob (v := .agg (vR p1_0 p1_1 p1_2 p1_3).toArray) rfl) ?_
 rintro _ H3 ⟨rfl, e4⟩
 replace h := h H3 e4
 refine hv (v := iv 0) rfl (av rfl) (hn (nt (ws (HW.draw mixed [(0, some []), (1, some [4]), (2, some []), (3, some [4]), (5, some []), (6, some [9]), (7, some []), (8, some [9]), (10, some []), (11, some [14]), (12, some []), (13, some [14]), (15, some []), (16, some [17]), (18, some []), (19, some [20]), (4, none), (9, none), (14, none), (17, none), (20, none), (21, none), (22, none), (23, none), (24, some [])] rfl (by kernel_rfl) (by kernel_rfl) ?_))))
 refine pv (v := pp (bk H)) rfl rfl (fun _ => HVal.fieldAddr0 runUnderlying38 rfl rfl sizeOf3 rfl) ?_
 obtain ⟨x6, c5, h⟩ := h
 refine pl (v := iv x6) (fun X => cell X (bk H) = some (iv x6)) rfl rfl (fun _ hX => l1 isAgg3 rfl hX) c5 (pv (v := pp (bk H1)) rfl rfl (fun _ => HVal.fieldAddr0 runUnderlying38 rfl rfl sizeOf3 rfl) ?_)
 obtain ⟨x8, c7, h⟩ := h
 refine pl (v := iv x8) (fun X => cell X (bk H1) = some (iv x8)) rfl rfl (fun _ hX => l1 isAgg3 rfl hX) c7 (pv (v := pp (Addr.add (bk H) 1)) rfl rfl (fun _ => fa runUnderlying38 rfl rfl sizeOf2 rfl) ?_)
 obtain ⟨x10, c9, h⟩ := h
 refine pl (v := iv x10) (fun X => cell X (Addr.add (bk H) 1) = some (iv x10)) rfl rfl (fun _ hX => l1 isAgg2 rfl hX) c9 (pv (v := pp (Addr.add (bk H1) 1)) rfl rfl (fun _ => fa runUnderlying38 rfl rfl sizeOf2 rfl) ?_)
 obtain ⟨x12, c11, h⟩ := h
 refine pl (v := iv x12) (fun X => cell X (Addr.add (bk H1) 1) = some (iv x12)) rfl rfl (fun _ hX => l1 isAgg2 rfl hX) c11 (pv (v := pp (Addr.add (bk H) 2)) rfl rfl (fun _ => fa runUnderlying38 rfl rfl sizeOf9 rfl) ?_)
 obtain ⟨x14, c13, h⟩ := h
 refine pl (v := sv x14) (fun X => cell X (Addr.add (bk H) 2) = some (sv x14)) rfl rfl (fun _ hX => l1 isAgg9 rfl hX) c13 (pv (v := pp (Addr.add (bk H1) 2)) rfl rfl (fun _ => fa runUnderlying38 rfl rfl sizeOf9 rfl) ?_)
 obtain ⟨x16, c15, h⟩ := h
 refine pl (v := sv x16) (fun X => cell X (Addr.add (bk H1) 2) = some (sv x16)) rfl rfl (fun _ hX => l1 isAgg9 rfl hX) c15 (pv (v := pp (Addr.add (bk H) 3)) rfl rfl (fun _ => fa runUnderlying38 rfl rfl sizeOf4 rfl) ?_)
 obtain ⟨x18, c17, h⟩ := h
 refine pl (v := bv x18) (fun X => cell X (Addr.add (bk H) 3) = some (bv x18)) rfl rfl (fun _ hX => l1 isAgg4 rfl hX) c17 (pv (v := pp (Addr.add (bk H1) 3)) rfl rfl (fun _ => fa runUnderlying38 rfl rfl sizeOf4 rfl) ?_)
 obtain ⟨x20, c19, h⟩ := h
 refine pl (v := bv x20) (fun X => cell X (Addr.add (bk H1) 3) = some (bv x20)) rfl rfl (fun _ hX => l1 isAgg4 rfl hX) c19 (po rfl rfl (HOp.call' 84 [(iv x6), (iv x8)] (cap := []) rfl rfl call84 (walk84 h)) ?_)
 rintro _ H21 ⟨r23, rfl, h⟩
 obtain ⟨s24, s25, s26, s27, s28, s29, h⟩ := h
 refine ⟨SC_of ⟨fun _ => s24, fun _ => s25, fun _ => s26, fun _ => s27, fun _ => s28, fun _ => s29, nofun, nofun, trivial⟩, ?_⟩
 refine po rfl rfl (HOp.call' 85 [(iv x10), (iv x12)] (cap := []) rfl rfl call85 (walk85 h)) ?_
 rintro _ H30 ⟨r32, rfl, h⟩
 obtain ⟨s33, s34, s35, s36, h⟩ := h
 refine ⟨SC_of ⟨fun _ => s33, fun _ => s34, fun _ => s35, fun _ => s36, nofun, nofun, nofun, nofun, trivial⟩, ?_⟩
 refine po rfl rfl (HOp.call' 86 [(sv x14), (sv x16)] (cap := []) rfl rfl call86 (walk86 h)) ?_
 rintro _ H37 ⟨r39, rfl, h⟩
 obtain ⟨s40, s41, h⟩ := h
 refine ⟨SC_of ⟨fun _ => s40, fun _ => s41, nofun, nofun, nofun, nofun, nofun, nofun, trivial⟩, ?_⟩
 refine po rfl rfl (HOp.call' 87 [(bv x18)] (cap := []) rfl rfl call87 (walk87 h)) ?_
 rintro _ H42 ⟨r44, rfl, h⟩
 obtain ⟨s45, h⟩ := h
 refine ⟨SC_of ⟨fun _ => s45, nofun, nofun, nofun, nofun, nofun, nofun, nofun, trivial⟩, ?_⟩
 refine po rfl rfl (HOp.call' 87 [(bv x20)] (cap := []) rfl rfl call87 (walk87 h)) ?_
 rintro _ H46 ⟨r48, rfl, h⟩
 refine ⟨SC_of ⟨nofun, nofun, nofun, nofun, nofun, nofun, nofun, nofun, trivial⟩, ?_⟩
 refine po rfl rfl (HOp.call' 84 [(iv r44), (iv r48)] (cap := []) rfl rfl call84 (walk84 h)) ?_
 rintro _ H49 ⟨r51, rfl, h⟩
 refine ⟨SC_of ⟨nofun, nofun, nofun, nofun, nofun, nofun, nofun, nofun, trivial⟩, ?_⟩
 refine po rfl rfl (HOp.buildSlice' (zs := [(iv 0), (iv 0), (iv 0), (iv 0)]) (cs := [(iv r23), (iv r32), (iv r39), (iv r51)]) runUnderlying136 sizeOf3 zeroValue3 (by decide) (by kernel_rfl) rfl (by decide)) ?_
 rintro _ H52 ⟨rfl, e53⟩
 replace h := h H52 e53
 refine ⟨SC_of ⟨nofun, nofun, nofun, nofun, nofun, nofun, nofun, nofun, trivial⟩, ?_⟩
 refine po rfl rfl (HOp.call' 83 [(Sl.v (Sl.mk (some (bk H49)) 4 4))] (cap := []) rfl rfl call83 (walk83 h)) ?_
 rintro _ H54 ⟨r56, rfl, h⟩
 refine ⟨SC_of ⟨nofun, nofun, nofun, nofun, nofun, nofun, nofun, nofun, trivial⟩, ?_⟩
 refine pv (v := iv r56) rfl rfl (fun _ => av rfl) (HPlan.done (nt (HW.ret ?_)))
 exact ⟨_, resOf1 rfl Res1.t, ⟨r56, rfl, h⟩⟩

def F73_1 (Q : ZQB) (y27 : Bool) (H_1 : Hp) : Prop :=
Q y27 H_1
def F73_2 (Q : ZQB) (y18 : Int) (y24 : Bool) (H_2 : Hp) : Prop :=
(y24 = true → (F73_1 Q true H_2)) ∧
 (y24 = false → (F73_1 Q (decide (y18 < 0)) H_2))
def F73_3 (Q : ZQB) (y19 : Int) (y21 : Bool) (H_3 : Hp) : Prop :=
(y21 = true → (F73_1 Q true H_3)) ∧
 (y21 = false → (F73_1 Q (decide (y19 = 0)) H_3))
def F73 (p0 p1_0 p1_1 : Int) (p1_2 : ByteArray) (p1_3 : Bool) (p2_0 p2_1 : Int) (p2_2 : ByteArray) (p2_3 : Bool) (H : Hp) (Q : ZQB) : Prop :=
∀ H1, H1 = Array.push H (.cells (vR p1_0 p1_1 p1_2 p1_3).toArray 38) → (
 ∀ H3, H3 = Array.push H1 (.cells (vR p2_0 p2_1 p2_2 p2_3).toArray 38) → (
 ∃ x6 x7 x8 x9, cells H3 (bk H) (vR x6 x7 x8 x9) 0 ∧ (
 ∃ x11 x12 x13 x14, cells H3 (bk H1) (vR x11 x12 x13 x14) 0 ∧ (
 F82 x6 x7 x8 x9 x11 x12 x13 x14 H3 (fun r17 H15 =>
 (decide (p0 = 11) = true → (F73_3 Q r17 (decide ((0 : Int) < r17)) H15)) ∧
 (decide (p0 = 11) = false → ((decide (p0 = 6) = true → (F73_3 Q r17 false H15)) ∧
 (decide (p0 = 6) = false → ((decide (p0 = 9) = true → (F73_2 Q r17 (decide (r17 = 0)) H15)) ∧
 (decide (p0 = 9) = false → ((decide (p0 = 8) = true → (F73_2 Q r17 false H15)) ∧
 (decide (p0 = 8) = false → ((decide (p0 = 7) = true → (F73_1 Q (decide (r17 ≠ 0)) H15)) ∧
 (decide (p0 = 7) = false → ((decide (p0 = 10) = true → (F73_1 Q (decide ((0 : Int) < r17)) H15)) ∧
 (decide (p0 = 10) = false → ((decide (p0 = 12) = true → (∃ x31, cell H15 (Addr.add (bk H) 3) = some (bv x31) ∧ (
 (x31 = true → (∃ x35, cell H15 (Addr.add (bk H1) 3) = some (bv x35) ∧ (
 F73_1 Q x35 H15))) ∧
 (x31 = false → (F73_1 Q false H15))))) ∧
 (decide (p0 = 12) = false → ((decide (p0 = 13) = true → (∃ x38, cell H15 (Addr.add (bk H) 3) = some (bv x38) ∧ (
 (x38 = true → (F73_1 Q true H15)) ∧
 (x38 = false → (∃ x42, cell H15 (Addr.add (bk H1) 3) = some (bv x42) ∧ (
 F73_1 Q x42 H15)))))) ∧
 (decide (p0 = 13) = false → (F73_1 Q false H15)))))))))))))))))))))
theorem walk73 {w0 : World} {p0 p1_0 p1_1 : Int} {p1_2 : ByteArray} {p1_3 : Bool} {p2_0 p2_1 : Int} {p2_2 : ByteArray} {p2_3 : Bool} {H : Hp} {Q : ZQB} (h : F73 p0 p1_0 p1_1 p1_2 p1_3 p2_0 p2_1 p2_2 p2_3 H Q) :
  Good prog w0 73 #[(iv p0), (.agg (vR p1_0 p1_1 p1_2 p1_3).toArray), (.agg (vR p2_0 p2_1 p2_2 p2_3).toArray)] H (fun v H => ∃ r0, v = (bv r0) ∧ Q r0 H) := by
 unfold F73 at h
 refine Good.enter' (fn := f73) func73 rfl rfl rfl (ws (wr_ (ho rfl (ob (v := .agg (vR p1_0 p1_1 p1_2 p1_3).toArray) rfl) ?_)))
 rintro _ H1 ⟨rfl, e2⟩
 replace h := h H1 e2
 refine ho rfl (ob (v := .agg (vR p2_0 p2_1 p2_2 p2_3).toArray) rfl) ?_
 rintro _ H3 ⟨rfl, e4⟩
 replace h := h H3 e4
 refine hv (v := bv false) rfl (av rfl) (hn (nt (ws (wr_ (hv (v := bv false) rfl (av rfl) (hn (nt ?_)))))))
 refine ws (wr_ ?_)
 obtain ⟨x6, x7, x8, x9, c5, h⟩ := h
 refine hv (v := .agg (vR x6 x7 x8 x9).toArray) rfl (ln (vR x6 x7 x8 x9) isAgg38 sizeOf38 rfl c5) ?_
 obtain ⟨x11, x12, x13, x14, c10, h⟩ := h
 refine hv (v := .agg (vR x11 x12 x13 x14).toArray) rfl (ln (vR x11 x12 x13 x14) isAgg38 sizeOf38 rfl c10) (ho rfl (HOp.call' 82 [(.agg (vR x6 x7 x8 x9).toArray), (.agg (vR x11 x12 x13 x14).toArray)] (cap := []) rfl rfl call82 (walk82 h)) ?_)
 rintro _ H15 ⟨r17, rfl, h⟩
 refine hv (v := iv r17) rfl (av rfl) (hn (nt (wc (fun ρ H_1 => ∃ y27, Env.Is ρ [(7, (bv y27))] ∧ F73_1 Q y27 H_1) ?_ ?_)))
 ·refine ws (wr_ (hv (v := iv p0) rfl (mv rfl) (hn (nt (wb (ws (wb (ws (wb (ws (wb ?_)))))))))))
  refine ws (wb (wc (fun ρ H_2 => ∃ y24, Env.Is ρ [(8, (iv r17)), (7, (bv y24))] ∧ F73_2 Q r17 y24 H_2) ?_ ?_))
  ·refine wb (ws (wb (wc (fun ρ H_3 => ∃ y21, Env.Is ρ [(8, (iv r17)), (7, (bv y21))] ∧ F73_3 Q r17 y21 H_3) ?_ ?_)))
   ·refine wb (ws (wb (ws (ws (ws (wr_ (hv (v := bv (decide (p0 = 11))) rfl (HVal.eqlI rfl rfl) (hv (v := bv (decide (p0 = 11))) rfl (av rfl) ?_))))))))
    refine hn (nt ?_)
    obtain ⟨hT, hF⟩ := h
    refine wk (decide (p0 = 11)) rfl (fun hb20 => ?_) (fun hb20 => ?_)
    ·have h := hT hb20
     refine we (te (te (be (nt (wr_ (hv (v := iv r17) rfl (mv rfl) (hv (v := bv (decide ((0 : Int) < r17))) rfl (HVal.gtr rfl rfl) ?_)))))))
     refine hv (v := bv (decide ((0 : Int) < r17))) rfl (av rfl) (hn (nb (nt ?_)))
     exact ⟨(decide ((0 : Int) < r17)), (isp rfl), h⟩
    have h := hF hb20
    refine wp_ (nt (ws (ws (wr_ (hv (v := bv (decide (p0 = 6))) rfl (HVal.eqlI rfl rfl) (hv (v := bv (decide (p0 = 6))) rfl (av rfl) ?_))))))
    refine hn (nt ?_)
    obtain ⟨hT, hF⟩ := h
    refine wk (decide (p0 = 6)) rfl (fun hb22 => ?_) (fun hb22 => ?_)
    ·have h := hT hb22
     refine we (te (te (bx rfl (te (be (nt ?_))))))
     exact ⟨false, (isp rfl), h⟩
    have h := hF hb22
    refine wp_ (nt (ws (ws (wr_ (hv (v := bv (decide (p0 = 9))) rfl (HVal.eqlI rfl rfl) (hv (v := bv (decide (p0 = 9))) rfl (av rfl) ?_))))))
    refine hn (nt ?_)
    obtain ⟨hT, hF⟩ := h
    refine wk (decide (p0 = 9)) rfl (fun hb23 => ?_) (fun hb23 => ?_)
    ·have h := hT hb23
     refine we (te (te (bx rfl (te (bx rfl (te (be (nt (wr_ (hv (v := iv r17) rfl (mv rfl) (hv (v := bv (decide (r17 = 0))) rfl (HVal.eqlI rfl rfl) ?_)))))))))))
     refine hv (v := bv (decide (r17 = 0))) rfl (av rfl) (hn (nb (nt ?_)))
     exact ⟨(decide (r17 = 0)), (isp rfl), h⟩
    have h := hF hb23
    refine wp_ (nt (ws (ws (wr_ (hv (v := bv (decide (p0 = 8))) rfl (HVal.eqlI rfl rfl) (hv (v := bv (decide (p0 = 8))) rfl (av rfl) ?_))))))
    refine hn (nt ?_)
    obtain ⟨hT, hF⟩ := h
    refine wk (decide (p0 = 8)) rfl (fun hb25 => ?_) (fun hb25 => ?_)
    ·have h := hT hb25
     refine we (te (te (bx rfl (te (bx rfl (te (bx rfl (te (be (nt ?_))))))))))
     exact ⟨false, (isp rfl), h⟩
    have h := hF hb25
    refine wp_ (nt (ws (ws (wr_ (hv (v := bv (decide (p0 = 7))) rfl (HVal.eqlI rfl rfl) (hv (v := bv (decide (p0 = 7))) rfl (av rfl) ?_))))))
    refine hn (nt ?_)
    obtain ⟨hT, hF⟩ := h
    refine wk (decide (p0 = 7)) rfl (fun hb26 => ?_) (fun hb26 => ?_)
    ·have h := hT hb26
     refine we (te (te (bx rfl (te (bx rfl (te (bx rfl (te (bx rfl (te (be (nt (ws (wr_ (hv (v := iv r17) rfl (mv rfl) ?_)))))))))))))))
     refine hv (v := bv (decide (r17 ≠ 0))) rfl (HVal.neqI rfl rfl) (hv (v := bv (decide (r17 ≠ 0))) rfl (av rfl) (hn (nt ?_)))
     refine we (bx rfl (te (bx rfl (te (bx rfl (te (be (nt ?_))))))))
     exact ⟨(decide (r17 ≠ 0)), ⟨rfl, trivial⟩, h⟩
    have h := hF hb26
    refine wp_ (nt (ws (ws (wr_ (hv (v := bv (decide (p0 = 10))) rfl (HVal.eqlI rfl rfl) (hv (v := bv (decide (p0 = 10))) rfl (av rfl) ?_))))))
    refine hn (nt ?_)
    obtain ⟨hT, hF⟩ := h
    refine wk (decide (p0 = 10)) rfl (fun hb28 => ?_) (fun hb28 => ?_)
    ·have h := hT hb28
     refine we (te (te (bx rfl (te (bx rfl (te (bx rfl (te (bx rfl (te (bx rfl (te (be (nt (ws (wr_ (hv (v := iv r17) rfl (mv rfl) ?_)))))))))))))))))
     refine hv (v := bv (decide ((0 : Int) < r17))) rfl (HVal.gtr rfl rfl) (hv (v := bv (decide ((0 : Int) < r17))) rfl (av rfl) ?_)
     refine hn (nt (we (bx rfl (te (bx rfl (te (be (nt ?_))))))))
     exact ⟨(decide ((0 : Int) < r17)), ⟨rfl, trivial⟩, h⟩
    have h := hF hb28
    refine wp_ (nt (ws (ws (wr_ (hv (v := bv (decide (p0 = 12))) rfl (HVal.eqlI rfl rfl) (hv (v := bv (decide (p0 = 12))) rfl (av rfl) ?_))))))
    refine hn (nt ?_)
    obtain ⟨hT, hF⟩ := h
    refine wk (decide (p0 = 12)) rfl (fun hb29 => ?_) (fun hb29 => ?_)
    ·have h := hT hb29
     refine we (te (te (bx rfl (te (bx rfl (te (bx rfl (te (bx rfl (te (bx rfl (te (bx rfl (te (be (nt (ws (wr_ (hv (v := pp (Addr.add (bk H) 3)) rfl (fa runUnderlying38 rfl rfl sizeOf4 rfl) ?_)))))))))))))))))))
     obtain ⟨x31, c30, h⟩ := h
     refine hv (v := bv x31) rfl (l1 isAgg4 rfl c30) (hv (v := bv x31) rfl (mv rfl) ?_)
     obtain ⟨hT, hF⟩ := h
     rcases Bool.eq_false_or_eq_true x31 with hb32 | hb33
     ·have h := hT hb32
      refine hg (v := pp (Addr.add (bk H1) 3)) rfl rfl rfl rfl (cB hb32) (fa runUnderlying38 rfl rfl sizeOf4 rfl) ?_
      obtain ⟨x35, c34, h⟩ := h
      refine hg (v := bv x35) rfl rfl rfl rfl (cB hb32) (l1 isAgg4 rfl c34) (hv (v := bv x35) rfl (pt_ rfl hb32 rfl) ?_)
      refine hv (v := bv x35) rfl (av rfl) (hn (nt (we (bx rfl (te (be (nt ?_)))))))
      exact ⟨x35, ⟨rfl, trivial⟩, h⟩
     have h := hF hb33
     refine hs_ rfl rfl rfl rfl (cB hb33) (hs_ rfl rfl rfl rfl (cB hb33) (hv (v := bv false) rfl (pf_ rfl hb33 rfl) (hv (v := bv false) rfl (av rfl) ?_)))
     refine hn (nt (we (bx rfl (te (be (nt ?_))))))
     exact ⟨false, ⟨rfl, trivial⟩, h⟩
    have h := hF hb29
    refine wp_ (nt (ws (wr_ (hv (v := bv (decide (p0 = 13))) rfl (HVal.eqlI rfl rfl) (hv (v := bv (decide (p0 = 13))) rfl (av rfl) ?_)))))
    refine hn (nt ?_)
    obtain ⟨hT, hF⟩ := h
    refine wk (decide (p0 = 13)) rfl (fun hb36 => ?_) (fun hb36 => ?_)
    ·have h := hT hb36
     refine we (te (bx rfl (te (bx rfl (te (bx rfl (te (bx rfl (te (bx rfl (te (bx rfl (te (bx rfl (te (be (nt (ws (wr_ (hv (v := pp (Addr.add (bk H) 3)) rfl (fa runUnderlying38 rfl rfl sizeOf4 rfl) ?_))))))))))))))))))))
     obtain ⟨x38, c37, h⟩ := h
     refine hv (v := bv x38) rfl (l1 isAgg4 rfl c37) (hv (v := bv x38) rfl (mv rfl) ?_)
     obtain ⟨hT, hF⟩ := h
     rcases Bool.eq_false_or_eq_true x38 with hb39 | hb40
     ·have h := hT hb39
      refine hs_ rfl rfl rfl rfl (cB hb39) (hs_ rfl rfl rfl rfl (cB hb39) (hv (v := bv true) rfl (pt_ rfl hb39 rfl) (hv (v := bv true) rfl (av rfl) ?_)))
      refine hn (nt (we (be (nt ?_))))
      exact ⟨true, ⟨rfl, trivial⟩, h⟩
     have h := hF hb40
     refine hg (v := pp (Addr.add (bk H1) 3)) rfl rfl rfl rfl (cB hb40) (fa runUnderlying38 rfl rfl sizeOf4 rfl) ?_
     obtain ⟨x42, c41, h⟩ := h
     refine hg (v := bv x42) rfl rfl rfl rfl (cB hb40) (l1 isAgg4 rfl c41) (hv (v := bv x42) rfl (pf_ rfl hb40 rfl) ?_)
     refine hv (v := bv x42) rfl (av rfl) (hn (nt (we (be (nt ?_)))))
     exact ⟨x42, ⟨rfl, trivial⟩, h⟩
    have h := hF hb36
    refine wp_ (nt (we (bx rfl (te (bx rfl (te (bx rfl (te (bx rfl (te (bx rfl (te (bx rfl (te (bx rfl (te (bx rfl (te (be (nt ?_))))))))))))))))))))
    exact ⟨false, ⟨rfl, trivial⟩, h⟩
   rintro ρ H_3 ⟨y21, hI, h⟩
   obtain ⟨ρ0, rfl⟩ := hI.ex
   clear hI; unfold F73_3 at h
   refine ws (wr_ (hv (v := bv y21) rfl (mv rfl) (hv (v := bv y21) rfl (mv rfl) ?_)))
   obtain ⟨hT, hF⟩ := h
   rcases Bool.eq_false_or_eq_true y21 with hb43 | hb44
   ·have h := hT hb43
    refine hs_ rfl rfl rfl rfl (cB hb43) (hs_ rfl rfl rfl rfl (cB hb43) (hv (v := bv true) rfl (pt_ rfl hb43 rfl) (hv (v := bv true) rfl (av rfl) ?_)))
    refine hn (nt (we (bx rfl (te (bx rfl (te (bx rfl (te (bx rfl (te (bx rfl (te (bx rfl (te (be (nt ?_))))))))))))))))
    exact ⟨true, ⟨rfl, trivial⟩, h⟩
   have h := hF hb44
   refine hg (v := iv r17) rfl rfl rfl rfl (cB hb44) (mv rfl) (hg (v := bv (decide (r17 = 0))) rfl rfl rfl rfl (cB hb44) (HVal.eqlI rfl rfl) ?_)
   refine hv (v := bv (decide (r17 = 0))) rfl (pf_ rfl hb44 rfl) (hv (v := bv (decide (r17 = 0))) rfl (av rfl) (hn (nt ?_)))
   refine we (bx rfl (te (bx rfl (te (bx rfl (te (bx rfl (te (bx rfl (te (bx rfl (te (be (nt ?_))))))))))))))
   exact ⟨(decide (r17 = 0)), ⟨rfl, trivial⟩, h⟩
  rintro ρ H_2 ⟨y24, hI, h⟩
  obtain ⟨ρ0, rfl⟩ := hI.ex
  clear hI; unfold F73_2 at h
  refine ws (wr_ (hv (v := bv y24) rfl (mv rfl) (hv (v := bv y24) rfl (mv rfl) ?_)))
  obtain ⟨hT, hF⟩ := h
  rcases Bool.eq_false_or_eq_true y24 with hb45 | hb46
  ·have h := hT hb45
   refine hs_ rfl rfl rfl rfl (cB hb45) (hs_ rfl rfl rfl rfl (cB hb45) (hv (v := bv true) rfl (pt_ rfl hb45 rfl) (hv (v := bv true) rfl (av rfl) ?_)))
   refine hn (nt (we (bx rfl (te (bx rfl (te (bx rfl (te (bx rfl (te (be (nt ?_))))))))))))
   exact ⟨true, ⟨rfl, trivial⟩, h⟩
  have h := hF hb46
  refine hg (v := iv r17) rfl rfl rfl rfl (cB hb46) (mv rfl) (hg (v := bv (decide (r17 < 0))) rfl rfl rfl rfl (cB hb46) (HVal.lss rfl rfl) ?_)
  refine hv (v := bv (decide (r17 < 0))) rfl (pf_ rfl hb46 rfl) (hv (v := bv (decide (r17 < 0))) rfl (av rfl) (hn (nt ?_)))
  refine we (bx rfl (te (bx rfl (te (bx rfl (te (bx rfl (te (be (nt ?_))))))))))
  exact ⟨(decide (r17 < 0)), ⟨rfl, trivial⟩, h⟩
 rintro ρ H_1 ⟨y27, hI, h⟩
 obtain ⟨ρ0, rfl⟩ := hI.ex
 clear hI; unfold F73_1 at h
 refine ws (wr_ (hv (v := bv y27) rfl (mv rfl) (hv (v := bv y27) rfl (av rfl) (hn (nt (HW.ret ?_))))))
 exact ⟨_, resOf1 rfl Res1.t, ⟨y27, rfl, h⟩⟩

def F59 (p0 p1_0 p1_1 : Int) (p1_2 : ByteArray) (p1_3 : Bool) (p2_0 p2_1 : Int) (p2_2 : ByteArray) (p2_3 : Bool) (H : Hp) (Q : ZQV) : Prop :=
∀ H1, H1 = Array.push H (.cells (vR p1_0 p1_1 p1_2 p1_3).toArray 38) → (
 ∀ H3, H3 = Array.push H1 (.cells (vR p2_0 p2_1 p2_2 p2_3).toArray 38) → (
 ∀ H5, H5 = Array.push H3 (.cells (vR 0 0 bE false).toArray 38) → (
 ∃ x8 x9 x10 x11, cells H5 (bk H) (vR x8 x9 x10 x11) 0 ∧ (
 ∃ x13 x14 x15 x16, cells H5 (bk H1) (vR x13 x14 x15 x16) 0 ∧ (
 ∀ H17, H17 = Array.push H5 (.cells #[(iv x8), (iv x9), (sv x10), (bv x11), (iv x13), (iv x14), (sv x15), (bv x16)] 38) → (
 F72 p0 3 13 (Sl.mk (some (bk H5)) 2 2) H17 (fun r21 H19 =>
 (decide (r21 ≠ 0) = true → (mayw H19 (bk H3) 4 0 ∧ ∀ H23, H23 = sets H19 (bk H3) (vR 0 0 bE false) 0 → (
 ∃ x26 x27 x28 x29, cells H23 (bk H3) (vR x26 x27 x28 x29) 0 ∧ (
 Q x26 x27 x28 x29 r21 H23)))) ∧
 (decide (r21 ≠ 0) = false → ((decide (p0 = 3) = true → (∃ x33, cell H19 (Addr.add (bk H) 1) = some (iv x33) ∧ (
 ∃ x35, cell H19 (Addr.add (bk H1) 1) = some (iv x35) ∧ (
 F60 (IntKind.i64.wrap (x33 + x35)) H19 (fun r38 r39 r40 r41 H36 =>
 mayw H36 (bk H3) 4 0 ∧ ∀ H42, H42 = sets H36 (bk H3) (vR r38 r39 r40 r41) 0 → (
 ∃ x45 x46 x47 x48, cells H42 (bk H3) (vR x45 x46 x47 x48) 0 ∧ (
 Q x45 x46 x47 x48 0 H42))))))) ∧
 (decide (p0 = 3) = false → ((decide (p0 = 4) = true → (∃ x52, cell H19 (Addr.add (bk H) 1) = some (iv x52) ∧ (
 ∃ x54, cell H19 (Addr.add (bk H1) 1) = some (iv x54) ∧ (
 F60 (IntKind.i64.wrap (x52 - x54)) H19 (fun r57 r58 r59 r60 H55 =>
 mayw H55 (bk H3) 4 0 ∧ ∀ H61, H61 = sets H55 (bk H3) (vR r57 r58 r59 r60) 0 → (
 ∃ x64 x65 x66 x67, cells H61 (bk H3) (vR x64 x65 x66 x67) 0 ∧ (
 Q x64 x65 x66 x67 0 H61))))))) ∧
 (decide (p0 = 4) = false → ((decide (p0 = 5) = true → (∃ x71, cell H19 (Addr.add (bk H) 1) = some (iv x71) ∧ (
 ∃ x73, cell H19 (Addr.add (bk H1) 1) = some (iv x73) ∧ (
 F60 (IntKind.i64.wrap (x71 * x73)) H19 (fun r76 r77 r78 r79 H74 =>
 mayw H74 (bk H3) 4 0 ∧ ∀ H80, H80 = sets H74 (bk H3) (vR r76 r77 r78 r79) 0 → (
 ∃ x83 x84 x85 x86, cells H80 (bk H3) (vR x83 x84 x85 x86) 0 ∧ (
 Q x83 x84 x85 x86 0 H80))))))) ∧
 (decide (p0 = 5) = false → (∃ x89 x90 x91 x92, cells H19 (bk H) (vR x89 x90 x91 x92) 0 ∧ (
 ∃ x94 x95 x96 x97, cells H19 (bk H1) (vR x94 x95 x96 x97) 0 ∧ (
 F73 p0 x89 x90 x91 x92 x94 x95 x96 x97 H19 (fun r100 H98 =>
 F62 r100 H98 (fun r103 r104 r105 r106 H101 =>
 mayw H101 (bk H3) 4 0 ∧ ∀ H107, H107 = sets H101 (bk H3) (vR r103 r104 r105 r106) 0 → (
 ∃ x110 x111 x112 x113, cells H107 (bk H3) (vR x110 x111 x112 x113) 0 ∧ (
 Q x110 x111 x112 x113 0 H107)))))))))))))))))))))
theorem walk59 {w0 : World} {p0 p1_0 p1_1 : Int} {p1_2 : ByteArray} {p1_3 : Bool} {p2_0 p2_1 : Int} {p2_2 : ByteArray} {p2_3 : Bool} {H : Hp} {Q : ZQV} (h : F59 p0 p1_0 p1_1 p1_2 p1_3 p2_0 p2_1 p2_2 p2_3 H Q) :
  Good prog w0 59 #[(iv p0), (.agg (vR p1_0 p1_1 p1_2 p1_3).toArray), (.agg (vR p2_0 p2_1 p2_2 p2_3).toArray)] H (fun v H => ∃ r0 r1 r2 r3 r4, v = (.tuple #[(.agg (vR r0 r1 r2 r3).toArray), (iv r4)]) ∧ Q r0 r1 r2 r3 r4 H) := by
 unfold F59 at h
 refine Good.enter' (fn := f59) func59 rfl rfl rfl (ws (wr_ (ho rfl (ob (v := .agg (vR p1_0 p1_1 p1_2 p1_3).toArray) rfl) ?_)))
 rintro _ H1 ⟨rfl, e2⟩
 replace h := h H1 e2
 refine ho rfl (ob (v := .agg (vR p2_0 p2_1 p2_2 p2_3).toArray) rfl) ?_
 rintro _ H3 ⟨rfl, e4⟩
 replace h := h H3 e4
 refine ho rfl (HOp.alloc zeroValue38) ?_
 rintro _ H5 ⟨rfl, e6⟩
 replace h := h H5 e6
 refine hv (v := iv 0) rfl (av rfl) (hn (nt (ws (ws (wr_ (hv (v := iv p0) rfl (mv rfl) ?_))))))
 obtain ⟨x8, x9, x10, x11, c7, h⟩ := h
 refine hv (v := .agg (vR x8 x9 x10 x11).toArray) rfl (ln (vR x8 x9 x10 x11) isAgg38 sizeOf38 rfl c7) ?_
 obtain ⟨x13, x14, x15, x16, c12, h⟩ := h
 refine hv (v := .agg (vR x13 x14 x15 x16).toArray) rfl (ln (vR x13 x14 x15 x16) isAgg38 sizeOf38 rfl c12) (ho rfl (HOp.buildSlice' (zs := [(iv 0), (iv 0), (sv bE), (bv false), (iv 0), (iv 0), (sv bE), (bv false)]) (cs := [(iv x8), (iv x9), (sv x10), (bv x11), (iv x13), (iv x14), (sv x15), (bv x16)]) runUnderlying34 sizeOf38 zeroValue38 (by decide) (by kernel_rfl) (by kernel_rfl) (by decide)) ?_)
 rintro _ H17 ⟨rfl, e18⟩
 replace h := h H17 e18
 refine ho rfl (HOp.call' 72 [(iv p0), (iv 3), (iv 13), (Sl.v (Sl.mk (some (bk H5)) 2 2))] (cap := []) rfl rfl call72 (walk72 h)) ?_
 rintro _ H19 ⟨r21, rfl, h⟩
 refine hv (v := iv r21) rfl (av rfl) (hn (nt (ws (wr_ (hv (v := iv r21) rfl (mv rfl) (hv (v := bv (decide (r21 ≠ 0))) rfl (HVal.neqI rfl rfl) ?_))))))
 refine hn (nt ?_)
 obtain ⟨hT, hF⟩ := h
 refine wk (decide (r21 ≠ 0)) rfl (fun hb22 => ?_) (fun hb22 => ?_)
 ·have h := hT hb22
  refine ws (wr_ (hv (v := .agg (vR 0 0 bE false).toArray) rfl (HVal.build' (cs := (vR 0 0 bE false)) runUnderlying38 zeroValue38 places38 rfl) ?_))
  refine hv (v := iv r21) rfl (mv rfl) ?_
  obtain ⟨z25, h⟩ := h
  refine hq (HOp.storeN' (l := (vR 0 0 bE false)) sizeOf38 rfl rfl rfl z25) ?_
  rintro _ H23 e24
  replace h := h H23 e24
  refine hv (v := iv r21) rfl (av rfl) (hn (nt (HW.ret (tr ?_))))
  obtain ⟨x26, x27, x28, x29, c30, h⟩ := h
  exact ⟨_, resOf2 rfl (Res1.n (vR x26 x27 x28 x29) isAgg38 sizeOf38 rfl c30) Res1.t, ⟨x26, x27, x28, x29, r21, rfl, h⟩⟩
 have h := hF hb22
 refine wp_ (nt (ws (ws (wr_ (hv (v := iv p0) rfl (mv rfl) (hn (nt (wb (ws (wr_ (hv (v := bv (decide (p0 = 3))) rfl (HVal.eqlI rfl rfl) ?_)))))))))))
 refine hv (v := bv (decide (p0 = 3))) rfl (av rfl) (hn (nt ?_))
 obtain ⟨hT, hF⟩ := h
 refine wk (decide (p0 = 3)) rfl (fun hb31 => ?_) (fun hb31 => ?_)
 ·have h := hT hb31
  refine ws (wr_ (hv (v := pp (Addr.add (bk H) 1)) rfl (fa runUnderlying38 rfl rfl sizeOf2 rfl) ?_))
  obtain ⟨x33, c32, h⟩ := h
  refine hv (v := iv x33) rfl (l1 isAgg2 rfl c32) (hv (v := pp (Addr.add (bk H1) 1)) rfl (fa runUnderlying38 rfl rfl sizeOf2 rfl) ?_)
  obtain ⟨x35, c34, h⟩ := h
  refine hv (v := iv x35) rfl (l1 isAgg2 rfl c34) (hv (v := iv (IntKind.i64.wrap (x33 + x35))) rfl (HVal.add rfl rfl) (ho rfl (HOp.call' 60 [(iv (IntKind.i64.wrap (x33 + x35)))] (cap := []) rfl rfl call60 (walk60 h)) ?_))
  rintro _ H36 ⟨r38, r39, r40, r41, rfl, h⟩
  obtain ⟨z44, h⟩ := h
  refine hq (HOp.storeN' (l := (vR r38 r39 r40 r41)) sizeOf38 rfl rfl rfl z44) ?_
  rintro _ H42 e43
  replace h := h H42 e43
  refine hv (v := iv 0) rfl (av rfl) (hn (nt (HW.ret (br (tr ?_)))))
  obtain ⟨x45, x46, x47, x48, c49, h⟩ := h
  exact ⟨_, resOf2 rfl (Res1.n (vR x45 x46 x47 x48) isAgg38 sizeOf38 rfl c49) Res1.t, ⟨x45, x46, x47, x48, 0, rfl, h⟩⟩
 have h := hF hb31
 refine ws (wr_ (hv (v := bv (decide (p0 = 4))) rfl (HVal.eqlI rfl rfl) (hv (v := bv (decide (p0 = 4))) rfl (av rfl) ?_)))
 refine hn (nt ?_)
 obtain ⟨hT, hF⟩ := h
 refine wk (decide (p0 = 4)) rfl (fun hb50 => ?_) (fun hb50 => ?_)
 ·have h := hT hb50
  refine ws (wr_ (hv (v := pp (Addr.add (bk H) 1)) rfl (fa runUnderlying38 rfl rfl sizeOf2 rfl) ?_))
  obtain ⟨x52, c51, h⟩ := h
  refine hv (v := iv x52) rfl (l1 isAgg2 rfl c51) (hv (v := pp (Addr.add (bk H1) 1)) rfl (fa runUnderlying38 rfl rfl sizeOf2 rfl) ?_)
  obtain ⟨x54, c53, h⟩ := h
  refine hv (v := iv x54) rfl (l1 isAgg2 rfl c53) (hv (v := iv (IntKind.i64.wrap (x52 - x54))) rfl (HVal.sub rfl rfl) (ho rfl (HOp.call' 60 [(iv (IntKind.i64.wrap (x52 - x54)))] (cap := []) rfl rfl call60 (walk60 h)) ?_))
  rintro _ H55 ⟨r57, r58, r59, r60, rfl, h⟩
  obtain ⟨z63, h⟩ := h
  refine hq (HOp.storeN' (l := (vR r57 r58 r59 r60)) sizeOf38 rfl rfl rfl z63) ?_
  rintro _ H61 e62
  replace h := h H61 e62
  refine hv (v := iv 0) rfl (av rfl) (hn (nt (HW.ret (br (tr ?_)))))
  obtain ⟨x64, x65, x66, x67, c68, h⟩ := h
  exact ⟨_, resOf2 rfl (Res1.n (vR x64 x65 x66 x67) isAgg38 sizeOf38 rfl c68) Res1.t, ⟨x64, x65, x66, x67, 0, rfl, h⟩⟩
 have h := hF hb50
 refine ws (wr_ (hv (v := bv (decide (p0 = 5))) rfl (HVal.eqlI rfl rfl) (hv (v := bv (decide (p0 = 5))) rfl (av rfl) ?_)))
 refine hn (nt ?_)
 obtain ⟨hT, hF⟩ := h
 refine wk (decide (p0 = 5)) rfl (fun hb69 => ?_) (fun hb69 => ?_)
 ·have h := hT hb69
  refine ws (wr_ (hv (v := pp (Addr.add (bk H) 1)) rfl (fa runUnderlying38 rfl rfl sizeOf2 rfl) ?_))
  obtain ⟨x71, c70, h⟩ := h
  refine hv (v := iv x71) rfl (l1 isAgg2 rfl c70) (hv (v := pp (Addr.add (bk H1) 1)) rfl (fa runUnderlying38 rfl rfl sizeOf2 rfl) ?_)
  obtain ⟨x73, c72, h⟩ := h
  refine hv (v := iv x73) rfl (l1 isAgg2 rfl c72) (hv (v := iv (IntKind.i64.wrap (x71 * x73))) rfl (HVal.mul rfl rfl) (ho rfl (HOp.call' 60 [(iv (IntKind.i64.wrap (x71 * x73)))] (cap := []) rfl rfl call60 (walk60 h)) ?_))
  rintro _ H74 ⟨r76, r77, r78, r79, rfl, h⟩
  obtain ⟨z82, h⟩ := h
  refine hq (HOp.storeN' (l := (vR r76 r77 r78 r79)) sizeOf38 rfl rfl rfl z82) ?_
  rintro _ H80 e81
  replace h := h H80 e81
  refine hv (v := iv 0) rfl (av rfl) (hn (nt (HW.ret (br (tr ?_)))))
  obtain ⟨x83, x84, x85, x86, c87, h⟩ := h
  exact ⟨_, resOf2 rfl (Res1.n (vR x83 x84 x85 x86) isAgg38 sizeOf38 rfl c87) Res1.t, ⟨x83, x84, x85, x86, 0, rfl, h⟩⟩
 have h := hF hb69
 refine wp_ (nb (nt (ws (wr_ (hv (v := iv p0) rfl (mv rfl) ?_)))))
 obtain ⟨x89, x90, x91, x92, c88, h⟩ := h
 refine hv (v := .agg (vR x89 x90 x91 x92).toArray) rfl (ln (vR x89 x90 x91 x92) isAgg38 sizeOf38 rfl c88) ?_
 obtain ⟨x94, x95, x96, x97, c93, h⟩ := h
 refine hv (v := .agg (vR x94 x95 x96 x97).toArray) rfl (ln (vR x94 x95 x96 x97) isAgg38 sizeOf38 rfl c93) (ho rfl (HOp.call' 73 [(iv p0), (.agg (vR x89 x90 x91 x92).toArray), (.agg (vR x94 x95 x96 x97).toArray)] (cap := []) rfl rfl call73 (walk73 h)) ?_)
 rintro _ H98 ⟨r100, rfl, h⟩
 refine ho rfl (HOp.call' 62 [(bv r100)] (cap := []) rfl rfl call62 (walk62 h)) ?_
 rintro _ H101 ⟨r103, r104, r105, r106, rfl, h⟩
 obtain ⟨z109, h⟩ := h
 refine hq (HOp.storeN' (l := (vR r103 r104 r105 r106)) sizeOf38 rfl rfl rfl z109) ?_
 rintro _ H107 e108
 replace h := h H107 e108
 refine hv (v := iv 0) rfl (av rfl) (hn (nt (HW.ret ?_)))
 obtain ⟨x110, x111, x112, x113, c114, h⟩ := h
 exact ⟨_, resOf2 rfl (Res1.n (vR x110 x111 x112 x113) isAgg38 sizeOf38 rfl c114) Res1.t, ⟨x110, x111, x112, x113, 0, rfl, h⟩⟩

def F24_1 (X : Sl → Int → Hp → (ZQI) → Prop) (Q : ZQI) (y16 : Int) (H_1 : Hp) : Prop :=
Q y16 H_1
def F24_L2b (X : Sl → Int → Hp → (ZQI) → Prop) (Q : ZQI) (X2 : Int → ZQI) (y3 : Sl) (y1 y2 : Int) (H_2 : Hp) : Prop :=
((decide (y2 < ((y3).n : Int))) = true → (((decide ((0 : Int) ≤ y1)) = true → (∃ a7, (y3).b = some a7 ∧ (0 : Int) ≤ y2 ∧ y2 < ((y3).n : Int) ∧ (
 ∃ x12, cell H_2 (Addr.add (Addr.add a7 (y2.toNat * 10)) 9) = some (Sl.v x12) ∧ (
 X x12 (IntKind.i64.wrap (y1 - 1)) H_2 (fun r15 H13 =>
 X2 r15 (IntKind.i64.wrap (y2 + 1)) H13))))) ∧
 ((decide ((0 : Int) ≤ y1)) = false → (F24_1 X Q y1 H_2)))) ∧
 ((decide (y2 < ((y3).n : Int))) = false → (F24_1 X Q y1 H_2))
def F24_L2 (X : Sl → Int → Hp → (ZQI) → Prop) (Q : ZQI) (y3 : Sl) (y1 y2 : Int) (H_2 : Hp) : Prop :=
 ∀ X2 : Int → ZQI, (∀ (y1 y2 : Int) (H_2 : Hp), F24_L2b X Q X2 y3 y1 y2 H_2 → X2 y1 y2 H_2) → X2 y1 y2 H_2
def F24b (X : Sl → Int → Hp → (ZQI) → Prop) (p0 : Sl) (p1 : Int) (H : Hp) (Q : ZQI) : Prop :=
F24_L2 X Q p0 p1 0 H
def F24 (p0 : Sl) (p1 : Int) (H : Hp) (Q : ZQI) : Prop :=
 ∀ X : Sl → Int → Hp → (ZQI) → Prop, (∀ (p0 : Sl) (p1 : Int) (H : Hp) (Q : ZQI), F24b X p0 p1 H Q → X p0 p1 H Q) → X p0 p1 H Q
theorem walk24 {w0 : World} {p0 : Sl} {p1 : Int} {H : Hp} {Q : ZQI} (h : F24 p0 p1 H Q) :
  Good prog w0 24 #[(Sl.v p0), (iv p1)] H (fun v H => ∃ r0, v = (iv r0) ∧ Q r0 H) := by
 obtain ⟨X, hX⟩ : ∃ X : Sl → Int → Hp → (ZQI) → Prop, ∀ (p0 : Sl) (p1 : Int) (H : Hp) (Q : ZQI), X p0 p1 H Q ↔ Good prog w0 24 #[(Sl.v p0), (iv p1)] H (fun v H => ∃ r0, v = (iv r0) ∧ Q r0 H) := ⟨_, fun _ _ _ _ => Iff.rfl⟩
 refine (hX _ _ _ _).1 (h X ?_)
 clear h
 intro p0 p1 H Q h
 refine (hX _ _ _ _).2 ?_
 unfold F24b at h
 refine Good.enter' (fn := f24) func24 rfl rfl rfl (ws (wr_ (hv (v := iv 0) rfl (av rfl) (hn (nt (wc (fun ρ H_1 => ∃ y16, Env.Is ρ [(1, (iv y16))] ∧ F24_1 X Q y16 H_1) ?_ ?_))))))
 ·refine ws (wr_ (hv (v := iv 0) rfl (av rfl) (hn (nt (wb (HW.loop' (fun L2 hL2 => ?_)))))))
  obtain ⟨X2, hX2⟩ : ∃ X2 : Int → ZQI, ∀ (y1 y2 : Int) (H_2 : Hp), X2 y1 y2 H_2 ↔ ∀ ρ, Env.Is ρ [(0, (Sl.v p0)), (1, (iv y1)), (5, (iv y2))] → L2 ρ H_2 := ⟨_, fun _ _ _ => Iff.rfl⟩
  refine (hX2 _ _ _).1 (h X2 ?_) _ ?_
  rotate_left
  ·exact (isp rfl)
  clear h
  intro y1 y2 H_2 h
  refine (hX2 _ _ _).2 fun ρ hI => ?_
  obtain ⟨ρ0, rfl⟩ := hI.ex
  clear hI; unfold F24_L2b at h; refine hL2 _ _ ?_
  refine ws (ws (wr_ (hv (v := iv y2) rfl (mv rfl) (hv (v := Sl.v p0) rfl (mv rfl) (hv (v := iv ((p0).n : Int)) rfl (HVal.len runUnderlying39 rfl) ?_)))))
  refine hv (v := bv (decide (y2 < ((p0).n : Int)))) rfl (HVal.lss rfl rfl) (hv (v := bv (decide (y2 < ((p0).n : Int)))) rfl (mv rfl) ?_)
  obtain ⟨hT, hF⟩ := h
  rcases Bool.eq_false_or_eq_true (decide (y2 < ((p0).n : Int))) with hb4 | hb5
  ·have h := hT hb4
   refine hg (v := iv y1) rfl rfl rfl rfl (cB hb4) (mv rfl) (hg (v := bv (decide ((0 : Int) ≤ y1))) rfl rfl rfl rfl (cB hb4) (HVal.geq rfl rfl) ?_)
   refine hv (v := bv (decide ((0 : Int) ≤ y1))) rfl (pt_ rfl hb4 rfl) (hn (nt ?_))
   obtain ⟨hT, hF⟩ := h
   refine wk (decide ((0 : Int) ≤ y1)) rfl (fun hb6 => ?_) (fun hb6 => ?_)
   ·have h := hT hb6
    refine wp_ (nt (ws (wb (wr_ (hv (v := Sl.v p0) rfl (mv rfl) (hv (v := iv y2) rfl (mv rfl) ?_))))))
    obtain ⟨a7, e8, b9, b10, h⟩ := h
    refine hv (v := pp (Addr.add a7 (y2.toNat * 10))) rfl (ia runUnderlying39 sizeOf41 (Sl.v_some rfl e8) rfl b9 b10) ?_
    refine hv (v := pp (Addr.add (Addr.add a7 (y2.toNat * 10)) 9)) rfl (fa runUnderlying41 rfl rfl sizeOf39 rfl) ?_
    obtain ⟨x12, c11, h⟩ := h
    refine hv (v := Sl.v x12) rfl (l1 isAgg39 rfl c11) (hv (v := iv y1) rfl (mv rfl) (hv (v := iv (IntKind.i64.wrap (y1 - 1))) rfl (HVal.sub rfl rfl) ?_))
    refine ho rfl (HOp.call' 24 [(Sl.v x12), (iv (IntKind.i64.wrap (y1 - 1)))] (cap := []) rfl rfl call24 ((hX _ _ _ _).1 h)) ?_
    rintro _ H13 ⟨r15, rfl, h⟩
    refine hv (v := iv r15) rfl (av rfl) (hn (nb (nt (wr_ (hv (v := iv y2) rfl (mv rfl) (hv (v := iv (IntKind.i64.wrap (y2 + 1))) rfl (HVal.add rfl rfl) ?_))))))
    refine hv (v := iv (IntKind.i64.wrap (y2 + 1))) rfl (av rfl) (hn (nt ?_))
    exact (hX2 _ _ _).1 h _ (isp rfl)
   have h := hF hb6
   refine we (te (te (be (nt ?_))))
   exact ⟨y1, ⟨rfl, trivial⟩, h⟩
  have h := hF hb5
  refine hs_ rfl rfl rfl rfl (cB hb5) (hs_ rfl rfl rfl rfl (cB hb5) (hv (v := bv false) rfl (pf_ rfl hb5 rfl) (hn (nt ?_))))
  refine HW.condF false rfl rfl (we (te (te (be (nt ?_)))))
  exact ⟨y1, ⟨rfl, trivial⟩, h⟩
 rintro ρ H_1 ⟨y16, hI, h⟩
 obtain ⟨ρ0, rfl⟩ := hI.ex
 clear hI; unfold F24_1 at h
 refine ws (wr_ (hv (v := iv y16) rfl (mv rfl) (hv (v := iv y16) rfl (av rfl) (hn (nt (HW.ret ?_))))))
 exact ⟨_, resOf1 rfl Res1.t, ⟨y16, rfl, h⟩⟩

def F50_1 (X : Int → Int → Int → Int → ByteArray → Bool → ByteArray → Int → ByteArray → Sl → Hp → (Int → ZQI) → Prop) (Q : Int → ZQI) (y31 y32 : Int) (H_1 : Hp) : Prop :=
Q y31 (IntKind.i64.wrap (y32 + 1)) H_1
def F50_L2b (X : Int → Int → Int → Int → ByteArray → Bool → ByteArray → Int → ByteArray → Sl → Hp → (Int → ZQI) → Prop) (Q : Int → ZQI) (X2 : Int → Int → ZQI) (y6 : Addr) (y3 y4 y5 : Int) (H_2 : Hp) : Prop :=
∃ x8, cell H_2 (Addr.add y6 9) = some (Sl.v x8) ∧ (
 ((decide (y5 < ((x8).n : Int))) = true → (∃ x11, cell H_2 (Addr.add y6 9) = some (Sl.v x11) ∧ (
 ∃ a12, (x11).b = some a12 ∧ (0 : Int) ≤ y5 ∧ y5 < ((x11).n : Int) ∧ (
 ∃ x17 x18 x19 x20 x21 x22 x23 x24 x25 x26, cells H_2 (Addr.add a12 (y5.toNat * 10)) (eR x17 x18 x19 x20 x21 x22 x23 x24 x25 x26) 0 ∧ (
 X x17 x18 x19 x20 x21 x22 x23 x24 x25 x26 H_2 (fun r29 r30 H27 =>
 X2 (IntKind.i64.wrap (y3 + r29)) (if y4 < r30 then r30 else y4) (IntKind.i64.wrap (y5 + 1)) H27)))))) ∧
 ((decide (y5 < ((x8).n : Int))) = false → (F50_1 X Q y3 y4 H_2)))
def F50_L2 (X : Int → Int → Int → Int → ByteArray → Bool → ByteArray → Int → ByteArray → Sl → Hp → (Int → ZQI) → Prop) (Q : Int → ZQI) (y6 : Addr) (y3 y4 y5 : Int) (H_2 : Hp) : Prop :=
 ∀ X2 : Int → Int → ZQI, (∀ (y3 y4 y5 : Int) (H_2 : Hp), F50_L2b X Q X2 y6 y3 y4 y5 H_2 → X2 y3 y4 y5 H_2) → X2 y3 y4 y5 H_2
def F50b (X : Int → Int → Int → Int → ByteArray → Bool → ByteArray → Int → ByteArray → Sl → Hp → (Int → ZQI) → Prop) (p0_0 p0_1 p0_2 p0_3 : Int) (p0_4 : ByteArray) (p0_5 : Bool) (p0_6 : ByteArray) (p0_7 : Int) (p0_8 : ByteArray) (p0_9 : Sl) (H : Hp) (Q : Int → ZQI) : Prop :=
∀ H1, H1 = Array.push H (.cells (eR p0_0 p0_1 p0_2 p0_3 p0_4 p0_5 p0_6 p0_7 p0_8 p0_9).toArray 41) → (
 F50_L2 X Q (bk H) 1 0 0 H1)
def F50 (p0_0 p0_1 p0_2 p0_3 : Int) (p0_4 : ByteArray) (p0_5 : Bool) (p0_6 : ByteArray) (p0_7 : Int) (p0_8 : ByteArray) (p0_9 : Sl) (H : Hp) (Q : Int → ZQI) : Prop :=
 ∀ X : Int → Int → Int → Int → ByteArray → Bool → ByteArray → Int → ByteArray → Sl → Hp → (Int → ZQI) → Prop, (∀ (p0_0 p0_1 p0_2 p0_3 : Int) (p0_4 : ByteArray) (p0_5 : Bool) (p0_6 : ByteArray) (p0_7 : Int) (p0_8 : ByteArray) (p0_9 : Sl) (H : Hp) (Q : Int → ZQI), F50b X p0_0 p0_1 p0_2 p0_3 p0_4 p0_5 p0_6 p0_7 p0_8 p0_9 H Q → X p0_0 p0_1 p0_2 p0_3 p0_4 p0_5 p0_6 p0_7 p0_8 p0_9 H Q) → X p0_0 p0_1 p0_2 p0_3 p0_4 p0_5 p0_6 p0_7 p0_8 p0_9 H Q
theorem walk50 {w0 : World} {p0_0 p0_1 p0_2 p0_3 : Int} {p0_4 : ByteArray} {p0_5 : Bool} {p0_6 : ByteArray} {p0_7 : Int} {p0_8 : ByteArray} {p0_9 : Sl} {H : Hp} {Q : Int → ZQI} (h : F50 p0_0 p0_1 p0_2 p0_3 p0_4 p0_5 p0_6 p0_7 p0_8 p0_9 H Q) :
  Good prog w0 50 #[(.agg (eR p0_0 p0_1 p0_2 p0_3 p0_4 p0_5 p0_6 p0_7 p0_8 p0_9).toArray)] H (fun v H => ∃ r0 r1, v = (.tuple #[(iv r0), (iv r1)]) ∧ Q r0 r1 H) := by
 obtain ⟨X, hX⟩ : ∃ X : Int → Int → Int → Int → ByteArray → Bool → ByteArray → Int → ByteArray → Sl → Hp → (Int → ZQI) → Prop, ∀ (p0_0 p0_1 p0_2 p0_3 : Int) (p0_4 : ByteArray) (p0_5 : Bool) (p0_6 : ByteArray) (p0_7 : Int) (p0_8 : ByteArray) (p0_9 : Sl) (H : Hp) (Q : Int → ZQI), X p0_0 p0_1 p0_2 p0_3 p0_4 p0_5 p0_6 p0_7 p0_8 p0_9 H Q ↔ Good prog w0 50 #[(.agg (eR p0_0 p0_1 p0_2 p0_3 p0_4 p0_5 p0_6 p0_7 p0_8 p0_9).toArray)] H (fun v H => ∃ r0 r1, v = (.tuple #[(iv r0), (iv r1)]) ∧ Q r0 r1 H) := ⟨_, fun _ _ _ _ _ _ _ _ _ _ _ _ => Iff.rfl⟩
 refine (hX _ _ _ _ _ _ _ _ _ _ _ _).1 (h X ?_)
 clear h
 intro p0_0 p0_1 p0_2 p0_3 p0_4 p0_5 p0_6 p0_7 p0_8 p0_9 H Q h
 refine (hX _ _ _ _ _ _ _ _ _ _ _ _).2 ?_
 unfold F50b at h
 refine Good.enter' (fn := f50) func50 rfl rfl rfl (ws (wr_ (ho rfl (ob (v := .agg (eR p0_0 p0_1 p0_2 p0_3 p0_4 p0_5 p0_6 p0_7 p0_8 p0_9).toArray) rfl) ?_)))
 rintro _ H1 ⟨rfl, e2⟩
 replace h := h H1 e2
 refine hv (v := iv 0) rfl (av rfl) (hv (v := iv 0) rfl (av rfl) (hn (nt (ws (wr_ (hv (v := iv 1) rfl (av rfl) ?_))))))
 refine hn (nt (ws (wr_ (hv (v := iv 0) rfl (av rfl) (hn (nt (wc (fun ρ H_1 => ∃ y31 y32, Env.Is ρ [(4, (iv y31)), (5, (iv y32))] ∧ F50_1 X Q y31 y32 H_1) ?_ ?_)))))))
 ·refine ws (wr_ (hv (v := iv 0) rfl (av rfl) (hn (nt (wb (HW.loop' (fun L2 hL2 => ?_)))))))
  obtain ⟨X2, hX2⟩ : ∃ X2 : Int → Int → ZQI, ∀ (y3 y4 y5 : Int) (H_2 : Hp), X2 y3 y4 y5 H_2 ↔ ∀ ρ, Env.Is ρ [(1, (pp (bk H))), (4, (iv y3)), (5, (iv y4)), (6, (iv y5))] → L2 ρ H_2 := ⟨_, fun _ _ _ _ => Iff.rfl⟩
  refine (hX2 _ _ _ _).1 (h X2 ?_) _ ?_
  rotate_left
  ·exact (isp rfl)
  clear h
  intro y3 y4 y5 H_2 h
  refine (hX2 _ _ _ _).2 fun ρ hI => ?_
  obtain ⟨ρ0, rfl⟩ := hI.ex
  clear hI; unfold F50_L2b at h; refine hL2 _ _ ?_
  refine ws (ws (wr_ (hv (v := iv y5) rfl (mv rfl) (hv (v := pp (Addr.add (bk H) 9)) rfl (fa runUnderlying41 rfl rfl sizeOf39 rfl) ?_))))
  obtain ⟨x8, c7, h⟩ := h
  refine hv (v := Sl.v x8) rfl (l1 isAgg39 rfl c7) (hv (v := iv ((x8).n : Int)) rfl (HVal.len runUnderlying39 rfl) (hv (v := bv (decide (y5 < ((x8).n : Int)))) rfl (HVal.lss rfl rfl) ?_))
  refine hn (nt ?_)
  obtain ⟨hT, hF⟩ := h
  refine wk (decide (y5 < ((x8).n : Int))) rfl (fun hb9 => ?_) (fun hb9 => ?_)
  ·have h := hT hb9
   refine wp_ (nt (ws (wb (ws (wr_ (hv (v := pp (Addr.add (bk H) 9)) rfl (fa runUnderlying41 rfl rfl sizeOf39 rfl) ?_))))))
   obtain ⟨x11, c10, h⟩ := h
   refine hv (v := Sl.v x11) rfl (l1 isAgg39 rfl c10) (hv (v := iv y5) rfl (mv rfl) ?_)
   obtain ⟨a12, e13, b14, b15, h⟩ := h
   refine hv (v := pp (Addr.add a12 (y5.toNat * 10))) rfl (ia runUnderlying39 sizeOf41 (Sl.v_some rfl e13) rfl b14 b15) ?_
   obtain ⟨x17, x18, x19, x20, x21, x22, x23, x24, x25, x26, c16, h⟩ := h
   refine hv (v := .agg (eR x17 x18 x19 x20 x21 x22 x23 x24 x25 x26).toArray) rfl (ln (eR x17 x18 x19 x20 x21 x22 x23 x24 x25 x26) isAgg41 sizeOf41 rfl c16) ?_
   refine ho rfl (HOp.call' 50 [(.agg (eR x17 x18 x19 x20 x21 x22 x23 x24 x25 x26).toArray)] (cap := []) rfl rfl call50 ((hX _ _ _ _ _ _ _ _ _ _ _ _).1 h)) ?_
   rintro _ H27 ⟨r29, r30, rfl, h⟩
   refine hv (v := .tuple #[(iv r29), (iv r30)]) rfl (mv rfl) (hv (v := iv r29) rfl (HVal.extract rfl rfl) (hv (v := iv r30) rfl (HVal.extract rfl rfl) ?_))
   refine hv (v := iv r29) rfl (av rfl) (hv (v := iv r30) rfl (av rfl) (hn (nt (ws (wr_ (hv (v := iv y3) rfl (mv rfl) ?_))))))
   refine hv (v := iv r29) rfl (mv rfl) (hv (v := iv (IntKind.i64.wrap (y3 + r29))) rfl (HVal.add rfl rfl) (hv (v := iv (IntKind.i64.wrap (y3 + r29))) rfl (av rfl) ?_))
   refine hn (nt (wr_ (hv (v := iv y4) rfl (mv rfl) (hv (v := iv r30) rfl (mv rfl) (hv (v := iv (if y4 < r30 then r30 else y4)) rfl (HVal.max rfl rfl) ?_)))))
   refine hv (v := iv (if y4 < r30 then r30 else y4)) rfl (av rfl) (hn (nb (nt (wr_ (hv (v := iv y5) rfl (mv rfl) ?_)))))
   refine hv (v := iv (IntKind.i64.wrap (y5 + 1))) rfl (HVal.add rfl rfl) (hv (v := iv (IntKind.i64.wrap (y5 + 1))) rfl (av rfl) ?_)
   refine hn (nt ?_)
   exact (hX2 _ _ _ _).1 h _ (isp rfl)
  have h := hF hb9
  refine we (te (te (be (nt ?_))))
  exact ⟨y3, y4, (isp rfl), h⟩
 rintro ρ H_1 ⟨y31, y32, hI, h⟩
 obtain ⟨ρ0, rfl⟩ := hI.ex
 clear hI; unfold F50_1 at h
 refine ws (wr_ (hv (v := iv y31) rfl (mv rfl) (hv (v := iv y32) rfl (mv rfl) (hv (v := iv (IntKind.i64.wrap (y32 + 1))) rfl (HVal.add rfl rfl) ?_))))
 refine hv (v := iv y31) rfl (av rfl) (hv (v := iv (IntKind.i64.wrap (y32 + 1))) rfl (av rfl) (hn (nt (HW.ret ?_))))
 exact ⟨_, resOf2 rfl Res1.t Res1.t, ⟨y31, (IntKind.i64.wrap (y32 + 1)), rfl, h⟩⟩

def F48 (p0_0 p0_1 : Int) (p0_2 : ByteArray) (p0_3 : Bool) (H : Hp) (Q : ZQB) : Prop :=
∀ H1, H1 = Array.push H (.cells (vR p0_0 p0_1 p0_2 p0_3).toArray 38) → (
 ∃ x4, cell H1 (bk H) = some (iv x4) ∧ (
 (decide (x4 = 1) = true → (∃ x7, cell H1 (Addr.add (bk H) 2) = some (sv x7) ∧ (
 ((seq x7 bE) = true → (∃ x11, cell H1 (Addr.add (bk H) 3) = some (bv x11) ∧ (
 Q (!x11) H1))) ∧
 ((seq x7 bE) = false → (Q false H1))))) ∧
 (decide (x4 = 1) = false → ((decide (x4 = 2) = true → (∃ x14, cell H1 (Addr.add (bk H) 1) = some (iv x14) ∧ (
 (decide (x14 = 0) = true → (∃ x18, cell H1 (Addr.add (bk H) 3) = some (bv x18) ∧ (
 ((!x18) = true → (∃ x22, cell H1 (Addr.add (bk H) 2) = some (sv x22) ∧ (
 Q (decide (((x22).size : Int) ≤ 256)) H1))) ∧
 ((!x18) = false → (Q false H1))))) ∧
 (decide (x14 = 0) = false → (Q false H1))))) ∧
 (decide (x4 = 2) = false → ((decide (x4 = 3) = true → (∃ x25, cell H1 (Addr.add (bk H) 1) = some (iv x25) ∧ (
 (decide (x25 = 0) = true → (∃ x29, cell H1 (Addr.add (bk H) 2) = some (sv x29) ∧ (
 Q (seq x29 bE) H1))) ∧
 (decide (x25 = 0) = false → (Q false H1))))) ∧
 (decide (x4 = 3) = false → (Q false H1))))))))
theorem walk48 {w0 : World} {p0_0 p0_1 : Int} {p0_2 : ByteArray} {p0_3 : Bool} {H : Hp} {Q : ZQB} (h : F48 p0_0 p0_1 p0_2 p0_3 H Q) :
  Good prog w0 48 #[(.agg (vR p0_0 p0_1 p0_2 p0_3).toArray)] H (fun v H => ∃ r0, v = (bv r0) ∧ Q r0 H) := by
 unfold F48 at h
 refine Good.enter' (fn := f48) func48 rfl rfl rfl (ws (wr_ (ho rfl (ob (v := .agg (vR p0_0 p0_1 p0_2 p0_3).toArray) rfl) ?_)))
 rintro _ H1 ⟨rfl, e2⟩
 replace h := h H1 e2
 refine hv (v := bv false) rfl (av rfl) (hn (nt (ws (ws (wr_ (hv (v := pp (bk H)) rfl (HVal.fieldAddr0 runUnderlying38 rfl rfl sizeOf3 rfl) ?_))))))
 obtain ⟨x4, c3, h⟩ := h
 refine hv (v := iv x4) rfl (l1 isAgg3 rfl c3) (hn (nt (wb (ws (wr_ (hv (v := bv (decide (x4 = 1))) rfl (HVal.eqlI rfl rfl) ?_))))))
 refine hv (v := bv (decide (x4 = 1))) rfl (av rfl) (hn (nt ?_))
 obtain ⟨hT, hF⟩ := h
 refine wk (decide (x4 = 1)) rfl (fun hb5 => ?_) (fun hb5 => ?_)
 ·have h := hT hb5
  refine ws (wr_ (hv (v := pp (Addr.add (bk H) 2)) rfl (fa runUnderlying38 rfl rfl sizeOf9 rfl) ?_))
  obtain ⟨x7, c6, h⟩ := h
  refine hv (v := sv x7) rfl (l1 isAgg9 rfl c6) (hv (v := bv (seq x7 bE)) rfl (HVal.eqlS rfl rfl) (hv (v := bv (seq x7 bE)) rfl (mv rfl) ?_))
  obtain ⟨hT, hF⟩ := h
  rcases Bool.eq_false_or_eq_true (seq x7 bE) with hb8 | hb9
  ·have h := hT hb8
   refine hg (v := pp (Addr.add (bk H) 3)) rfl rfl rfl rfl (cB hb8) (fa runUnderlying38 rfl rfl sizeOf4 rfl) ?_
   obtain ⟨x11, c10, h⟩ := h
   refine hg (v := bv x11) rfl rfl rfl rfl (cB hb8) (l1 isAgg4 rfl c10) (hg (v := bv (!x11)) rfl rfl rfl rfl (cB hb8) (HVal.not rfl) ?_)
   refine hv (v := bv (!x11)) rfl (pt_ rfl hb8 rfl) (hv (v := bv (!x11)) rfl (av rfl) (hn (nt (HW.ret (br (tr ?_))))))
   exact ⟨_, resOf1 rfl Res1.t, ⟨(!x11), rfl, h⟩⟩
  have h := hF hb9
  refine hs_ rfl rfl rfl rfl (cB hb9) (hs_ rfl rfl rfl rfl (cB hb9) (hs_ rfl rfl rfl rfl (cB hb9) (hv (v := bv false) rfl (pf_ rfl hb9 rfl) ?_)))
  refine hv (v := bv false) rfl (av rfl) (hn (nt (HW.ret (br (tr ?_)))))
  exact ⟨_, resOf1 rfl Res1.t, ⟨false, rfl, h⟩⟩
 have h := hF hb5
 refine ws (wr_ (hv (v := bv (decide (x4 = 2))) rfl (HVal.eqlI rfl rfl) (hv (v := bv (decide (x4 = 2))) rfl (av rfl) ?_)))
 refine hn (nt ?_)
 obtain ⟨hT, hF⟩ := h
 refine wk (decide (x4 = 2)) rfl (fun hb12 => ?_) (fun hb12 => ?_)
 ·have h := hT hb12
  refine ws (wr_ (hv (v := pp (Addr.add (bk H) 1)) rfl (fa runUnderlying38 rfl rfl sizeOf2 rfl) ?_))
  obtain ⟨x14, c13, h⟩ := h
  refine hv (v := iv x14) rfl (l1 isAgg2 rfl c13) (hv (v := bv (decide (x14 = 0))) rfl (HVal.eqlI rfl rfl) (hv (v := bv (decide (x14 = 0))) rfl (mv rfl) ?_))
  obtain ⟨hT, hF⟩ := h
  rcases Bool.eq_false_or_eq_true (decide (x14 = 0)) with hb15 | hb16
  ·have h := hT hb15
   refine hg (v := pp (Addr.add (bk H) 3)) rfl rfl rfl rfl (cB hb15) (fa runUnderlying38 rfl rfl sizeOf4 rfl) ?_
   obtain ⟨x18, c17, h⟩ := h
   refine hg (v := bv x18) rfl rfl rfl rfl (cB hb15) (l1 isAgg4 rfl c17) (hg (v := bv (!x18)) rfl rfl rfl rfl (cB hb15) (HVal.not rfl) ?_)
   refine hv (v := bv (!x18)) rfl (pt_ rfl hb15 rfl) (hv (v := bv (!x18)) rfl (mv rfl) ?_)
   obtain ⟨hT, hF⟩ := h
   rcases Bool.eq_false_or_eq_true (!x18) with hb19 | hb20
   ·have h := hT hb19
    refine hg (v := pp (Addr.add (bk H) 2)) rfl rfl rfl rfl (cB hb19) (fa runUnderlying38 rfl rfl sizeOf9 rfl) ?_
    obtain ⟨x22, c21, h⟩ := h
    refine hg (v := sv x22) rfl rfl rfl rfl (cB hb19) (l1 isAgg9 rfl c21) (hg (v := iv ((x22).size : Int)) rfl rfl rfl rfl (cB hb19) (HVal.lenS runUnderlying9 rfl) ?_)
    refine hg (v := bv (decide (((x22).size : Int) ≤ 256))) rfl rfl rfl rfl (cB hb19) (HVal.leq rfl rfl) (hv (v := bv (decide (((x22).size : Int) ≤ 256))) rfl (pt_ rfl hb19 rfl) ?_)
    refine hv (v := bv (decide (((x22).size : Int) ≤ 256))) rfl (av rfl) (hn (nt (HW.ret (br (tr ?_)))))
    exact ⟨_, resOf1 rfl Res1.t, ⟨(decide (((x22).size : Int) ≤ 256)), rfl, h⟩⟩
   have h := hF hb20
   refine hs_ rfl rfl rfl rfl (cB hb20) (hs_ rfl rfl rfl rfl (cB hb20) (hs_ rfl rfl rfl rfl (cB hb20) (hs_ rfl rfl rfl rfl (cB hb20) ?_)))
   refine hv (v := bv false) rfl (pf_ rfl hb20 rfl) (hv (v := bv false) rfl (av rfl) (hn (nt (HW.ret (br (tr ?_))))))
   exact ⟨_, resOf1 rfl Res1.t, ⟨false, rfl, h⟩⟩
  have h := hF hb16
  refine hs_ rfl rfl rfl rfl (cB hb16) (hs_ rfl rfl rfl rfl (cB hb16) (hs_ rfl rfl rfl rfl (cB hb16) (hv (v := bv false) rfl (pf_ rfl hb16 rfl) ?_)))
  refine hv (v := bv false) rfl (mv rfl) (hs_ rfl rfl rfl rfl rfl (hs_ rfl rfl rfl rfl rfl (hs_ rfl rfl rfl rfl rfl ?_)))
  refine hs_ rfl rfl rfl rfl rfl (hv (v := bv false) rfl (pf_ rfl rfl rfl) (hv (v := bv false) rfl (av rfl) (hn (nt ?_))))
  refine HW.ret (br (tr ?_))
  exact ⟨_, resOf1 rfl Res1.t, ⟨false, rfl, h⟩⟩
 have h := hF hb12
 refine ws (wr_ (hv (v := bv (decide (x4 = 3))) rfl (HVal.eqlI rfl rfl) (hv (v := bv (decide (x4 = 3))) rfl (av rfl) ?_)))
 refine hn (nt ?_)
 obtain ⟨hT, hF⟩ := h
 refine wk (decide (x4 = 3)) rfl (fun hb23 => ?_) (fun hb23 => ?_)
 ·have h := hT hb23
  refine ws (wr_ (hv (v := pp (Addr.add (bk H) 1)) rfl (fa runUnderlying38 rfl rfl sizeOf2 rfl) ?_))
  obtain ⟨x25, c24, h⟩ := h
  refine hv (v := iv x25) rfl (l1 isAgg2 rfl c24) (hv (v := bv (decide (x25 = 0))) rfl (HVal.eqlI rfl rfl) (hv (v := bv (decide (x25 = 0))) rfl (mv rfl) ?_))
  obtain ⟨hT, hF⟩ := h
  rcases Bool.eq_false_or_eq_true (decide (x25 = 0)) with hb26 | hb27
  ·have h := hT hb26
   refine hg (v := pp (Addr.add (bk H) 2)) rfl rfl rfl rfl (cB hb26) (fa runUnderlying38 rfl rfl sizeOf9 rfl) ?_
   obtain ⟨x29, c28, h⟩ := h
   refine hg (v := sv x29) rfl rfl rfl rfl (cB hb26) (l1 isAgg9 rfl c28) (hg (v := bv (seq x29 bE)) rfl rfl rfl rfl (cB hb26) (HVal.eqlS rfl rfl) ?_)
   refine hv (v := bv (seq x29 bE)) rfl (pt_ rfl hb26 rfl) (hv (v := bv (seq x29 bE)) rfl (av rfl) (hn (nt (HW.ret ?_))))
   refine br (tr ?_)
   exact ⟨_, resOf1 rfl Res1.t, ⟨(seq x29 bE), rfl, h⟩⟩
  have h := hF hb27
  refine hs_ rfl rfl rfl rfl (cB hb27) (hs_ rfl rfl rfl rfl (cB hb27) (hs_ rfl rfl rfl rfl (cB hb27) (hv (v := bv false) rfl (pf_ rfl hb27 rfl) ?_)))
  refine hv (v := bv false) rfl (av rfl) (hn (nt (HW.ret (br (tr ?_)))))
  exact ⟨_, resOf1 rfl Res1.t, ⟨false, rfl, h⟩⟩
 have h := hF hb23
 refine wp_ (nb (nt (ws (wr_ (hv (v := bv false) rfl (av rfl) (hn (nt (HW.ret ?_))))))))
 exact ⟨_, resOf1 rfl Res1.t, ⟨false, rfl, h⟩⟩

def F47 (p0 : Int) (H : Hp) (Q : Int → Int → ByteArray → ZQB) : Prop :=
∀ H1, H1 = Array.push H (.cells (vR 0 0 bE false).toArray 38) → (
 mayw H1 (bk H) 4 0 ∧ ∀ H3, H3 = sets H1 (bk H) (vR 1 p0 bE false) 0 → (
 ∃ x6 x7 x8 x9, cells H3 (bk H) (vR x6 x7 x8 x9) 0 ∧ (
 Q x6 x7 x8 x9 H3)))
theorem walk47 {w0 : World} {p0 : Int} {H : Hp} {Q : Int → Int → ByteArray → ZQB} (h : F47 p0 H Q) :
  Good prog w0 47 #[(iv p0)] H (fun v H => ∃ r0 r1 r2 r3, v = (.agg (vR r0 r1 r2 r3).toArray) ∧ Q r0 r1 r2 r3 H) := by
 unfold F47 at h
 refine Good.enter' (fn := f47) func47 rfl rfl rfl (ws (wr_ (ho rfl (HOp.alloc zeroValue38) ?_)))
 rintro _ H1 ⟨rfl, e2⟩
 replace h := h H1 e2
 refine hn (nt (ws (wr_ (hv (v := iv p0) rfl (mv rfl) (hv (v := .agg (vR 1 p0 bE false).toArray) rfl (HVal.build' (cs := (vR 1 p0 bE false)) runUnderlying38 zeroValue38 places38 rfl) ?_)))))
 obtain ⟨z5, h⟩ := h
 refine hq (HOp.storeN' (l := (vR 1 p0 bE false)) sizeOf38 rfl rfl rfl z5) ?_
 rintro _ H3 e4
 replace h := h H3 e4
 refine hn (nt (HW.ret ?_))
 obtain ⟨x6, x7, x8, x9, c10, h⟩ := h
 exact ⟨_, resOf1 rfl (Res1.n (vR x6 x7 x8 x9) isAgg38 sizeOf38 rfl c10), ⟨x6, x7, x8, x9, rfl, h⟩⟩

def F29_1 (Q : ZQV) (y24 y25 : Addr) (H_1 : Hp) : Prop :=
∃ x169 x170 x171 x172, cells H_1 y25 (vR x169 x170 x171 x172) 0 ∧ (
 mayw H_1 y24 4 0 ∧ ∀ H173, H173 = sets H_1 y24 (vR x169 x170 x171 x172) 0 → (
 ∃ x176 x177 x178 x179, cells H173 y24 (vR x176 x177 x178 x179) 0 ∧ (
 Q x176 x177 x178 x179 21 H173)))
def F29_3 (Q : ZQV) (X2 : ZQI) (y48 y49 : Addr) (H_3 : Hp) : Prop :=
∃ x156 x157 x158 x159, cells H_3 y49 (vR x156 x157 x158 x159) 0 ∧ (
 mayw H_3 y48 4 0 ∧ ∀ H160, H160 = sets H_3 y48 (vR x156 x157 x158 x159) 0 → (
 ∃ x163 x164 x165 x166, cells H160 y48 (vR x163 x164 x165 x166) 0 ∧ (
 Q x163 x164 x165 x166 82 H160)))
def F29_L4b (Q : ZQV) (X2 X4 : ZQI) (y51 : ByteArray) (y52 y53 y54 : Addr) (y55 : Sl) (y50 : Int) (H_4 : Hp) : Prop :=
((decide (y50 < ((y55).n : Int))) = true → (∃ a57, (y55).b = some a57 ∧ (0 : Int) ≤ y50 ∧ y50 < ((y55).n : Int) ∧ (
 ∃ x62, cell H_4 (Addr.add a57 (y50.toNat * 2)) = some (sv x62) ∧ (
 ((!(seq x62 y51)) = true → (X4 (IntKind.i64.wrap (y50 + 1)) H_4)) ∧
 ((!(seq x62 y51)) = false → (∃ x65, cell H_4 (Addr.add y52 2) = some (Sl.v x65) ∧ (
 ((decide (((x65).n : Int) ≤ y50)) = true → (∃ x68 x69 x70 x71, cells H_4 y54 (vR x68 x69 x70 x71) 0 ∧ (
 mayw H_4 y53 4 0 ∧ ∀ H72, H72 = sets H_4 y53 (vR x68 x69 x70 x71) 0 → (
 ∃ x75 x76 x77 x78, cells H72 y53 (vR x75 x76 x77 x78) 0 ∧ (
 Q x75 x76 x77 x78 22 H72))))) ∧
 ((decide (((x65).n : Int) ≤ y50)) = false → (∃ x81, cell H_4 (Addr.add y52 2) = some (Sl.v x81) ∧ (
 ∃ a82, (x81).b = some a82 ∧ (0 : Int) ≤ y50 ∧ y50 < ((x81).n : Int) ∧ (
 ∃ x87, cell H_4 (Addr.add a82 (y50.toNat * 4)) = some (iv x87) ∧ (
 ∃ a88, (y55).b = some a88 ∧ (0 : Int) ≤ y50 ∧ y50 < ((y55).n : Int) ∧ (
 ∃ x93, cell H_4 (Addr.add (Addr.add a88 (y50.toNat * 2)) 1) = some (iv x93) ∧ (
 (decide (x87 ≠ x93) = true → (∃ x96 x97 x98 x99, cells H_4 y54 (vR x96 x97 x98 x99) 0 ∧ (
 mayw H_4 y53 4 0 ∧ ∀ H100, H100 = sets H_4 y53 (vR x96 x97 x98 x99) 0 → (
 ∃ x103 x104 x105 x106, cells H100 y53 (vR x103 x104 x105 x106) 0 ∧ (
 Q x103 x104 x105 x106 10 H100))))) ∧
 (decide (x87 ≠ x93) = false → (∃ x109, cell H_4 (Addr.add y52 2) = some (Sl.v x109) ∧ (
 ∃ a110, (x109).b = some a110 ∧ (0 : Int) ≤ y50 ∧ y50 < ((x109).n : Int) ∧ (
 ∃ x115 x116 x117 x118, cells H_4 (Addr.add a110 (y50.toNat * 4)) (vR x115 x116 x117 x118) 0 ∧ (
 F48 x115 x116 x117 x118 H_4 (fun r121 H119 =>
 ((!r121) = true → (∃ x124 x125 x126 x127, cells H119 y54 (vR x124 x125 x126 x127) 0 ∧ (
 mayw H119 y53 4 0 ∧ ∀ H128, H128 = sets H119 y53 (vR x124 x125 x126 x127) 0 → (
 ∃ x131 x132 x133 x134, cells H128 y53 (vR x131 x132 x133 x134) 0 ∧ (
 Q x131 x132 x133 x134 12 H128))))) ∧
 ((!r121) = false → (∃ x137, cell H119 (Addr.add y52 2) = some (Sl.v x137) ∧ (
 ∃ a138, (x137).b = some a138 ∧ (0 : Int) ≤ y50 ∧ y50 < ((x137).n : Int) ∧ (
 ∃ x143 x144 x145 x146, cells H119 (Addr.add a138 (y50.toNat * 4)) (vR x143 x144 x145 x146) 0 ∧ (
 mayw H119 y53 4 0 ∧ ∀ H147, H147 = sets H119 y53 (vR x143 x144 x145 x146) 0 → (
 ∃ x150 x151 x152 x153, cells H147 y53 (vR x150 x151 x152 x153) 0 ∧ (
 Q x150 x151 x152 x153 0 H147))))))))))))))))))))))))))) ∧
 ((decide (y50 < ((y55).n : Int))) = false → (F29_3 Q X2 y53 y54 H_4))
def F29_L4 (Q : ZQV) (X2 : ZQI) (y51 : ByteArray) (y52 y53 y54 : Addr) (y55 : Sl) (y50 : Int) (H_4 : Hp) : Prop :=
 ∀ X4 : ZQI, (∀ (y50 : Int) (H_4 : Hp), F29_L4b Q X2 X4 y51 y52 y53 y54 y55 y50 H_4 → X4 y50 H_4) → X4 y50 H_4
def F29_L2b (Q : ZQV) (X2 : ZQI) (y27 : ByteArray) (y28 : Sl) (y29 y30 y31 : Addr) (y26 : Int) (H_2 : Hp) : Prop :=
((decide (y26 < ((y28).n : Int))) = true → (∃ a33, (y28).b = some a33 ∧ (0 : Int) ≤ y26 ∧ y26 < ((y28).n : Int) ∧ (
 ∃ x38, cell H_2 (Addr.add a33 (y26.toNat * 2)) = some (sv x38) ∧ (
 ∃ x40, cell H_2 y29 = some (sv x40) ∧ (
 ((!(seq x38 x40)) = true → (X2 (IntKind.i64.wrap (y26 + 1)) H_2)) ∧
 ((!(seq x38 x40)) = false → (∃ a42, (y28).b = some a42 ∧ (0 : Int) ≤ y26 ∧ y26 < ((y28).n : Int) ∧ (
 ∃ x47, cell H_2 (Addr.add (Addr.add a42 (y26.toNat * 2)) 1) = some (Sl.v x47) ∧ (
 F29_L4 Q X2 y27 y29 y30 y31 x47 0 H_2))))))))) ∧
 ((decide (y26 < ((y28).n : Int))) = false → (F29_1 Q y30 y31 H_2))
def F29_L2 (Q : ZQV) (y27 : ByteArray) (y28 : Sl) (y29 y30 y31 : Addr) (y26 : Int) (H_2 : Hp) : Prop :=
 ∀ X2 : ZQI, (∀ (y26 : Int) (H_2 : Hp), F29_L2b Q X2 y27 y28 y29 y30 y31 y26 H_2 → X2 y26 H_2) → X2 y26 H_2
def F29 (p0_0 : ByteArray) (p0_1 : Int) (p0_2 : Sl) (p1 : ByteArray) (p2 : Sl) (H : Hp) (Q : ZQV) : Prop :=
∀ H1, H1 = Array.push H (.cells (tR p0_0 p0_1 p0_2).toArray 36) → (
 ∀ H3, H3 = Array.push H1 (.cells (vR 0 0 bE false).toArray 38) → (
 ∀ H5, H5 = Array.push H3 (.cells (vR 0 0 bE false).toArray 38) → (
 ((seq p1 S_time) = true → (∃ x9, cell H5 (Addr.add (bk H) 1) = some (iv x9) ∧ (
 F47 x9 H5 (fun r12 r13 r14 r15 H10 =>
 mayw H10 (bk H1) 4 0 ∧ ∀ H16, H16 = sets H10 (bk H1) (vR r12 r13 r14 r15) 0 → (
 ∃ x19 x20 x21 x22, cells H16 (bk H1) (vR x19 x20 x21 x22) 0 ∧ (
 Q x19 x20 x21 x22 0 H16)))))) ∧
 ((seq p1 S_time) = false → (F29_L2 Q p1 p2 (bk H) (bk H1) (bk H3) 0 H5)))))
theorem walk29 {w0 : World} {p0_0 : ByteArray} {p0_1 : Int} {p0_2 : Sl} {p1 : ByteArray} {p2 : Sl} {H : Hp} {Q : ZQV} (h : F29 p0_0 p0_1 p0_2 p1 p2 H Q) :
  Good prog w0 29 #[(.agg (tR p0_0 p0_1 p0_2).toArray), (sv p1), (Sl.v p2)] H (fun v H => ∃ r0 r1 r2 r3 r4, v = (.tuple #[(.agg (vR r0 r1 r2 r3).toArray), (iv r4)]) ∧ Q r0 r1 r2 r3 r4 H) := by
 unfold F29 at h
 refine Good.enter' (fn := f29) func29 rfl rfl rfl (ws (wr_ (ho rfl (ob (v := .agg (tR p0_0 p0_1 p0_2).toArray) rfl) ?_)))
 rintro _ H1 ⟨rfl, e2⟩
 replace h := h H1 e2
 refine ho rfl (HOp.alloc zeroValue38) ?_
 rintro _ H3 ⟨rfl, e4⟩
 replace h := h H3 e4
 refine hv (v := iv 0) rfl (av rfl) (hn (nt (ws (wr_ (ho rfl (HOp.alloc zeroValue38) ?_)))))
 rintro _ H5 ⟨rfl, e6⟩
 replace h := h H5 e6
 refine hn (nt (ws (ws (wr_ (hv (v := sv p1) rfl (mv rfl) (hv (v := bv (seq p1 S_time)) rfl (HVal.eqlS rfl rfl) ?_))))))
 refine hn (nt ?_)
 obtain ⟨hT, hF⟩ := h
 refine wk (seq p1 S_time) rfl (fun hb7 => ?_) (fun hb7 => ?_)
 ·have h := hT hb7
  refine ws (wr_ (hv (v := pp (Addr.add (bk H) 1)) rfl (fa runUnderlying36 rfl rfl sizeOf2 rfl) ?_))
  obtain ⟨x9, c8, h⟩ := h
  refine hv (v := iv x9) rfl (l1 isAgg2 rfl c8) (ho rfl (HOp.call' 47 [(iv x9)] (cap := []) rfl rfl call47 (walk47 h)) ?_)
  rintro _ H10 ⟨r12, r13, r14, r15, rfl, h⟩
  obtain ⟨z18, h⟩ := h
  refine hq (HOp.storeN' (l := (vR r12 r13 r14 r15)) sizeOf38 rfl rfl rfl z18) ?_
  rintro _ H16 e17
  replace h := h H16 e17
  refine hv (v := iv 0) rfl (av rfl) (hn (nt (HW.ret (tr ?_))))
  obtain ⟨x19, x20, x21, x22, c23, h⟩ := h
  exact ⟨_, resOf2 rfl (Res1.n (vR x19 x20 x21 x22) isAgg38 sizeOf38 rfl c23) Res1.t, ⟨x19, x20, x21, x22, 0, rfl, h⟩⟩
 have h := hF hb7
 refine wp_ (nt (wc (fun ρ H_1 => Env.Is ρ [(6, (pp (bk H1))), (8, (pp (bk H3)))] ∧ F29_1 Q (bk H1) (bk H3) H_1) ?_ ?_))
 ·refine ws (wr_ (hv (v := iv 0) rfl (av rfl) (hn (nt (wb (HW.loop' (fun L2 hL2 => ?_)))))))
  obtain ⟨X2, hX2⟩ : ∃ X2 : ZQI, ∀ (y26 : Int) (H_2 : Hp), X2 y26 H_2 ↔ ∀ ρ, Env.Is ρ [(1, (sv p1)), (2, (Sl.v p2)), (3, (pp (bk H))), (6, (pp (bk H1))), (8, (pp (bk H3))), (9, (iv y26))] → L2 ρ H_2 := ⟨_, fun _ _ => Iff.rfl⟩
  refine (hX2 _ _).1 (h X2 ?_) _ ?_
  rotate_left
  ·exact (isp rfl)
  clear h
  intro y26 H_2 h
  refine (hX2 _ _).2 fun ρ hI => ?_
  obtain ⟨ρ0, rfl⟩ := hI.ex
  clear hI; unfold F29_L2b at h; refine hL2 _ _ ?_
  refine ws (ws (wr_ (hv (v := iv y26) rfl (mv rfl) (hv (v := Sl.v p2) rfl (mv rfl) (hv (v := iv ((p2).n : Int)) rfl (HVal.len runUnderlying30 rfl) ?_)))))
  refine hv (v := bv (decide (y26 < ((p2).n : Int)))) rfl (HVal.lss rfl rfl) (hn (nt ?_))
  obtain ⟨hT, hF⟩ := h
  refine wk (decide (y26 < ((p2).n : Int))) rfl (fun hb32 => ?_) (fun hb32 => ?_)
  ·have h := hT hb32
   refine wp_ (nt (ws (wb (ws (ws (HW.draw mixed [(0, some []), (1, some []), (2, some []), (3, some []), (4, some []), (5, some []), (6, some []), (7, some [])] rfl (by kernel_rfl) (by kernel_rfl) ?_))))))
   refine pv (v := Sl.v p2) rfl rfl (fun _ => mv rfl) (pv (v := iv y26) rfl rfl (fun _ => mv rfl) ?_)
   obtain ⟨a33, e34, b35, b36, h⟩ := h
   refine pv (v := pp (Addr.add a33 (y26.toNat * 2))) rfl rfl (fun _ => ia runUnderlying30 sizeOf86 (Sl.v_some rfl e34) rfl b35 b36) ?_
   refine pv (v := pp (Addr.add a33 (y26.toNat * 2))) rfl rfl (fun _ => HVal.fieldAddr0 runUnderlying86 rfl rfl sizeOf9 rfl) ?_
   obtain ⟨x38, c37, h⟩ := h
   refine pl (v := sv x38) (fun X => cell X (Addr.add a33 (y26.toNat * 2)) = some (sv x38)) rfl rfl (fun _ hX => l1 isAgg9 rfl hX) c37 ?_
   refine pv (v := pp (bk H)) rfl rfl (fun _ => HVal.fieldAddr0 runUnderlying36 rfl rfl sizeOf9 rfl) ?_
   obtain ⟨x40, c39, h⟩ := h
   refine pl (v := sv x40) (fun X => cell X (bk H) = some (sv x40)) rfl rfl (fun _ hX => l1 isAgg9 rfl hX) c39 (pv (v := bv (!(seq x38 x40))) rfl rfl (fun _ => HVal.neqS rfl rfl) ?_)
   refine HPlan.done (nt ?_)
   obtain ⟨hT, hF⟩ := h
   refine wk (!(seq x38 x40)) rfl (fun hb41 => ?_) (fun hb41 => ?_)
   ·have h := hT hb41
    refine we (te (be (nt (wr_ (hv (v := iv y26) rfl (mv rfl) (hv (v := iv (IntKind.i64.wrap (y26 + 1))) rfl (HVal.add rfl rfl) ?_))))))
    refine hv (v := iv (IntKind.i64.wrap (y26 + 1))) rfl (av rfl) (hn (nt ?_))
    exact (hX2 _ _).1 h _ (isp rfl)
   have h := hF hb41
   refine wp_ (nt (ws (wr_ (hv (v := Sl.v p2) rfl (mv rfl) (hv (v := iv y26) rfl (mv rfl) ?_)))))
   obtain ⟨a42, e43, b44, b45, h⟩ := h
   refine hv (v := pp (Addr.add a42 (y26.toNat * 2))) rfl (ia runUnderlying30 sizeOf86 (Sl.v_some rfl e43) rfl b44 b45) ?_
   refine hv (v := pp (Addr.add (Addr.add a42 (y26.toNat * 2)) 1)) rfl (fa runUnderlying86 rfl rfl sizeOf84 rfl) ?_
   obtain ⟨x47, c46, h⟩ := h
   refine hv (v := Sl.v x47) rfl (l1 isAgg84 rfl c46) (hv (v := Sl.v x47) rfl (av rfl) (hn (nt (wc (fun ρ H_3 => Env.Is ρ [(6, (pp (bk H1))), (8, (pp (bk H3)))] ∧ F29_3 Q X2 (bk H1) (bk H3) H_3) ?_ ?_))))
   ·refine ws (wr_ (hv (v := iv 0) rfl (av rfl) (hn (nt (wb (HW.loop' (fun L4 hL4 => ?_)))))))
    obtain ⟨X4, hX4⟩ : ∃ X4 : ZQI, ∀ (y50 : Int) (H_4 : Hp), X4 y50 H_4 ↔ ∀ ρ, Env.Is ρ [(1, (sv p1)), (3, (pp (bk H))), (6, (pp (bk H1))), (8, (pp (bk H3))), (10, (Sl.v x47)), (11, (iv y50))] → L4 ρ H_4 := ⟨_, fun _ _ => Iff.rfl⟩
    refine (hX4 _ _).1 (h X4 ?_) _ ?_
    rotate_left
    ·exact (isp rfl)
    clear h
    intro y50 H_4 h
    refine (hX4 _ _).2 fun ρ hI => ?_
    obtain ⟨ρ0, rfl⟩ := hI.ex
    clear hI; unfold F29_L4b at h; refine hL4 _ _ ?_
    refine ws (ws (wr_ (hv (v := iv y50) rfl (mv rfl) (hv (v := Sl.v x47) rfl (mv rfl) (hv (v := iv ((x47).n : Int)) rfl (HVal.len runUnderlying84 rfl) ?_)))))
    refine hv (v := bv (decide (y50 < ((x47).n : Int)))) rfl (HVal.lss rfl rfl) (hn (nt ?_))
    obtain ⟨hT, hF⟩ := h
    refine wk (decide (y50 < ((x47).n : Int))) rfl (fun hb56 => ?_) (fun hb56 => ?_)
    ·have h := hT hb56
     refine wp_ (nt (ws (wb (ws (ws (wr_ (hv (v := Sl.v x47) rfl (mv rfl) (hv (v := iv y50) rfl (mv rfl) ?_))))))))
     obtain ⟨a57, e58, b59, b60, h⟩ := h
     refine hv (v := pp (Addr.add a57 (y50.toNat * 2))) rfl (ia runUnderlying84 sizeOf83 (Sl.v_some rfl e58) rfl b59 b60) ?_
     refine hv (v := pp (Addr.add a57 (y50.toNat * 2))) rfl (HVal.fieldAddr0 runUnderlying83 rfl rfl sizeOf9 rfl) ?_
     obtain ⟨x62, c61, h⟩ := h
     refine hv (v := sv x62) rfl (l1 isAgg9 rfl c61) (hv (v := sv p1) rfl (mv rfl) (hv (v := bv (!(seq x62 p1))) rfl (HVal.neqS rfl rfl) ?_))
     refine hn (nt ?_)
     obtain ⟨hT, hF⟩ := h
     refine wk (!(seq x62 p1)) rfl (fun hb63 => ?_) (fun hb63 => ?_)
     ·have h := hT hb63
      refine we (te (be (nt (wr_ (hv (v := iv y50) rfl (mv rfl) (hv (v := iv (IntKind.i64.wrap (y50 + 1))) rfl (HVal.add rfl rfl) ?_))))))
      refine hv (v := iv (IntKind.i64.wrap (y50 + 1))) rfl (av rfl) (hn (nt ?_))
      exact (hX4 _ _).1 h _ (isp rfl)
     have h := hF hb63
     refine wp_ (nt (ws (wb (ws (wr_ (hv (v := iv y50) rfl (mv rfl) (hv (v := pp (Addr.add (bk H) 2)) rfl (fa runUnderlying36 rfl rfl sizeOf34 rfl) ?_)))))))
     obtain ⟨x65, c64, h⟩ := h
     refine hv (v := Sl.v x65) rfl (l1 isAgg34 rfl c64) (hv (v := iv ((x65).n : Int)) rfl (HVal.len runUnderlying34 rfl) ?_)
     refine hv (v := bv (decide (((x65).n : Int) ≤ y50))) rfl (HVal.geq rfl rfl) (hv (v := bv (decide (((x65).n : Int) ≤ y50))) rfl (av rfl) ?_)
     refine hn (nt ?_)
     obtain ⟨hT, hF⟩ := h
     refine wk (decide (((x65).n : Int) ≤ y50)) rfl (fun hb66 => ?_) (fun hb66 => ?_)
     ·have h := hT hb66
      refine ws (wr_ ?_)
      obtain ⟨x68, x69, x70, x71, c67, h⟩ := h
      refine hv (v := .agg (vR x68 x69 x70 x71).toArray) rfl (ln (vR x68 x69 x70 x71) isAgg38 sizeOf38 rfl c67) ?_
      obtain ⟨z74, h⟩ := h
      refine hq (HOp.storeN' (l := (vR x68 x69 x70 x71)) sizeOf38 rfl rfl rfl z74) ?_
      rintro _ H72 e73
      replace h := h H72 e73
      refine hv (v := iv 22) rfl (av rfl) (hn (nt (HW.ret (br (tr (br (tr (tr (br (tr (br (tr (tr (br (tr ?_)))))))))))))))
      obtain ⟨x75, x76, x77, x78, c79, h⟩ := h
      exact ⟨_, resOf2 rfl (Res1.n (vR x75 x76 x77 x78) isAgg38 sizeOf38 rfl c79) Res1.t, ⟨x75, x76, x77, x78, 22, rfl, h⟩⟩
     have h := hF hb66
     refine ws (HW.draw mixed [(0, some []), (1, some []), (2, some []), (3, some []), (4, some []), (5, some []), (6, some []), (7, some []), (8, some []), (9, some []), (10, some []), (11, some []), (12, some [])] rfl (by kernel_rfl) (by kernel_rfl) ?_)
     refine pv (v := pp (Addr.add (bk H) 2)) rfl rfl (fun _ => fa runUnderlying36 rfl rfl sizeOf34 rfl) ?_
     obtain ⟨x81, c80, h⟩ := h
     refine pl (v := Sl.v x81) (fun X => cell X (Addr.add (bk H) 2) = some (Sl.v x81)) rfl rfl (fun _ hX => l1 isAgg34 rfl hX) c80 (pv (v := iv y50) rfl rfl (fun _ => mv rfl) ?_)
     obtain ⟨a82, e83, b84, b85, h⟩ := h
     refine pv (v := pp (Addr.add a82 (y50.toNat * 4))) rfl rfl (fun _ => ia runUnderlying34 sizeOf38 (Sl.v_some rfl e83) rfl b84 b85) ?_
     refine pv (v := pp (Addr.add a82 (y50.toNat * 4))) rfl rfl (fun _ => HVal.fieldAddr0 runUnderlying38 rfl rfl sizeOf3 rfl) ?_
     obtain ⟨x87, c86, h⟩ := h
     refine pl (v := iv x87) (fun X => cell X (Addr.add a82 (y50.toNat * 4)) = some (iv x87)) rfl rfl (fun _ hX => l1 isAgg3 rfl hX) c86 ?_
     refine pv (v := Sl.v x47) rfl rfl (fun _ => mv rfl) (pv (v := iv y50) rfl rfl (fun _ => mv rfl) ?_)
     obtain ⟨a88, e89, b90, b91, h⟩ := h
     refine pv (v := pp (Addr.add a88 (y50.toNat * 2))) rfl rfl (fun _ => ia runUnderlying84 sizeOf83 (Sl.v_some rfl e89) rfl b90 b91) ?_
     refine pv (v := pp (Addr.add (Addr.add a88 (y50.toNat * 2)) 1)) rfl rfl (fun _ => fa runUnderlying83 rfl rfl sizeOf3 rfl) ?_
     obtain ⟨x93, c92, h⟩ := h
     refine pl (v := iv x93) (fun X => cell X (Addr.add (Addr.add a88 (y50.toNat * 2)) 1) = some (iv x93)) rfl rfl (fun _ hX => l1 isAgg3 rfl hX) c92 ?_
     refine pv (v := bv (decide (x87 ≠ x93))) rfl rfl (fun _ => HVal.neqI rfl rfl) (pv (v := bv (decide (x87 ≠ x93))) rfl rfl (fun _ => av rfl) ?_)
     refine HPlan.done (nt ?_)
     obtain ⟨hT, hF⟩ := h
     refine wk (decide (x87 ≠ x93)) rfl (fun hb94 => ?_) (fun hb94 => ?_)
     ·have h := hT hb94
      refine ws (wr_ ?_)
      obtain ⟨x96, x97, x98, x99, c95, h⟩ := h
      refine hv (v := .agg (vR x96 x97 x98 x99).toArray) rfl (ln (vR x96 x97 x98 x99) isAgg38 sizeOf38 rfl c95) ?_
      obtain ⟨z102, h⟩ := h
      refine hq (HOp.storeN' (l := (vR x96 x97 x98 x99)) sizeOf38 rfl rfl rfl z102) ?_
      rintro _ H100 e101
      replace h := h H100 e101
      refine hv (v := iv 10) rfl (av rfl) (hn (nt (HW.ret (br (tr (br (tr (tr (br (tr (br (tr (tr (br (tr ?_)))))))))))))))
      obtain ⟨x103, x104, x105, x106, c107, h⟩ := h
      exact ⟨_, resOf2 rfl (Res1.n (vR x103 x104 x105 x106) isAgg38 sizeOf38 rfl c107) Res1.t, ⟨x103, x104, x105, x106, 10, rfl, h⟩⟩
     have h := hF hb94
     refine ws (wr_ (hv (v := pp (Addr.add (bk H) 2)) rfl (fa runUnderlying36 rfl rfl sizeOf34 rfl) ?_))
     obtain ⟨x109, c108, h⟩ := h
     refine hv (v := Sl.v x109) rfl (l1 isAgg34 rfl c108) (hv (v := iv y50) rfl (mv rfl) ?_)
     obtain ⟨a110, e111, b112, b113, h⟩ := h
     refine hv (v := pp (Addr.add a110 (y50.toNat * 4))) rfl (ia runUnderlying34 sizeOf38 (Sl.v_some rfl e111) rfl b112 b113) ?_
     obtain ⟨x115, x116, x117, x118, c114, h⟩ := h
     refine hv (v := .agg (vR x115 x116 x117 x118).toArray) rfl (ln (vR x115 x116 x117 x118) isAgg38 sizeOf38 rfl c114) (ho rfl (HOp.call' 48 [(.agg (vR x115 x116 x117 x118).toArray)] (cap := []) rfl rfl call48 (walk48 h)) ?_)
     rintro _ H119 ⟨r121, rfl, h⟩
     refine hv (v := bv (!r121)) rfl (HVal.not rfl) (hv (v := bv (!r121)) rfl (av rfl) (hn (nt ?_)))
     obtain ⟨hT, hF⟩ := h
     refine wk (!r121) rfl (fun hb122 => ?_) (fun hb122 => ?_)
     ·have h := hT hb122
      refine ws (wr_ ?_)
      obtain ⟨x124, x125, x126, x127, c123, h⟩ := h
      refine hv (v := .agg (vR x124 x125 x126 x127).toArray) rfl (ln (vR x124 x125 x126 x127) isAgg38 sizeOf38 rfl c123) ?_
      obtain ⟨z130, h⟩ := h
      refine hq (HOp.storeN' (l := (vR x124 x125 x126 x127)) sizeOf38 rfl rfl rfl z130) ?_
      rintro _ H128 e129
      replace h := h H128 e129
      refine hv (v := iv 12) rfl (av rfl) (hn (nt (HW.ret (br (tr (br (tr (tr (br (tr (br (tr (tr (br (tr ?_)))))))))))))))
      obtain ⟨x131, x132, x133, x134, c135, h⟩ := h
      exact ⟨_, resOf2 rfl (Res1.n (vR x131 x132 x133 x134) isAgg38 sizeOf38 rfl c135) Res1.t, ⟨x131, x132, x133, x134, 12, rfl, h⟩⟩
     have h := hF hb122
     refine wp_ (nb (nt (ws (wr_ (hv (v := pp (Addr.add (bk H) 2)) rfl (fa runUnderlying36 rfl rfl sizeOf34 rfl) ?_)))))
     obtain ⟨x137, c136, h⟩ := h
     refine hv (v := Sl.v x137) rfl (l1 isAgg34 rfl c136) (hv (v := iv y50) rfl (mv rfl) ?_)
     obtain ⟨a138, e139, b140, b141, h⟩ := h
     refine hv (v := pp (Addr.add a138 (y50.toNat * 4))) rfl (ia runUnderlying34 sizeOf38 (Sl.v_some rfl e139) rfl b140 b141) ?_
     obtain ⟨x143, x144, x145, x146, c142, h⟩ := h
     refine hv (v := .agg (vR x143 x144 x145 x146).toArray) rfl (ln (vR x143 x144 x145 x146) isAgg38 sizeOf38 rfl c142) ?_
     obtain ⟨z149, h⟩ := h
     refine hq (HOp.storeN' (l := (vR x143 x144 x145 x146)) sizeOf38 rfl rfl rfl z149) ?_
     rintro _ H147 e148
     replace h := h H147 e148
     refine hv (v := iv 0) rfl (av rfl) (hn (nt (HW.ret (br (tr (tr (br (tr (br (tr (tr (br (tr ?_)))))))))))))
     obtain ⟨x150, x151, x152, x153, c154, h⟩ := h
     exact ⟨_, resOf2 rfl (Res1.n (vR x150 x151 x152 x153) isAgg38 sizeOf38 rfl c154) Res1.t, ⟨x150, x151, x152, x153, 0, rfl, h⟩⟩
    have h := hF hb56
    refine we (te (te (be (nt ?_))))
    exact ⟨(isp rfl), h⟩
   rintro ρ H_3 ⟨hI, h⟩
   obtain ⟨ρ0, rfl⟩ := hI.ex
   clear hI; unfold F29_3 at h
   refine ws (wr_ ?_)
   obtain ⟨x156, x157, x158, x159, c155, h⟩ := h
   refine hv (v := .agg (vR x156 x157 x158 x159).toArray) rfl (ln (vR x156 x157 x158 x159) isAgg38 sizeOf38 rfl c155) ?_
   obtain ⟨z162, h⟩ := h
   refine hq (HOp.storeN' (l := (vR x156 x157 x158 x159)) sizeOf38 rfl rfl rfl z162) ?_
   rintro _ H160 e161
   replace h := h H160 e161
   refine hv (v := iv 82) rfl (av rfl) (hn (nt (HW.ret (br (tr (tr (br (tr ?_))))))))
   obtain ⟨x163, x164, x165, x166, c167, h⟩ := h
   exact ⟨_, resOf2 rfl (Res1.n (vR x163 x164 x165 x166) isAgg38 sizeOf38 rfl c167) Res1.t, ⟨x163, x164, x165, x166, 82, rfl, h⟩⟩
  have h := hF hb32
  refine we (te (te (be (nt ?_))))
  exact ⟨(isp rfl), h⟩
 rintro ρ H_1 ⟨hI, h⟩
 obtain ⟨ρ0, rfl⟩ := hI.ex
 clear hI; unfold F29_1 at h
 refine ws (wr_ ?_)
 obtain ⟨x169, x170, x171, x172, c168, h⟩ := h
 refine hv (v := .agg (vR x169 x170 x171 x172).toArray) rfl (ln (vR x169 x170 x171 x172) isAgg38 sizeOf38 rfl c168) ?_
 obtain ⟨z175, h⟩ := h
 refine hq (HOp.storeN' (l := (vR x169 x170 x171 x172)) sizeOf38 rfl rfl rfl z175) ?_
 rintro _ H173 e174
 replace h := h H173 e174
 refine hv (v := iv 21) rfl (av rfl) (hn (nt (HW.ret ?_)))
 obtain ⟨x176, x177, x178, x179, c180, h⟩ := h
 exact ⟨_, resOf2 rfl (Res1.n (vR x176 x177 x178 x179) isAgg38 sizeOf38 rfl c180) Res1.t, ⟨x176, x177, x178, x179, 21, rfl, h⟩⟩

def F75_1 (Q : Sl → ZQB) (H_1 : Hp) : Prop :=
Q Sl.nil false H_1
def F75_L2b (Q : Sl → ZQB) (X2 : ZQI) (y4 : ByteArray) (y5 : Addr) (y3 : Int) (H_2 : Hp) : Prop :=
∃ x7, cell H_2 y5 = some (Sl.v x7) ∧ (
 ((decide (y3 < ((x7).n : Int))) = true → (∃ x10, cell H_2 y5 = some (Sl.v x10) ∧ (
 ∃ a11, (x10).b = some a11 ∧ (0 : Int) ≤ y3 ∧ y3 < ((x10).n : Int) ∧ (
 ∃ x16, cell H_2 (Addr.add a11 (y3.toNat * 1)) = some (sv x16) ∧ (
 ((seq x16 y4) = true → (∃ x19, cell H_2 (Addr.add y5 1) = some (Sl.v x19) ∧ (
 ((decide (y3 < ((x19).n : Int))) = true → (∃ x22, cell H_2 (Addr.add y5 1) = some (Sl.v x22) ∧ (
 ∃ a23, (x22).b = some a23 ∧ (0 : Int) ≤ y3 ∧ y3 < ((x22).n : Int) ∧ (
 ∃ x28, cell H_2 (Addr.add a23 (y3.toNat * 1)) = some (Sl.v x28) ∧ (
 Q x28 true H_2))))) ∧
 ((decide (y3 < ((x19).n : Int))) = false → (Q Sl.nil false H_2))))) ∧
 ((seq x16 y4) = false → (X2 (IntKind.i64.wrap (y3 + 1)) H_2))))))) ∧
 ((decide (y3 < ((x7).n : Int))) = false → (F75_1 Q H_2)))
def F75_L2 (Q : Sl → ZQB) (y4 : ByteArray) (y5 : Addr) (y3 : Int) (H_2 : Hp) : Prop :=
 ∀ X2 : ZQI, (∀ (y3 : Int) (H_2 : Hp), F75_L2b Q X2 y4 y5 y3 H_2 → X2 y3 H_2) → X2 y3 H_2
def F75 (p0_0 p0_1 : Sl) (p0_2 p0_3 : ByteArray) (p0_4 : Int) (p0_5 p0_6 : Sl) (p1 : ByteArray) (H : Hp) (Q : Sl → ZQB) : Prop :=
∀ H1, H1 = Array.push H (.cells (xR p0_0 p0_1 p0_2 p0_3 p0_4 p0_5 p0_6).toArray 43) → (
 F75_L2 Q p1 (bk H) 0 H1)
theorem walk75 {w0 : World} {p0_0 p0_1 : Sl} {p0_2 p0_3 : ByteArray} {p0_4 : Int} {p0_5 p0_6 : Sl} {p1 : ByteArray} {H : Hp} {Q : Sl → ZQB} (h : F75 p0_0 p0_1 p0_2 p0_3 p0_4 p0_5 p0_6 p1 H Q) :
  Good prog w0 75 #[(.agg (xR p0_0 p0_1 p0_2 p0_3 p0_4 p0_5 p0_6).toArray), (sv p1)] H (fun v H => ∃ r0 r1, v = (.tuple #[(Sl.v r0), (bv r1)]) ∧ Q r0 r1 H) := by
 unfold F75 at h
 refine Good.enter' (fn := f75) func75 rfl rfl rfl (ws (wr_ (ho rfl (ob (v := .agg (xR p0_0 p0_1 p0_2 p0_3 p0_4 p0_5 p0_6).toArray) rfl) ?_)))
 rintro _ H1 ⟨rfl, e2⟩
 replace h := h H1 e2
 refine hv (v := sN) rfl (av rfl) (hv (v := bv false) rfl (av rfl) (hn (nt (wc (fun ρ H_1 => Env.Is ρ [] ∧ F75_1 Q H_1) ?_ ?_))))
 ·refine ws (wr_ (hv (v := iv 0) rfl (av rfl) (hn (nt (wb (HW.loop' (fun L2 hL2 => ?_)))))))
  obtain ⟨X2, hX2⟩ : ∃ X2 : ZQI, ∀ (y3 : Int) (H_2 : Hp), X2 y3 H_2 ↔ ∀ ρ, Env.Is ρ [(1, (sv p1)), (2, (pp (bk H))), (6, (iv y3))] → L2 ρ H_2 := ⟨_, fun _ _ => Iff.rfl⟩
  refine (hX2 _ _).1 (h X2 ?_) _ ?_
  rotate_left
  ·exact (isp rfl)
  clear h
  intro y3 H_2 h
  refine (hX2 _ _).2 fun ρ hI => ?_
  obtain ⟨ρ0, rfl⟩ := hI.ex
  clear hI; unfold F75_L2b at h; refine hL2 _ _ ?_
  refine ws (ws (wr_ (hv (v := iv y3) rfl (mv rfl) (hv (v := pp (bk H)) rfl (HVal.fieldAddr0 runUnderlying43 rfl rfl sizeOf29 rfl) ?_))))
  obtain ⟨x7, c6, h⟩ := h
  refine hv (v := Sl.v x7) rfl (l1 isAgg29 rfl c6) (hv (v := iv ((x7).n : Int)) rfl (HVal.len runUnderlying29 rfl) (hv (v := bv (decide (y3 < ((x7).n : Int)))) rfl (HVal.lss rfl rfl) ?_))
  refine hn (nt ?_)
  obtain ⟨hT, hF⟩ := h
  refine wk (decide (y3 < ((x7).n : Int))) rfl (fun hb8 => ?_) (fun hb8 => ?_)
  ·have h := hT hb8
   refine wp_ (nt (ws (wb (ws (wr_ (hv (v := pp (bk H)) rfl (HVal.fieldAddr0 runUnderlying43 rfl rfl sizeOf29 rfl) ?_))))))
   obtain ⟨x10, c9, h⟩ := h
   refine hv (v := Sl.v x10) rfl (l1 isAgg29 rfl c9) (hv (v := iv y3) rfl (mv rfl) ?_)
   obtain ⟨a11, e12, b13, b14, h⟩ := h
   refine hv (v := pp (Addr.add a11 (y3.toNat * 1))) rfl (ia runUnderlying29 sizeOf9 (Sl.v_some rfl e12) rfl b13 b14) ?_
   obtain ⟨x16, c15, h⟩ := h
   refine hv (v := sv x16) rfl (l1 isAgg9 rfl c15) (hv (v := sv p1) rfl (mv rfl) (hv (v := bv (seq x16 p1)) rfl (HVal.eqlS rfl rfl) ?_))
   refine hn (nt ?_)
   obtain ⟨hT, hF⟩ := h
   refine wk (seq x16 p1) rfl (fun hb17 => ?_) (fun hb17 => ?_)
   ·have h := hT hb17
    refine ws (ws (wr_ (hv (v := iv y3) rfl (mv rfl) (hv (v := pp (Addr.add (bk H) 1)) rfl (fa runUnderlying43 rfl rfl sizeOf27 rfl) ?_))))
    obtain ⟨x19, c18, h⟩ := h
    refine hv (v := Sl.v x19) rfl (l1 isAgg27 rfl c18) (hv (v := iv ((x19).n : Int)) rfl (HVal.len runUnderlying27 rfl) ?_)
    refine hv (v := bv (decide (y3 < ((x19).n : Int)))) rfl (HVal.lss rfl rfl) (hn (nt ?_))
    obtain ⟨hT, hF⟩ := h
    refine wk (decide (y3 < ((x19).n : Int))) rfl (fun hb20 => ?_) (fun hb20 => ?_)
    ·have h := hT hb20
     refine ws (wr_ (hv (v := pp (Addr.add (bk H) 1)) rfl (fa runUnderlying43 rfl rfl sizeOf27 rfl) ?_))
     obtain ⟨x22, c21, h⟩ := h
     refine hv (v := Sl.v x22) rfl (l1 isAgg27 rfl c21) (hv (v := iv y3) rfl (mv rfl) ?_)
     obtain ⟨a23, e24, b25, b26, h⟩ := h
     refine hv (v := pp (Addr.add a23 (y3.toNat * 1))) rfl (ia runUnderlying27 sizeOf49 (Sl.v_some rfl e24) rfl b25 b26) ?_
     obtain ⟨x28, c27, h⟩ := h
     refine hv (v := Sl.v x28) rfl (l1 isAgg49 rfl c27) (hv (v := Sl.v x28) rfl (av rfl) (hv (v := bv true) rfl (av rfl) ?_))
     refine hn (nt (HW.ret (tr (br (tr (tr (br (tr ?_))))))))
     exact ⟨_, resOf2 rfl Res1.t Res1.t, ⟨x28, true, rfl, h⟩⟩
    have h := hF hb20
    refine wp_ (nt (ws (wr_ (hv (v := sN) rfl (av rfl) (hv (v := bv false) rfl (av rfl) (hn (nt ?_)))))))
    refine HW.ret (br (tr (tr (br (tr ?_)))))
    exact ⟨_, resOf2 rfl Res1.t Res1.t, ⟨Sl.nil, false, rfl, h⟩⟩
   have h := hF hb17
   refine wp_ (nb (nt (wr_ (hv (v := iv y3) rfl (mv rfl) (hv (v := iv (IntKind.i64.wrap (y3 + 1))) rfl (HVal.add rfl rfl) ?_)))))
   refine hv (v := iv (IntKind.i64.wrap (y3 + 1))) rfl (av rfl) (hn (nt ?_))
   exact (hX2 _ _).1 h _ (isp rfl)
  have h := hF hb8
  refine we (te (te (be (nt ?_))))
  exact ⟨trivial, h⟩
 rintro ρ H_1 ⟨hI, h⟩
 obtain ⟨ρ0, rfl⟩ := hI.ex
 clear hI; unfold F75_1 at h
 refine ws (wr_ (hv (v := sN) rfl (av rfl) (hv (v := bv false) rfl (av rfl) (hn (nt (HW.ret ?_))))))
 exact ⟨_, resOf2 rfl Res1.t Res1.t, ⟨Sl.nil, false, rfl, h⟩⟩

def F74_3 (Q : Sl → Hp → Prop) (y53 : Sl) (y54 : Int) (y59 : Bool) (H_3 : Hp) : Prop :=
(y59 = true → ((0 : Int) ≤ (IntKind.i64.wrap (y54 - 1)) ∧ (IntKind.i64.wrap (y54 - 1)).toNat ≤ (y53).n ∧ (y53).n ≤ (y53).c ∧ (y53).c ≤ (y53).c ∧ (
 Q (Sl.cut y53 3 ((IntKind.i64.wrap (y54 - 1)).toNat) ((y53).n) ((y53).c)) H_3))) ∧
 (y59 = false → (0 ≤ (1 : Int).toNat ∧ (1 : Int).toNat ≤ (y53).c ∧ (y53).c ≤ (y53).c ∧ (
 Q (Sl.cut y53 3 0 ((1 : Int).toNat) ((y53).c)) H_3)))
def F74_2 (Q : Sl → Hp → Prop) (y42 : Addr) (y43 : Sl) (y44 : Int) (y47 : Bool) (H_2 : Hp) : Prop :=
(y47 = true → (Q Sl.nil H_2)) ∧
 (y47 = false → (∃ x56, cell H_2 (Addr.add y42 7) = some (iv x56) ∧ (
 (decide (x56 = 3) = true → (F74_3 Q y43 y44 true H_2)) ∧
 (decide (x56 = 3) = false → (∃ x61, cell H_2 (Addr.add y42 7) = some (iv x61) ∧ (
 F74_3 Q y43 y44 (decide (x61 = 5)) H_2))))))
def F74_1 (Q : Sl → Hp → Prop) (y19 y20 : Addr) (y21 : Sl) (y22 : Int) (y31 : Bool) (H_1 : Hp) : Prop :=
∃ x33, cell H_1 (Addr.add y19 7) = some (iv x33) ∧ (
 (decide (x33 = 2) = true → ((y31 = true → (∃ x37 x38 x39, cells H_1 (Addr.add y20 3) (tR x37 x38 x39) 0 ∧ (
 ∀ H40, H40 = Array.push H_1 (.cells (tR x37 x38 x39).toArray 36) → (
 Q (Sl.mk (some (bk H_1)) 1 1) H40)))) ∧
 (y31 = false → (Q Sl.nil H_1)))) ∧
 (decide (x33 = 2) = false → ((decide (y22 = 0) = true → (F74_2 Q y19 y21 y22 true H_1)) ∧
 (decide (y22 = 0) = false → (∃ x49, cell H_1 (Addr.add y19 7) = some (iv x49) ∧ (
 (decide (x49 = 3) = true → (F74_2 Q y19 y21 y22 (!y31) H_1)) ∧
 (decide (x49 = 3) = false → (F74_2 Q y19 y21 y22 false H_1))))))))
def F74 (p0_0 p0_1 p0_2 p0_3 : Int) (p0_4 : ByteArray) (p0_5 : Bool) (p0_6 : ByteArray) (p0_7 : Int) (p0_8 : ByteArray) (p0_9 p1_0 p1_1 : Sl) (p1_2 p1_3 : ByteArray) (p1_4 : Int) (p1_5 p1_6 : Sl) (H : Hp) (Q : Sl → Hp → Prop) : Prop :=
∀ H1, H1 = Array.push H (.cells (eR p0_0 p0_1 p0_2 p0_3 p0_4 p0_5 p0_6 p0_7 p0_8 p0_9).toArray 41) → (
 ∀ H3, H3 = Array.push H1 (.cells (xR p1_0 p1_1 p1_2 p1_3 p1_4 p1_5 p1_6).toArray 43) → (
 ∃ x6 x7 x8 x9 x10 x11 x12, cells H3 (bk H1) (xR x6 x7 x8 x9 x10 x11 x12) 0 ∧ (
 ∃ x14, cell H3 (Addr.add (bk H) 6) = some (sv x14) ∧ (
 F75 x6 x7 x8 x9 x10 x11 x12 x14 H3 (fun r17 r18 H15 =>
 ∃ x24, cell H15 (Addr.add (bk H) 6) = some (sv x24) ∧ (
 ∃ x26, cell H15 (Addr.add (bk H1) 2) = some (sv x26) ∧ (
 ((seq x24 x26) = true → (∃ x30, cell H15 (Addr.add (bk H1) 2) = some (sv x30) ∧ (
 F74_1 Q (bk H) (bk H1) r17 ((r17).n : Int) (!(seq x30 bE)) H15))) ∧
 ((seq x24 x26) = false → (F74_1 Q (bk H) (bk H1) r17 ((r17).n : Int) false H15)))))))))
theorem walk74 {w0 : World} {p0_0 p0_1 p0_2 p0_3 : Int} {p0_4 : ByteArray} {p0_5 : Bool} {p0_6 : ByteArray} {p0_7 : Int} {p0_8 : ByteArray} {p0_9 p1_0 p1_1 : Sl} {p1_2 p1_3 : ByteArray} {p1_4 : Int} {p1_5 p1_6 : Sl} {H : Hp} {Q : Sl → Hp → Prop} (h : F74 p0_0 p0_1 p0_2 p0_3 p0_4 p0_5 p0_6 p0_7 p0_8 p0_9 p1_0 p1_1 p1_2 p1_3 p1_4 p1_5 p1_6 H Q) :
  Good prog w0 74 #[(.agg (eR p0_0 p0_1 p0_2 p0_3 p0_4 p0_5 p0_6 p0_7 p0_8 p0_9).toArray), (.agg (xR p1_0 p1_1 p1_2 p1_3 p1_4 p1_5 p1_6).toArray)] H (fun v H => ∃ r0, v = (Sl.v r0) ∧ Q r0 H) := by
 unfold F74 at h
 refine Good.enter' (fn := f74) func74 rfl rfl rfl (ws (wr_ (ho rfl (ob (v := .agg (eR p0_0 p0_1 p0_2 p0_3 p0_4 p0_5 p0_6 p0_7 p0_8 p0_9).toArray) rfl) ?_)))
 rintro _ H1 ⟨rfl, e2⟩
 replace h := h H1 e2
 refine ho rfl (ob (v := .agg (xR p1_0 p1_1 p1_2 p1_3 p1_4 p1_5 p1_6).toArray) rfl) ?_
 rintro _ H3 ⟨rfl, e4⟩
 replace h := h H3 e4
 refine hv (v := sN) rfl (av rfl) (hn (nt (ws (wr_ ?_))))
 obtain ⟨x6, x7, x8, x9, x10, x11, x12, c5, h⟩ := h
 refine hv (v := .agg (xR x6 x7 x8 x9 x10 x11 x12).toArray) rfl (ln (xR x6 x7 x8 x9 x10 x11 x12) isAgg43 sizeOf43 rfl c5) (hv (v := pp (Addr.add (bk H) 6)) rfl (fa runUnderlying41 rfl rfl sizeOf9 rfl) ?_)
 obtain ⟨x14, c13, h⟩ := h
 refine hv (v := sv x14) rfl (l1 isAgg9 rfl c13) (ho rfl (HOp.call' 75 [(.agg (xR x6 x7 x8 x9 x10 x11 x12).toArray), (sv x14)] (cap := []) rfl rfl call75 (walk75 h)) ?_)
 rintro _ H15 ⟨r17, r18, rfl, h⟩
 refine hv (v := .tuple #[(Sl.v r17), (bv r18)]) rfl (mv rfl) (hv (v := Sl.v r17) rfl (HVal.extract rfl rfl) (hv (v := bv r18) rfl (HVal.extract rfl rfl) ?_))
 refine hv (v := Sl.v r17) rfl (av rfl) (hv (v := bv r18) rfl (av rfl) (hn (nt (ws (wr_ (hv (v := Sl.v r17) rfl (mv rfl) ?_))))))
 refine hv (v := iv ((r17).n : Int)) rfl (HVal.len runUnderlying49 rfl) (hv (v := iv ((r17).n : Int)) rfl (av rfl) (hn (nt ?_)))
 refine wc (fun ρ H_1 => ∃ y31, Env.Is ρ [(2, (pp (bk H))), (3, (pp (bk H1))), (5, (Sl.v r17)), (7, (iv ((r17).n : Int))), (8, (bv y31))] ∧ F74_1 Q (bk H) (bk H1) r17 ((r17).n : Int) y31 H_1) ?_ ?_
 ·refine wr_ (hv (v := pp (Addr.add (bk H) 6)) rfl (fa runUnderlying41 rfl rfl sizeOf9 rfl) ?_)
  obtain ⟨x24, c23, h⟩ := h
  refine hv (v := sv x24) rfl (l1 isAgg9 rfl c23) (hv (v := pp (Addr.add (bk H1) 2)) rfl (fa runUnderlying43 rfl rfl sizeOf9 rfl) ?_)
  obtain ⟨x26, c25, h⟩ := h
  refine hv (v := sv x26) rfl (l1 isAgg9 rfl c25) (hv (v := bv (seq x24 x26)) rfl (HVal.eqlS rfl rfl) (hv (v := bv (seq x24 x26)) rfl (mv rfl) ?_))
  obtain ⟨hT, hF⟩ := h
  rcases Bool.eq_false_or_eq_true (seq x24 x26) with hb27 | hb28
  ·have h := hT hb27
   refine hg (v := pp (Addr.add (bk H1) 2)) rfl rfl rfl rfl (cB hb27) (fa runUnderlying43 rfl rfl sizeOf9 rfl) ?_
   obtain ⟨x30, c29, h⟩ := h
   refine hg (v := sv x30) rfl rfl rfl rfl (cB hb27) (l1 isAgg9 rfl c29) (hg (v := bv (!(seq x30 bE))) rfl rfl rfl rfl (cB hb27) (HVal.neqS rfl rfl) ?_)
   refine hv (v := bv (!(seq x30 bE))) rfl (pt_ rfl hb27 rfl) (hv (v := bv (!(seq x30 bE))) rfl (av rfl) (hn (nt ?_)))
   exact ⟨(!(seq x30 bE)), (isp rfl), h⟩
  have h := hF hb28
  refine hs_ rfl rfl rfl rfl (cB hb28) (hs_ rfl rfl rfl rfl (cB hb28) (hs_ rfl rfl rfl rfl (cB hb28) (hv (v := bv false) rfl (pf_ rfl hb28 rfl) ?_)))
  refine hv (v := bv false) rfl (av rfl) (hn (nt ?_))
  exact ⟨false, (isp rfl), h⟩
 rintro ρ H_1 ⟨y31, hI, h⟩
 obtain ⟨ρ0, rfl⟩ := hI.ex
 clear hI; unfold F74_1 at h
 refine ws (ws (wr_ (hv (v := pp (Addr.add (bk H) 7)) rfl (fa runUnderlying41 rfl rfl sizeOf3 rfl) ?_)))
 obtain ⟨x33, c32, h⟩ := h
 refine hv (v := iv x33) rfl (l1 isAgg3 rfl c32) (hv (v := bv (decide (x33 = 2))) rfl (HVal.eqlI rfl rfl) (hn (nt ?_)))
 obtain ⟨hT, hF⟩ := h
 refine wk (decide (x33 = 2)) rfl (fun hb34 => ?_) (fun hb34 => ?_)
 ·have h := hT hb34
  refine ws (ws (wr_ (hv (v := bv y31) rfl (mv rfl) (hn (nt ?_)))))
  obtain ⟨hT, hF⟩ := h
  refine wk y31 rfl (fun hb35 => ?_) (fun hb35 => ?_)
  ·have h := hT hb35
   refine ws (wr_ (hv (v := pp (Addr.add (bk H1) 3)) rfl (fa runUnderlying43 rfl rfl sizeOf36 rfl) ?_))
   obtain ⟨x37, x38, x39, c36, h⟩ := h
   refine hv (v := .agg (tR x37 x38 x39).toArray) rfl (ln (tR x37 x38 x39) isAgg36 sizeOf36 rfl c36) (ho rfl (HOp.buildSlice' (zs := (tR bE 0 Sl.nil)) (cs := (tR x37 x38 x39)) runUnderlying49 sizeOf36 zeroValue36 (by decide) (by kernel_rfl) rfl (by decide)) ?_)
   rintro _ H40 ⟨rfl, e41⟩
   replace h := h H40 e41
   refine hv (v := Sl.v (Sl.mk (some (bk H_1)) 1 1)) rfl (av rfl) (hn (nt (HW.ret (tr (tr ?_)))))
   exact ⟨_, resOf1 rfl Res1.t, ⟨(Sl.mk (some (bk H_1)) 1 1), rfl, h⟩⟩
  have h := hF hb35
  refine wp_ (nt (ws (wr_ (hv (v := sN) rfl (av rfl) (hn (nt (HW.ret (tr ?_))))))))
  exact ⟨_, resOf1 rfl Res1.t, ⟨Sl.nil, rfl, h⟩⟩
 have h := hF hb34
 refine wp_ (nt (ws (wc (fun ρ H_2 => ∃ y47, Env.Is ρ [(2, (pp (bk H))), (5, (Sl.v r17)), (7, (iv ((r17).n : Int))), (45, (bv y47))] ∧ F74_2 Q (bk H) r17 ((r17).n : Int) y47 H_2) ?_ ?_)))
 ·refine wr_ (hv (v := iv ((r17).n : Int)) rfl (mv rfl) (hv (v := bv (decide (((r17).n : Int) = 0))) rfl (HVal.eqlI rfl rfl) ?_))
  refine hv (v := bv (decide (((r17).n : Int) = 0))) rfl (mv rfl) ?_
  obtain ⟨hT, hF⟩ := h
  rcases Bool.eq_false_or_eq_true (decide (((r17).n : Int) = 0)) with hb45 | hb46
  ·have h := hT hb45
   refine hs_ rfl rfl rfl rfl (cB hb45) (hs_ rfl rfl rfl rfl (cB hb45) (hs_ rfl rfl rfl rfl (cB hb45) (hs_ rfl rfl rfl rfl (cB hb45) ?_)))
   refine HList.uskips rfl rfl rfl rfl rfl (HList.uskips rfl rfl rfl rfl rfl (hs_ rfl rfl rfl rfl (cB hb45) (hv (v := bv true) rfl (pt_ rfl hb45 rfl) ?_)))
   refine hn (nt ?_)
   exact ⟨true, (isp rfl), h⟩
  have h := hF hb46
  refine hg (v := pp (Addr.add (bk H) 7)) rfl rfl rfl rfl (cB hb46) (fa runUnderlying41 rfl rfl sizeOf3 rfl) ?_
  obtain ⟨x49, c48, h⟩ := h
  refine hg (v := iv x49) rfl rfl rfl rfl (cB hb46) (l1 isAgg3 rfl c48) (hg (v := bv (decide (x49 = 3))) rfl rfl rfl rfl (cB hb46) (HVal.eqlI rfl rfl) ?_)
  refine hg (v := bv (decide (x49 = 3))) rfl rfl rfl rfl (cB hb46) (mv rfl) ?_
  obtain ⟨hT, hF⟩ := h
  rcases Bool.eq_false_or_eq_true (decide (x49 = 3)) with hb50 | hb51
  ·have h := hT hb50
   refine hg (v := bv y31) rfl rfl rfl rfl (cB hb50) (mv rfl) (hg (v := bv (!y31)) rfl rfl rfl rfl (cB hb50) (HVal.not rfl) (hg (v := bv (!y31)) rfl rfl rfl rfl (cB hb46) (pt_ rfl hb50 rfl) ?_))
   refine hv (v := bv (!y31)) rfl (pf_ rfl hb46 rfl) (hn (nt ?_))
   exact ⟨(!y31), (isp rfl), h⟩
  have h := hF hb51
  refine hs_ rfl rfl rfl rfl (cB hb51) (hs_ rfl rfl rfl rfl (cB hb51) (hg (v := bv false) rfl rfl rfl rfl (cB hb46) (pf_ rfl hb51 rfl) ?_))
  refine hv (v := bv false) rfl (pf_ rfl hb46 rfl) (hn (nt ?_))
  exact ⟨false, (isp rfl), h⟩
 rintro ρ H_2 ⟨y47, hI, h⟩
 obtain ⟨ρ0, rfl⟩ := hI.ex
 clear hI; unfold F74_2 at h
 obtain ⟨hT, hF⟩ := h
 refine wk y47 rfl (fun hb52 => ?_) (fun hb52 => ?_)
 ·have h := hT hb52
  refine ws (wr_ (hv (v := sN) rfl (av rfl) (hn (nt (HW.ret (tr ?_))))))
  exact ⟨_, resOf1 rfl Res1.t, ⟨Sl.nil, rfl, h⟩⟩
 have h := hF hb52
 refine wp_ (nt (ws (wc (fun ρ H_3 => ∃ y59, Env.Is ρ [(5, (Sl.v r17)), (7, (iv ((r17).n : Int))), (53, (bv y59))] ∧ F74_3 Q r17 ((r17).n : Int) y59 H_3) ?_ ?_)))
 ·refine wr_ (hv (v := pp (Addr.add (bk H) 7)) rfl (fa runUnderlying41 rfl rfl sizeOf3 rfl) ?_)
  obtain ⟨x56, c55, h⟩ := h
  refine hv (v := iv x56) rfl (l1 isAgg3 rfl c55) (hv (v := bv (decide (x56 = 3))) rfl (HVal.eqlI rfl rfl) (hv (v := bv (decide (x56 = 3))) rfl (mv rfl) ?_))
  obtain ⟨hT, hF⟩ := h
  rcases Bool.eq_false_or_eq_true (decide (x56 = 3)) with hb57 | hb58
  ·have h := hT hb57
   refine hs_ rfl rfl rfl rfl (cB hb57) (hs_ rfl rfl rfl rfl (cB hb57) (hs_ rfl rfl rfl rfl (cB hb57) (hv (v := bv true) rfl (pt_ rfl hb57 rfl) ?_)))
   refine hn (nt ?_)
   exact ⟨true, (isp rfl), h⟩
  have h := hF hb58
  refine hg (v := pp (Addr.add (bk H) 7)) rfl rfl rfl rfl (cB hb58) (fa runUnderlying41 rfl rfl sizeOf3 rfl) ?_
  obtain ⟨x61, c60, h⟩ := h
  refine hg (v := iv x61) rfl rfl rfl rfl (cB hb58) (l1 isAgg3 rfl c60) (hg (v := bv (decide (x61 = 5))) rfl rfl rfl rfl (cB hb58) (HVal.eqlI rfl rfl) ?_)
  refine hv (v := bv (decide (x61 = 5))) rfl (pf_ rfl hb58 rfl) (hn (nt ?_))
  exact ⟨(decide (x61 = 5)), (isp rfl), h⟩
 rintro ρ H_3 ⟨y59, hI, h⟩
 obtain ⟨ρ0, rfl⟩ := hI.ex
 clear hI; unfold F74_3 at h
 obtain ⟨hT, hF⟩ := h
 refine wk y59 rfl (fun hb62 => ?_) (fun hb62 => ?_)
 ·have h := hT hb62
  refine ws (wr_ (hv (v := Sl.v r17) rfl (mv rfl) (hv (v := iv ((r17).n : Int)) rfl (mv rfl) (hv (v := iv (IntKind.i64.wrap (((r17).n : Int) - 1))) rfl (HVal.sub rfl rfl) ?_))))
  obtain ⟨z63, z64, z65, z66, h⟩ := h
  refine hv (v := Sl.v (Sl.cut r17 3 ((IntKind.i64.wrap (((r17).n : Int) - 1)).toNat) ((r17).n) ((r17).c))) rfl (HVal.slice _ _ _ runUnderlying49 sizeOf36 rfl ⟨_, _, rfl, z63, rfl⟩ rfl rfl (by decide) z64 z65 z66) ?_
  refine hv (v := Sl.v (Sl.cut r17 3 ((IntKind.i64.wrap (((r17).n : Int) - 1)).toNat) ((r17).n) ((r17).c))) rfl (av rfl) (hn (nt ?_))
  refine HW.ret (tr ?_)
  exact ⟨_, resOf1 rfl Res1.t, ⟨(Sl.cut r17 3 ((IntKind.i64.wrap (((r17).n : Int) - 1)).toNat) ((r17).n) ((r17).c)), rfl, h⟩⟩
 have h := hF hb62
 refine wp_ (nt (ws (wr_ (hv (v := Sl.v r17) rfl (mv rfl) ?_))))
 obtain ⟨z67, z68, z69, h⟩ := h
 refine hv (v := Sl.v (Sl.cut r17 3 0 ((1 : Int).toNat) ((r17).c))) rfl (HVal.slice _ _ _ runUnderlying49 sizeOf36 rfl rfl ⟨_, _, rfl, by decide, rfl⟩ rfl (by decide) z67 z68 z69) ?_
 refine hv (v := Sl.v (Sl.cut r17 3 0 ((1 : Int).toNat) ((r17).c))) rfl (av rfl) (hn (nt (HW.ret ?_)))
 exact ⟨_, resOf1 rfl Res1.t, ⟨(Sl.cut r17 3 0 ((1 : Int).toNat) ((r17).c)), rfl, h⟩⟩

def F63_1 (Q : ZQV) (y7 y8 y9 : Addr) (y14 : Bool) (H_1 : Hp) : Prop :=
(y14 = true → (mayw H_1 y9 4 0 ∧ ∀ H18, H18 = sets H_1 y9 (vR 0 0 bE false) 0 → (
 ∃ x21 x22 x23 x24, cells H18 y9 (vR x21 x22 x23 x24) 0 ∧ (
 Q x21 x22 x23 x24 60 H18)))) ∧
 (y14 = false → (∃ x27 x28 x29 x30 x31 x32 x33 x34 x35 x36, cells H_1 y7 (eR x27 x28 x29 x30 x31 x32 x33 x34 x35 x36) 0 ∧ (
 ∃ x38 x39 x40 x41 x42 x43 x44, cells H_1 y8 (xR x38 x39 x40 x41 x42 x43 x44) 0 ∧ (
 F74 x27 x28 x29 x30 x31 x32 x33 x34 x35 x36 x38 x39 x40 x41 x42 x43 x44 H_1 (fun r47 H45 =>
 ((decide (((r47).n : Int) = 0)) = true → (mayw H45 y9 4 0 ∧ ∀ H49, H49 = sets H45 y9 (vR 0 0 bE false) 0 → (
 ∃ x52 x53 x54 x55, cells H49 y9 (vR x52 x53 x54 x55) 0 ∧ (
 Q x52 x53 x54 x55 110 H49)))) ∧
 ((decide (((r47).n : Int) = 0)) = false → (∃ a57, (r47).b = some a57 ∧ (0 : Int) ≤ 0 ∧ (0 : Int) < ((r47).n : Int) ∧ (
 ∃ x62 x63 x64, cells H45 (Addr.add a57 ((0 : Int).toNat * 3)) (tR x62 x63 x64) 0 ∧ (
 ∃ x66, cell H45 (Addr.add y7 8) = some (sv x66) ∧ (
 ∃ x68, cell H45 (Addr.add y8 6) = some (Sl.v x68) ∧ (
 F29 x62 x63 x64 x66 x68 H45 (fun r71 r72 r73 r74 r75 H69 =>
 mayw H69 y9 4 0 ∧ ∀ H76, H76 = sets H69 y9 (vR r71 r72 r73 r74) 0 → (
 ∃ x79 x80 x81 x82, cells H76 y9 (vR x79 x80 x81 x82) 0 ∧ (
 Q x79 x80 x81 x82 r75 H76))))))))))))))
def F63 (p0_0 p0_1 p0_2 p0_3 : Int) (p0_4 : ByteArray) (p0_5 : Bool) (p0_6 : ByteArray) (p0_7 : Int) (p0_8 : ByteArray) (p0_9 p1_0 p1_1 : Sl) (p1_2 p1_3 : ByteArray) (p1_4 : Int) (p1_5 p1_6 : Sl) (H : Hp) (Q : ZQV) : Prop :=
∀ H1, H1 = Array.push H (.cells (eR p0_0 p0_1 p0_2 p0_3 p0_4 p0_5 p0_6 p0_7 p0_8 p0_9).toArray 41) → (
 ∀ H3, H3 = Array.push H1 (.cells (xR p1_0 p1_1 p1_2 p1_3 p1_4 p1_5 p1_6).toArray 43) → (
 ∀ H5, H5 = Array.push H3 (.cells (vR 0 0 bE false).toArray 38) → (
 ∃ x11, cell H5 (Addr.add (bk H) 7) = some (iv x11) ∧ (
 (decide (x11 < 1) = true → (F63_1 Q (bk H) (bk H1) (bk H3) true H5)) ∧
 (decide (x11 < 1) = false → (∃ x16, cell H5 (Addr.add (bk H) 7) = some (iv x16) ∧ (
 F63_1 Q (bk H) (bk H1) (bk H3) (decide ((5 : Int) < x16)) H5)))))))
theorem walk63 {w0 : World} {p0_0 p0_1 p0_2 p0_3 : Int} {p0_4 : ByteArray} {p0_5 : Bool} {p0_6 : ByteArray} {p0_7 : Int} {p0_8 : ByteArray} {p0_9 p1_0 p1_1 : Sl} {p1_2 p1_3 : ByteArray} {p1_4 : Int} {p1_5 p1_6 : Sl} {H : Hp} {Q : ZQV} (h : F63 p0_0 p0_1 p0_2 p0_3 p0_4 p0_5 p0_6 p0_7 p0_8 p0_9 p1_0 p1_1 p1_2 p1_3 p1_4 p1_5 p1_6 H Q) :
  Good prog w0 63 #[(.agg (eR p0_0 p0_1 p0_2 p0_3 p0_4 p0_5 p0_6 p0_7 p0_8 p0_9).toArray), (.agg (xR p1_0 p1_1 p1_2 p1_3 p1_4 p1_5 p1_6).toArray)] H (fun v H => ∃ r0 r1 r2 r3 r4, v = (.tuple #[(.agg (vR r0 r1 r2 r3).toArray), (iv r4)]) ∧ Q r0 r1 r2 r3 r4 H) := by
 unfold F63 at h
 refine Good.enter' (fn := f63) func63 rfl rfl rfl (ws (wr_ (ho rfl (ob (v := .agg (eR p0_0 p0_1 p0_2 p0_3 p0_4 p0_5 p0_6 p0_7 p0_8 p0_9).toArray) rfl) ?_)))
 rintro _ H1 ⟨rfl, e2⟩
 replace h := h H1 e2
 refine ho rfl (ob (v := .agg (xR p1_0 p1_1 p1_2 p1_3 p1_4 p1_5 p1_6).toArray) rfl) ?_
 rintro _ H3 ⟨rfl, e4⟩
 replace h := h H3 e4
 refine ho rfl (HOp.alloc zeroValue38) ?_
 rintro _ H5 ⟨rfl, e6⟩
 replace h := h H5 e6
 refine hv (v := iv 0) rfl (av rfl) (hn (nt (ws (wc (fun ρ H_1 => ∃ y14, Env.Is ρ [(2, (pp (bk H))), (3, (pp (bk H1))), (4, (pp (bk H3))), (14, (bv y14))] ∧ F63_1 Q (bk H) (bk H1) (bk H3) y14 H_1) ?_ ?_))))
 ·refine wr_ (hv (v := pp (Addr.add (bk H) 7)) rfl (fa runUnderlying41 rfl rfl sizeOf3 rfl) ?_)
  obtain ⟨x11, c10, h⟩ := h
  refine hv (v := iv x11) rfl (l1 isAgg3 rfl c10) (hv (v := bv (decide (x11 < 1))) rfl (HVal.lss rfl rfl) (hv (v := bv (decide (x11 < 1))) rfl (mv rfl) ?_))
  obtain ⟨hT, hF⟩ := h
  rcases Bool.eq_false_or_eq_true (decide (x11 < 1)) with hb12 | hb13
  ·have h := hT hb12
   refine hs_ rfl rfl rfl rfl (cB hb12) (hs_ rfl rfl rfl rfl (cB hb12) (hs_ rfl rfl rfl rfl (cB hb12) (hv (v := bv true) rfl (pt_ rfl hb12 rfl) ?_)))
   refine hn (nt ?_)
   exact ⟨true, (isp rfl), h⟩
  have h := hF hb13
  refine hg (v := pp (Addr.add (bk H) 7)) rfl rfl rfl rfl (cB hb13) (fa runUnderlying41 rfl rfl sizeOf3 rfl) ?_
  obtain ⟨x16, c15, h⟩ := h
  refine hg (v := iv x16) rfl rfl rfl rfl (cB hb13) (l1 isAgg3 rfl c15) (hg (v := bv (decide ((5 : Int) < x16))) rfl rfl rfl rfl (cB hb13) (HVal.gtr rfl rfl) ?_)
  refine hv (v := bv (decide ((5 : Int) < x16))) rfl (pf_ rfl hb13 rfl) (hn (nt ?_))
  exact ⟨(decide ((5 : Int) < x16)), (isp rfl), h⟩
 rintro ρ H_1 ⟨y14, hI, h⟩
 obtain ⟨ρ0, rfl⟩ := hI.ex
 clear hI; unfold F63_1 at h
 obtain ⟨hT, hF⟩ := h
 refine wk y14 rfl (fun hb17 => ?_) (fun hb17 => ?_)
 ·have h := hT hb17
  refine ws (wr_ (hv (v := .agg (vR 0 0 bE false).toArray) rfl (HVal.build' (cs := (vR 0 0 bE false)) runUnderlying38 zeroValue38 places38 rfl) ?_))
  obtain ⟨z20, h⟩ := h
  refine hq (HOp.storeN' (l := (vR 0 0 bE false)) sizeOf38 rfl rfl rfl z20) ?_
  rintro _ H18 e19
  replace h := h H18 e19
  refine hv (v := iv 60) rfl (av rfl) (hn (nt (HW.ret (tr ?_))))
  obtain ⟨x21, x22, x23, x24, c25, h⟩ := h
  exact ⟨_, resOf2 rfl (Res1.n (vR x21 x22 x23 x24) isAgg38 sizeOf38 rfl c25) Res1.t, ⟨x21, x22, x23, x24, 60, rfl, h⟩⟩
 have h := hF hb17
 refine wp_ (nt (ws (wr_ ?_)))
 obtain ⟨x27, x28, x29, x30, x31, x32, x33, x34, x35, x36, c26, h⟩ := h
 refine hv (v := .agg (eR x27 x28 x29 x30 x31 x32 x33 x34 x35 x36).toArray) rfl (ln (eR x27 x28 x29 x30 x31 x32 x33 x34 x35 x36) isAgg41 sizeOf41 rfl c26) ?_
 obtain ⟨x38, x39, x40, x41, x42, x43, x44, c37, h⟩ := h
 refine hv (v := .agg (xR x38 x39 x40 x41 x42 x43 x44).toArray) rfl (ln (xR x38 x39 x40 x41 x42 x43 x44) isAgg43 sizeOf43 rfl c37) ?_
 refine ho rfl (HOp.call' 74 [(.agg (eR x27 x28 x29 x30 x31 x32 x33 x34 x35 x36).toArray), (.agg (xR x38 x39 x40 x41 x42 x43 x44).toArray)] (cap := []) rfl rfl call74 (walk74 h)) ?_
 rintro _ H45 ⟨r47, rfl, h⟩
 refine hv (v := Sl.v r47) rfl (av rfl) (hn (nt (ws (ws (wr_ (hv (v := Sl.v r47) rfl (mv rfl) ?_))))))
 refine hv (v := iv ((r47).n : Int)) rfl (HVal.len runUnderlying49 rfl) (hv (v := bv (decide (((r47).n : Int) = 0))) rfl (HVal.eqlI rfl rfl) ?_)
 refine hn (nt ?_)
 obtain ⟨hT, hF⟩ := h
 refine wk (decide (((r47).n : Int) = 0)) rfl (fun hb48 => ?_) (fun hb48 => ?_)
 ·have h := hT hb48
  refine ws (wr_ (hv (v := .agg (vR 0 0 bE false).toArray) rfl (HVal.build' (cs := (vR 0 0 bE false)) runUnderlying38 zeroValue38 places38 rfl) ?_))
  obtain ⟨z51, h⟩ := h
  refine hq (HOp.storeN' (l := (vR 0 0 bE false)) sizeOf38 rfl rfl rfl z51) ?_
  rintro _ H49 e50
  replace h := h H49 e50
  refine hv (v := iv 110) rfl (av rfl) (hn (nt (HW.ret (tr ?_))))
  obtain ⟨x52, x53, x54, x55, c56, h⟩ := h
  exact ⟨_, resOf2 rfl (Res1.n (vR x52 x53 x54 x55) isAgg38 sizeOf38 rfl c56) Res1.t, ⟨x52, x53, x54, x55, 110, rfl, h⟩⟩
 have h := hF hb48
 refine wp_ (nt (ws (HW.draw mixed [(0, some []), (1, some []), (2, some [7, 10]), (3, some []), (4, some [7, 10]), (5, some []), (6, some [7, 10]), (7, none), (8, some []), (9, some []), (10, none), (11, some [])] rfl (by kernel_rfl) (by kernel_rfl) ?_)))
 refine pv (v := Sl.v r47) rfl rfl (fun _ => mv rfl) ?_
 obtain ⟨a57, e58, b59, b60, h⟩ := h
 refine pv (v := pp (Addr.add a57 ((0 : Int).toNat * 3))) rfl rfl (fun _ => ia runUnderlying49 sizeOf36 (Sl.v_some rfl e58) rfl b59 b60) ?_
 obtain ⟨x62, x63, x64, c61, h⟩ := h
 refine pl (v := .agg (tR x62 x63 x64).toArray) (fun X => cells X (Addr.add a57 ((0 : Int).toNat * 3)) (tR x62 x63 x64) 0) rfl rfl (fun _ hX => ln (tR x62 x63 x64) isAgg36 sizeOf36 rfl hX) c61 ?_
 refine pv (v := pp (Addr.add (bk H) 8)) rfl rfl (fun _ => fa runUnderlying41 rfl rfl sizeOf9 rfl) ?_
 obtain ⟨x66, c65, h⟩ := h
 refine pl (v := sv x66) (fun X => cell X (Addr.add (bk H) 8) = some (sv x66)) rfl rfl (fun _ hX => l1 isAgg9 rfl hX) c65 (pv (v := pp (Addr.add (bk H1) 6)) rfl rfl (fun _ => fa runUnderlying43 rfl rfl sizeOf30 rfl) ?_)
 obtain ⟨x68, c67, h⟩ := h
 refine pl (v := Sl.v x68) (fun X => cell X (Addr.add (bk H1) 6) = some (Sl.v x68)) rfl rfl (fun _ hX => l1 isAgg30 rfl hX) c67 (po rfl rfl (HOp.call' 29 [(.agg (tR x62 x63 x64).toArray), (sv x66), (Sl.v x68)] (cap := []) rfl rfl call29 (walk29 h)) ?_)
 rintro _ H69 ⟨r71, r72, r73, r74, r75, rfl, h⟩
 refine ⟨SC_of ⟨nofun, nofun, nofun, trivial⟩, ?_⟩
 refine pv (v := .agg (vR r71 r72 r73 r74).toArray) rfl rfl (fun _ => HVal.extract rfl rfl) (pv (v := iv r75) rfl rfl (fun _ => HVal.extract rfl rfl) ?_)
 obtain ⟨z78, h⟩ := h
 refine pn rfl (HOp.storeN' (l := (vR r71 r72 r73 r74)) sizeOf38 rfl rfl rfl z78) ?_
 rintro _ H76 e77
 replace h := h H76 e77
 refine ⟨SC_of ⟨nofun, nofun, nofun, trivial⟩, ?_⟩
 refine pv (v := iv r75) rfl rfl (fun _ => av rfl) (HPlan.done (nt (HW.ret ?_)))
 obtain ⟨x79, x80, x81, x82, c83, h⟩ := h
 exact ⟨_, resOf2 rfl (Res1.n (vR x79 x80 x81 x82) isAgg38 sizeOf38 rfl c83) Res1.t, ⟨x79, x80, x81, x82, r75, rfl, h⟩⟩

end Go.Hw
