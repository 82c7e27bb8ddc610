/- The walks of this seat, printed by a program of this session (wip/tools/gen.py): of each function what it does to the heap, and that it does so. -/
import Derived.Test.YtfkhglkcplnppaaDoorHwZ
import Derived.Test.YtfkhglkcplnppaaDoorProg
import Derived.Test.YtfkhglkcplnppaaDoorWAux
import Derived.Test.YtfkhglkcplnppaaDoorWalkC
set_option linter.unusedVariables false
set_option linter.unusedSimpArgs false
set_option maxRecDepth 100000
set_option maxHeartbeats 4000000
namespace Go.Hw
open Go Go.Proofs Tryd
def F45 (p0_0 : ByteArray) (p0_1 : Int) (p1 : Addr) (H : Hp) (Q : ZQB) : Prop :=
∀ H1, H1 = Array.push H (.cells #[(sv p0_0), (iv p0_1)] 83) → (
 ∃ x4, cell H1 (bk H) = some (sv x4) ∧ (
 ∃ x6, cell H1 p1 = some (sv x6) ∧ (
 Q (seq x4 x6) H1)))
theorem walk45 {w0 : World} {p0_0 : ByteArray} {p0_1 : Int} {p1 : Addr} {H : Hp} {Q : ZQB} (h : F45 p0_0 p0_1 p1 H Q) :
  Good prog w0 45 #[(.agg #[(sv p0_0), (iv p0_1)]), (pp p1)] H (fun v H => ∃ r0, v = (bv r0) ∧ Q r0 H) := by
 unfold F45 at h
 refine Good.enter' (fn := f45) func45 rfl rfl rfl (ws (wr_ (ho rfl (ob (v := .agg #[(sv p0_0), (iv p0_1)]) rfl) ?_)))
 rintro _ H1 ⟨rfl, e2⟩
 replace h := h H1 e2
 refine hv (v := bv false) rfl (av rfl) (hn (nt (ws (wr_ (hv (v := pp (bk H)) rfl (HVal.fieldAddr0 runUnderlying83 rfl rfl sizeOf9 rfl) ?_)))))
 obtain ⟨x4, c3, h⟩ := h
 refine hv (v := sv x4) rfl (l1 isAgg9 rfl c3) ?_
 obtain ⟨x6, c5, h⟩ := h
 refine hv (v := sv x6) rfl (l1 isAgg9 rfl c5) (hv (v := bv (seq x4 x6)) rfl (HVal.eqlS rfl rfl) (hv (v := bv (seq x4 x6)) rfl (av rfl) ?_))
 refine hn (nt (HW.ret ?_))
 exact ⟨_, resOf1 rfl Res1.t, ⟨(seq x4 x6), rfl, h⟩⟩

def F44_45_L1b (Q X1 : ZQI) (y2 : Sl) (y3 : Addr) (y4 y1 : Int) (H_1 : Hp) : Prop :=
(decide (y1 < y4) = true → (∃ a6, (y2).b = some a6 ∧ (0 : Int) ≤ y1 ∧ y1 < ((y2).n : Int) ∧ (
 ∃ x11 x12, cells H_1 (Addr.add a6 (y1.toNat * 2)) [(sv x11), (iv x12)] 0 ∧ (
 F45 x11 x12 y3 H_1 (fun r15 H13 =>
 (r15 = true → (Q y1 H13)) ∧
 (r15 = false → (X1 (IntKind.i64.wrap (y1 + 1)) H13))))))) ∧
 (decide (y1 < y4) = false → (Q (-1) H_1))
def F44_45_L1 (Q : ZQI) (y2 : Sl) (y3 : Addr) (y4 y1 : Int) (H_1 : Hp) : Prop :=
 ∀ X1 : ZQI, (∀ (y1 : Int) (H_1 : Hp), F44_45_L1b Q X1 y2 y3 y4 y1 H_1 → X1 y1 H_1) → X1 y1 H_1
def F44_45 (p0 : Sl) (p1 : Addr) (H : Hp) (Q : ZQI) : Prop :=
F44_45_L1 Q p0 p1 ((p0).n : Int) 0 H
theorem walk44_45 {w0 : World} {p0 : Sl} {p1 : Addr} {H : Hp} {Q : ZQI} (h : F44_45 p0 p1 H Q) :
  Good prog w0 44 #[(Sl.v p0), (.func (.func 45) #[] #[(pp p1)])] H (fun v H => ∃ r0, v = (iv r0) ∧ Q r0 H) := by
 unfold F44_45 at h
 refine Good.enter' (fn := f44) func44 rfl rfl rfl (ws (wr_ (hv (v := iv 0) rfl (av rfl) (hn (nt (ws ?_))))))
 refine ws (wr_ (hv (v := Sl.v p0) rfl (mv rfl) (hv (v := iv ((p0).n : Int)) rfl (HVal.len runUnderlying84 rfl) ?_)))
 refine hv (v := iv 0) rfl (mv rfl) (hn (nt (wb (HW.loop' (fun L1 hL1 => ?_)))))
 obtain ⟨X1, hX1⟩ : ∃ X1 : ZQI, ∀ (y1 : Int) (H_1 : Hp), X1 y1 H_1 ↔ ∀ ρ, Env.Is ρ [(0, (Sl.v p0)), (1, (.func (.func 45) #[] #[(pp p1)])), (7, (iv ((p0).n : Int))), (8, (iv y1))] → L1 ρ H_1 := ⟨_, fun _ _ => Iff.rfl⟩
 refine (hX1 _ _).1 (h X1 ?_) _ ?_
 rotate_left
 ·exact (isp rfl)
 clear h
 intro y1 H_1 h
 refine (hX1 _ _).2 fun ρ hI => ?_
 obtain ⟨ρ0, rfl⟩ := hI.ex
 clear hI; unfold F44_45_L1b at h; refine hL1 _ _ ?_
 refine ws (wr_ (hv (v := bv (decide (y1 < ((p0).n : Int)))) rfl (HVal.lss rfl rfl) (hn (nt (ws ?_)))))
 obtain ⟨hT, hF⟩ := h
 refine wk (decide (y1 < ((p0).n : Int))) rfl (fun hb5 => ?_) (fun hb5 => ?_)
 ·have h := hT hb5
  refine wp_ (nt (ws (wb (ws (wr_ (hv (v := iv y1) rfl (mv rfl) (hv (v := iv y1) rfl (av rfl) ?_)))))))
  refine hn (nt (ws (wr_ (hv (v := .func (.func 45) #[] #[(pp p1)]) rfl (mv rfl) (hv (v := Sl.v p0) rfl (mv rfl) ?_)))))
  refine hv (v := iv y1) rfl (mv rfl) ?_
  obtain ⟨a6, e7, b8, b9, h⟩ := h
  refine hv (v := pp (Addr.add a6 (y1.toNat * 2))) rfl (ia runUnderlying84 sizeOf83 (Sl.v_some rfl e7) rfl b8 b9) ?_
  obtain ⟨x11, x12, c10, h⟩ := h
  refine hv (v := .agg #[(sv x11), (iv x12)]) rfl (ln [(sv x11), (iv x12)] isAgg83 sizeOf83 rfl c10) (ho rfl (HOp.call' 45 [(.agg #[(sv x11), (iv x12)]), (pp p1)] (cap := [(pp p1)]) rfl rfl call45 (walk45 h)) ?_)
  rintro _ H13 ⟨r15, rfl, h⟩
  refine hn (nt ?_)
  obtain ⟨hT, hF⟩ := h
  refine wk r15 rfl (fun hb16 => ?_) (fun hb16 => ?_)
  ·have h := hT hb16
   refine ws (wr_ (hv (v := iv y1) rfl (mv rfl) (hv (v := iv y1) rfl (av rfl) (hn (nt (HW.ret (br ?_)))))))
   refine tr (tr (br (tr ?_)))
   exact ⟨_, resOf1 rfl Res1.t, ⟨y1, rfl, h⟩⟩
  have h := hF hb16
  refine wp_ (nb (nt (wr_ (hv (v := iv (IntKind.i64.wrap (y1 + 1))) rfl (HVal.add rfl rfl) (hv (v := iv (IntKind.i64.wrap (y1 + 1))) rfl (mv rfl) ?_)))))
  refine hn (nt ?_)
  exact (hX1 _ _).1 h _ (isp rfl)
 have h := hF hb5
 refine we (te (te (be (nt (ws (wr_ (hv (v := iv (-1)) rfl (av rfl) (hn (nt (HW.ret ?_))))))))))
 exact ⟨_, resOf1 rfl Res1.t, ⟨(-1), rfl, h⟩⟩

def F28 (p0_0 : ByteArray) (p0_1 : Int) (p0_2 : Sl) (p1 : ByteArray) (p2 : Sl) (H : Hp) (Q : ZQV) : Prop :=
∀ H1, H1 = Array.push H (.cells (tR p0_0 p0_1 p0_2).toArray 36) → (
 ∀ H3, H3 = Array.push H1 (.cells #[(sv p1)] 9) → (
 ∀ H5, H5 = Array.push H3 (.cells (vR 0 0 bE false).toArray 38) → (
 ∃ x8, cell H5 (bk H1) = some (sv x8) ∧ (
 ((seq x8 S_time) = true → (∃ x11, cell H5 (Addr.add (bk H) 1) = some (iv x11) ∧ (
 mayw H5 (bk H3) 4 0 ∧ ∀ H12, H12 = sets H5 (bk H3) (vR 1 x11 bE false) 0 → (
 ∃ x15 x16 x17 x18, cells H12 (bk H3) (vR x15 x16 x17 x18) 0 ∧ (
 Q x15 x16 x17 x18 0 H12))))) ∧
 ((seq x8 S_time) = false → (F42_43 p2 (bk H) H5 (fun r22 H20 =>
 (decide (r22 < 0) = true → (mayw H20 (bk H3) 4 0 ∧ ∀ H24, H24 = sets H20 (bk H3) (vR 0 0 bE false) 0 → (
 ∃ x27 x28 x29 x30, cells H24 (bk H3) (vR x27 x28 x29 x30) 0 ∧ (
 Q x27 x28 x29 x30 21 H24)))) ∧
 (decide (r22 < 0) = false → (∃ a32, (p2).b = some a32 ∧ (0 : Int) ≤ r22 ∧ r22 < ((p2).n : Int) ∧ (
 ∃ x37, cell H20 (Addr.add (Addr.add a32 (r22.toNat * 2)) 1) = some (Sl.v x37) ∧ (
 F44_45 x37 (bk H1) H20 (fun r40 H38 =>
 (decide (r40 < 0) = true → (mayw H38 (bk H3) 4 0 ∧ ∀ H42, H42 = sets H38 (bk H3) (vR 0 0 bE false) 0 → (
 ∃ x45 x46 x47 x48, cells H42 (bk H3) (vR x45 x46 x47 x48) 0 ∧ (
 Q x45 x46 x47 x48 82 H42)))) ∧
 (decide (r40 < 0) = false → (∃ x51, cell H38 (Addr.add (bk H) 2) = some (Sl.v x51) ∧ (
 ((decide (((x51).n : Int) ≤ r40)) = true → (mayw H38 (bk H3) 4 0 ∧ ∀ H53, H53 = sets H38 (bk H3) (vR 0 0 bE false) 0 → (
 ∃ x56 x57 x58 x59, cells H53 (bk H3) (vR x56 x57 x58 x59) 0 ∧ (
 Q x56 x57 x58 x59 22 H53)))) ∧
 ((decide (((x51).n : Int) ≤ r40)) = false → (∃ x62, cell H38 (Addr.add (bk H) 2) = some (Sl.v x62) ∧ (
 ∃ a63, (x62).b = some a63 ∧ (0 : Int) ≤ r40 ∧ r40 < ((x62).n : Int) ∧ (
 ∃ x68, cell H38 (Addr.add a63 (r40.toNat * 4)) = some (iv x68) ∧ (
 ∃ a69, (p2).b = some a69 ∧ (0 : Int) ≤ r22 ∧ r22 < ((p2).n : Int) ∧ (
 ∃ x74, cell H38 (Addr.add (Addr.add a69 (r22.toNat * 2)) 1) = some (Sl.v x74) ∧ (
 ∃ a75, (x74).b = some a75 ∧ (0 : Int) ≤ r40 ∧ r40 < ((x74).n : Int) ∧ (
 ∃ x80, cell H38 (Addr.add (Addr.add a75 (r40.toNat * 2)) 1) = some (iv x80) ∧ (
 (decide (x68 ≠ x80) = true → (mayw H38 (bk H3) 4 0 ∧ ∀ H82, H82 = sets H38 (bk H3) (vR 0 0 bE false) 0 → (
 ∃ x85 x86 x87 x88, cells H82 (bk H3) (vR x85 x86 x87 x88) 0 ∧ (
 Q x85 x86 x87 x88 10 H82)))) ∧
 (decide (x68 ≠ x80) = false → (∃ x91, cell H38 (Addr.add (bk H) 2) = some (Sl.v x91) ∧ (
 ∃ a92, (x91).b = some a92 ∧ (0 : Int) ≤ r40 ∧ r40 < ((x91).n : Int) ∧ (
 ∃ x97 x98 x99 x100, cells H38 (Addr.add a92 (r40.toNat * 4)) (vR x97 x98 x99 x100) 0 ∧ (
 F46 x97 x98 x99 x100 H38 (fun r103 H101 =>
 ((!r103) = true → (mayw H101 (bk H3) 4 0 ∧ ∀ H105, H105 = sets H101 (bk H3) (vR 0 0 bE false) 0 → (
 ∃ x108 x109 x110 x111, cells H105 (bk H3) (vR x108 x109 x110 x111) 0 ∧ (
 Q x108 x109 x110 x111 12 H105)))) ∧
 ((!r103) = false → (∃ x114, cell H101 (Addr.add (bk H) 2) = some (Sl.v x114) ∧ (
 ∃ a115, (x114).b = some a115 ∧ (0 : Int) ≤ r40 ∧ r40 < ((x114).n : Int) ∧ (
 ∃ x120 x121 x122 x123, cells H101 (Addr.add a115 (r40.toNat * 4)) (vR x120 x121 x122 x123) 0 ∧ (
 mayw H101 (bk H3) 4 0 ∧ ∀ H124, H124 = sets H101 (bk H3) (vR x120 x121 x122 x123) 0 → (
 ∃ x127 x128 x129 x130, cells H124 (bk H3) (vR x127 x128 x129 x130) 0 ∧ (
 Q x127 x128 x129 x130 0 H124)))))))))))))))))))))))))))))))))))))
theorem walk28 {w0 : World} {p0_0 : ByteArray} {p0_1 : Int} {p0_2 : Sl} {p1 : ByteArray} {p2 : Sl} {H : Hp} {Q : ZQV} (h : F28 p0_0 p0_1 p0_2 p1 p2 H Q) :
  Good prog w0 28 #[(.agg (tR p0_0 p0_1 p0_2).toArray), (sv p1), (Sl.v p2)] H (fun v H => ∃ r0 r1 r2 r3 r4, v = (.tuple #[(.agg (vR r0 r1 r2 r3).toArray), (iv r4)]) ∧ Q r0 r1 r2 r3 r4 H) := by
 unfold F28 at h
 refine Good.enter' (fn := f28) func28 rfl rfl rfl (ws (wr_ (ho rfl (ob (v := .agg (tR p0_0 p0_1 p0_2).toArray) rfl) ?_)))
 rintro _ H1 ⟨rfl, e2⟩
 replace h := h H1 e2
 refine ho rfl (ob (v := sv p1) rfl) ?_
 rintro _ H3 ⟨rfl, e4⟩
 replace h := h H3 e4
 refine ho rfl (HOp.alloc zeroValue38) ?_
 rintro _ H5 ⟨rfl, e6⟩
 replace h := h H5 e6
 refine hv (v := iv 0) rfl (av rfl) (hn (nt (ws (ws (wr_ ?_)))))
 obtain ⟨x8, c7, h⟩ := h
 refine hv (v := sv x8) rfl (l1 isAgg9 rfl c7) (hv (v := bv (seq x8 S_time)) rfl (HVal.eqlS rfl rfl) (hn (nt ?_)))
 obtain ⟨hT, hF⟩ := h
 refine wk (seq x8 S_time) rfl (fun hb9 => ?_) (fun hb9 => ?_)
 ·have h := hT hb9
  refine ws (wr_ (hv (v := pp (Addr.add (bk H) 1)) rfl (fa runUnderlying36 rfl rfl sizeOf2 rfl) ?_))
  obtain ⟨x11, c10, h⟩ := h
  refine hv (v := iv x11) rfl (l1 isAgg2 rfl c10) (hv (v := .agg (vR 1 x11 bE false).toArray) rfl (HVal.build' (cs := (vR 1 x11 bE false)) runUnderlying38 zeroValue38 places38 rfl) ?_)
  obtain ⟨z14, h⟩ := h
  refine hq (HOp.storeN' (l := (vR 1 x11 bE false)) sizeOf38 rfl rfl rfl z14) ?_
  rintro _ H12 e13
  replace h := h H12 e13
  refine hv (v := iv 0) rfl (av rfl) (hn (nt (HW.ret (tr ?_))))
  obtain ⟨x15, x16, x17, x18, c19, h⟩ := h
  exact ⟨_, resOf2 rfl (Res1.n (vR x15 x16 x17 x18) isAgg38 sizeOf38 rfl c19) Res1.t, ⟨x15, x16, x17, x18, 0, rfl, h⟩⟩
 have h := hF hb9
 refine wp_ (nt (ws (wr_ (hv (v := Sl.v p2) rfl (mv rfl) (hv (v := .func (.func 43) #[] #[(pp (bk H))]) rfl (HVal.makeFuncL rfl) ?_)))))
 refine ho rfl (HOp.call' 42 [(Sl.v p2), (.func (.func 43) #[] #[(pp (bk H))])] (cap := []) rfl rfl call42 (walk42_43 h)) ?_
 rintro _ H20 ⟨r22, rfl, h⟩
 refine hv (v := iv r22) rfl (av rfl) (hn (nt (ws (ws (wr_ (hv (v := iv r22) rfl (mv rfl) (hv (v := bv (decide (r22 < 0))) rfl (HVal.lss rfl rfl) ?_)))))))
 refine hn (nt ?_)
 obtain ⟨hT, hF⟩ := h
 refine wk (decide (r22 < 0)) rfl (fun hb23 => ?_) (fun hb23 => ?_)
 ·have h := hT hb23
  refine ws (wr_ (hv (v := .agg (vR 0 0 bE false).toArray) rfl (HVal.build' (cs := (vR 0 0 bE false)) runUnderlying38 zeroValue38 places38 rfl) ?_))
  obtain ⟨z26, h⟩ := h
  refine hq (HOp.storeN' (l := (vR 0 0 bE false)) sizeOf38 rfl rfl rfl z26) ?_
  rintro _ H24 e25
  replace h := h H24 e25
  refine hv (v := iv 21) rfl (av rfl) (hn (nt (HW.ret (tr ?_))))
  obtain ⟨x27, x28, x29, x30, c31, h⟩ := h
  exact ⟨_, resOf2 rfl (Res1.n (vR x27 x28 x29 x30) isAgg38 sizeOf38 rfl c31) Res1.t, ⟨x27, x28, x29, x30, 21, rfl, h⟩⟩
 have h := hF hb23
 refine wp_ (nt (ws (wr_ (hv (v := Sl.v p2) rfl (mv rfl) (hv (v := iv r22) rfl (mv rfl) ?_)))))
 obtain ⟨a32, e33, b34, b35, h⟩ := h
 refine hv (v := pp (Addr.add a32 (r22.toNat * 2))) rfl (ia runUnderlying30 sizeOf86 (Sl.v_some rfl e33) rfl b34 b35) ?_
 refine hv (v := pp (Addr.add (Addr.add a32 (r22.toNat * 2)) 1)) rfl (fa runUnderlying86 rfl rfl sizeOf84 rfl) ?_
 obtain ⟨x37, c36, h⟩ := h
 refine hv (v := Sl.v x37) rfl (l1 isAgg84 rfl c36) (hv (v := .func (.func 45) #[] #[(pp (bk H1))]) rfl (HVal.makeFuncL rfl) ?_)
 refine ho rfl (HOp.call' 44 [(Sl.v x37), (.func (.func 45) #[] #[(pp (bk H1))])] (cap := []) rfl rfl call44 (walk44_45 h)) ?_
 rintro _ H38 ⟨r40, rfl, h⟩
 refine hv (v := iv r40) rfl (av rfl) (hn (nt (ws (wb (ws (wr_ (hv (v := iv r40) rfl (mv rfl) ?_)))))))
 refine hv (v := bv (decide (r40 < 0))) rfl (HVal.lss rfl rfl) (hv (v := bv (decide (r40 < 0))) rfl (av rfl) (hn (nt ?_)))
 obtain ⟨hT, hF⟩ := h
 refine wk (decide (r40 < 0)) rfl (fun hb41 => ?_) (fun hb41 => ?_)
 ·have h := hT hb41
  refine ws (wr_ (hv (v := .agg (vR 0 0 bE false).toArray) rfl (HVal.build' (cs := (vR 0 0 bE false)) runUnderlying38 zeroValue38 places38 rfl) ?_))
  obtain ⟨z44, h⟩ := h
  refine hq (HOp.storeN' (l := (vR 0 0 bE false)) sizeOf38 rfl rfl rfl z44) ?_
  rintro _ H42 e43
  replace h := h H42 e43
  refine hv (v := iv 82) rfl (av rfl) (hn (nt (HW.ret (br (tr ?_)))))
  obtain ⟨x45, x46, x47, x48, c49, h⟩ := h
  exact ⟨_, resOf2 rfl (Res1.n (vR x45 x46 x47 x48) isAgg38 sizeOf38 rfl c49) Res1.t, ⟨x45, x46, x47, x48, 82, rfl, h⟩⟩
 have h := hF hb41
 refine ws (wr_ (hv (v := iv r40) rfl (mv rfl) (hv (v := pp (Addr.add (bk H) 2)) rfl (fa runUnderlying36 rfl rfl sizeOf34 rfl) ?_)))
 obtain ⟨x51, c50, h⟩ := h
 refine hv (v := Sl.v x51) rfl (l1 isAgg34 rfl c50) (hv (v := iv ((x51).n : Int)) rfl (HVal.len runUnderlying34 rfl) (hv (v := bv (decide (((x51).n : Int) ≤ r40))) rfl (HVal.geq rfl rfl) ?_))
 refine hv (v := bv (decide (((x51).n : Int) ≤ r40))) rfl (av rfl) (hn (nt ?_))
 obtain ⟨hT, hF⟩ := h
 refine wk (decide (((x51).n : Int) ≤ r40)) rfl (fun hb52 => ?_) (fun hb52 => ?_)
 ·have h := hT hb52
  refine ws (wr_ (hv (v := .agg (vR 0 0 bE false).toArray) rfl (HVal.build' (cs := (vR 0 0 bE false)) runUnderlying38 zeroValue38 places38 rfl) ?_))
  obtain ⟨z55, h⟩ := h
  refine hq (HOp.storeN' (l := (vR 0 0 bE false)) sizeOf38 rfl rfl rfl z55) ?_
  rintro _ H53 e54
  replace h := h H53 e54
  refine hv (v := iv 22) rfl (av rfl) (hn (nt (HW.ret (br (tr ?_)))))
  obtain ⟨x56, x57, x58, x59, c60, h⟩ := h
  exact ⟨_, resOf2 rfl (Res1.n (vR x56 x57 x58 x59) isAgg38 sizeOf38 rfl c60) Res1.t, ⟨x56, x57, x58, x59, 22, rfl, h⟩⟩
 have h := hF hb52
 refine ws (HW.draw mixed [(0, some []), (1, some []), (2, some []), (3, some []), (4, some []), (5, some []), (6, some []), (7, some []), (8, some []), (9, some []), (10, some []), (11, some []), (12, some []), (13, some []), (14, some []), (15, some []), (16, some [])] rfl (by kernel_rfl) (by kernel_rfl) ?_)
 refine pv (v := pp (Addr.add (bk H) 2)) rfl rfl (fun _ => fa runUnderlying36 rfl rfl sizeOf34 rfl) ?_
 obtain ⟨x62, c61, h⟩ := h
 refine pl (v := Sl.v x62) (fun X => cell X (Addr.add (bk H) 2) = some (Sl.v x62)) rfl rfl (fun _ hX => l1 isAgg34 rfl hX) c61 (pv (v := iv r40) rfl rfl (fun _ => mv rfl) ?_)
 obtain ⟨a63, e64, b65, b66, h⟩ := h
 refine pv (v := pp (Addr.add a63 (r40.toNat * 4))) rfl rfl (fun _ => ia runUnderlying34 sizeOf38 (Sl.v_some rfl e64) rfl b65 b66) ?_
 refine pv (v := pp (Addr.add a63 (r40.toNat * 4))) rfl rfl (fun _ => HVal.fieldAddr0 runUnderlying38 rfl rfl sizeOf3 rfl) ?_
 obtain ⟨x68, c67, h⟩ := h
 refine pl (v := iv x68) (fun X => cell X (Addr.add a63 (r40.toNat * 4)) = some (iv x68)) rfl rfl (fun _ hX => l1 isAgg3 rfl hX) c67 (pv (v := Sl.v p2) rfl rfl (fun _ => mv rfl) ?_)
 refine pv (v := iv r22) rfl rfl (fun _ => mv rfl) ?_
 obtain ⟨a69, e70, b71, b72, h⟩ := h
 refine pv (v := pp (Addr.add a69 (r22.toNat * 2))) rfl rfl (fun _ => ia runUnderlying30 sizeOf86 (Sl.v_some rfl e70) rfl b71 b72) ?_
 refine pv (v := pp (Addr.add (Addr.add a69 (r22.toNat * 2)) 1)) rfl rfl (fun _ => fa runUnderlying86 rfl rfl sizeOf84 rfl) ?_
 obtain ⟨x74, c73, h⟩ := h
 refine pl (v := Sl.v x74) (fun X => cell X (Addr.add (Addr.add a69 (r22.toNat * 2)) 1) = some (Sl.v x74)) rfl rfl (fun _ hX => l1 isAgg84 rfl hX) c73 ?_
 refine pv (v := iv r40) rfl rfl (fun _ => mv rfl) ?_
 obtain ⟨a75, e76, b77, b78, h⟩ := h
 refine pv (v := pp (Addr.add a75 (r40.toNat * 2))) rfl rfl (fun _ => ia runUnderlying84 sizeOf83 (Sl.v_some rfl e76) rfl b77 b78) ?_
 refine pv (v := pp (Addr.add (Addr.add a75 (r40.toNat * 2)) 1)) rfl rfl (fun _ => fa runUnderlying83 rfl rfl sizeOf3 rfl) ?_
 obtain ⟨x80, c79, h⟩ := h
 refine pl (v := iv x80) (fun X => cell X (Addr.add (Addr.add a75 (r40.toNat * 2)) 1) = some (iv x80)) rfl rfl (fun _ hX => l1 isAgg3 rfl hX) c79 ?_
 refine pv (v := bv (decide (x68 ≠ x80))) rfl rfl (fun _ => HVal.neqI rfl rfl) (pv (v := bv (decide (x68 ≠ x80))) rfl rfl (fun _ => av rfl) ?_)
 refine HPlan.done (nt ?_)
 obtain ⟨hT, hF⟩ := h
 refine wk (decide (x68 ≠ x80)) rfl (fun hb81 => ?_) (fun hb81 => ?_)
 ·have h := hT hb81
  refine ws (wr_ (hv (v := .agg (vR 0 0 bE false).toArray) rfl (HVal.build' (cs := (vR 0 0 bE false)) runUnderlying38 zeroValue38 places38 rfl) ?_))
  obtain ⟨z84, h⟩ := h
  refine hq (HOp.storeN' (l := (vR 0 0 bE false)) sizeOf38 rfl rfl rfl z84) ?_
  rintro _ H82 e83
  replace h := h H82 e83
  refine hv (v := iv 10) rfl (av rfl) (hn (nt (HW.ret (br (tr ?_)))))
  obtain ⟨x85, x86, x87, x88, c89, h⟩ := h
  exact ⟨_, resOf2 rfl (Res1.n (vR x85 x86 x87 x88) isAgg38 sizeOf38 rfl c89) Res1.t, ⟨x85, x86, x87, x88, 10, rfl, h⟩⟩
 have h := hF hb81
 refine ws (wr_ (hv (v := pp (Addr.add (bk H) 2)) rfl (fa runUnderlying36 rfl rfl sizeOf34 rfl) ?_))
 obtain ⟨x91, c90, h⟩ := h
 refine hv (v := Sl.v x91) rfl (l1 isAgg34 rfl c90) (hv (v := iv r40) rfl (mv rfl) ?_)
 obtain ⟨a92, e93, b94, b95, h⟩ := h
 refine hv (v := pp (Addr.add a92 (r40.toNat * 4))) rfl (ia runUnderlying34 sizeOf38 (Sl.v_some rfl e93) rfl b94 b95) ?_
 obtain ⟨x97, x98, x99, x100, c96, h⟩ := h
 refine hv (v := .agg (vR x97 x98 x99 x100).toArray) rfl (ln (vR x97 x98 x99 x100) isAgg38 sizeOf38 rfl c96) (ho rfl (HOp.call' 46 [(.agg (vR x97 x98 x99 x100).toArray)] (cap := []) rfl rfl call46 (walk46 h)) ?_)
 rintro _ H101 ⟨r103, rfl, h⟩
 refine hv (v := bv (!r103)) rfl (HVal.not rfl) (hv (v := bv (!r103)) rfl (av rfl) (hn (nt ?_)))
 obtain ⟨hT, hF⟩ := h
 refine wk (!r103) rfl (fun hb104 => ?_) (fun hb104 => ?_)
 ·have h := hT hb104
  refine ws (wr_ (hv (v := .agg (vR 0 0 bE false).toArray) rfl (HVal.build' (cs := (vR 0 0 bE false)) runUnderlying38 zeroValue38 places38 rfl) ?_))
  obtain ⟨z107, h⟩ := h
  refine hq (HOp.storeN' (l := (vR 0 0 bE false)) sizeOf38 rfl rfl rfl z107) ?_
  rintro _ H105 e106
  replace h := h H105 e106
  refine hv (v := iv 12) rfl (av rfl) (hn (nt (HW.ret (br (tr ?_)))))
  obtain ⟨x108, x109, x110, x111, c112, h⟩ := h
  exact ⟨_, resOf2 rfl (Res1.n (vR x108 x109 x110 x111) isAgg38 sizeOf38 rfl c112) Res1.t, ⟨x108, x109, x110, x111, 12, rfl, h⟩⟩
 have h := hF hb104
 refine wp_ (nb (nt (ws (wr_ (hv (v := pp (Addr.add (bk H) 2)) rfl (fa runUnderlying36 rfl rfl sizeOf34 rfl) ?_)))))
 obtain ⟨x114, c113, h⟩ := h
 refine hv (v := Sl.v x114) rfl (l1 isAgg34 rfl c113) (hv (v := iv r40) rfl (mv rfl) ?_)
 obtain ⟨a115, e116, b117, b118, h⟩ := h
 refine hv (v := pp (Addr.add a115 (r40.toNat * 4))) rfl (ia runUnderlying34 sizeOf38 (Sl.v_some rfl e116) rfl b117 b118) ?_
 obtain ⟨x120, x121, x122, x123, c119, h⟩ := h
 refine hv (v := .agg (vR x120 x121 x122 x123).toArray) rfl (ln (vR x120 x121 x122 x123) isAgg38 sizeOf38 rfl c119) ?_
 obtain ⟨z126, h⟩ := h
 refine hq (HOp.storeN' (l := (vR x120 x121 x122 x123)) sizeOf38 rfl rfl rfl z126) ?_
 rintro _ H124 e125
 replace h := h H124 e125
 refine hv (v := iv 0) rfl (av rfl) (hn (nt (HW.ret ?_)))
 obtain ⟨x127, x128, x129, x130, c131, h⟩ := h
 exact ⟨_, resOf2 rfl (Res1.n (vR x127 x128 x129 x130) isAgg38 sizeOf38 rfl c131) Res1.t, ⟨x127, x128, x129, x130, 0, rfl, h⟩⟩

def F57_3 (Q : ZQV) (y81 : Addr) (y199 : Int) (H_3 : Hp) : Prop :=
mayw H_3 y81 4 0 ∧ ∀ H200, H200 = sets H_3 y81 (vR 1 y199 bE false) 0 → (
 ∃ x203 x204 x205 x206, cells H200 y81 (vR x203 x204 x205 x206) 0 ∧ (
 Q x203 x204 x205 x206 0 H200))
def F57_7 (Q : ZQV) (y183 : Addr) (y184 : Int) (y189 : Bool) (H_7 : Hp) : Prop :=
(y189 = true → (mayw H_7 y183 4 0 ∧ ∀ H191, H191 = sets H_7 y183 (vR 0 0 bE false) 0 → (
 ∃ x194 x195 x196 x197, cells H191 y183 (vR x194 x195 x196 x197) 0 ∧ (
 Q x194 x195 x196 x197 110 H191)))) ∧
 (y189 = false → (F57_3 Q y183 y184 H_7))
def F57_4 (Q : ZQV) (y99 y100 : Addr) (y101 : Sl) (y182 : Int) (H_4 : Hp) : Prop :=
((decide (((y101).n : Int) = 0)) = true → (∃ x188, cell H_4 (Addr.add y99 1) = some (iv x188) ∧ (
 F57_7 Q y100 y182 (decide (x188 ≠ 2)) H_4))) ∧
 ((decide (((y101).n : Int) = 0)) = false → (F57_7 Q y100 y182 false H_4))
def F57_6 (Q : ZQV) (X5 : Int → ZQI) (y112 y113 y114 : Addr) (y115 : Sl) (y116 : Value) (y117 : Sl) (y118 y119 y176 : Int) (H_6 : Hp) : Prop :=
X5 y176 (IntKind.i64.wrap (y119 + 1)) H_6
def FV57_78_79_80 (fv : Value) (a0 a1 : Int) (H : Hp) (Q : ZQI) : Prop :=
 (fv = .func (.func 78) #[] #[] ∧ F78 a0 a1 H Q) ∨ (fv = .func (.func 79) #[] #[] ∧ F79 a0 a1 H Q) ∨ (fv = .func (.func 80) #[] #[] ∧ F80 a0 a1 H Q)
theorem walkV57_78_79_80 {w0 : World} {fv : Value} {a0 a1 : Int} {H : Hp} {Q : ZQI} (h : FV57_78_79_80 fv a0 a1 H Q) :
  ∃ m : FuncId, fv = .func (.func m) #[] #[] ∧ (∀ args w, (callFunc m args).run prog w = .ok (.enter m args) w) ∧ Good prog w0 m [(iv a0), (iv a1)].toArray H (fun v H => ∃ r0, v = (iv r0) ∧ Q r0 H) := by
 rcases h with ⟨e, h⟩ | ⟨e, h⟩ | ⟨e, h⟩
 ·exact ⟨78, e, call78, walk78 h⟩
 ·exact ⟨79, e, call79, walk79 h⟩
 ·exact ⟨80, e, call80, walk80 h⟩
def F57_L5b (Q : ZQV) (X5 : Int → ZQI) (y104 y105 y106 : Addr) (y107 : Sl) (y108 : Value) (y109 : Sl) (y110 y102 y103 : Int) (H_5 : Hp) : Prop :=
(decide (y103 < y110) = true → (∃ a120, (y109).b = some a120 ∧ (0 : Int) ≤ y103 ∧ y103 < ((y109).n : Int) ∧ (
 ∃ x125 x126 x127, cells H_5 (Addr.add a120 (y103.toNat * 3)) (tR x125 x126 x127) 0 ∧ (
 ∀ H128, H128 = Array.push H_5 (.cells (tR bE 0 Sl.nil).toArray 36) → (
 mayw H128 (bk H_5) 3 0 ∧ ∀ H130, H130 = sets H128 (bk H_5) (tR x125 x126 x127) 0 → (
 ∃ x134 x135 x136, cells H130 (bk H_5) (tR x134 x135 x136) 0 ∧ (
 ∃ x138, cell H130 (Addr.add y105 8) = some (sv x138) ∧ (
 ∃ x140, cell H130 (Addr.add y104 6) = some (Sl.v x140) ∧ (
 F28 x134 x135 x136 x138 x140 H130 (fun r143 r144 r145 r146 r147 H141 =>
 ∀ H148, H148 = Array.push H141 (.cells (vR 0 0 bE false).toArray 38) → (
 mayw H148 (bk H141) 4 0 ∧ ∀ H150, H150 = sets H148 (bk H141) (vR r143 r144 r145 r146) 0 → (
 (decide (r147 ≠ 0) = true → (mayw H150 y106 4 0 ∧ ∀ H154, H154 = sets H150 y106 (vR 0 0 bE false) 0 → (
 ∃ x157 x158 x159 x160, cells H154 y106 (vR x157 x158 x159 x160) 0 ∧ (
 Q x157 x158 x159 x160 r147 H154)))) ∧
 (decide (r147 ≠ 0) = false → (∃ x163, cell H150 (bk H141) = some (iv x163) ∧ (
 (decide (x163 ≠ 1) = true → (mayw H150 y106 4 0 ∧ ∀ H165, H165 = sets H150 y106 (vR 0 0 bE false) 0 → (
 ∃ x168 x169 x170 x171, cells H165 y106 (vR x168 x169 x170 x171) 0 ∧ (
 Q x168 x169 x170 x171 10 H165)))) ∧
 (decide (x163 ≠ 1) = false → ((decide (y103 = 0) = true → (∃ x175, cell H150 (Addr.add (bk H141) 1) = some (iv x175) ∧ (
 F57_6 Q X5 y104 y105 y106 y107 y108 y109 y110 y103 x175 H150))) ∧
 (decide (y103 = 0) = false → (∃ x178, cell H150 (Addr.add (bk H141) 1) = some (iv x178) ∧ (
 FV57_78_79_80 y108 y102 x178 H150 (fun r181 H179 =>
 F57_6 Q X5 y104 y105 y106 y107 y108 y109 y110 y103 r181 H179))))))))))))))))))))) ∧
 (decide (y103 < y110) = false → (F57_4 Q y105 y106 y107 y102 H_5))
def F57_L5 (Q : ZQV) (y104 y105 y106 : Addr) (y107 : Sl) (y108 : Value) (y109 : Sl) (y110 y102 y103 : Int) (H_5 : Hp) : Prop :=
 ∀ X5 : Int → ZQI, (∀ (y102 y103 : Int) (H_5 : Hp), F57_L5b Q X5 y104 y105 y106 y107 y108 y109 y110 y102 y103 H_5 → X5 y102 y103 H_5) → X5 y102 y103 H_5
def F57_2 (Q : ZQV) (y48 y49 y50 : Addr) (y51 : Sl) (y54 : Bool) (H_2 : Hp) : Prop :=
(y54 = true → (mayw H_2 y50 4 0 ∧ ∀ H73, H73 = sets H_2 y50 (vR 0 0 bE false) 0 → (
 ∃ x76 x77 x78 x79, cells H73 y50 (vR x76 x77 x78 x79) 0 ∧ (
 Q x76 x77 x78 x79 110 H73)))) ∧
 (y54 = false → (∃ x83, cell H_2 (Addr.add y49 1) = some (iv x83) ∧ (
 (decide (x83 ≠ 1) = true → (∃ x86, cell H_2 (Addr.add y49 1) = some (iv x86) ∧ (
 F71 H_2 (fun r89 r90 r91 r92 r93 H87 =>
 cell H87 (Addr.add y49 1) = some (iv x86) ∧ (
 (0 : Int) ≤ x86 ∧ x86 < (5 : Int) ∧ ∃ y95, ([r89, r90, r91, r92, r93] : List Value)[x86.toNat]? = some y95 ∧ (
 F57_L5 Q y48 y49 y50 y51 y95 y51 ((y51).n : Int) 0 0 H87)))))) ∧
 (decide (x83 ≠ 1) = false → (F57_3 Q y50 ((y51).n : Int) H_2)))))
def F57_1 (Q : ZQV) (y7 y8 y9 : Addr) (y14 : Bool) (H_1 : Hp) : Prop :=
(y14 = true → (mayw H_1 y9 4 0 ∧ ∀ H26, H26 = sets H_1 y9 (vR 0 0 bE false) 0 → (
 ∃ x29 x30 x31 x32, cells H26 y9 (vR x29 x30 x31 x32) 0 ∧ (
 Q x29 x30 x31 x32 60 H26)))) ∧
 (y14 = false → (∃ x35 x36 x37 x38 x39 x40 x41, cells H_1 y7 (xR x35 x36 x37 x38 x39 x40 x41) 0 ∧ (
 ∃ x43, cell H_1 (Addr.add y8 6) = some (sv x43) ∧ (
 F69 x35 x36 x37 x38 x39 x40 x41 x43 H_1 (fun r46 r47 H44 =>
 ((!r47) = true → (F57_2 Q y7 y8 y9 r46 true H44)) ∧
 ((!r47) = false → (∃ x56, cell H44 (Addr.add y8 7) = some (iv x56) ∧ (
 (decide (x56 = 7) = true → (∃ x60 x61 x62 x63 x64 x65 x66, cells H44 y7 (xR x60 x61 x62 x63 x64 x65 x66) 0 ∧ (
 ∃ x68, cell H44 (Addr.add y8 6) = some (sv x68) ∧ (
 F70 x60 x61 x62 x63 x64 x65 x66 x68 H44 (fun r71 H69 =>
 F57_2 Q y7 y8 y9 r46 (!r71) H69))))) ∧
 (decide (x56 = 7) = false → (F57_2 Q y7 y8 y9 r46 false H44))))))))))
def F57 (p0_0 p0_1 : Sl) (p0_2 p0_3 : ByteArray) (p0_4 : Int) (p0_5 p0_6 : Sl) (p1_0 p1_1 p1_2 p1_3 : Int) (p1_4 : ByteArray) (p1_5 : Bool) (p1_6 : ByteArray) (p1_7 : Int) (p1_8 : ByteArray) (p1_9 : Sl) (H : Hp) (Q : ZQV) : Prop :=
∀ H1, H1 = Array.push H (.cells (xR p0_0 p0_1 p0_2 p0_3 p0_4 p0_5 p0_6).toArray 90) → (
 ∀ H3, H3 = Array.push H1 (.cells (eR p1_0 p1_1 p1_2 p1_3 p1_4 p1_5 p1_6 p1_7 p1_8 p1_9).toArray 41) → (
 ∀ H5, H5 = Array.push H3 (.cells (vR 0 0 bE false).toArray 38) → (
 ∃ x11, cell H5 (Addr.add (bk H1) 1) = some (iv x11) ∧ (
 (decide (x11 < 1) = true → (F57_1 Q (bk H) (bk H1) (bk H3) true H5)) ∧
 (decide (x11 < 1) = false → (∃ x16, cell H5 (Addr.add (bk H1) 1) = some (iv x16) ∧ (
 ((decide ((4 : Int) < x16)) = true → (F57_1 Q (bk H) (bk H1) (bk H3) true H5)) ∧
 ((decide ((4 : Int) < x16)) = false → (∃ x20, cell H5 (Addr.add (bk H1) 7) = some (iv x20) ∧ (
 (decide (x20 ≠ 6) = true → (∃ x24, cell H5 (Addr.add (bk H1) 7) = some (iv x24) ∧ (
 F57_1 Q (bk H) (bk H1) (bk H3) (decide (x24 ≠ 7)) H5))) ∧
 (decide (x20 ≠ 6) = false → (F57_1 Q (bk H) (bk H1) (bk H3) false H5))))))))))))
theorem walk57 {w0 : World} {p0_0 p0_1 : Sl} {p0_2 p0_3 : ByteArray} {p0_4 : Int} {p0_5 p0_6 : Sl} {p1_0 p1_1 p1_2 p1_3 : Int} {p1_4 : ByteArray} {p1_5 : Bool} {p1_6 : ByteArray} {p1_7 : Int} {p1_8 : ByteArray} {p1_9 : Sl} {H : Hp} {Q : ZQV} (h : F57 p0_0 p0_1 p0_2 p0_3 p0_4 p0_5 p0_6 p1_0 p1_1 p1_2 p1_3 p1_4 p1_5 p1_6 p1_7 p1_8 p1_9 H Q) :
  Good prog w0 57 #[(.agg (xR p0_0 p0_1 p0_2 p0_3 p0_4 p0_5 p0_6).toArray), (.agg (eR p1_0 p1_1 p1_2 p1_3 p1_4 p1_5 p1_6 p1_7 p1_8 p1_9).toArray)] H (fun v H => ∃ r0 r1 r2 r3 r4, v = (.tuple #[(.agg (vR r0 r1 r2 r3).toArray), (iv r4)]) ∧ Q r0 r1 r2 r3 r4 H) := by
 unfold F57 at h
 refine Good.enter' (fn := f57) func57 rfl rfl rfl (ws (wr_ (ho rfl (ob (v := .agg (xR p0_0 p0_1 p0_2 p0_3 p0_4 p0_5 p0_6).toArray) rfl) ?_)))
 rintro _ H1 ⟨rfl, e2⟩
 replace h := h H1 e2
 refine ho rfl (ob (v := .agg (eR p1_0 p1_1 p1_2 p1_3 p1_4 p1_5 p1_6 p1_7 p1_8 p1_9).toArray) rfl) ?_
 rintro _ H3 ⟨rfl, e4⟩
 replace h := h H3 e4
 refine ho rfl (HOp.alloc zeroValue38) ?_
 rintro _ H5 ⟨rfl, e6⟩
 replace h := h H5 e6
 refine hv (v := iv 0) rfl (av rfl) (hn (nt (ws (wc (fun ρ H_1 => ∃ y14, Env.Is ρ [(2, (pp (bk H))), (3, (pp (bk H1))), (4, (pp (bk H3))), (31, (bv y14))] ∧ F57_1 Q (bk H) (bk H1) (bk H3) y14 H_1) ?_ ?_))))
 ·refine wr_ (hv (v := pp (Addr.add (bk H1) 1)) rfl (fa runUnderlying41 rfl rfl sizeOf3 rfl) ?_)
  obtain ⟨x11, c10, h⟩ := h
  refine hv (v := iv x11) rfl (l1 isAgg3 rfl c10) (hv (v := bv (decide (x11 < 1))) rfl (HVal.lss rfl rfl) (hv (v := bv (decide (x11 < 1))) rfl (mv rfl) ?_))
  obtain ⟨hT, hF⟩ := h
  rcases Bool.eq_false_or_eq_true (decide (x11 < 1)) with hb12 | hb13
  ·have h := hT hb12
   refine hs_ rfl rfl rfl rfl (cB hb12) (hs_ rfl rfl rfl rfl (cB hb12) (hs_ rfl rfl rfl rfl (cB hb12) (hv (v := bv true) rfl (pt_ rfl hb12 rfl) ?_)))
   refine hv (v := bv true) rfl (mv rfl) (hs_ rfl rfl rfl rfl rfl (hs_ rfl rfl rfl rfl rfl (hs_ rfl rfl rfl rfl rfl ?_)))
   refine hs_ rfl rfl rfl rfl rfl (HList.uskips rfl rfl rfl rfl rfl (HList.uskips rfl rfl rfl rfl rfl (HList.uskips rfl rfl rfl rfl rfl (hs_ rfl rfl rfl rfl rfl ?_))))
   refine hv (v := bv true) rfl (pt_ rfl rfl rfl) (hn (nt ?_))
   exact ⟨true, (isp rfl), h⟩
  have h := hF hb13
  refine hg (v := pp (Addr.add (bk H1) 1)) rfl rfl rfl rfl (cB hb13) (fa runUnderlying41 rfl rfl sizeOf3 rfl) ?_
  obtain ⟨x16, c15, h⟩ := h
  refine hg (v := iv x16) rfl rfl rfl rfl (cB hb13) (l1 isAgg3 rfl c15) (hg (v := bv (decide ((4 : Int) < x16))) rfl rfl rfl rfl (cB hb13) (HVal.gtr rfl rfl) ?_)
  refine hv (v := bv (decide ((4 : Int) < x16))) rfl (pf_ rfl hb13 rfl) (hv (v := bv (decide ((4 : Int) < x16))) rfl (mv rfl) ?_)
  obtain ⟨hT, hF⟩ := h
  rcases Bool.eq_false_or_eq_true (decide ((4 : Int) < x16)) with hb17 | hb18
  ·have h := hT hb17
   refine hs_ rfl rfl rfl rfl (cB hb17) (hs_ rfl rfl rfl rfl (cB hb17) (hs_ rfl rfl rfl rfl (cB hb17) (hs_ rfl rfl rfl rfl (cB hb17) ?_)))
   refine HList.uskips rfl rfl rfl rfl rfl (HList.uskips rfl rfl rfl rfl rfl (HList.uskips rfl rfl rfl rfl rfl (hs_ rfl rfl rfl rfl (cB hb17) (hv (v := bv true) rfl (pt_ rfl hb17 rfl) ?_))))
   refine hn (nt ?_)
   exact ⟨true, (isp rfl), h⟩
  have h := hF hb18
  refine hg (v := pp (Addr.add (bk H1) 7)) rfl rfl rfl rfl (cB hb18) (fa runUnderlying41 rfl rfl sizeOf3 rfl) ?_
  obtain ⟨x20, c19, h⟩ := h
  refine hg (v := iv x20) rfl rfl rfl rfl (cB hb18) (l1 isAgg3 rfl c19) (hg (v := bv (decide (x20 ≠ 6))) rfl rfl rfl rfl (cB hb18) (HVal.neqI rfl rfl) ?_)
  refine hg (v := bv (decide (x20 ≠ 6))) rfl rfl rfl rfl (cB hb18) (mv rfl) ?_
  obtain ⟨hT, hF⟩ := h
  rcases Bool.eq_false_or_eq_true (decide (x20 ≠ 6)) with hb21 | hb22
  ·have h := hT hb21
   refine hg (v := pp (Addr.add (bk H1) 7)) rfl rfl rfl rfl (cB hb21) (fa runUnderlying41 rfl rfl sizeOf3 rfl) ?_
   obtain ⟨x24, c23, h⟩ := h
   refine hg (v := iv x24) rfl rfl rfl rfl (cB hb21) (l1 isAgg3 rfl c23) (hg (v := bv (decide (x24 ≠ 7))) rfl rfl rfl rfl (cB hb21) (HVal.neqI rfl rfl) ?_)
   refine hg (v := bv (decide (x24 ≠ 7))) rfl rfl rfl rfl (cB hb18) (pt_ rfl hb21 rfl) (hv (v := bv (decide (x24 ≠ 7))) rfl (pf_ rfl hb18 rfl) ?_)
   refine hn (nt ?_)
   exact ⟨(decide (x24 ≠ 7)), (isp rfl), h⟩
  have h := hF hb22
  refine hs_ rfl rfl rfl rfl (cB hb22) (hs_ rfl rfl rfl rfl (cB hb22) (hs_ rfl rfl rfl rfl (cB hb22) (hg (v := bv false) rfl rfl rfl rfl (cB hb18) (pf_ rfl hb22 rfl) ?_)))
  refine hv (v := bv false) rfl (pf_ rfl hb18 rfl) (hn (nt ?_))
  exact ⟨false, (isp rfl), h⟩
 rintro ρ H_1 ⟨y14, hI, h⟩
 obtain ⟨ρ0, rfl⟩ := hI.ex
 clear hI; unfold F57_1 at h
 obtain ⟨hT, hF⟩ := h
 refine wk y14 rfl (fun hb25 => ?_) (fun hb25 => ?_)
 ·have h := hT hb25
  refine ws (wr_ (hv (v := .agg (vR 0 0 bE false).toArray) rfl (HVal.build' (cs := (vR 0 0 bE false)) runUnderlying38 zeroValue38 places38 rfl) ?_))
  obtain ⟨z28, h⟩ := h
  refine hq (HOp.storeN' (l := (vR 0 0 bE false)) sizeOf38 rfl rfl rfl z28) ?_
  rintro _ H26 e27
  replace h := h H26 e27
  refine hv (v := iv 60) rfl (av rfl) (hn (nt (HW.ret (tr ?_))))
  obtain ⟨x29, x30, x31, x32, c33, h⟩ := h
  exact ⟨_, resOf2 rfl (Res1.n (vR x29 x30 x31 x32) isAgg38 sizeOf38 rfl c33) Res1.t, ⟨x29, x30, x31, x32, 60, rfl, h⟩⟩
 have h := hF hb25
 refine wp_ (nt (ws (wr_ ?_)))
 obtain ⟨x35, x36, x37, x38, x39, x40, x41, c34, h⟩ := h
 refine hv (v := .agg (xR x35 x36 x37 x38 x39 x40 x41).toArray) rfl (ln (xR x35 x36 x37 x38 x39 x40 x41) isAgg90 sizeOf90 rfl c34) ?_
 refine hv (v := pp (Addr.add (bk H1) 6)) rfl (fa runUnderlying41 rfl rfl sizeOf9 rfl) ?_
 obtain ⟨x43, c42, h⟩ := h
 refine hv (v := sv x43) rfl (l1 isAgg9 rfl c42) (ho rfl (HOp.call' 69 [(.agg (xR x35 x36 x37 x38 x39 x40 x41).toArray), (sv x43)] (cap := []) rfl rfl call69 (walk69 h)) ?_)
 rintro _ H44 ⟨r46, r47, rfl, h⟩
 refine hv (v := .tuple #[(Sl.v r46), (bv r47)]) rfl (mv rfl) (hv (v := Sl.v r46) rfl (HVal.extract rfl rfl) (hv (v := bv r47) rfl (HVal.extract rfl rfl) ?_))
 refine hv (v := Sl.v r46) rfl (av rfl) (hv (v := bv r47) rfl (av rfl) (hn (nt (ws (wc (fun ρ H_2 => ∃ y54, Env.Is ρ [(2, (pp (bk H))), (3, (pp (bk H1))), (4, (pp (bk H3))), (6, (Sl.v r46)), (53, (bv y54))] ∧ F57_2 Q (bk H) (bk H1) (bk H3) r46 y54 H_2) ?_ ?_)))))
 ·refine wr_ (hv (v := bv r47) rfl (mv rfl) (hv (v := bv (!r47)) rfl (HVal.not rfl) (hv (v := bv (!r47)) rfl (mv rfl) ?_)))
  obtain ⟨hT, hF⟩ := h
  rcases Bool.eq_false_or_eq_true (!r47) with hb52 | hb53
  ·have h := hT hb52
   refine hs_ rfl rfl rfl rfl (cB hb52) (hs_ rfl rfl rfl rfl (cB hb52) (hs_ rfl rfl rfl rfl (cB hb52) (hs_ rfl rfl rfl rfl (cB hb52) ?_)))
   refine HList.uskips rfl rfl rfl rfl rfl (HList.uskips rfl rfl rfl rfl rfl (HList.uskips rfl rfl rfl rfl rfl (HList.uskips rfl rfl rfl rfl rfl (HList.uskips rfl rfl rfl rfl rfl ?_))))
   refine hs_ rfl rfl rfl rfl (cB hb52) (hv (v := bv true) rfl (pt_ rfl hb52 rfl) (hn (nt ?_)))
   exact ⟨true, (isp rfl), h⟩
  have h := hF hb53
  refine hg (v := pp (Addr.add (bk H1) 7)) rfl rfl rfl rfl (cB hb53) (fa runUnderlying41 rfl rfl sizeOf3 rfl) ?_
  obtain ⟨x56, c55, h⟩ := h
  refine hg (v := iv x56) rfl rfl rfl rfl (cB hb53) (l1 isAgg3 rfl c55) (hg (v := bv (decide (x56 = 7))) rfl rfl rfl rfl (cB hb53) (HVal.eqlI rfl rfl) ?_)
  refine hg (v := bv (decide (x56 = 7))) rfl rfl rfl rfl (cB hb53) (mv rfl) ?_
  obtain ⟨hT, hF⟩ := h
  rcases Bool.eq_false_or_eq_true (decide (x56 = 7)) with hb57 | hb58
  ·have h := hT hb57
   obtain ⟨x60, x61, x62, x63, x64, x65, x66, c59, h⟩ := h
   refine hg (v := .agg (xR x60 x61 x62 x63 x64 x65 x66).toArray) rfl rfl rfl rfl (cB hb57) (ln (xR x60 x61 x62 x63 x64 x65 x66) isAgg90 sizeOf90 rfl c59) ?_
   refine hg (v := pp (Addr.add (bk H1) 6)) rfl rfl rfl rfl (cB hb57) (fa runUnderlying41 rfl rfl sizeOf9 rfl) ?_
   obtain ⟨x68, c67, h⟩ := h
   refine hg (v := sv x68) rfl rfl rfl rfl (cB hb57) (l1 isAgg9 rfl c67) (HList.gops rfl rfl rfl rfl (cB hb57) (HOp.call' 70 [(.agg (xR x60 x61 x62 x63 x64 x65 x66).toArray), (sv x68)] (cap := []) rfl rfl call70 (walk70 h)) ?_)
   rintro _ H69 ⟨r71, rfl, h⟩
   refine hg (v := bv (!r71)) rfl rfl rfl rfl (cB hb57) (HVal.not rfl) (hg (v := bv (!r71)) rfl rfl rfl rfl (cB hb53) (pt_ rfl hb57 rfl) ?_)
   refine hv (v := bv (!r71)) rfl (pf_ rfl hb53 rfl) (hn (nt ?_))
   exact ⟨(!r71), (isp rfl), h⟩
  have h := hF hb58
  refine hs_ rfl rfl rfl rfl (cB hb58) (hs_ rfl rfl rfl rfl (cB hb58) (hs_ rfl rfl rfl rfl (cB hb58) (hs_ rfl rfl rfl rfl (cB hb58) ?_)))
  refine hs_ rfl rfl rfl rfl (cB hb58) (hg (v := bv false) rfl rfl rfl rfl (cB hb53) (pf_ rfl hb58 rfl) (hv (v := bv false) rfl (pf_ rfl hb53 rfl) ?_))
  refine hn (nt ?_)
  exact ⟨false, (isp rfl), h⟩
 rintro ρ H_2 ⟨y54, hI, h⟩
 obtain ⟨ρ0, rfl⟩ := hI.ex
 clear hI; unfold F57_2 at h
 obtain ⟨hT, hF⟩ := h
 refine wk y54 rfl (fun hb72 => ?_) (fun hb72 => ?_)
 ·have h := hT hb72
  refine ws (wr_ (hv (v := .agg (vR 0 0 bE false).toArray) rfl (HVal.build' (cs := (vR 0 0 bE false)) runUnderlying38 zeroValue38 places38 rfl) ?_))
  obtain ⟨z75, h⟩ := h
  refine hq (HOp.storeN' (l := (vR 0 0 bE false)) sizeOf38 rfl rfl rfl z75) ?_
  rintro _ H73 e74
  replace h := h H73 e74
  refine hv (v := iv 110) rfl (av rfl) (hn (nt (HW.ret (tr ?_))))
  obtain ⟨x76, x77, x78, x79, c80, h⟩ := h
  exact ⟨_, resOf2 rfl (Res1.n (vR x76 x77 x78 x79) isAgg38 sizeOf38 rfl c80) Res1.t, ⟨x76, x77, x78, x79, 110, rfl, h⟩⟩
 have h := hF hb72
 refine wp_ (nt (ws (wr_ (hv (v := Sl.v r46) rfl (mv rfl) (hv (v := iv ((r46).n : Int)) rfl (HVal.len runUnderlying49 rfl) ?_)))))
 refine hv (v := iv ((r46).n : Int)) rfl (av rfl) (hn (nt (wc (fun ρ H_3 => ∃ y199, Env.Is ρ [(4, (pp (bk H3))), (8, (iv y199))] ∧ F57_3 Q (bk H3) y199 H_3) ?_ ?_)))
 ·refine ws (wr_ (hv (v := pp (Addr.add (bk H1) 1)) rfl (fa runUnderlying41 rfl rfl sizeOf3 rfl) ?_))
  obtain ⟨x83, c82, h⟩ := h
  refine hv (v := iv x83) rfl (l1 isAgg3 rfl c82) (hv (v := bv (decide (x83 ≠ 1))) rfl (HVal.neqI rfl rfl) (hn (nt ?_)))
  obtain ⟨hT, hF⟩ := h
  refine wk (decide (x83 ≠ 1)) rfl (fun hb84 => ?_) (fun hb84 => ?_)
  ·have h := hT hb84
   refine ws (wr_ (hv (v := iv 0) rfl (av rfl) (hn (nt (ws (HW.draw mixed [(1, some []), (2, some []), (0, none), (3, some []), (4, some [])] rfl (by kernel_rfl) (by kernel_rfl) ?_))))))
   refine pv (v := pp (Addr.add (bk H1) 1)) rfl rfl (fun _ => fa runUnderlying41 rfl rfl sizeOf3 rfl) ?_
   obtain ⟨x86, c85, h⟩ := h
   refine pl (v := iv x86) (fun X => cell X (Addr.add (bk H1) 1) = some (iv x86)) rfl rfl (fun _ hX => l1 isAgg3 rfl hX) c85 (po rfl rfl (HOp.call' 71 [] (cap := []) rfl rfl call71 (walk71 h)) ?_)
   rintro _ H87 ⟨r89, r90, r91, r92, r93, rfl, h⟩
   obtain ⟨s94, h⟩ := h
   refine ⟨SC_of ⟨fun _ => s94, trivial⟩, ?_⟩
   obtain ⟨b96, b97, y95, b98, h⟩ := h
   refine pv (v := y95) rfl rfl (fun _ => HVal.indexA (fun x : Value => x) [r89, r90, r91, r92, r93] runUnderlying120 isAgg118 sizeOf118 rfl rfl b96 b97 b98) ?_
   refine pv (v := y95) rfl rfl (fun _ => av rfl) (HPlan.done (nt (wc (fun ρ H_4 => ∃ y182, Env.Is ρ [(3, (pp (bk H1))), (4, (pp (bk H3))), (6, (Sl.v r46)), (8, (iv y182))] ∧ F57_4 Q (bk H1) (bk H3) r46 y182 H_4) ?_ ?_)))
   ·refine ws (wr_ (hv (v := Sl.v r46) rfl (mv rfl) (hv (v := iv ((r46).n : Int)) rfl (HVal.len runUnderlying49 rfl) ?_)))
    refine hv (v := iv 0) rfl (mv rfl) (hn (nt (wb (HW.loop' (fun L5 hL5 => ?_)))))
    obtain ⟨X5, hX5⟩ : ∃ X5 : Int → ZQI, ∀ (y102 y103 : Int) (H_5 : Hp), X5 y102 y103 H_5 ↔ ∀ ρ, Env.Is ρ [(2, (pp (bk H))), (3, (pp (bk H1))), (4, (pp (bk H3))), (6, (Sl.v r46)), (9, y95), (64, (Sl.v r46)), (65, (iv ((r46).n : Int))), (8, (iv y102)), (66, (iv y103))] → L5 ρ H_5 := ⟨_, fun _ _ _ => Iff.rfl⟩
    refine (hX5 _ _ _).1 (h X5 ?_) _ ?_
    rotate_left
    ·exact (isp rfl)
    clear h
    intro y102 y103 H_5 h
    refine (hX5 _ _ _).2 fun ρ hI => ?_
    obtain ⟨ρ0, rfl⟩ := hI.ex
    clear hI; unfold F57_L5b at h; refine hL5 _ _ ?_
    refine ws (wr_ (hv (v := bv (decide (y103 < ((r46).n : Int)))) rfl (HVal.lss rfl rfl) (hn (nt (ws ?_)))))
    obtain ⟨hT, hF⟩ := h
    refine wk (decide (y103 < ((r46).n : Int))) rfl (fun hb111 => ?_) (fun hb111 => ?_)
    ·have h := hT hb111
     refine wp_ (nt (wc (fun ρ H_6 => ∃ y176, Env.Is ρ [(2, (pp (bk H))), (3, (pp (bk H1))), (4, (pp (bk H3))), (6, (Sl.v r46)), (9, y95), (64, (Sl.v r46)), (65, (iv ((r46).n : Int))), (66, (iv y103)), (8, (iv y176))] ∧ F57_6 Q X5 (bk H) (bk H1) (bk H3) r46 y95 r46 ((r46).n : Int) y103 y176 H_6) ?_ ?_))
     ·refine wb (ws (wr_ (hv (v := iv y103) rfl (mv rfl) ?_)))
      obtain ⟨a120, e121, b122, b123, h⟩ := h
      refine hv (v := pp (Addr.add a120 (y103.toNat * 3))) rfl (ia runUnderlying49 sizeOf36 (Sl.v_some rfl e121) rfl b122 b123) ?_
      obtain ⟨x125, x126, x127, c124, h⟩ := h
      refine hv (v := .agg (tR x125 x126 x127).toArray) rfl (ln (tR x125 x126 x127) isAgg36 sizeOf36 rfl c124) (ho rfl (HOp.alloc zeroValue36) ?_)
      rintro _ H128 ⟨rfl, e129⟩
      replace h := h H128 e129
      refine hv (v := iv y103) rfl (av rfl) ?_
      obtain ⟨z132, h⟩ := h
      refine hq (HOp.storeN' (l := (tR x125 x126 x127)) sizeOf36 rfl rfl rfl z132) ?_
      rintro _ H130 e131
      replace h := h H130 e131
      refine hn (nt (ws (wr_ ?_)))
      obtain ⟨x134, x135, x136, c133, h⟩ := h
      refine hv (v := .agg (tR x134 x135 x136).toArray) rfl (ln (tR x134 x135 x136) isAgg36 sizeOf36 rfl c133) (hv (v := pp (Addr.add (bk H1) 8)) rfl (fa runUnderlying41 rfl rfl sizeOf9 rfl) ?_)
      obtain ⟨x138, c137, h⟩ := h
      refine hv (v := sv x138) rfl (l1 isAgg9 rfl c137) (hv (v := pp (bk H)) rfl (HVal.fieldAddr0 runUnderlying90 rfl rfl sizeOf43 rfl) ?_)
      refine hv (v := pp (Addr.add (bk H) 6)) rfl (fa runUnderlying43 rfl rfl sizeOf30 rfl) ?_
      obtain ⟨x140, c139, h⟩ := h
      refine hv (v := Sl.v x140) rfl (l1 isAgg30 rfl c139) (ho rfl (HOp.call' 28 [(.agg (tR x134 x135 x136).toArray), (sv x138), (Sl.v x140)] (cap := []) rfl rfl call28 (walk28 h)) ?_)
      rintro _ H141 ⟨r143, r144, r145, r146, r147, rfl, h⟩
      refine hv (v := .tuple #[(.agg (vR r143 r144 r145 r146).toArray), (iv r147)]) rfl (mv rfl) (hv (v := .agg (vR r143 r144 r145 r146).toArray) rfl (HVal.extract rfl rfl) ?_)
      refine hv (v := iv r147) rfl (HVal.extract rfl rfl) (ho rfl (HOp.alloc zeroValue38) ?_)
      rintro _ H148 ⟨rfl, e149⟩
      replace h := h H148 e149
      obtain ⟨z152, h⟩ := h
      refine hq (HOp.storeN' (l := (vR r143 r144 r145 r146)) sizeOf38 rfl rfl rfl z152) ?_
      rintro _ H150 e151
      replace h := h H150 e151
      refine hv (v := iv r147) rfl (av rfl) (hn (nt (wb (ws (wr_ (hv (v := iv r147) rfl (mv rfl) ?_))))))
      refine hv (v := bv (decide (r147 ≠ 0))) rfl (HVal.neqI rfl rfl) (hv (v := bv (decide (r147 ≠ 0))) rfl (av rfl) (hn (nt ?_)))
      obtain ⟨hT, hF⟩ := h
      refine wk (decide (r147 ≠ 0)) rfl (fun hb153 => ?_) (fun hb153 => ?_)
      ·have h := hT hb153
       refine ws (wr_ (hv (v := .agg (vR 0 0 bE false).toArray) rfl (HVal.build' (cs := (vR 0 0 bE false)) runUnderlying38 zeroValue38 places38 rfl) ?_))
       refine hv (v := iv r147) rfl (mv rfl) ?_
       obtain ⟨z156, h⟩ := h
       refine hq (HOp.storeN' (l := (vR 0 0 bE false)) sizeOf38 rfl rfl rfl z156) ?_
       rintro _ H154 e155
       replace h := h H154 e155
       refine hv (v := iv r147) rfl (av rfl) (hn (nt (HW.ret (br (br (tr (tr (br (tr (tr ?_))))))))))
       obtain ⟨x157, x158, x159, x160, c161, h⟩ := h
       exact ⟨_, resOf2 rfl (Res1.n (vR x157 x158 x159 x160) isAgg38 sizeOf38 rfl c161) Res1.t, ⟨x157, x158, x159, x160, r147, rfl, h⟩⟩
      have h := hF hb153
      refine ws (wr_ (hv (v := pp (bk H141)) rfl (HVal.fieldAddr0 runUnderlying38 rfl rfl sizeOf3 rfl) ?_))
      obtain ⟨x163, c162, h⟩ := h
      refine hv (v := iv x163) rfl (l1 isAgg3 rfl c162) (hv (v := bv (decide (x163 ≠ 1))) rfl (HVal.neqI rfl rfl) (hv (v := bv (decide (x163 ≠ 1))) rfl (av rfl) ?_))
      refine hn (nt ?_)
      obtain ⟨hT, hF⟩ := h
      refine wk (decide (x163 ≠ 1)) rfl (fun hb164 => ?_) (fun hb164 => ?_)
      ·have h := hT hb164
       refine ws (wr_ (hv (v := .agg (vR 0 0 bE false).toArray) rfl (HVal.build' (cs := (vR 0 0 bE false)) runUnderlying38 zeroValue38 places38 rfl) ?_))
       obtain ⟨z167, h⟩ := h
       refine hq (HOp.storeN' (l := (vR 0 0 bE false)) sizeOf38 rfl rfl rfl z167) ?_
       rintro _ H165 e166
       replace h := h H165 e166
       refine hv (v := iv 10) rfl (av rfl) (hn (nt (HW.ret (br (br (tr (tr (br (tr (tr ?_))))))))))
       obtain ⟨x168, x169, x170, x171, c172, h⟩ := h
       exact ⟨_, resOf2 rfl (Res1.n (vR x168 x169 x170 x171) isAgg38 sizeOf38 rfl c172) Res1.t, ⟨x168, x169, x170, x171, 10, rfl, h⟩⟩
      have h := hF hb164
      refine ws (wr_ (hv (v := iv y103) rfl (mv rfl) (hv (v := bv (decide (y103 = 0))) rfl (HVal.eqlI rfl rfl) (hv (v := bv (decide (y103 = 0))) rfl (av rfl) ?_))))
      refine hn (nt ?_)
      obtain ⟨hT, hF⟩ := h
      refine wk (decide (y103 = 0)) rfl (fun hb173 => ?_) (fun hb173 => ?_)
      ·have h := hT hb173
       refine wr_ (hv (v := pp (Addr.add (bk H141) 1)) rfl (fa runUnderlying38 rfl rfl sizeOf2 rfl) ?_)
       obtain ⟨x175, c174, h⟩ := h
       refine hv (v := iv x175) rfl (l1 isAgg2 rfl c174) (hv (v := iv x175) rfl (av rfl) (hn (nb (nb (nt ?_)))))
       exact ⟨x175, (isp rfl), h⟩
      have h := hF hb173
      refine wr_ (hv (v := y95) rfl (mv rfl) (hv (v := iv y102) rfl (mv rfl) (hv (v := pp (Addr.add (bk H141) 1)) rfl (fa runUnderlying38 rfl rfl sizeOf2 rfl) ?_)))
      obtain ⟨x178, c177, h⟩ := h
      refine hv (v := iv x178) rfl (l1 isAgg2 rfl c177) (ho rfl (HOp.callV [(iv y102), (iv x178)] rfl rfl (walkV57_78_79_80 h)) ?_)
      rintro _ H179 ⟨r181, rfl, h⟩
      refine hv (v := iv r181) rfl (av rfl) (hn (nb (nb (nt ?_))))
      exact ⟨r181, (isp rfl), h⟩
     rintro ρ H_6 ⟨y176, hI, h⟩
     obtain ⟨ρ0, rfl⟩ := hI.ex
     clear hI; unfold F57_6 at h
     refine wr_ (hv (v := iv (IntKind.i64.wrap (y103 + 1))) rfl (HVal.add rfl rfl) (hv (v := iv (IntKind.i64.wrap (y103 + 1))) rfl (mv rfl) ?_))
     refine hn (nt ?_)
     exact (hX5 _ _ _).1 h _ (isp rfl)
    have h := hF hb111
    refine we (te (te (be (nt ?_))))
    exact ⟨y102, (isp rfl), h⟩
   rintro ρ H_4 ⟨y182, hI, h⟩
   obtain ⟨ρ0, rfl⟩ := hI.ex
   clear hI; unfold F57_4 at h
   refine wc (fun ρ H_7 => ∃ y189, Env.Is ρ [(4, (pp (bk H3))), (8, (iv y182)), (109, (bv y189))] ∧ F57_7 Q (bk H3) y182 y189 H_7) ?_ ?_
   ·refine wr_ (hv (v := Sl.v r46) rfl (mv rfl) (hv (v := iv ((r46).n : Int)) rfl (HVal.len runUnderlying49 rfl) (hv (v := bv (decide (((r46).n : Int) = 0))) rfl (HVal.eqlI rfl rfl) ?_)))
    refine hv (v := bv (decide (((r46).n : Int) = 0))) rfl (mv rfl) ?_
    obtain ⟨hT, hF⟩ := h
    rcases Bool.eq_false_or_eq_true (decide (((r46).n : Int) = 0)) with hb185 | hb186
    ·have h := hT hb185
     refine hg (v := pp (Addr.add (bk H1) 1)) rfl rfl rfl rfl (cB hb185) (fa runUnderlying41 rfl rfl sizeOf3 rfl) ?_
     obtain ⟨x188, c187, h⟩ := h
     refine hg (v := iv x188) rfl rfl rfl rfl (cB hb185) (l1 isAgg3 rfl c187) (hg (v := bv (decide (x188 ≠ 2))) rfl rfl rfl rfl (cB hb185) (HVal.neqI rfl rfl) ?_)
     refine hv (v := bv (decide (x188 ≠ 2))) rfl (pt_ rfl hb185 rfl) (hn (nt ?_))
     exact ⟨(decide (x188 ≠ 2)), (isp rfl), h⟩
    have h := hF hb186
    refine hs_ rfl rfl rfl rfl (cB hb186) (hs_ rfl rfl rfl rfl (cB hb186) (hs_ rfl rfl rfl rfl (cB hb186) (hv (v := bv false) rfl (pf_ rfl hb186 rfl) ?_)))
    refine hn (nt ?_)
    exact ⟨false, (isp rfl), h⟩
   rintro ρ H_7 ⟨y189, hI, h⟩
   obtain ⟨ρ0, rfl⟩ := hI.ex
   clear hI; unfold F57_7 at h
   obtain ⟨hT, hF⟩ := h
   refine wk y189 rfl (fun hb190 => ?_) (fun hb190 => ?_)
   ·have h := hT hb190
    refine ws (wr_ (hv (v := .agg (vR 0 0 bE false).toArray) rfl (HVal.build' (cs := (vR 0 0 bE false)) runUnderlying38 zeroValue38 places38 rfl) ?_))
    obtain ⟨z193, h⟩ := h
    refine hq (HOp.storeN' (l := (vR 0 0 bE false)) sizeOf38 rfl rfl rfl z193) ?_
    rintro _ H191 e192
    replace h := h H191 e192
    refine hv (v := iv 110) rfl (av rfl) (hn (nt (HW.ret (tr ?_))))
    obtain ⟨x194, x195, x196, x197, c198, h⟩ := h
    exact ⟨_, resOf2 rfl (Res1.n (vR x194 x195 x196 x197) isAgg38 sizeOf38 rfl c198) Res1.t, ⟨x194, x195, x196, x197, 110, rfl, h⟩⟩
   have h := hF hb190
   refine wp_ (nt ?_)
   exact ⟨y182, (isp rfl), h⟩
  have h := hF hb84
  refine wp_ (nt ?_)
  exact ⟨((r46).n : Int), (isp rfl), h⟩
 rintro ρ H_3 ⟨y199, hI, h⟩
 obtain ⟨ρ0, rfl⟩ := hI.ex
 clear hI; unfold F57_3 at h
 refine ws (wr_ (hv (v := iv y199) rfl (mv rfl) (hv (v := .agg (vR 1 y199 bE false).toArray) rfl (HVal.build' (cs := (vR 1 y199 bE false)) runUnderlying38 zeroValue38 places38 rfl) ?_)))
 obtain ⟨z202, h⟩ := h
 refine hq (HOp.storeN' (l := (vR 1 y199 bE false)) sizeOf38 rfl rfl rfl z202) ?_
 rintro _ H200 e201
 replace h := h H200 e201
 refine hv (v := iv 0) rfl (av rfl) (hn (nt (HW.ret ?_)))
 obtain ⟨x203, x204, x205, x206, c207, h⟩ := h
 exact ⟨_, resOf2 rfl (Res1.n (vR x203 x204 x205 x206) isAgg38 sizeOf38 rfl c207) Res1.t, ⟨x203, x204, x205, x206, 0, rfl, h⟩⟩

def F38_2 (X : Sl → Sl → ByteArray → ByteArray → Int → Sl → Sl → Int → Int → Int → Int → ByteArray → Bool → ByteArray → Int → ByteArray → Sl → Hp → (ZQV) → Prop) (Q : ZQV) (y159 y160 y161 : Addr) (H_2 : Hp) : Prop :=
∃ x233, cell H_2 y159 = some (iv x233) ∧ (
 (decide (x233 = 4) = true → (∃ x236, cell H_2 (Addr.add y159 1) = some (iv x236) ∧ (
 (0 : Int) ≤ 0 ∧ (0 : Int) < ((2 : Nat) : Int) ∧ (
 ∃ x240 x241 x242 x243, cells H_2 (Addr.add y161 ((0 : Int).toNat * 4)) (vR x240 x241 x242 x243) 0 ∧ (
 F58 x236 x240 x241 x242 x243 H_2 (fun r246 r247 r248 r249 r250 H244 =>
 mayw H244 y160 4 0 ∧ ∀ H251, H251 = sets H244 y160 (vR r246 r247 r248 r249) 0 → (
 ∃ x254 x255 x256 x257, cells H251 y160 (vR x254 x255 x256 x257) 0 ∧ (
 Q x254 x255 x256 x257 r250 H251)))))))) ∧
 (decide (x233 = 4) = false → (∃ x260, cell H_2 (Addr.add y159 1) = some (iv x260) ∧ (
 (0 : Int) ≤ 0 ∧ (0 : Int) < ((2 : Nat) : Int) ∧ (
 ∃ x264 x265 x266 x267, cells H_2 (Addr.add y161 ((0 : Int).toNat * 4)) (vR x264 x265 x266 x267) 0 ∧ (
 (0 : Int) ≤ 1 ∧ (1 : Int) < ((2 : Nat) : Int) ∧ (
 ∃ x271 x272 x273 x274, cells H_2 (Addr.add y161 ((1 : Int).toNat * 4)) (vR x271 x272 x273 x274) 0 ∧ (
 F59 x260 x264 x265 x266 x267 x271 x272 x273 x274 H_2 (fun r277 r278 r279 r280 r281 H275 =>
 mayw H275 y160 4 0 ∧ ∀ H282, H282 = sets H275 y160 (vR r277 r278 r279 r280) 0 → (
 ∃ x285 x286 x287 x288, cells H282 y160 (vR x285 x286 x287 x288) 0 ∧ (
 Q x285 x286 x287 x288 r281 H282)))))))))))
def F38_L3b (X : Sl → Sl → ByteArray → ByteArray → Int → Sl → Sl → Int → Int → Int → Int → ByteArray → Bool → ByteArray → Int → ByteArray → Sl → Hp → (ZQV) → Prop) (Q : ZQV) (X3 : ZQI) (y165 y166 y167 y168 : Addr) (y169 : Sl) (y170 y164 : Int) (H_3 : Hp) : Prop :=
(decide (y164 < y170) = true → (∃ a172, (y169).b = some a172 ∧ (0 : Int) ≤ y164 ∧ y164 < ((y169).n : Int) ∧ (
 ∃ x177 x178 x179 x180 x181 x182 x183 x184 x185 x186, cells H_3 (Addr.add a172 (y164.toNat * 10)) (eR x177 x178 x179 x180 x181 x182 x183 x184 x185 x186) 0 ∧ (
 ∀ H187, H187 = Array.push H_3 (.cells zR.toArray 41) → (
 mayw H187 (bk H_3) 10 0 ∧ ∀ H189, H189 = sets H187 (bk H_3) (eR x177 x178 x179 x180 x181 x182 x183 x184 x185 x186) 0 → (
 ∃ x193 x194 x195 x196 x197 x198 x199, cells H189 y165 (xR x193 x194 x195 x196 x197 x198 x199) 0 ∧ (
 ∃ x201 x202 x203 x204 x205 x206 x207 x208 x209 x210, cells H189 (bk H_3) (eR x201 x202 x203 x204 x205 x206 x207 x208 x209 x210) 0 ∧ (
 X x193 x194 x195 x196 x197 x198 x199 x201 x202 x203 x204 x205 x206 x207 x208 x209 x210 H189 (fun r213 r214 r215 r216 r217 H211 =>
 (0 : Int) ≤ y164 ∧ y164 < ((2 : Nat) : Int) ∧ (
 mayw H211 (Addr.add y168 (y164.toNat * 4)) 4 0 ∧ ∀ H220, H220 = sets H211 (Addr.add y168 (y164.toNat * 4)) (vR r213 r214 r215 r216) 0 → (
 (decide (r217 ≠ 0) = true → (mayw H220 y167 4 0 ∧ ∀ H224, H224 = sets H220 y167 (vR 0 0 bE false) 0 → (
 ∃ x227 x228 x229 x230, cells H224 y167 (vR x227 x228 x229 x230) 0 ∧ (
 Q x227 x228 x229 x230 r217 H224)))) ∧
 (decide (r217 ≠ 0) = false → (X3 (IntKind.i64.wrap (y164 + 1)) H220))))))))))))) ∧
 (decide (y164 < y170) = false → (F38_2 X Q y166 y167 y168 H_3))
def F38_L3 (X : Sl → Sl → ByteArray → ByteArray → Int → Sl → Sl → Int → Int → Int → Int → ByteArray → Bool → ByteArray → Int → ByteArray → Sl → Hp → (ZQV) → Prop) (Q : ZQV) (y165 y166 y167 y168 : Addr) (y169 : Sl) (y170 y164 : Int) (H_3 : Hp) : Prop :=
 ∀ X3 : ZQI, (∀ (y164 : Int) (H_3 : Hp), F38_L3b X Q X3 y165 y166 y167 y168 y169 y170 y164 H_3 → X3 y164 H_3) → X3 y164 H_3
def F38_1 (X : Sl → Sl → ByteArray → ByteArray → Int → Sl → Sl → Int → Int → Int → Int → ByteArray → Bool → ByteArray → Int → ByteArray → Sl → Hp → (ZQV) → Prop) (Q : ZQV) (y138 y139 y140 : Addr) (y142 : Bool) (H_1 : Hp) : Prop :=
(y142 = true → (∃ x145, cell H_1 (Addr.add y139 9) = some (Sl.v x145) ∧ (
 ∃ x147, cell H_1 y139 = some (iv x147) ∧ (
 ((decide (((x145).n : Int) ≠ (IntKind.i64.wrap ((IntKind.i64.wrap (x147 - 4)) + 1)))) = true → (mayw H_1 y140 4 0 ∧ ∀ H149, H149 = sets H_1 y140 (vR 0 0 bE false) 0 → (
 ∃ x152 x153 x154 x155, cells H149 y140 (vR x152 x153 x154 x155) 0 ∧ (
 Q x152 x153 x154 x155 60 H149)))) ∧
 ((decide (((x145).n : Int) ≠ (IntKind.i64.wrap ((IntKind.i64.wrap (x147 - 4)) + 1)))) = false → (∀ H157, H157 = Array.push H_1 (.cells #[(iv 0), (iv 0), (sv bE), (bv false), (iv 0), (iv 0), (sv bE), (bv false)] 109) → (
 ∃ x163, cell H157 (Addr.add y139 9) = some (Sl.v x163) ∧ (
 F38_L3 X Q y138 y139 y140 (bk H_1) x163 ((x163).n : Int) 0 H157)))))))) ∧
 (y142 = false → (mayw H_1 y140 4 0 ∧ ∀ H290, H290 = sets H_1 y140 (vR 0 0 bE false) 0 → (
 ∃ x293 x294 x295 x296, cells H290 y140 (vR x293 x294 x295 x296) 0 ∧ (
 Q x293 x294 x295 x296 60 H290))))
def F38b (X : Sl → Sl → ByteArray → ByteArray → Int → Sl → Sl → Int → Int → Int → Int → ByteArray → Bool → ByteArray → Int → ByteArray → Sl → Hp → (ZQV) → Prop) (p0_0 p0_1 : Sl) (p0_2 p0_3 : ByteArray) (p0_4 : Int) (p0_5 p0_6 : Sl) (p1_0 p1_1 p1_2 p1_3 : Int) (p1_4 : ByteArray) (p1_5 : Bool) (p1_6 : ByteArray) (p1_7 : Int) (p1_8 : ByteArray) (p1_9 : Sl) (H : Hp) (Q : ZQV) : Prop :=
∀ H1, H1 = Array.push H (.cells (xR p0_0 p0_1 p0_2 p0_3 p0_4 p0_5 p0_6).toArray 90) → (
 ∀ H3, H3 = Array.push H1 (.cells (eR p1_0 p1_1 p1_2 p1_3 p1_4 p1_5 p1_6 p1_7 p1_8 p1_9).toArray 41) → (
 ∀ H5, H5 = Array.push H3 (.cells (vR 0 0 bE false).toArray 38) → (
 ∃ x8, cell H5 (bk H1) = some (iv x8) ∧ (
 (decide (x8 = 1) = true → (∃ x11 x12 x13 x14, cells H5 (Addr.add (bk H1) 2) (vR x11 x12 x13 x14) 0 ∧ (
 F46 x11 x12 x13 x14 H5 (fun r17 H15 =>
 ((!r17) = true → (mayw H15 (bk H3) 4 0 ∧ ∀ H19, H19 = sets H15 (bk H3) (vR 0 0 bE false) 0 → (
 ∃ x22 x23 x24 x25, cells H19 (bk H3) (vR x22 x23 x24 x25) 0 ∧ (
 Q x22 x23 x24 x25 12 H19)))) ∧
 ((!r17) = false → (∃ x28 x29 x30 x31, cells H15 (Addr.add (bk H1) 2) (vR x28 x29 x30 x31) 0 ∧ (
 mayw H15 (bk H3) 4 0 ∧ ∀ H32, H32 = sets H15 (bk H3) (vR x28 x29 x30 x31) 0 → (
 ∃ x35 x36 x37 x38, cells H32 (bk H3) (vR x35 x36 x37 x38) 0 ∧ (
 Q x35 x36 x37 x38 0 H32))))))))) ∧
 (decide (x8 = 1) = false → ((decide (x8 = 2) = true → (∃ x42 x43 x44 x45 x46 x47 x48, cells H5 (bk H) (xR x42 x43 x44 x45 x46 x47 x48) 0 ∧ (
 ∃ x50 x51 x52 x53 x54 x55 x56 x57 x58 x59, cells H5 (bk H1) (eR x50 x51 x52 x53 x54 x55 x56 x57 x58 x59) 0 ∧ (
 F56 x42 x43 x44 x45 x46 x47 x48 x50 x51 x52 x53 x54 x55 x56 x57 x58 x59 H5 (fun r62 r63 r64 r65 H60 =>
 ∀ H66, H66 = Array.push H60 (.cells (tR bE 0 Sl.nil).toArray 36) → (
 mayw H66 (bk H60) 3 0 ∧ ∀ H68, H68 = sets H66 (bk H60) (tR r62 r63 r64) 0 → (
 (decide (r65 ≠ 0) = true → (mayw H68 (bk H3) 4 0 ∧ ∀ H72, H72 = sets H68 (bk H3) (vR 0 0 bE false) 0 → (
 ∃ x75 x76 x77 x78, cells H72 (bk H3) (vR x75 x76 x77 x78) 0 ∧ (
 Q x75 x76 x77 x78 r65 H72)))) ∧
 (decide (r65 ≠ 0) = false → (∃ x81 x82 x83, cells H68 (bk H60) (tR x81 x82 x83) 0 ∧ (
 ∃ x85, cell H68 (Addr.add (bk H1) 8) = some (sv x85) ∧ (
 ∃ x87, cell H68 (Addr.add (bk H) 6) = some (Sl.v x87) ∧ (
 F28 x81 x82 x83 x85 x87 H68 (fun r90 r91 r92 r93 r94 H88 =>
 mayw H88 (bk H3) 4 0 ∧ ∀ H95, H95 = sets H88 (bk H3) (vR r90 r91 r92 r93) 0 → (
 ∃ x98 x99 x100 x101, cells H95 (bk H3) (vR x98 x99 x100 x101) 0 ∧ (
 Q x98 x99 x100 x101 r94 H95))))))))))))))) ∧
 (decide (x8 = 2) = false → ((decide (x8 = 3) = true → (∃ x105 x106 x107 x108 x109 x110 x111, cells H5 (bk H) (xR x105 x106 x107 x108 x109 x110 x111) 0 ∧ (
 ∃ x113 x114 x115 x116 x117 x118 x119 x120 x121 x122, cells H5 (bk H1) (eR x113 x114 x115 x116 x117 x118 x119 x120 x121 x122) 0 ∧ (
 F57 x105 x106 x107 x108 x109 x110 x111 x113 x114 x115 x116 x117 x118 x119 x120 x121 x122 H5 (fun r125 r126 r127 r128 r129 H123 =>
 mayw H123 (bk H3) 4 0 ∧ ∀ H130, H130 = sets H123 (bk H3) (vR r125 r126 r127 r128) 0 → (
 ∃ x133 x134 x135 x136, cells H130 (bk H3) (vR x133 x134 x135 x136) 0 ∧ (
 Q x133 x134 x135 x136 r129 H130))))))) ∧
 (decide (x8 = 3) = false → ((decide (x8 = 4) = true → (F38_1 X Q (bk H) (bk H1) (bk H3) (decide (x8 = 4)) H5)) ∧
 (decide (x8 = 4) = false → (F38_1 X Q (bk H) (bk H1) (bk H3) (decide (x8 = 5)) H5))))))))))))
def F38 (p0_0 p0_1 : Sl) (p0_2 p0_3 : ByteArray) (p0_4 : Int) (p0_5 p0_6 : Sl) (p1_0 p1_1 p1_2 p1_3 : Int) (p1_4 : ByteArray) (p1_5 : Bool) (p1_6 : ByteArray) (p1_7 : Int) (p1_8 : ByteArray) (p1_9 : Sl) (H : Hp) (Q : ZQV) : Prop :=
 ∀ X : Sl → Sl → ByteArray → ByteArray → Int → Sl → Sl → Int → Int → Int → Int → ByteArray → Bool → ByteArray → Int → ByteArray → Sl → Hp → (ZQV) → Prop, (∀ (p0_0 p0_1 : Sl) (p0_2 p0_3 : ByteArray) (p0_4 : Int) (p0_5 p0_6 : Sl) (p1_0 p1_1 p1_2 p1_3 : Int) (p1_4 : ByteArray) (p1_5 : Bool) (p1_6 : ByteArray) (p1_7 : Int) (p1_8 : ByteArray) (p1_9 : Sl) (H : Hp) (Q : ZQV), F38b X p0_0 p0_1 p0_2 p0_3 p0_4 p0_5 p0_6 p1_0 p1_1 p1_2 p1_3 p1_4 p1_5 p1_6 p1_7 p1_8 p1_9 H Q → X p0_0 p0_1 p0_2 p0_3 p0_4 p0_5 p0_6 p1_0 p1_1 p1_2 p1_3 p1_4 p1_5 p1_6 p1_7 p1_8 p1_9 H Q) → X p0_0 p0_1 p0_2 p0_3 p0_4 p0_5 p0_6 p1_0 p1_1 p1_2 p1_3 p1_4 p1_5 p1_6 p1_7 p1_8 p1_9 H Q
theorem walk38 {w0 : World} {p0_0 p0_1 : Sl} {p0_2 p0_3 : ByteArray} {p0_4 : Int} {p0_5 p0_6 : Sl} {p1_0 p1_1 p1_2 p1_3 : Int} {p1_4 : ByteArray} {p1_5 : Bool} {p1_6 : ByteArray} {p1_7 : Int} {p1_8 : ByteArray} {p1_9 : Sl} {H : Hp} {Q : ZQV} (h : F38 p0_0 p0_1 p0_2 p0_3 p0_4 p0_5 p0_6 p1_0 p1_1 p1_2 p1_3 p1_4 p1_5 p1_6 p1_7 p1_8 p1_9 H Q) :
  Good prog w0 38 #[(.agg (xR p0_0 p0_1 p0_2 p0_3 p0_4 p0_5 p0_6).toArray), (.agg (eR p1_0 p1_1 p1_2 p1_3 p1_4 p1_5 p1_6 p1_7 p1_8 p1_9).toArray)] H (fun v H => ∃ r0 r1 r2 r3 r4, v = (.tuple #[(.agg (vR r0 r1 r2 r3).toArray), (iv r4)]) ∧ Q r0 r1 r2 r3 r4 H) := by
 obtain ⟨X, hX⟩ : ∃ X : Sl → Sl → ByteArray → ByteArray → Int → Sl → Sl → Int → Int → Int → Int → ByteArray → Bool → ByteArray → Int → ByteArray → Sl → Hp → (ZQV) → Prop, ∀ (p0_0 p0_1 : Sl) (p0_2 p0_3 : ByteArray) (p0_4 : Int) (p0_5 p0_6 : Sl) (p1_0 p1_1 p1_2 p1_3 : Int) (p1_4 : ByteArray) (p1_5 : Bool) (p1_6 : ByteArray) (p1_7 : Int) (p1_8 : ByteArray) (p1_9 : Sl) (H : Hp) (Q : ZQV), X p0_0 p0_1 p0_2 p0_3 p0_4 p0_5 p0_6 p1_0 p1_1 p1_2 p1_3 p1_4 p1_5 p1_6 p1_7 p1_8 p1_9 H Q ↔ Good prog w0 38 #[(.agg (xR p0_0 p0_1 p0_2 p0_3 p0_4 p0_5 p0_6).toArray), (.agg (eR p1_0 p1_1 p1_2 p1_3 p1_4 p1_5 p1_6 p1_7 p1_8 p1_9).toArray)] H (fun v H => ∃ r0 r1 r2 r3 r4, v = (.tuple #[(.agg (vR r0 r1 r2 r3).toArray), (iv r4)]) ∧ Q r0 r1 r2 r3 r4 H) := ⟨_, fun _ _ _ _ _ _ _ _ _ _ _ _ _ _ _ _ _ _ _ => Iff.rfl⟩
 refine (hX _ _ _ _ _ _ _ _ _ _ _ _ _ _ _ _ _ _ _).1 (h X ?_)
 clear h
 intro p0_0 p0_1 p0_2 p0_3 p0_4 p0_5 p0_6 p1_0 p1_1 p1_2 p1_3 p1_4 p1_5 p1_6 p1_7 p1_8 p1_9 H Q h
 refine (hX _ _ _ _ _ _ _ _ _ _ _ _ _ _ _ _ _ _ _).2 ?_
 unfold F38b at h
 refine Good.enter' (fn := f38) func38 rfl rfl rfl (ws (wr_ (ho rfl (ob (v := .agg (xR p0_0 p0_1 p0_2 p0_3 p0_4 p0_5 p0_6).toArray) rfl) ?_)))
 rintro _ H1 ⟨rfl, e2⟩
 replace h := h H1 e2
 refine ho rfl (ob (v := .agg (eR p1_0 p1_1 p1_2 p1_3 p1_4 p1_5 p1_6 p1_7 p1_8 p1_9).toArray) rfl) ?_
 rintro _ H3 ⟨rfl, e4⟩
 replace h := h H3 e4
 refine ho rfl (HOp.alloc zeroValue38) ?_
 rintro _ H5 ⟨rfl, e6⟩
 replace h := h H5 e6
 refine hv (v := iv 0) rfl (av rfl) (hn (nt (ws (ws (wr_ (hv (v := pp (bk H1)) rfl (HVal.fieldAddr0 runUnderlying41 rfl rfl sizeOf3 rfl) ?_))))))
 obtain ⟨x8, c7, h⟩ := h
 refine hv (v := iv x8) rfl (l1 isAgg3 rfl c7) (hn (nt (wb (ws (wr_ (hv (v := bv (decide (x8 = 1))) rfl (HVal.eqlI rfl rfl) ?_))))))
 refine hv (v := bv (decide (x8 = 1))) rfl (av rfl) (hn (nt ?_))
 obtain ⟨hT, hF⟩ := h
 refine wk (decide (x8 = 1)) rfl (fun hb9 => ?_) (fun hb9 => ?_)
 ·have h := hT hb9
  refine ws (ws (wr_ (hv (v := pp (Addr.add (bk H1) 2)) rfl (fa runUnderlying41 rfl rfl sizeOf38 rfl) ?_)))
  obtain ⟨x11, x12, x13, x14, c10, h⟩ := h
  refine hv (v := .agg (vR x11 x12 x13 x14).toArray) rfl (ln (vR x11 x12 x13 x14) isAgg38 sizeOf38 rfl c10) (ho rfl (HOp.call' 46 [(.agg (vR x11 x12 x13 x14).toArray)] (cap := []) rfl rfl call46 (walk46 h)) ?_)
  rintro _ H15 ⟨r17, rfl, h⟩
  refine hv (v := bv (!r17)) rfl (HVal.not rfl) (hn (nt ?_))
  obtain ⟨hT, hF⟩ := h
  refine wk (!r17) rfl (fun hb18 => ?_) (fun hb18 => ?_)
  ·have h := hT hb18
   refine ws (wr_ (hv (v := .agg (vR 0 0 bE false).toArray) rfl (HVal.build' (cs := (vR 0 0 bE false)) runUnderlying38 zeroValue38 places38 rfl) ?_))
   obtain ⟨z21, h⟩ := h
   refine hq (HOp.storeN' (l := (vR 0 0 bE false)) sizeOf38 rfl rfl rfl z21) ?_
   rintro _ H19 e20
   replace h := h H19 e20
   refine hv (v := iv 12) rfl (av rfl) (hn (nt (HW.ret (tr (br (tr ?_))))))
   obtain ⟨x22, x23, x24, x25, c26, h⟩ := h
   exact ⟨_, resOf2 rfl (Res1.n (vR x22 x23 x24 x25) isAgg38 sizeOf38 rfl c26) Res1.t, ⟨x22, x23, x24, x25, 12, rfl, h⟩⟩
  have h := hF hb18
  refine wp_ (nt (ws (wr_ (hv (v := pp (Addr.add (bk H1) 2)) rfl (fa runUnderlying41 rfl rfl sizeOf38 rfl) ?_))))
  obtain ⟨x28, x29, x30, x31, c27, h⟩ := h
  refine hv (v := .agg (vR x28 x29 x30 x31).toArray) rfl (ln (vR x28 x29 x30 x31) isAgg38 sizeOf38 rfl c27) ?_
  obtain ⟨z34, h⟩ := h
  refine hq (HOp.storeN' (l := (vR x28 x29 x30 x31)) sizeOf38 rfl rfl rfl z34) ?_
  rintro _ H32 e33
  replace h := h H32 e33
  refine hv (v := iv 0) rfl (av rfl) (hn (nt (HW.ret (br (tr ?_)))))
  obtain ⟨x35, x36, x37, x38, c39, h⟩ := h
  exact ⟨_, resOf2 rfl (Res1.n (vR x35 x36 x37 x38) isAgg38 sizeOf38 rfl c39) Res1.t, ⟨x35, x36, x37, x38, 0, rfl, h⟩⟩
 have h := hF hb9
 refine ws (wr_ (hv (v := bv (decide (x8 = 2))) rfl (HVal.eqlI rfl rfl) (hv (v := bv (decide (x8 = 2))) rfl (av rfl) ?_)))
 refine hn (nt ?_)
 obtain ⟨hT, hF⟩ := h
 refine wk (decide (x8 = 2)) rfl (fun hb40 => ?_) (fun hb40 => ?_)
 ·have h := hT hb40
  refine ws (wr_ ?_)
  obtain ⟨x42, x43, x44, x45, x46, x47, x48, c41, h⟩ := h
  refine hv (v := .agg (xR x42 x43 x44 x45 x46 x47 x48).toArray) rfl (ln (xR x42 x43 x44 x45 x46 x47 x48) isAgg90 sizeOf90 rfl c41) ?_
  obtain ⟨x50, x51, x52, x53, x54, x55, x56, x57, x58, x59, c49, h⟩ := h
  refine hv (v := .agg (eR x50 x51 x52 x53 x54 x55 x56 x57 x58 x59).toArray) rfl (ln (eR x50 x51 x52 x53 x54 x55 x56 x57 x58 x59) isAgg41 sizeOf41 rfl c49) ?_
  refine ho rfl (HOp.call' 56 [(.agg (xR x42 x43 x44 x45 x46 x47 x48).toArray), (.agg (eR x50 x51 x52 x53 x54 x55 x56 x57 x58 x59).toArray)] (cap := []) rfl rfl call56 (walk56 h)) ?_
  rintro _ H60 ⟨r62, r63, r64, r65, rfl, h⟩
  refine hv (v := .tuple #[(.agg (tR r62 r63 r64).toArray), (iv r65)]) rfl (mv rfl) (hv (v := .agg (tR r62 r63 r64).toArray) rfl (HVal.extract rfl rfl) ?_)
  refine hv (v := iv r65) rfl (HVal.extract rfl rfl) (ho rfl (HOp.alloc zeroValue36) ?_)
  rintro _ H66 ⟨rfl, e67⟩
  replace h := h H66 e67
  obtain ⟨z70, h⟩ := h
  refine hq (HOp.storeN' (l := (tR r62 r63 r64)) sizeOf36 rfl rfl rfl z70) ?_
  rintro _ H68 e69
  replace h := h H68 e69
  refine hv (v := iv r65) rfl (av rfl) (hn (nt (ws (ws (wr_ (hv (v := iv r65) rfl (mv rfl) (hv (v := bv (decide (r65 ≠ 0))) rfl (HVal.neqI rfl rfl) ?_)))))))
  refine hn (nt ?_)
  obtain ⟨hT, hF⟩ := h
  refine wk (decide (r65 ≠ 0)) rfl (fun hb71 => ?_) (fun hb71 => ?_)
  ·have h := hT hb71
   refine ws (wr_ (hv (v := .agg (vR 0 0 bE false).toArray) rfl (HVal.build' (cs := (vR 0 0 bE false)) runUnderlying38 zeroValue38 places38 rfl) ?_))
   refine hv (v := iv r65) rfl (mv rfl) ?_
   obtain ⟨z74, h⟩ := h
   refine hq (HOp.storeN' (l := (vR 0 0 bE false)) sizeOf38 rfl rfl rfl z74) ?_
   rintro _ H72 e73
   replace h := h H72 e73
   refine hv (v := iv r65) rfl (av rfl) (hn (nt (HW.ret (tr (br (tr ?_))))))
   obtain ⟨x75, x76, x77, x78, c79, h⟩ := h
   exact ⟨_, resOf2 rfl (Res1.n (vR x75 x76 x77 x78) isAgg38 sizeOf38 rfl c79) Res1.t, ⟨x75, x76, x77, x78, r65, rfl, h⟩⟩
  have h := hF hb71
  refine wp_ (nt (ws (wr_ ?_)))
  obtain ⟨x81, x82, x83, c80, h⟩ := h
  refine hv (v := .agg (tR x81 x82 x83).toArray) rfl (ln (tR x81 x82 x83) isAgg36 sizeOf36 rfl c80) (hv (v := pp (Addr.add (bk H1) 8)) rfl (fa runUnderlying41 rfl rfl sizeOf9 rfl) ?_)
  obtain ⟨x85, c84, h⟩ := h
  refine hv (v := sv x85) rfl (l1 isAgg9 rfl c84) (hv (v := pp (bk H)) rfl (HVal.fieldAddr0 runUnderlying90 rfl rfl sizeOf43 rfl) ?_)
  refine hv (v := pp (Addr.add (bk H) 6)) rfl (fa runUnderlying43 rfl rfl sizeOf30 rfl) ?_
  obtain ⟨x87, c86, h⟩ := h
  refine hv (v := Sl.v x87) rfl (l1 isAgg30 rfl c86) (ho rfl (HOp.call' 28 [(.agg (tR x81 x82 x83).toArray), (sv x85), (Sl.v x87)] (cap := []) rfl rfl call28 (walk28 h)) ?_)
  rintro _ H88 ⟨r90, r91, r92, r93, r94, rfl, h⟩
  refine hv (v := .agg (vR r90 r91 r92 r93).toArray) rfl (HVal.extract rfl rfl) (hv (v := iv r94) rfl (HVal.extract rfl rfl) ?_)
  obtain ⟨z97, h⟩ := h
  refine hq (HOp.storeN' (l := (vR r90 r91 r92 r93)) sizeOf38 rfl rfl rfl z97) ?_
  rintro _ H95 e96
  replace h := h H95 e96
  refine hv (v := iv r94) rfl (av rfl) (hn (nt (HW.ret (br (tr ?_)))))
  obtain ⟨x98, x99, x100, x101, c102, h⟩ := h
  exact ⟨_, resOf2 rfl (Res1.n (vR x98 x99 x100 x101) isAgg38 sizeOf38 rfl c102) Res1.t, ⟨x98, x99, x100, x101, r94, rfl, h⟩⟩
 have h := hF hb40
 refine ws (wr_ (hv (v := bv (decide (x8 = 3))) rfl (HVal.eqlI rfl rfl) (hv (v := bv (decide (x8 = 3))) rfl (av rfl) ?_)))
 refine hn (nt ?_)
 obtain ⟨hT, hF⟩ := h
 refine wk (decide (x8 = 3)) rfl (fun hb103 => ?_) (fun hb103 => ?_)
 ·have h := hT hb103
  refine ws (wr_ ?_)
  obtain ⟨x105, x106, x107, x108, x109, x110, x111, c104, h⟩ := h
  refine hv (v := .agg (xR x105 x106 x107 x108 x109 x110 x111).toArray) rfl (ln (xR x105 x106 x107 x108 x109 x110 x111) isAgg90 sizeOf90 rfl c104) ?_
  obtain ⟨x113, x114, x115, x116, x117, x118, x119, x120, x121, x122, c112, h⟩ := h
  refine hv (v := .agg (eR x113 x114 x115 x116 x117 x118 x119 x120 x121 x122).toArray) rfl (ln (eR x113 x114 x115 x116 x117 x118 x119 x120 x121 x122) isAgg41 sizeOf41 rfl c112) ?_
  refine ho rfl (HOp.call' 57 [(.agg (xR x105 x106 x107 x108 x109 x110 x111).toArray), (.agg (eR x113 x114 x115 x116 x117 x118 x119 x120 x121 x122).toArray)] (cap := []) rfl rfl call57 (walk57 h)) ?_
  rintro _ H123 ⟨r125, r126, r127, r128, r129, rfl, h⟩
  refine hv (v := .agg (vR r125 r126 r127 r128).toArray) rfl (HVal.extract rfl rfl) (hv (v := iv r129) rfl (HVal.extract rfl rfl) ?_)
  obtain ⟨z132, h⟩ := h
  refine hq (HOp.storeN' (l := (vR r125 r126 r127 r128)) sizeOf38 rfl rfl rfl z132) ?_
  rintro _ H130 e131
  replace h := h H130 e131
  refine hv (v := iv r129) rfl (av rfl) (hn (nt (HW.ret (br (tr ?_)))))
  obtain ⟨x133, x134, x135, x136, c137, h⟩ := h
  exact ⟨_, resOf2 rfl (Res1.n (vR x133 x134 x135 x136) isAgg38 sizeOf38 rfl c137) Res1.t, ⟨x133, x134, x135, x136, r129, rfl, h⟩⟩
 have h := hF hb103
 refine wc (fun ρ H_1 => ∃ y142, Env.Is ρ [(2, (pp (bk H))), (3, (pp (bk H1))), (4, (pp (bk H3))), (51, (bv y142))] ∧ F38_1 X Q (bk H) (bk H1) (bk H3) y142 H_1) ?_ ?_
 ·refine ws (wr_ (hv (v := bv (decide (x8 = 4))) rfl (HVal.eqlI rfl rfl) (hv (v := bv (decide (x8 = 4))) rfl (av rfl) ?_)))
  refine hn (nt ?_)
  obtain ⟨hT, hF⟩ := h
  refine wk (decide (x8 = 4)) rfl (fun hb141 => ?_) (fun hb141 => ?_)
  ·have h := hT hb141
   refine wp_ (nt ?_)
   exact ⟨(decide (x8 = 4)), (isp rfl), h⟩
  have h := hF hb141
  refine wr_ (hv (v := bv (decide (x8 = 5))) rfl (HVal.eqlI rfl rfl) (hv (v := bv (decide (x8 = 5))) rfl (av rfl) (hn (nt ?_))))
  exact ⟨(decide (x8 = 5)), (isp rfl), h⟩
 rintro ρ H_1 ⟨y142, hI, h⟩
 obtain ⟨ρ0, rfl⟩ := hI.ex
 clear hI; unfold F38_1 at h
 obtain ⟨hT, hF⟩ := h
 refine wk y142 rfl (fun hb143 => ?_) (fun hb143 => ?_)
 ·have h := hT hb143
  refine ws (ws (wr_ (hv (v := pp (Addr.add (bk H1) 9)) rfl (fa runUnderlying41 rfl rfl sizeOf39 rfl) ?_)))
  obtain ⟨x145, c144, h⟩ := h
  refine hv (v := Sl.v x145) rfl (l1 isAgg39 rfl c144) (hv (v := iv ((x145).n : Int)) rfl (HVal.len runUnderlying39 rfl) ?_)
  refine hv (v := pp (bk H1)) rfl (HVal.fieldAddr0 runUnderlying41 rfl rfl sizeOf3 rfl) ?_
  obtain ⟨x147, c146, h⟩ := h
  refine hv (v := iv x147) rfl (l1 isAgg3 rfl c146) (hv (v := iv (IntKind.i64.wrap (x147 - 4))) rfl (HVal.sub rfl rfl) (hv (v := iv (IntKind.i64.wrap ((IntKind.i64.wrap (x147 - 4)) + 1))) rfl (HVal.add rfl rfl) ?_))
  refine hv (v := bv (decide (((x145).n : Int) ≠ (IntKind.i64.wrap ((IntKind.i64.wrap (x147 - 4)) + 1))))) rfl (HVal.neqI rfl rfl) (hn (nt ?_))
  obtain ⟨hT, hF⟩ := h
  refine wk (decide (((x145).n : Int) ≠ (IntKind.i64.wrap ((IntKind.i64.wrap (x147 - 4)) + 1)))) rfl (fun hb148 => ?_) (fun hb148 => ?_)
  ·have h := hT hb148
   refine ws (wr_ (hv (v := .agg (vR 0 0 bE false).toArray) rfl (HVal.build' (cs := (vR 0 0 bE false)) runUnderlying38 zeroValue38 places38 rfl) ?_))
   obtain ⟨z151, h⟩ := h
   refine hq (HOp.storeN' (l := (vR 0 0 bE false)) sizeOf38 rfl rfl rfl z151) ?_
   rintro _ H149 e150
   replace h := h H149 e150
   refine hv (v := iv 60) rfl (av rfl) (hn (nt (HW.ret (tr (br (tr ?_))))))
   obtain ⟨x152, x153, x154, x155, c156, h⟩ := h
   exact ⟨_, resOf2 rfl (Res1.n (vR x152 x153 x154 x155) isAgg38 sizeOf38 rfl c156) Res1.t, ⟨x152, x153, x154, x155, 60, rfl, h⟩⟩
  have h := hF hb148
  refine wp_ (nt (ws (wr_ (ho rfl (HOp.alloc zeroValue109) ?_))))
  rintro _ H157 ⟨rfl, e158⟩
  replace h := h H157 e158
  refine hn (nt (wc (fun ρ H_2 => Env.Is ρ [(3, (pp (bk H1))), (4, (pp (bk H3))), (8, (pp (bk H_1)))] ∧ F38_2 X Q (bk H1) (bk H3) (bk H_1) H_2) ?_ ?_))
  ·refine ws (wr_ (hv (v := pp (Addr.add (bk H1) 9)) rfl (fa runUnderlying41 rfl rfl sizeOf39 rfl) ?_))
   obtain ⟨x163, c162, h⟩ := h
   refine hv (v := Sl.v x163) rfl (l1 isAgg39 rfl c162) (hv (v := iv ((x163).n : Int)) rfl (HVal.len runUnderlying39 rfl) ?_)
   refine hv (v := iv 0) rfl (mv rfl) (hn (nt (wb (HW.loop' (fun L3 hL3 => ?_)))))
   obtain ⟨X3, hX3⟩ : ∃ X3 : ZQI, ∀ (y164 : Int) (H_3 : Hp), X3 y164 H_3 ↔ ∀ ρ, Env.Is ρ [(2, (pp (bk H))), (3, (pp (bk H1))), (4, (pp (bk H3))), (8, (pp (bk H_1))), (64, (Sl.v x163)), (65, (iv ((x163).n : Int))), (66, (iv y164))] → L3 ρ H_3 := ⟨_, fun _ _ => Iff.rfl⟩
   refine (hX3 _ _).1 (h X3 ?_) _ ?_
   rotate_left
   ·exact (isp rfl)
   clear h
   intro y164 H_3 h
   refine (hX3 _ _).2 fun ρ hI => ?_
   obtain ⟨ρ0, rfl⟩ := hI.ex
   clear hI; unfold F38_L3b at h; refine hL3 _ _ ?_
   refine ws (wr_ (hv (v := bv (decide (y164 < ((x163).n : Int)))) rfl (HVal.lss rfl rfl) (hn (nt (ws ?_)))))
   obtain ⟨hT, hF⟩ := h
   refine wk (decide (y164 < ((x163).n : Int))) rfl (fun hb171 => ?_) (fun hb171 => ?_)
   ·have h := hT hb171
    refine wp_ (nt (ws (wb (ws (wr_ (hv (v := iv y164) rfl (mv rfl) ?_))))))
    obtain ⟨a172, e173, b174, b175, h⟩ := h
    refine hv (v := pp (Addr.add a172 (y164.toNat * 10))) rfl (ia runUnderlying39 sizeOf41 (Sl.v_some rfl e173) rfl b174 b175) ?_
    obtain ⟨x177, x178, x179, x180, x181, x182, x183, x184, x185, x186, c176, h⟩ := h
    refine hv (v := .agg (eR x177 x178 x179 x180 x181 x182 x183 x184 x185 x186).toArray) rfl (ln (eR x177 x178 x179 x180 x181 x182 x183 x184 x185 x186) isAgg41 sizeOf41 rfl c176) ?_
    refine ho rfl (HOp.alloc zeroValue41) ?_
    rintro _ H187 ⟨rfl, e188⟩
    replace h := h H187 e188
    refine hv (v := iv y164) rfl (av rfl) ?_
    obtain ⟨z191, h⟩ := h
    refine hq (HOp.storeN' (l := (eR x177 x178 x179 x180 x181 x182 x183 x184 x185 x186)) sizeOf41 rfl rfl rfl z191) ?_
    rintro _ H189 e190
    replace h := h H189 e190
    refine hn (nt (ws (wr_ (hv (v := iv 0) rfl (av rfl) (hn (nt (ws (wr_ (hv (v := iv y164) rfl (mv rfl) ?_)))))))))
    obtain ⟨x193, x194, x195, x196, x197, x198, x199, c192, h⟩ := h
    refine hv (v := .agg (xR x193 x194 x195 x196 x197 x198 x199).toArray) rfl (ln (xR x193 x194 x195 x196 x197 x198 x199) isAgg90 sizeOf90 rfl c192) ?_
    obtain ⟨x201, x202, x203, x204, x205, x206, x207, x208, x209, x210, c200, h⟩ := h
    refine hv (v := .agg (eR x201 x202 x203 x204 x205 x206 x207 x208 x209 x210).toArray) rfl (ln (eR x201 x202 x203 x204 x205 x206 x207 x208 x209 x210) isAgg41 sizeOf41 rfl c200) ?_
    refine ho rfl (HOp.call' 38 [(.agg (xR x193 x194 x195 x196 x197 x198 x199).toArray), (.agg (eR x201 x202 x203 x204 x205 x206 x207 x208 x209 x210).toArray)] (cap := []) rfl rfl call38 ((hX _ _ _ _ _ _ _ _ _ _ _ _ _ _ _ _ _ _ _).1 h)) ?_
    rintro _ H211 ⟨r213, r214, r215, r216, r217, rfl, h⟩
    refine hv (v := .tuple #[(.agg (vR r213 r214 r215 r216).toArray), (iv r217)]) rfl (mv rfl) (hv (v := .agg (vR r213 r214 r215 r216).toArray) rfl (HVal.extract rfl rfl) ?_)
    refine hv (v := iv r217) rfl (HVal.extract rfl rfl) ?_
    obtain ⟨b218, b219, h⟩ := h
    refine hv (v := pp (Addr.add (bk H_1) (y164.toNat * 4))) rfl (HVal.indexAddrA runUnderlying109 sizeOf38 rfl rfl b218 b219) ?_
    obtain ⟨z222, h⟩ := h
    refine hq (HOp.storeN' (l := (vR r213 r214 r215 r216)) sizeOf38 rfl rfl rfl z222) ?_
    rintro _ H220 e221
    replace h := h H220 e221
    refine hv (v := iv r217) rfl (av rfl) (hn (nt (ws (wr_ (hv (v := iv r217) rfl (mv rfl) (hv (v := bv (decide (r217 ≠ 0))) rfl (HVal.neqI rfl rfl) ?_))))))
    refine hn (nt ?_)
    obtain ⟨hT, hF⟩ := h
    refine wk (decide (r217 ≠ 0)) rfl (fun hb223 => ?_) (fun hb223 => ?_)
    ·have h := hT hb223
     refine ws (wr_ (hv (v := .agg (vR 0 0 bE false).toArray) rfl (HVal.build' (cs := (vR 0 0 bE false)) runUnderlying38 zeroValue38 places38 rfl) ?_))
     refine hv (v := iv r217) rfl (mv rfl) ?_
     obtain ⟨z226, h⟩ := h
     refine hq (HOp.storeN' (l := (vR 0 0 bE false)) sizeOf38 rfl rfl rfl z226) ?_
     rintro _ H224 e225
     replace h := h H224 e225
     refine hv (v := iv r217) rfl (av rfl) (hn (nt (HW.ret (br (tr (tr (br (tr (br (tr ?_))))))))))
     obtain ⟨x227, x228, x229, x230, c231, h⟩ := h
     exact ⟨_, resOf2 rfl (Res1.n (vR x227 x228 x229 x230) isAgg38 sizeOf38 rfl c231) Res1.t, ⟨x227, x228, x229, x230, r217, rfl, h⟩⟩
    have h := hF hb223
    refine wp_ (nb (nt (wr_ (hv (v := iv (IntKind.i64.wrap (y164 + 1))) rfl (HVal.add rfl rfl) (hv (v := iv (IntKind.i64.wrap (y164 + 1))) rfl (mv rfl) ?_)))))
    refine hn (nt ?_)
    exact (hX3 _ _).1 h _ (isp rfl)
   have h := hF hb171
   refine we (te (te (be (nt ?_))))
   exact ⟨(isp rfl), h⟩
  rintro ρ H_2 ⟨hI, h⟩
  obtain ⟨ρ0, rfl⟩ := hI.ex
  clear hI; unfold F38_2 at h
  refine ws (ws (wr_ (hv (v := pp (bk H1)) rfl (HVal.fieldAddr0 runUnderlying41 rfl rfl sizeOf3 rfl) ?_)))
  obtain ⟨x233, c232, h⟩ := h
  refine hv (v := iv x233) rfl (l1 isAgg3 rfl c232) (hv (v := bv (decide (x233 = 4))) rfl (HVal.eqlI rfl rfl) (hn (nt ?_)))
  obtain ⟨hT, hF⟩ := h
  refine wk (decide (x233 = 4)) rfl (fun hb234 => ?_) (fun hb234 => ?_)
  ·have h := hT hb234
   refine ws (wr_ (hv (v := pp (Addr.add (bk H1) 1)) rfl (fa runUnderlying41 rfl rfl sizeOf3 rfl) ?_))
   obtain ⟨x236, c235, h⟩ := h
   refine hv (v := iv x236) rfl (l1 isAgg3 rfl c235) ?_
   obtain ⟨b237, b238, h⟩ := h
   refine hv (v := pp (Addr.add (bk H_1) ((0 : Int).toNat * 4))) rfl (HVal.indexAddrA runUnderlying109 sizeOf38 rfl rfl b237 b238) ?_
   obtain ⟨x240, x241, x242, x243, c239, h⟩ := h
   refine hv (v := .agg (vR x240 x241 x242 x243).toArray) rfl (ln (vR x240 x241 x242 x243) isAgg38 sizeOf38 rfl c239) (ho rfl (HOp.call' 58 [(iv x236), (.agg (vR x240 x241 x242 x243).toArray)] (cap := []) rfl rfl call58 (walk58 h)) ?_)
   rintro _ H244 ⟨r246, r247, r248, r249, r250, rfl, h⟩
   refine hv (v := .agg (vR r246 r247 r248 r249).toArray) rfl (HVal.extract rfl rfl) (hv (v := iv r250) rfl (HVal.extract rfl rfl) ?_)
   obtain ⟨z253, h⟩ := h
   refine hq (HOp.storeN' (l := (vR r246 r247 r248 r249)) sizeOf38 rfl rfl rfl z253) ?_
   rintro _ H251 e252
   replace h := h H251 e252
   refine hv (v := iv r250) rfl (av rfl) (hn (nt (HW.ret (tr (br (tr ?_))))))
   obtain ⟨x254, x255, x256, x257, c258, h⟩ := h
   exact ⟨_, resOf2 rfl (Res1.n (vR x254 x255 x256 x257) isAgg38 sizeOf38 rfl c258) Res1.t, ⟨x254, x255, x256, x257, r250, rfl, h⟩⟩
  have h := hF hb234
  refine wp_ (nt (ws (wr_ (hv (v := pp (Addr.add (bk H1) 1)) rfl (fa runUnderlying41 rfl rfl sizeOf3 rfl) ?_))))
  obtain ⟨x260, c259, h⟩ := h
  refine hv (v := iv x260) rfl (l1 isAgg3 rfl c259) ?_
  obtain ⟨b261, b262, h⟩ := h
  refine hv (v := pp (Addr.add (bk H_1) ((0 : Int).toNat * 4))) rfl (HVal.indexAddrA runUnderlying109 sizeOf38 rfl rfl b261 b262) ?_
  obtain ⟨x264, x265, x266, x267, c263, h⟩ := h
  refine hv (v := .agg (vR x264 x265 x266 x267).toArray) rfl (ln (vR x264 x265 x266 x267) isAgg38 sizeOf38 rfl c263) ?_
  obtain ⟨b268, b269, h⟩ := h
  refine hv (v := pp (Addr.add (bk H_1) ((1 : Int).toNat * 4))) rfl (HVal.indexAddrA runUnderlying109 sizeOf38 rfl rfl b268 b269) ?_
  obtain ⟨x271, x272, x273, x274, c270, h⟩ := h
  refine hv (v := .agg (vR x271 x272 x273 x274).toArray) rfl (ln (vR x271 x272 x273 x274) isAgg38 sizeOf38 rfl c270) (ho rfl (HOp.call' 59 [(iv x260), (.agg (vR x264 x265 x266 x267).toArray), (.agg (vR x271 x272 x273 x274).toArray)] (cap := []) rfl rfl call59 (walk59 h)) ?_)
  rintro _ H275 ⟨r277, r278, r279, r280, r281, rfl, h⟩
  refine hv (v := .agg (vR r277 r278 r279 r280).toArray) rfl (HVal.extract rfl rfl) (hv (v := iv r281) rfl (HVal.extract rfl rfl) ?_)
  obtain ⟨z284, h⟩ := h
  refine hq (HOp.storeN' (l := (vR r277 r278 r279 r280)) sizeOf38 rfl rfl rfl z284) ?_
  rintro _ H282 e283
  replace h := h H282 e283
  refine hv (v := iv r281) rfl (av rfl) (hn (nt (HW.ret (br (tr ?_)))))
  obtain ⟨x285, x286, x287, x288, c289, h⟩ := h
  exact ⟨_, resOf2 rfl (Res1.n (vR x285 x286 x287 x288) isAgg38 sizeOf38 rfl c289) Res1.t, ⟨x285, x286, x287, x288, r281, rfl, h⟩⟩
 have h := hF hb143
 refine wp_ (nb (nt (ws (wr_ (hv (v := .agg (vR 0 0 bE false).toArray) rfl (HVal.build' (cs := (vR 0 0 bE false)) runUnderlying38 zeroValue38 places38 rfl) ?_)))))
 obtain ⟨z292, h⟩ := h
 refine hq (HOp.storeN' (l := (vR 0 0 bE false)) sizeOf38 rfl rfl rfl z292) ?_
 rintro _ H290 e291
 replace h := h H290 e291
 refine hv (v := iv 60) rfl (av rfl) (hn (nt (HW.ret ?_)))
 obtain ⟨x293, x294, x295, x296, c297, h⟩ := h
 exact ⟨_, resOf2 rfl (Res1.n (vR x293 x294 x295 x296) isAgg38 sizeOf38 rfl c297) Res1.t, ⟨x293, x294, x295, x296, 60, rfl, h⟩⟩

def F22_1 (Q : ZQV) (y22 y23 y24 : Addr) (y27 : Bool) (H_1 : Hp) : Prop :=
(y27 = true → (mayw H_1 y24 4 0 ∧ ∀ H29, H29 = sets H_1 y24 (vR 0 0 bE false) 0 → (
 ∃ x32 x33 x34 x35, cells H29 y24 (vR x32 x33 x34 x35) 0 ∧ (
 Q x32 x33 x34 x35 71 H29)))) ∧
 (y27 = false → (∃ x38 x39 x40 x41 x42 x43 x44, cells H_1 y23 (xR x38 x39 x40 x41 x42 x43 x44) 0 ∧ (
 ∃ x46 x47 x48 x49 x50 x51 x52 x53 x54 x55, cells H_1 y22 (eR x46 x47 x48 x49 x50 x51 x52 x53 x54 x55) 0 ∧ (
 F38 x38 x39 x40 x41 x42 x43 x44 x46 x47 x48 x49 x50 x51 x52 x53 x54 x55 H_1 (fun r58 r59 r60 r61 r62 H56 =>
 mayw H56 y24 4 0 ∧ ∀ H63, H63 = sets H56 y24 (vR r58 r59 r60 r61) 0 → (
 ∃ x66 x67 x68 x69, cells H63 y24 (vR x66 x67 x68 x69) 0 ∧ (
 Q x66 x67 x68 x69 r62 H63)))))))
def F22 (p0_0 p0_1 p0_2 p0_3 : Int) (p0_4 : ByteArray) (p0_5 : Bool) (p0_6 : ByteArray) (p0_7 : Int) (p0_8 : ByteArray) (p0_9 p1_0 p1_1 : Sl) (p1_2 p1_3 : ByteArray) (p1_4 : Int) (p1_5 p1_6 : Sl) (H : Hp) (Q : ZQV) : Prop :=
∀ H1, H1 = Array.push H (.cells (eR p0_0 p0_1 p0_2 p0_3 p0_4 p0_5 p0_6 p0_7 p0_8 p0_9).toArray 41) → (
 ∀ H3, H3 = Array.push H1 (.cells (xR p1_0 p1_1 p1_2 p1_3 p1_4 p1_5 p1_6).toArray 43) → (
 ∀ H5, H5 = Array.push H3 (.cells (vR 0 0 bE false).toArray 38) → (
 ∃ x8 x9 x10 x11 x12 x13 x14 x15 x16 x17, cells H5 (bk H) (eR x8 x9 x10 x11 x12 x13 x14 x15 x16 x17) 0 ∧ (
 F37 x8 x9 x10 x11 x12 x13 x14 x15 x16 x17 H5 (fun r20 r21 H18 =>
 ((decide ((32 : Int) < r21)) = true → (F22_1 Q (bk H) (bk H1) (bk H3) true H18)) ∧
 ((decide ((32 : Int) < r21)) = false → (F22_1 Q (bk H) (bk H1) (bk H3) (decide ((256 : Int) < r20)) H18)))))))
theorem walk22 {w0 : World} {p0_0 p0_1 p0_2 p0_3 : Int} {p0_4 : ByteArray} {p0_5 : Bool} {p0_6 : ByteArray} {p0_7 : Int} {p0_8 : ByteArray} {p0_9 p1_0 p1_1 : Sl} {p1_2 p1_3 : ByteArray} {p1_4 : Int} {p1_5 p1_6 : Sl} {H : Hp} {Q : ZQV} (h : F22 p0_0 p0_1 p0_2 p0_3 p0_4 p0_5 p0_6 p0_7 p0_8 p0_9 p1_0 p1_1 p1_2 p1_3 p1_4 p1_5 p1_6 H Q) :
  Good prog w0 22 #[(.agg (eR p0_0 p0_1 p0_2 p0_3 p0_4 p0_5 p0_6 p0_7 p0_8 p0_9).toArray), (.agg (xR p1_0 p1_1 p1_2 p1_3 p1_4 p1_5 p1_6).toArray)] H (fun v H => ∃ r0 r1 r2 r3 r4, v = (.tuple #[(.agg (vR r0 r1 r2 r3).toArray), (iv r4)]) ∧ Q r0 r1 r2 r3 r4 H) := by
 unfold F22 at h
 refine Good.enter' (fn := f22) func22 rfl rfl rfl (ws (wr_ (ho rfl (ob (v := .agg (eR p0_0 p0_1 p0_2 p0_3 p0_4 p0_5 p0_6 p0_7 p0_8 p0_9).toArray) rfl) ?_)))
 rintro _ H1 ⟨rfl, e2⟩
 replace h := h H1 e2
 refine ho rfl (ob (v := .agg (xR p1_0 p1_1 p1_2 p1_3 p1_4 p1_5 p1_6).toArray) rfl) ?_
 rintro _ H3 ⟨rfl, e4⟩
 replace h := h H3 e4
 refine ho rfl (HOp.alloc zeroValue38) ?_
 rintro _ H5 ⟨rfl, e6⟩
 replace h := h H5 e6
 refine hv (v := iv 0) rfl (av rfl) (hn (nt (ws (ws (wr_ ?_)))))
 obtain ⟨x8, x9, x10, x11, x12, x13, x14, x15, x16, x17, c7, h⟩ := h
 refine hv (v := .agg (eR x8 x9 x10 x11 x12 x13 x14 x15 x16 x17).toArray) rfl (ln (eR x8 x9 x10 x11 x12 x13 x14 x15 x16 x17) isAgg41 sizeOf41 rfl c7) ?_
 refine ho rfl (HOp.call' 37 [(.agg (eR x8 x9 x10 x11 x12 x13 x14 x15 x16 x17).toArray)] (cap := []) rfl rfl call37 (walk37 h)) ?_
 rintro _ H18 ⟨r20, r21, rfl, h⟩
 refine hv (v := .tuple #[(iv r20), (iv r21)]) rfl (mv rfl) (hv (v := iv r20) rfl (HVal.extract rfl rfl) (hv (v := iv r21) rfl (HVal.extract rfl rfl) ?_))
 refine hv (v := iv r20) rfl (av rfl) (hv (v := iv r21) rfl (av rfl) (hn (nt (wc (fun ρ H_1 => ∃ y27, Env.Is ρ [(2, (pp (bk H))), (3, (pp (bk H1))), (4, (pp (bk H3))), (18, (bv y27))] ∧ F22_1 Q (bk H) (bk H1) (bk H3) y27 H_1) ?_ ?_))))
 ·refine wr_ (hv (v := iv r21) rfl (mv rfl) (hv (v := bv (decide ((32 : Int) < r21))) rfl (HVal.gtr rfl rfl) (hv (v := bv (decide ((32 : Int) < r21))) rfl (mv rfl) ?_)))
  obtain ⟨hT, hF⟩ := h
  rcases Bool.eq_false_or_eq_true (decide ((32 : Int) < r21)) with hb25 | hb26
  ·have h := hT hb25
   refine hs_ rfl rfl rfl rfl (cB hb25) (hs_ rfl rfl rfl rfl (cB hb25) (hv (v := bv true) rfl (pt_ rfl hb25 rfl) (hn (nt ?_))))
   exact ⟨true, (isp rfl), h⟩
  have h := hF hb26
  refine hg (v := iv r20) rfl rfl rfl rfl (cB hb26) (mv rfl) (hg (v := bv (decide ((256 : Int) < r20))) rfl rfl rfl rfl (cB hb26) (HVal.gtr rfl rfl) ?_)
  refine hv (v := bv (decide ((256 : Int) < r20))) rfl (pf_ rfl hb26 rfl) (hn (nt ?_))
  exact ⟨(decide ((256 : Int) < r20)), (isp rfl), h⟩
 rintro ρ H_1 ⟨y27, hI, h⟩
 obtain ⟨ρ0, rfl⟩ := hI.ex
 clear hI; unfold F22_1 at h
 obtain ⟨hT, hF⟩ := h
 refine wk y27 rfl (fun hb28 => ?_) (fun hb28 => ?_)
 ·have h := hT hb28
  refine ws (wr_ (hv (v := .agg (vR 0 0 bE false).toArray) rfl (HVal.build' (cs := (vR 0 0 bE false)) runUnderlying38 zeroValue38 places38 rfl) ?_))
  obtain ⟨z31, h⟩ := h
  refine hq (HOp.storeN' (l := (vR 0 0 bE false)) sizeOf38 rfl rfl rfl z31) ?_
  rintro _ H29 e30
  replace h := h H29 e30
  refine hv (v := iv 71) rfl (av rfl) (hn (nt (HW.ret (tr ?_))))
  obtain ⟨x32, x33, x34, x35, c36, h⟩ := h
  exact ⟨_, resOf2 rfl (Res1.n (vR x32 x33 x34 x35) isAgg38 sizeOf38 rfl c36) Res1.t, ⟨x32, x33, x34, x35, 71, rfl, h⟩⟩
 have h := hF hb28
 refine wp_ (nt (ws (wr_ ?_)))
 obtain ⟨x38, x39, x40, x41, x42, x43, x44, c37, h⟩ := h
 refine hv (v := .agg (xR x38 x39 x40 x41 x42 x43 x44).toArray) rfl (ln (xR x38 x39 x40 x41 x42 x43 x44) isAgg43 sizeOf43 rfl c37) ?_
 refine hv (v := .agg (xR x38 x39 x40 x41 x42 x43 x44).toArray) rfl (HVal.build' (cs := (xR x38 x39 x40 x41 x42 x43 x44)) runUnderlying90 zeroValue90 places90 (by kernel_rfl)) ?_
 obtain ⟨x46, x47, x48, x49, x50, x51, x52, x53, x54, x55, c45, h⟩ := h
 refine hv (v := .agg (eR x46 x47 x48 x49 x50 x51 x52 x53 x54 x55).toArray) rfl (ln (eR x46 x47 x48 x49 x50 x51 x52 x53 x54 x55) isAgg41 sizeOf41 rfl c45) ?_
 refine ho rfl (HOp.call' 38 [(.agg (xR x38 x39 x40 x41 x42 x43 x44).toArray), (.agg (eR x46 x47 x48 x49 x50 x51 x52 x53 x54 x55).toArray)] (cap := []) rfl rfl call38 (walk38 h)) ?_
 rintro _ H56 ⟨r58, r59, r60, r61, r62, rfl, h⟩
 refine hv (v := .agg (vR r58 r59 r60 r61).toArray) rfl (HVal.extract rfl rfl) (hv (v := iv r62) rfl (HVal.extract rfl rfl) ?_)
 obtain ⟨z65, h⟩ := h
 refine hq (HOp.storeN' (l := (vR r58 r59 r60 r61)) sizeOf38 rfl rfl rfl z65) ?_
 rintro _ H63 e64
 replace h := h H63 e64
 refine hv (v := iv r62) rfl (av rfl) (hn (nt (HW.ret ?_)))
 obtain ⟨x66, x67, x68, x69, c70, h⟩ := h
 exact ⟨_, resOf2 rfl (Res1.n (vR x66 x67 x68 x69) isAgg38 sizeOf38 rfl c70) Res1.t, ⟨x66, x67, x68, x69, r62, rfl, h⟩⟩

def F21_2 (Q : ZQB) (X1 : ZQI) (y59 : Addr) (y60 : Sl) (y61 y62 : Int) (y65 : Bool) (H_2 : Hp) : Prop :=
(y65 = true → (Q false H_2)) ∧
 (y65 = false → (X1 (IntKind.i64.wrap (y62 + 1)) H_2))
def F21_L1b (Q : ZQB) (X1 : ZQI) (y4 : Addr) (y5 : Sl) (y6 y3 : Int) (H_1 : Hp) : Prop :=
(decide (y3 < y6) = true → (∃ a8, (y5).b = some a8 ∧ (0 : Int) ≤ y3 ∧ y3 < ((y5).n : Int) ∧ (
 ∃ x13 x14 x15 x16 x17 x18 x19 x20 x21 x22, cells H_1 (Addr.add a8 (y3.toNat * 10)) (eR x13 x14 x15 x16 x17 x18 x19 x20 x21 x22) 0 ∧ (
 ∀ H23, H23 = Array.push H_1 (.cells zR.toArray 41) → (
 mayw H23 (bk H_1) 10 0 ∧ ∀ H25, H25 = sets H23 (bk H_1) (eR x13 x14 x15 x16 x17 x18 x19 x20 x21 x22) 0 → (
 ∃ x29 x30 x31 x32 x33 x34 x35 x36 x37 x38, cells H25 (bk H_1) (eR x29 x30 x31 x32 x33 x34 x35 x36 x37 x38) 0 ∧ (
 ∃ x40 x41 x42 x43 x44 x45 x46, cells H25 y4 (xR x40 x41 x42 x43 x44 x45 x46) 0 ∧ (
 F22 x29 x30 x31 x32 x33 x34 x35 x36 x37 x38 x40 x41 x42 x43 x44 x45 x46 H25 (fun r49 r50 r51 r52 r53 H47 =>
 ∀ H54, H54 = Array.push H47 (.cells (vR 0 0 bE false).toArray 38) → (
 mayw H54 (bk H47) 4 0 ∧ ∀ H56, H56 = sets H54 (bk H47) (vR r49 r50 r51 r52) 0 → (
 (decide (r53 ≠ 0) = true → (F21_2 Q X1 y4 y5 y6 y3 true H56)) ∧
 (decide (r53 ≠ 0) = false → (∃ x67, cell H56 (bk H47) = some (iv x67) ∧ (
 (decide (x67 ≠ 3) = true → (F21_2 Q X1 y4 y5 y6 y3 true H56)) ∧
 (decide (x67 ≠ 3) = false → (∃ x71, cell H56 (Addr.add (bk H47) 3) = some (bv x71) ∧ (
 F21_2 Q X1 y4 y5 y6 y3 (!x71) H56))))))))))))))))) ∧
 (decide (y3 < y6) = false → (Q true H_1))
def F21_L1 (Q : ZQB) (y4 : Addr) (y5 : Sl) (y6 y3 : Int) (H_1 : Hp) : Prop :=
 ∀ X1 : ZQI, (∀ (y3 : Int) (H_1 : Hp), F21_L1b Q X1 y4 y5 y6 y3 H_1 → X1 y3 H_1) → X1 y3 H_1
def F21 (p0 p1_0 p1_1 : Sl) (p1_2 p1_3 : ByteArray) (p1_4 : Int) (p1_5 p1_6 : Sl) (H : Hp) (Q : ZQB) : Prop :=
∀ H1, H1 = Array.push H (.cells (xR p1_0 p1_1 p1_2 p1_3 p1_4 p1_5 p1_6).toArray 43) → (
 F21_L1 Q (bk H) p0 ((p0).n : Int) 0 H1)
theorem walk21 {w0 : World} {p0 p1_0 p1_1 : Sl} {p1_2 p1_3 : ByteArray} {p1_4 : Int} {p1_5 p1_6 : Sl} {H : Hp} {Q : ZQB} (h : F21 p0 p1_0 p1_1 p1_2 p1_3 p1_4 p1_5 p1_6 H Q) :
  Good prog w0 21 #[(Sl.v p0), (.agg (xR p1_0 p1_1 p1_2 p1_3 p1_4 p1_5 p1_6).toArray)] H (fun v H => ∃ r0, v = (bv r0) ∧ Q r0 H) := by
 unfold F21 at h
 refine Good.enter' (fn := f21) func21 rfl rfl rfl (ws (wr_ (ho rfl (ob (v := .agg (xR p1_0 p1_1 p1_2 p1_3 p1_4 p1_5 p1_6).toArray) rfl) ?_)))
 rintro _ H1 ⟨rfl, e2⟩
 replace h := h H1 e2
 refine hv (v := bv false) rfl (av rfl) (hn (nt (ws (ws (wr_ (hv (v := Sl.v p0) rfl (mv rfl) ?_))))))
 refine hv (v := iv ((p0).n : Int)) rfl (HVal.len runUnderlying39 rfl) (hv (v := iv 0) rfl (mv rfl) (hn (nt (wb ?_))))
 refine HW.loop' (fun L1 hL1 => ?_)
 obtain ⟨X1, hX1⟩ : ∃ X1 : ZQI, ∀ (y3 : Int) (H_1 : Hp), X1 y3 H_1 ↔ ∀ ρ, Env.Is ρ [(3, (pp (bk H))), (9, (Sl.v p0)), (10, (iv ((p0).n : Int))), (11, (iv y3))] → L1 ρ H_1 := ⟨_, fun _ _ => Iff.rfl⟩
 refine (hX1 _ _).1 (h X1 ?_) _ ?_
 rotate_left
 ·exact (isp rfl)
 clear h
 intro y3 H_1 h
 refine (hX1 _ _).2 fun ρ hI => ?_
 obtain ⟨ρ0, rfl⟩ := hI.ex
 clear hI; unfold F21_L1b at h; refine hL1 _ _ ?_
 refine ws (wr_ (hv (v := bv (decide (y3 < ((p0).n : Int)))) rfl (HVal.lss rfl rfl) (hn (nt (ws ?_)))))
 obtain ⟨hT, hF⟩ := h
 refine wk (decide (y3 < ((p0).n : Int))) rfl (fun hb7 => ?_) (fun hb7 => ?_)
 ·have h := hT hb7
  refine wp_ (nt (ws (wb (ws (wr_ ?_)))))
  obtain ⟨a8, e9, b10, b11, h⟩ := h
  refine hv (v := pp (Addr.add a8 (y3.toNat * 10))) rfl (ia runUnderlying39 sizeOf41 (Sl.v_some rfl e9) rfl b10 b11) ?_
  obtain ⟨x13, x14, x15, x16, x17, x18, x19, x20, x21, x22, c12, h⟩ := h
  refine hv (v := .agg (eR x13 x14 x15 x16 x17 x18 x19 x20 x21 x22).toArray) rfl (ln (eR x13 x14 x15 x16 x17 x18 x19 x20 x21 x22) isAgg41 sizeOf41 rfl c12) ?_
  refine ho rfl (HOp.alloc zeroValue41) ?_
  rintro _ H23 ⟨rfl, e24⟩
  replace h := h H23 e24
  obtain ⟨z27, h⟩ := h
  refine hq (HOp.storeN' (l := (eR x13 x14 x15 x16 x17 x18 x19 x20 x21 x22)) sizeOf41 rfl rfl rfl z27) ?_
  rintro _ H25 e26
  replace h := h H25 e26
  refine hn (nt (ws (wr_ ?_)))
  obtain ⟨x29, x30, x31, x32, x33, x34, x35, x36, x37, x38, c28, h⟩ := h
  refine hv (v := .agg (eR x29 x30 x31 x32 x33 x34 x35 x36 x37 x38).toArray) rfl (ln (eR x29 x30 x31 x32 x33 x34 x35 x36 x37 x38) isAgg41 sizeOf41 rfl c28) ?_
  obtain ⟨x40, x41, x42, x43, x44, x45, x46, c39, h⟩ := h
  refine hv (v := .agg (xR x40 x41 x42 x43 x44 x45 x46).toArray) rfl (ln (xR x40 x41 x42 x43 x44 x45 x46) isAgg43 sizeOf43 rfl c39) ?_
  refine ho rfl (HOp.call' 22 [(.agg (eR x29 x30 x31 x32 x33 x34 x35 x36 x37 x38).toArray), (.agg (xR x40 x41 x42 x43 x44 x45 x46).toArray)] (cap := []) rfl rfl call22 (walk22 h)) ?_
  rintro _ H47 ⟨r49, r50, r51, r52, r53, rfl, h⟩
  refine hv (v := .tuple #[(.agg (vR r49 r50 r51 r52).toArray), (iv r53)]) rfl (mv rfl) (hv (v := .agg (vR r49 r50 r51 r52).toArray) rfl (HVal.extract rfl rfl) ?_)
  refine hv (v := iv r53) rfl (HVal.extract rfl rfl) (ho rfl (HOp.alloc zeroValue38) ?_)
  rintro _ H54 ⟨rfl, e55⟩
  replace h := h H54 e55
  obtain ⟨z58, h⟩ := h
  refine hq (HOp.storeN' (l := (vR r49 r50 r51 r52)) sizeOf38 rfl rfl rfl z58) ?_
  rintro _ H56 e57
  replace h := h H56 e57
  refine hv (v := iv r53) rfl (av rfl) (hn (nt (wc (fun ρ H_2 => ∃ y65, Env.Is ρ [(3, (pp (bk H))), (9, (Sl.v p0)), (10, (iv ((p0).n : Int))), (11, (iv y3)), (32, (bv y65))] ∧ F21_2 Q X1 (bk H) p0 ((p0).n : Int) y3 y65 H_2) ?_ ?_)))
  ·refine wr_ (hv (v := iv r53) rfl (mv rfl) (hv (v := bv (decide (r53 ≠ 0))) rfl (HVal.neqI rfl rfl) (hv (v := bv (decide (r53 ≠ 0))) rfl (mv rfl) ?_)))
   obtain ⟨hT, hF⟩ := h
   rcases Bool.eq_false_or_eq_true (decide (r53 ≠ 0)) with hb63 | hb64
   ·have h := hT hb63
    refine hs_ rfl rfl rfl rfl (cB hb63) (hs_ rfl rfl rfl rfl (cB hb63) (hs_ rfl rfl rfl rfl (cB hb63) (hv (v := bv true) rfl (pt_ rfl hb63 rfl) ?_)))
    refine hv (v := bv true) rfl (mv rfl) (hs_ rfl rfl rfl rfl rfl (hs_ rfl rfl rfl rfl rfl (hs_ rfl rfl rfl rfl rfl ?_)))
    refine hv (v := bv true) rfl (pt_ rfl rfl rfl) (hn (nt ?_))
    exact ⟨true, (isp rfl), h⟩
   have h := hF hb64
   refine hg (v := pp (bk H47)) rfl rfl rfl rfl (cB hb64) (HVal.fieldAddr0 runUnderlying38 rfl rfl sizeOf3 rfl) ?_
   obtain ⟨x67, c66, h⟩ := h
   refine hg (v := iv x67) rfl rfl rfl rfl (cB hb64) (l1 isAgg3 rfl c66) (hg (v := bv (decide (x67 ≠ 3))) rfl rfl rfl rfl (cB hb64) (HVal.neqI rfl rfl) ?_)
   refine hv (v := bv (decide (x67 ≠ 3))) rfl (pf_ rfl hb64 rfl) (hv (v := bv (decide (x67 ≠ 3))) rfl (mv rfl) ?_)
   obtain ⟨hT, hF⟩ := h
   rcases Bool.eq_false_or_eq_true (decide (x67 ≠ 3)) with hb68 | hb69
   ·have h := hT hb68
    refine hs_ rfl rfl rfl rfl (cB hb68) (hs_ rfl rfl rfl rfl (cB hb68) (hs_ rfl rfl rfl rfl (cB hb68) (hv (v := bv true) rfl (pt_ rfl hb68 rfl) ?_)))
    refine hn (nt ?_)
    exact ⟨true, (isp rfl), h⟩
   have h := hF hb69
   refine hg (v := pp (Addr.add (bk H47) 3)) rfl rfl rfl rfl (cB hb69) (fa runUnderlying38 rfl rfl sizeOf4 rfl) ?_
   obtain ⟨x71, c70, h⟩ := h
   refine hg (v := bv x71) rfl rfl rfl rfl (cB hb69) (l1 isAgg4 rfl c70) (hg (v := bv (!x71)) rfl rfl rfl rfl (cB hb69) (HVal.not rfl) ?_)
   refine hv (v := bv (!x71)) rfl (pf_ rfl hb69 rfl) (hn (nt ?_))
   exact ⟨(!x71), (isp rfl), h⟩
  rintro ρ H_2 ⟨y65, hI, h⟩
  obtain ⟨ρ0, rfl⟩ := hI.ex
  clear hI; unfold F21_2 at h
  obtain ⟨hT, hF⟩ := h
  refine wk y65 rfl (fun hb72 => ?_) (fun hb72 => ?_)
  ·have h := hT hb72
   refine ws (wr_ (hv (v := bv false) rfl (av rfl) (hn (nt (HW.ret (br (tr (tr (br (tr ?_))))))))))
   exact ⟨_, resOf1 rfl Res1.t, ⟨false, rfl, h⟩⟩
  have h := hF hb72
  refine wp_ (nb (nt (wr_ (hv (v := iv (IntKind.i64.wrap (y3 + 1))) rfl (HVal.add rfl rfl) (hv (v := iv (IntKind.i64.wrap (y3 + 1))) rfl (mv rfl) ?_)))))
  refine hn (nt ?_)
  exact (hX1 _ _).1 h _ (isp rfl)
 have h := hF hb7
 refine we (te (te (be (nt (ws (wr_ (hv (v := bv true) rfl (av rfl) (hn (nt (HW.ret ?_))))))))))
 exact ⟨_, resOf1 rfl Res1.t, ⟨true, rfl, h⟩⟩

def F8 (H : Hp) (Q : ZQB) : Prop :=
F16 S_a 1 S_x H (fun r3 r4 r5 r6 r7 r8 r9 r10 r11 r12 H1 =>
 F16 S_b 2 S_x H1 (fun r15 r16 r17 r18 r19 r20 r21 r22 r23 r24 H13 =>
 F19 2 H13 (fun r27 r28 r29 r30 r31 r32 r33 r34 r35 r36 H25 =>
 F18 5 r15 r16 r17 r18 r19 r20 r21 r22 r23 r24 r27 r28 r29 r30 r31 r32 r33 r34 r35 r36 H25 (fun r39 r40 r41 r42 r43 r44 r45 r46 r47 r48 H37 =>
 F18 3 r3 r4 r5 r6 r7 r8 r9 r10 r11 r12 r39 r40 r41 r42 r43 r44 r45 r46 r47 r48 H37 (fun r51 r52 r53 r54 r55 r56 r57 r58 r59 r60 H49 =>
 F17 H49 (fun r63 r64 r65 r66 r67 r68 r69 H61 =>
 F22 r51 r52 r53 r54 r55 r56 r57 r58 r59 r60 r63 r64 r65 r66 r67 r68 r69 H61 (fun r72 r73 r74 r75 r76 H70 =>
 ∀ H77, H77 = Array.push H70 (.cells (vR 0 0 bE false).toArray 38) → (
 mayw H77 (bk H70) 4 0 ∧ ∀ H79, H79 = sets H77 (bk H70) (vR r72 r73 r74 r75) 0 → (
 F14 2 S_b 7 S_x H79 (fun r84 r85 r86 r87 r88 r89 r90 r91 r92 r93 H82 =>
 F17 H82 (fun r96 r97 r98 r99 r100 r101 r102 H94 =>
 F22 r84 r85 r86 r87 r88 r89 r90 r91 r92 r93 r96 r97 r98 r99 r100 r101 r102 H94 (fun r105 r106 r107 r108 r109 H103 =>
 ∀ H110, H110 = Array.push H103 (.cells (vR 0 0 bE false).toArray 38) → (
 mayw H110 (bk H103) 4 0 ∧ ∀ H112, H112 = sets H110 (bk H103) (vR r105 r106 r107 r108) 0 → (
 F16 S_d 1 S_x H112 (fun r117 r118 r119 r120 r121 r122 r123 r124 r125 r126 H115 =>
 F17 H115 (fun r129 r130 r131 r132 r133 r134 r135 H127 =>
 F22 r117 r118 r119 r120 r121 r122 r123 r124 r125 r126 r129 r130 r131 r132 r133 r134 r135 H127 (fun r138 r139 r140 r141 r142 H136 =>
 ∀ H143, H143 = Array.push H136 (.cells (vR 0 0 bE false).toArray 38) → (
 mayw H143 (bk H136) 4 0 ∧ ∀ H145, H145 = sets H143 (bk H136) (vR r138 r139 r140 r141) 0 → (
 ∃ x149 x150 x151 x152, cells H145 (bk H70) (vR x149 x150 x151 x152) 0 ∧ (
 F23 23 H145 (fun r155 r156 r157 r158 H153 =>
 cells H153 (bk H70) (vR x149 x150 x151 x152) 0 ∧ (
 ((decide (x149 = r155) && (decide (x150 = r156) && (seq x151 r157 && (x152 == r158)))) = true → ((decide (r76 = 0) = true → (∃ x165 x166 x167 x168, cells H153 (bk H103) (vR x165 x166 x167 x168) 0 ∧ (
 F23 13 H153 (fun r171 r172 r173 r174 H169 =>
 cells H169 (bk H103) (vR x165 x166 x167 x168) 0 ∧ cells H169 (bk H70) (vR x149 x150 x151 x152) 0 ∧ (
 ((decide (x165 = r171) && (decide (x166 = r172) && (seq x167 r173 && (x168 == r174)))) = true → ((decide (r109 = 0) = true → ((decide (r142 = 110) = true → (F17 H169 (fun r185 r186 r187 r188 r189 r190 r191 H183 =>
 cells H183 (bk H103) (vR x165 x166 x167 x168) 0 ∧ cells H183 (bk H70) (vR x149 x150 x151 x152) 0 ∧ (
 F21 Sl.nil r185 r186 r187 r188 r189 r190 r191 H183 (fun r196 H194 =>
 cells H194 (bk H103) (vR x165 x166 x167 x168) 0 ∧ cells H194 (bk H70) (vR x149 x150 x151 x152) 0 ∧ (
 Q r196 H194)))))) ∧
 (decide (r142 = 110) = false → (Q false H169)))) ∧
 (decide (r109 = 0) = false → (Q false H169)))) ∧
 ((decide (x165 = r171) && (decide (x166 = r172) && (seq x167 r173 && (x168 == r174)))) = false → (Q false H169))))))) ∧
 (decide (r76 = 0) = false → (Q false H153)))) ∧
 ((decide (x149 = r155) && (decide (x150 = r156) && (seq x151 r157 && (x152 == r158)))) = false → (Q false H153))))))))))))))))))))))))
theorem walk8 {w0 : World} {H : Hp} {Q : ZQB} (h : F8 H Q) :
  Good prog w0 8 #[] H (fun v H => ∃ r0, v = (bv r0) ∧ Q r0 H) := by
 unfold F8 at h
 refine Good.enter' (fn := f8) func8 rfl rfl rfl (ws (wr_ (hv (v := bv false) rfl (av rfl) (hn (nt (ws ?_))))))
 refine wr_ (ho rfl (HOp.call' 16 [(sv S_a), (iv 1), (sv S_x)] (cap := []) rfl rfl call16 (walk16 h)) ?_)
 rintro _ H1 ⟨r3, r4, r5, r6, r7, r8, r9, r10, r11, r12, rfl, h⟩
 refine ho rfl (HOp.call' 16 [(sv S_b), (iv 2), (sv S_x)] (cap := []) rfl rfl call16 (walk16 h)) ?_
 rintro _ H13 ⟨r15, r16, r17, r18, r19, r20, r21, r22, r23, r24, rfl, h⟩
 refine ho rfl (HOp.call' 19 [(iv 2)] (cap := []) rfl rfl call19 (walk19 h)) ?_
 rintro _ H25 ⟨r27, r28, r29, r30, r31, r32, r33, r34, r35, r36, rfl, h⟩
 refine ho rfl (HOp.call' 18 [(iv 5), (.agg (eR r15 r16 r17 r18 r19 r20 r21 r22 r23 r24).toArray), (.agg (eR r27 r28 r29 r30 r31 r32 r33 r34 r35 r36).toArray)] (cap := []) rfl rfl call18 (walk18 h)) ?_
 rintro _ H37 ⟨r39, r40, r41, r42, r43, r44, r45, r46, r47, r48, rfl, h⟩
 refine ho rfl (HOp.call' 18 [(iv 3), (.agg (eR r3 r4 r5 r6 r7 r8 r9 r10 r11 r12).toArray), (.agg (eR r39 r40 r41 r42 r43 r44 r45 r46 r47 r48).toArray)] (cap := []) rfl rfl call18 (walk18 h)) ?_
 rintro _ H49 ⟨r51, r52, r53, r54, r55, r56, r57, r58, r59, r60, rfl, h⟩
 refine ho rfl (HOp.call' 17 [] (cap := []) rfl rfl call17 (walk17 h)) ?_
 rintro _ H61 ⟨r63, r64, r65, r66, r67, r68, r69, rfl, h⟩
 refine ho rfl (HOp.call' 22 [(.agg (eR r51 r52 r53 r54 r55 r56 r57 r58 r59 r60).toArray), (.agg (xR r63 r64 r65 r66 r67 r68 r69).toArray)] (cap := []) rfl rfl call22 (walk22 h)) ?_
 rintro _ H70 ⟨r72, r73, r74, r75, r76, rfl, h⟩
 refine hv (v := .tuple #[(.agg (vR r72 r73 r74 r75).toArray), (iv r76)]) rfl (mv rfl) (hv (v := .agg (vR r72 r73 r74 r75).toArray) rfl (HVal.extract rfl rfl) ?_)
 refine hv (v := iv r76) rfl (HVal.extract rfl rfl) (ho rfl (HOp.alloc zeroValue38) ?_)
 rintro _ H77 ⟨rfl, e78⟩
 replace h := h H77 e78
 obtain ⟨z81, h⟩ := h
 refine hq (HOp.storeN' (l := (vR r72 r73 r74 r75)) sizeOf38 rfl rfl rfl z81) ?_
 rintro _ H79 e80
 replace h := h H79 e80
 refine hv (v := iv r76) rfl (av rfl) (hn (nt (ws (wr_ (ho rfl (HOp.call' 14 [(iv 2), (sv S_b), (iv 7), (sv S_x)] (cap := []) rfl rfl call14 (walk14 h)) ?_)))))
 rintro _ H82 ⟨r84, r85, r86, r87, r88, r89, r90, r91, r92, r93, rfl, h⟩
 refine ho rfl (HOp.call' 17 [] (cap := []) rfl rfl call17 (walk17 h)) ?_
 rintro _ H94 ⟨r96, r97, r98, r99, r100, r101, r102, rfl, h⟩
 refine ho rfl (HOp.call' 22 [(.agg (eR r84 r85 r86 r87 r88 r89 r90 r91 r92 r93).toArray), (.agg (xR r96 r97 r98 r99 r100 r101 r102).toArray)] (cap := []) rfl rfl call22 (walk22 h)) ?_
 rintro _ H103 ⟨r105, r106, r107, r108, r109, rfl, h⟩
 refine hv (v := .tuple #[(.agg (vR r105 r106 r107 r108).toArray), (iv r109)]) rfl (mv rfl) (hv (v := .agg (vR r105 r106 r107 r108).toArray) rfl (HVal.extract rfl rfl) ?_)
 refine hv (v := iv r109) rfl (HVal.extract rfl rfl) (ho rfl (HOp.alloc zeroValue38) ?_)
 rintro _ H110 ⟨rfl, e111⟩
 replace h := h H110 e111
 obtain ⟨z114, h⟩ := h
 refine hq (HOp.storeN' (l := (vR r105 r106 r107 r108)) sizeOf38 rfl rfl rfl z114) ?_
 rintro _ H112 e113
 replace h := h H112 e113
 refine hv (v := iv r109) rfl (av rfl) (hn (nt (ws (wr_ (ho rfl (HOp.call' 16 [(sv S_d), (iv 1), (sv S_x)] (cap := []) rfl rfl call16 (walk16 h)) ?_)))))
 rintro _ H115 ⟨r117, r118, r119, r120, r121, r122, r123, r124, r125, r126, rfl, h⟩
 refine ho rfl (HOp.call' 17 [] (cap := []) rfl rfl call17 (walk17 h)) ?_
 rintro _ H127 ⟨r129, r130, r131, r132, r133, r134, r135, rfl, h⟩
 refine ho rfl (HOp.call' 22 [(.agg (eR r117 r118 r119 r120 r121 r122 r123 r124 r125 r126).toArray), (.agg (xR r129 r130 r131 r132 r133 r134 r135).toArray)] (cap := []) rfl rfl call22 (walk22 h)) ?_
 rintro _ H136 ⟨r138, r139, r140, r141, r142, rfl, h⟩
 refine hv (v := .tuple #[(.agg (vR r138 r139 r140 r141).toArray), (iv r142)]) rfl (mv rfl) (hv (v := .agg (vR r138 r139 r140 r141).toArray) rfl (HVal.extract rfl rfl) ?_)
 refine hv (v := iv r142) rfl (HVal.extract rfl rfl) (ho rfl (HOp.alloc zeroValue38) ?_)
 rintro _ H143 ⟨rfl, e144⟩
 replace h := h H143 e144
 obtain ⟨z147, h⟩ := h
 refine hq (HOp.storeN' (l := (vR r138 r139 r140 r141)) sizeOf38 rfl rfl rfl z147) ?_
 rintro _ H145 e146
 replace h := h H145 e146
 refine hv (v := iv r142) rfl (av rfl) (hn (nt (ws (HW.draw mixed [(0, some []), (1, none), (2, some []), (3, some []), (4, some []), (5, some []), (6, some []), (7, some []), (8, some []), (9, none), (10, some []), (11, some []), (12, some []), (13, some []), (14, some []), (15, some []), (16, some []), (17, some []), (18, some []), (19, some []), (20, some []), (21, none), (22, none), (23, some []), (24, some [])] rfl (by kernel_rfl) (by kernel_rfl) ?_))))
 obtain ⟨x149, x150, x151, x152, c148, h⟩ := h
 refine pl (v := .agg (vR x149 x150 x151 x152).toArray) (fun X => cells X (bk H70) (vR x149 x150 x151 x152) 0) rfl rfl (fun _ hX => ln (vR x149 x150 x151 x152) isAgg38 sizeOf38 rfl hX) c148 ?_
 refine po rfl rfl (HOp.call' 23 [(iv 23)] (cap := []) rfl rfl call23 (walk23 h)) ?_
 rintro _ H153 ⟨r155, r156, r157, r158, rfl, h⟩
 obtain ⟨s159, h⟩ := h
 refine ⟨SC_of ⟨fun _ => s159, trivial⟩, ?_⟩
 refine pv (v := bv (decide (x149 = r155) && (decide (x150 = r156) && (seq x151 r157 && (x152 == r158))))) rfl rfl (fun _ => eqs38_eql rfl rfl) (pv (v := bv (decide (x149 = r155) && (decide (x150 = r156) && (seq x151 r157 && (x152 == r158))))) rfl rfl (fun _ => mv rfl) ?_)
 obtain ⟨hT, hF⟩ := h
 rcases Bool.eq_false_or_eq_true (decide (x149 = r155) && (decide (x150 = r156) && (seq x151 r157 && (x152 == r158)))) with hb160 | hb161
 ·have h := hT hb160
  refine HPlan.gtakev (v := iv r76) rfl rfl rfl rfl rfl (cB hb160) (fun _ => mv rfl) (HPlan.gtakev (v := bv (decide (r76 = 0))) rfl rfl rfl rfl rfl (cB hb160) (fun _ => HVal.eqlI rfl rfl) ?_)
  refine pv (v := bv (decide (r76 = 0))) rfl rfl (fun _ => pt_ rfl hb160 rfl) (pv (v := bv (decide (r76 = 0))) rfl rfl (fun _ => mv rfl) ?_)
  obtain ⟨hT, hF⟩ := h
  rcases Bool.eq_false_or_eq_true (decide (r76 = 0)) with hb162 | hb163
  ·have h := hT hb162
   obtain ⟨x165, x166, x167, x168, c164, h⟩ := h
   refine HPlan.gtakel (v := .agg (vR x165 x166 x167 x168).toArray) (fun X => cells X (bk H103) (vR x165 x166 x167 x168) 0) rfl rfl rfl rfl rfl (cB hb162) (fun _ hX => ln (vR x165 x166 x167 x168) isAgg38 sizeOf38 rfl hX) c164 ?_
   refine HPlan.gops rfl rfl rfl rfl rfl (cB hb162) (HOp.call' 23 [(iv 13)] (cap := []) rfl rfl call23 (walk23 h)) ?_
   rintro _ H169 ⟨r171, r172, r173, r174, rfl, h⟩
   obtain ⟨s175, s176, h⟩ := h
   refine ⟨SC_of ⟨fun _ => s175, fun _ => s176, trivial⟩, ?_⟩
   refine HPlan.gtakev (v := bv (decide (x165 = r171) && (decide (x166 = r172) && (seq x167 r173 && (x168 == r174))))) rfl rfl rfl rfl rfl (cB hb162) (fun _ => eqs38_eql rfl rfl) ?_
   refine pv (v := bv (decide (x165 = r171) && (decide (x166 = r172) && (seq x167 r173 && (x168 == r174))))) rfl rfl (fun _ => pt_ rfl hb162 rfl) ?_
   refine pv (v := bv (decide (x165 = r171) && (decide (x166 = r172) && (seq x167 r173 && (x168 == r174))))) rfl rfl (fun _ => mv rfl) ?_
   obtain ⟨hT, hF⟩ := h
   rcases Bool.eq_false_or_eq_true (decide (x165 = r171) && (decide (x166 = r172) && (seq x167 r173 && (x168 == r174)))) with hb177 | hb178
   ·have h := hT hb177
    refine HPlan.gtakev (v := iv r109) rfl rfl rfl rfl rfl (cB hb177) (fun _ => mv rfl) (HPlan.gtakev (v := bv (decide (r109 = 0))) rfl rfl rfl rfl rfl (cB hb177) (fun _ => HVal.eqlI rfl rfl) ?_)
    refine pv (v := bv (decide (r109 = 0))) rfl rfl (fun _ => pt_ rfl hb177 rfl) (pv (v := bv (decide (r109 = 0))) rfl rfl (fun _ => mv rfl) ?_)
    obtain ⟨hT, hF⟩ := h
    rcases Bool.eq_false_or_eq_true (decide (r109 = 0)) with hb179 | hb180
    ·have h := hT hb179
     refine HPlan.gtakev (v := iv r142) rfl rfl rfl rfl rfl (cB hb179) (fun _ => mv rfl) (HPlan.gtakev (v := bv (decide (r142 = 110))) rfl rfl rfl rfl rfl (cB hb179) (fun _ => HVal.eqlI rfl rfl) ?_)
     refine pv (v := bv (decide (r142 = 110))) rfl rfl (fun _ => pt_ rfl hb179 rfl) (pv (v := bv (decide (r142 = 110))) rfl rfl (fun _ => mv rfl) ?_)
     obtain ⟨hT, hF⟩ := h
     rcases Bool.eq_false_or_eq_true (decide (r142 = 110)) with hb181 | hb182
     ·have h := hT hb181
      refine HPlan.gops rfl rfl rfl rfl rfl (cB hb181) (HOp.call' 17 [] (cap := []) rfl rfl call17 (walk17 h)) ?_
      rintro _ H183 ⟨r185, r186, r187, r188, r189, r190, r191, rfl, h⟩
      obtain ⟨s192, s193, h⟩ := h
      refine ⟨SC_of ⟨fun _ => s192, fun _ => s193, trivial⟩, ?_⟩
      refine HPlan.gops rfl rfl rfl rfl rfl (cB hb181) (HOp.call' 21 [sN, (.agg (xR r185 r186 r187 r188 r189 r190 r191).toArray)] (cap := []) rfl rfl call21 (walk21 h)) ?_
      rintro _ H194 ⟨r196, rfl, h⟩
      obtain ⟨s197, s198, h⟩ := h
      refine ⟨SC_of ⟨fun _ => s197, fun _ => s198, trivial⟩, ?_⟩
      refine pv (v := bv r196) rfl rfl (fun _ => pt_ rfl hb181 rfl) (pv (v := bv r196) rfl rfl (fun _ => av rfl) (HPlan.done ?_))
      refine nt (HW.ret ?_)
      exact ⟨_, resOf1 rfl Res1.t, ⟨r196, rfl, h⟩⟩
     have h := hF hb182
     refine HPlan.opgskip rfl rfl rfl rfl (cB hb182) (HPlan.opgskip rfl rfl rfl rfl (cB hb182) (pv (v := bv false) rfl rfl (fun _ => pf_ rfl hb182 rfl) ?_))
     refine pv (v := bv false) rfl rfl (fun _ => av rfl) (HPlan.done (nt (HW.ret ?_)))
     exact ⟨_, resOf1 rfl Res1.t, ⟨false, rfl, h⟩⟩
    have h := hF hb180
    refine pg rfl rfl rfl rfl (cB hb180) (pg rfl rfl rfl rfl (cB hb180) (pv (v := bv false) rfl rfl (fun _ => pf_ rfl hb180 rfl) ?_))
    refine pv (v := bv false) rfl rfl (fun _ => mv rfl) (HPlan.opgskip rfl rfl rfl rfl rfl (HPlan.opgskip rfl rfl rfl rfl rfl (pv (v := bv false) rfl rfl (fun _ => pf_ rfl rfl rfl) ?_)))
    refine pv (v := bv false) rfl rfl (fun _ => av rfl) (HPlan.done (nt (HW.ret ?_)))
    exact ⟨_, resOf1 rfl Res1.t, ⟨false, rfl, h⟩⟩
   have h := hF hb178
   refine pg rfl rfl rfl rfl (cB hb178) (pg rfl rfl rfl rfl (cB hb178) (pv (v := bv false) rfl rfl (fun _ => pf_ rfl hb178 rfl) ?_))
   refine pv (v := bv false) rfl rfl (fun _ => mv rfl) (pg rfl rfl rfl rfl rfl (pg rfl rfl rfl rfl rfl (pv (v := bv false) rfl rfl (fun _ => pf_ rfl rfl rfl) ?_)))
   refine pv (v := bv false) rfl rfl (fun _ => mv rfl) (HPlan.opgskip rfl rfl rfl rfl rfl (HPlan.opgskip rfl rfl rfl rfl rfl (pv (v := bv false) rfl rfl (fun _ => pf_ rfl rfl rfl) ?_)))
   refine pv (v := bv false) rfl rfl (fun _ => av rfl) (HPlan.done (nt (HW.ret ?_)))
   exact ⟨_, resOf1 rfl Res1.t, ⟨false, rfl, h⟩⟩
  have h := hF hb163
  refine pg rfl rfl rfl rfl (cB hb163) (HPlan.opgskip rfl rfl rfl rfl (cB hb163) (pg rfl rfl rfl rfl (cB hb163) (pv (v := bv false) rfl rfl (fun _ => pf_ rfl hb163 rfl) ?_)))
  refine pv (v := bv false) rfl rfl (fun _ => mv rfl) (pg rfl rfl rfl rfl rfl (pg rfl rfl rfl rfl rfl (pv (v := bv false) rfl rfl (fun _ => pf_ rfl rfl rfl) ?_)))
  refine pv (v := bv false) rfl rfl (fun _ => mv rfl) (pg rfl rfl rfl rfl rfl (pg rfl rfl rfl rfl rfl (pv (v := bv false) rfl rfl (fun _ => pf_ rfl rfl rfl) ?_)))
  refine pv (v := bv false) rfl rfl (fun _ => mv rfl) (HPlan.opgskip rfl rfl rfl rfl rfl (HPlan.opgskip rfl rfl rfl rfl rfl (pv (v := bv false) rfl rfl (fun _ => pf_ rfl rfl rfl) ?_)))
  refine pv (v := bv false) rfl rfl (fun _ => av rfl) (HPlan.done (nt (HW.ret ?_)))
  exact ⟨_, resOf1 rfl Res1.t, ⟨false, rfl, h⟩⟩
 have h := hF hb161
 refine pg rfl rfl rfl rfl (cB hb161) (pg rfl rfl rfl rfl (cB hb161) (pv (v := bv false) rfl rfl (fun _ => pf_ rfl hb161 rfl) ?_))
 refine pv (v := bv false) rfl rfl (fun _ => mv rfl) (pg rfl rfl rfl rfl rfl (HPlan.opgskip rfl rfl rfl rfl rfl (pg rfl rfl rfl rfl rfl ?_)))
 refine pv (v := bv false) rfl rfl (fun _ => pf_ rfl rfl rfl) (pv (v := bv false) rfl rfl (fun _ => mv rfl) (pg rfl rfl rfl rfl rfl ?_))
 refine pg rfl rfl rfl rfl rfl (pv (v := bv false) rfl rfl (fun _ => pf_ rfl rfl rfl) (pv (v := bv false) rfl rfl (fun _ => mv rfl) ?_))
 refine pg rfl rfl rfl rfl rfl (pg rfl rfl rfl rfl rfl (pv (v := bv false) rfl rfl (fun _ => pf_ rfl rfl rfl) (pv (v := bv false) rfl rfl (fun _ => mv rfl) ?_)))
 refine HPlan.opgskip rfl rfl rfl rfl rfl (HPlan.opgskip rfl rfl rfl rfl rfl (pv (v := bv false) rfl rfl (fun _ => pf_ rfl rfl rfl) (pv (v := bv false) rfl rfl (fun _ => av rfl) ?_)))
 refine HPlan.done (nt (HW.ret ?_))
 exact ⟨_, resOf1 rfl Res1.t, ⟨false, rfl, h⟩⟩

def F25 (p0_0 : Int) (p0_1 : ByteArray) (p0_2 : Int) (p0_3 : Sl) (p0_4 : ByteArray) (p0_5 p0_6 p0_7 p0_8 : Int) (p0_9 : ByteArray) (p0_10 : Bool) (p0_11 : ByteArray) (p0_12 : Int) (p0_13 : ByteArray) (p0_14 p0_15 p0_16 p0_17 : Sl) (p0_18 p0_19 : ByteArray) (p0_20 : Int) (p0_21 p0_22 : Sl) (H : Hp) (Q : ZQB) : Prop :=
∀ H1, H1 = Array.push H (.cells #[(iv p0_0), (sv p0_1), (iv p0_2), (Sl.v p0_3), (sv p0_4), (iv p0_5), (iv p0_6), (iv p0_7), (iv p0_8), (sv p0_9), (bv p0_10), (sv p0_11), (iv p0_12), (sv p0_13), (Sl.v p0_14), (Sl.v p0_15), (Sl.v p0_16), (Sl.v p0_17), (sv p0_18), (sv p0_19), (iv p0_20), (Sl.v p0_21), (Sl.v p0_22)] 45) → (
 ∃ x4, cell H1 (bk H) = some (iv x4) ∧ (
 (decide (x4 = 2) = true → (∃ x7 x8 x9 x10 x11 x12 x13 x14 x15 x16, cells H1 (Addr.add (bk H) 5) (eR x7 x8 x9 x10 x11 x12 x13 x14 x15 x16) 0 ∧ (
 ∃ x18 x19 x20 x21 x22 x23 x24, cells H1 (Addr.add (bk H) 16) (xR x18 x19 x20 x21 x22 x23 x24) 0 ∧ (
 F32 x7 x8 x9 x10 x11 x12 x13 x14 x15 x16 x18 x19 x20 x21 x22 x23 x24 H1 (fun r27 r28 r29 r30 r31 H25 =>
 ∀ H32, H32 = Array.push H25 (.cells (vR 0 0 bE false).toArray 38) → (
 mayw H32 (bk H25) 4 0 ∧ ∀ H34, H34 = sets H32 (bk H25) (vR r27 r28 r29 r30) 0 → (
 ∃ x38 x39 x40 x41 x42 x43 x44 x45 x46 x47, cells H34 (Addr.add (bk H) 5) (eR x38 x39 x40 x41 x42 x43 x44 x45 x46 x47) 0 ∧ (
 ∃ x49 x50 x51 x52 x53 x54 x55, cells H34 (Addr.add (bk H) 16) (xR x49 x50 x51 x52 x53 x54 x55) 0 ∧ (
 F22 x38 x39 x40 x41 x42 x43 x44 x45 x46 x47 x49 x50 x51 x52 x53 x54 x55 H34 (fun r58 r59 r60 r61 r62 H56 =>
 ∀ H63, H63 = Array.push H56 (.cells (vR 0 0 bE false).toArray 38) → (
 mayw H63 (bk H56) 4 0 ∧ ∀ H65, H65 = sets H63 (bk H56) (vR r58 r59 r60 r61) 0 → (
 ∃ x69 x70 x71 x72, cells H65 (bk H56) (vR x69 x70 x71 x72) 0 ∧ (
 ∃ x74 x75 x76 x77, cells H65 (bk H25) (vR x74 x75 x76 x77) 0 ∧ (
 ((decide (x69 = x74) && (decide (x70 = x75) && (seq x71 x76 && (x72 == x77)))) = true → (Q (decide (r62 = r31)) H65)) ∧
 ((decide (x69 = x74) && (decide (x70 = x75) && (seq x71 x76 && (x72 == x77)))) = false → (Q false H65)))))))))))))))) ∧
 (decide (x4 = 2) = false → ((decide (x4 = 3) = true → (∃ x82, cell H1 (Addr.add (bk H) 15) = some (Sl.v x82) ∧ (
 ∃ x84 x85 x86 x87 x88 x89 x90, cells H1 (Addr.add (bk H) 16) (xR x84 x85 x86 x87 x88 x89 x90) 0 ∧ (
 F34 x82 x84 x85 x86 x87 x88 x89 x90 H1 (fun r93 H91 =>
 ∃ x95, cell H91 (Addr.add (bk H) 15) = some (Sl.v x95) ∧ (
 ∃ x97 x98 x99 x100 x101 x102 x103, cells H91 (Addr.add (bk H) 16) (xR x97 x98 x99 x100 x101 x102 x103) 0 ∧ (
 F21 x95 x97 x98 x99 x100 x101 x102 x103 H91 (fun r106 H104 =>
 Q (r106 == r93) H104)))))))) ∧
 (decide (x4 = 3) = false → (Q true H1))))))
theorem walk25 {w0 : World} {p0_0 : Int} {p0_1 : ByteArray} {p0_2 : Int} {p0_3 : Sl} {p0_4 : ByteArray} {p0_5 p0_6 p0_7 p0_8 : Int} {p0_9 : ByteArray} {p0_10 : Bool} {p0_11 : ByteArray} {p0_12 : Int} {p0_13 : ByteArray} {p0_14 p0_15 p0_16 p0_17 : Sl} {p0_18 p0_19 : ByteArray} {p0_20 : Int} {p0_21 p0_22 : Sl} {H : Hp} {Q : ZQB} (h : F25 p0_0 p0_1 p0_2 p0_3 p0_4 p0_5 p0_6 p0_7 p0_8 p0_9 p0_10 p0_11 p0_12 p0_13 p0_14 p0_15 p0_16 p0_17 p0_18 p0_19 p0_20 p0_21 p0_22 H Q) :
  Good prog w0 25 #[(.agg #[(iv p0_0), (sv p0_1), (iv p0_2), (Sl.v p0_3), (sv p0_4), (iv p0_5), (iv p0_6), (iv p0_7), (iv p0_8), (sv p0_9), (bv p0_10), (sv p0_11), (iv p0_12), (sv p0_13), (Sl.v p0_14), (Sl.v p0_15), (Sl.v p0_16), (Sl.v p0_17), (sv p0_18), (sv p0_19), (iv p0_20), (Sl.v p0_21), (Sl.v p0_22)])] H (fun v H => ∃ r0, v = (bv r0) ∧ Q r0 H) := by
 unfold F25 at h
 refine Good.enter' (fn := f25) func25 rfl rfl rfl (ws (wr_ (ho rfl (ob (v := .agg #[(iv p0_0), (sv p0_1), (iv p0_2), (Sl.v p0_3), (sv p0_4), (iv p0_5), (iv p0_6), (iv p0_7), (iv p0_8), (sv p0_9), (bv p0_10), (sv p0_11), (iv p0_12), (sv p0_13), (Sl.v p0_14), (Sl.v p0_15), (Sl.v p0_16), (Sl.v p0_17), (sv p0_18), (sv p0_19), (iv p0_20), (Sl.v p0_21), (Sl.v p0_22)]) rfl) ?_)))
 rintro _ H1 ⟨rfl, e2⟩
 replace h := h H1 e2
 refine hv (v := bv false) rfl (av rfl) (hn (nt (ws (ws (wr_ (hv (v := pp (bk H)) rfl (HVal.fieldAddr0 runUnderlying45 rfl rfl sizeOf3 rfl) ?_))))))
 obtain ⟨x4, c3, h⟩ := h
 refine hv (v := iv x4) rfl (l1 isAgg3 rfl c3) (hn (nt (wb (ws (wr_ (hv (v := bv (decide (x4 = 2))) rfl (HVal.eqlI rfl rfl) ?_))))))
 refine hv (v := bv (decide (x4 = 2))) rfl (av rfl) (hn (nt ?_))
 obtain ⟨hT, hF⟩ := h
 refine wk (decide (x4 = 2)) rfl (fun hb5 => ?_) (fun hb5 => ?_)
 ·have h := hT hb5
  refine ws (wr_ (hv (v := pp (Addr.add (bk H) 5)) rfl (fa runUnderlying45 rfl rfl sizeOf41 rfl) ?_))
  obtain ⟨x7, x8, x9, x10, x11, x12, x13, x14, x15, x16, c6, h⟩ := h
  refine hv (v := .agg (eR x7 x8 x9 x10 x11 x12 x13 x14 x15 x16).toArray) rfl (ln (eR x7 x8 x9 x10 x11 x12 x13 x14 x15 x16) isAgg41 sizeOf41 rfl c6) ?_
  refine hv (v := pp (Addr.add (bk H) 16)) rfl (fa runUnderlying45 rfl rfl sizeOf43 rfl) ?_
  obtain ⟨x18, x19, x20, x21, x22, x23, x24, c17, h⟩ := h
  refine hv (v := .agg (xR x18 x19 x20 x21 x22 x23 x24).toArray) rfl (ln (xR x18 x19 x20 x21 x22 x23 x24) isAgg43 sizeOf43 rfl c17) ?_
  refine ho rfl (HOp.call' 32 [(.agg (eR x7 x8 x9 x10 x11 x12 x13 x14 x15 x16).toArray), (.agg (xR x18 x19 x20 x21 x22 x23 x24).toArray)] (cap := []) rfl rfl call32 (walk32 h)) ?_
  rintro _ H25 ⟨r27, r28, r29, r30, r31, rfl, h⟩
  refine hv (v := .tuple #[(.agg (vR r27 r28 r29 r30).toArray), (iv r31)]) rfl (mv rfl) (hv (v := .agg (vR r27 r28 r29 r30).toArray) rfl (HVal.extract rfl rfl) ?_)
  refine hv (v := iv r31) rfl (HVal.extract rfl rfl) (ho rfl (HOp.alloc zeroValue38) ?_)
  rintro _ H32 ⟨rfl, e33⟩
  replace h := h H32 e33
  obtain ⟨z36, h⟩ := h
  refine hq (HOp.storeN' (l := (vR r27 r28 r29 r30)) sizeOf38 rfl rfl rfl z36) ?_
  rintro _ H34 e35
  replace h := h H34 e35
  refine hv (v := iv r31) rfl (av rfl) (hn (nt (ws (wr_ (hv (v := pp (Addr.add (bk H) 5)) rfl (fa runUnderlying45 rfl rfl sizeOf41 rfl) ?_)))))
  obtain ⟨x38, x39, x40, x41, x42, x43, x44, x45, x46, x47, c37, h⟩ := h
  refine hv (v := .agg (eR x38 x39 x40 x41 x42 x43 x44 x45 x46 x47).toArray) rfl (ln (eR x38 x39 x40 x41 x42 x43 x44 x45 x46 x47) isAgg41 sizeOf41 rfl c37) ?_
  refine hv (v := pp (Addr.add (bk H) 16)) rfl (fa runUnderlying45 rfl rfl sizeOf43 rfl) ?_
  obtain ⟨x49, x50, x51, x52, x53, x54, x55, c48, h⟩ := h
  refine hv (v := .agg (xR x49 x50 x51 x52 x53 x54 x55).toArray) rfl (ln (xR x49 x50 x51 x52 x53 x54 x55) isAgg43 sizeOf43 rfl c48) ?_
  refine ho rfl (HOp.call' 22 [(.agg (eR x38 x39 x40 x41 x42 x43 x44 x45 x46 x47).toArray), (.agg (xR x49 x50 x51 x52 x53 x54 x55).toArray)] (cap := []) rfl rfl call22 (walk22 h)) ?_
  rintro _ H56 ⟨r58, r59, r60, r61, r62, rfl, h⟩
  refine hv (v := .tuple #[(.agg (vR r58 r59 r60 r61).toArray), (iv r62)]) rfl (mv rfl) (hv (v := .agg (vR r58 r59 r60 r61).toArray) rfl (HVal.extract rfl rfl) ?_)
  refine hv (v := iv r62) rfl (HVal.extract rfl rfl) (ho rfl (HOp.alloc zeroValue38) ?_)
  rintro _ H63 ⟨rfl, e64⟩
  replace h := h H63 e64
  obtain ⟨z67, h⟩ := h
  refine hq (HOp.storeN' (l := (vR r58 r59 r60 r61)) sizeOf38 rfl rfl rfl z67) ?_
  rintro _ H65 e66
  replace h := h H65 e66
  refine hv (v := iv r62) rfl (av rfl) (hn (nt (ws (wr_ ?_))))
  obtain ⟨x69, x70, x71, x72, c68, h⟩ := h
  refine hv (v := .agg (vR x69 x70 x71 x72).toArray) rfl (ln (vR x69 x70 x71 x72) isAgg38 sizeOf38 rfl c68) ?_
  obtain ⟨x74, x75, x76, x77, c73, h⟩ := h
  refine hv (v := .agg (vR x74 x75 x76 x77).toArray) rfl (ln (vR x74 x75 x76 x77) isAgg38 sizeOf38 rfl c73) (hv (v := bv (decide (x69 = x74) && (decide (x70 = x75) && (seq x71 x76 && (x72 == x77))))) rfl (eqs38_eql rfl rfl) ?_)
  refine hv (v := bv (decide (x69 = x74) && (decide (x70 = x75) && (seq x71 x76 && (x72 == x77))))) rfl (mv rfl) ?_
  obtain ⟨hT, hF⟩ := h
  rcases Bool.eq_false_or_eq_true (decide (x69 = x74) && (decide (x70 = x75) && (seq x71 x76 && (x72 == x77)))) with hb78 | hb79
  ·have h := hT hb78
   refine hg (v := iv r62) rfl rfl rfl rfl (cB hb78) (mv rfl) (hg (v := iv r31) rfl rfl rfl rfl (cB hb78) (mv rfl) (hg (v := bv (decide (r62 = r31))) rfl rfl rfl rfl (cB hb78) (HVal.eqlI rfl rfl) ?_))
   refine hv (v := bv (decide (r62 = r31))) rfl (pt_ rfl hb78 rfl) (hv (v := bv (decide (r62 = r31))) rfl (av rfl) (hn (nt ?_)))
   refine HW.ret (br (tr ?_))
   exact ⟨_, resOf1 rfl Res1.t, ⟨(decide (r62 = r31)), rfl, h⟩⟩
  have h := hF hb79
  refine hs_ rfl rfl rfl rfl (cB hb79) (hs_ rfl rfl rfl rfl (cB hb79) (hs_ rfl rfl rfl rfl (cB hb79) (hv (v := bv false) rfl (pf_ rfl hb79 rfl) ?_)))
  refine hv (v := bv false) rfl (av rfl) (hn (nt (HW.ret (br (tr ?_)))))
  exact ⟨_, resOf1 rfl Res1.t, ⟨false, rfl, h⟩⟩
 have h := hF hb5
 refine ws (wr_ (hv (v := bv (decide (x4 = 3))) rfl (HVal.eqlI rfl rfl) (hv (v := bv (decide (x4 = 3))) rfl (av rfl) ?_)))
 refine hn (nt ?_)
 obtain ⟨hT, hF⟩ := h
 refine wk (decide (x4 = 3)) rfl (fun hb80 => ?_) (fun hb80 => ?_)
 ·have h := hT hb80
  refine ws (wr_ (hv (v := pp (Addr.add (bk H) 15)) rfl (fa runUnderlying45 rfl rfl sizeOf39 rfl) ?_))
  obtain ⟨x82, c81, h⟩ := h
  refine hv (v := Sl.v x82) rfl (l1 isAgg39 rfl c81) (hv (v := pp (Addr.add (bk H) 16)) rfl (fa runUnderlying45 rfl rfl sizeOf43 rfl) ?_)
  obtain ⟨x84, x85, x86, x87, x88, x89, x90, c83, h⟩ := h
  refine hv (v := .agg (xR x84 x85 x86 x87 x88 x89 x90).toArray) rfl (ln (xR x84 x85 x86 x87 x88 x89 x90) isAgg43 sizeOf43 rfl c83) ?_
  refine ho rfl (HOp.call' 34 [(Sl.v x82), (.agg (xR x84 x85 x86 x87 x88 x89 x90).toArray)] (cap := []) rfl rfl call34 (walk34 h)) ?_
  rintro _ H91 ⟨r93, rfl, h⟩
  refine hv (v := bv r93) rfl (av rfl) (hn (nt (ws (wr_ (hv (v := pp (Addr.add (bk H) 15)) rfl (fa runUnderlying45 rfl rfl sizeOf39 rfl) ?_)))))
  obtain ⟨x95, c94, h⟩ := h
  refine hv (v := Sl.v x95) rfl (l1 isAgg39 rfl c94) (hv (v := pp (Addr.add (bk H) 16)) rfl (fa runUnderlying45 rfl rfl sizeOf43 rfl) ?_)
  obtain ⟨x97, x98, x99, x100, x101, x102, x103, c96, h⟩ := h
  refine hv (v := .agg (xR x97 x98 x99 x100 x101 x102 x103).toArray) rfl (ln (xR x97 x98 x99 x100 x101 x102 x103) isAgg43 sizeOf43 rfl c96) ?_
  refine ho rfl (HOp.call' 21 [(Sl.v x95), (.agg (xR x97 x98 x99 x100 x101 x102 x103).toArray)] (cap := []) rfl rfl call21 (walk21 h)) ?_
  rintro _ H104 ⟨r106, rfl, h⟩
  refine hv (v := bv r93) rfl (mv rfl) (hv (v := bv (r106 == r93)) rfl (HVal.eqlB underlying4 rfl rfl) (hv (v := bv (r106 == r93)) rfl (av rfl) ?_))
  refine hn (nt (HW.ret (br (tr ?_))))
  exact ⟨_, resOf1 rfl Res1.t, ⟨(r106 == r93), rfl, h⟩⟩
 have h := hF hb80
 refine wp_ (nb (nt (ws (wr_ (hv (v := bv true) rfl (av rfl) (hn (nt (HW.ret ?_))))))))
 exact ⟨_, resOf1 rfl Res1.t, ⟨true, rfl, h⟩⟩

def F9_3 (Q : ZQB) (y114 : (Option Addr)) (y115 y116 : Addr) (y199 : Bool) (H_3 : Hp) : Prop :=
∃ x373 x374 x375 x376 x377 x378 x379, cells H_3 (Addr.add y115 16) (xR x373 x374 x375 x376 x377 x378 x379) 0 ∧ (
 ∃ x381 x382 x383 x384 x385 x386 x387, cells H_3 y116 (xR x381 x382 x383 x384 x385 x386 x387) 0 ∧ (
 F35 y114 x373 x374 x375 x376 x377 x378 x379 x381 x382 x383 x384 x385 x386 x387 H_3 (fun r390 H388 =>
 F36 y114 H388 (fun H391 =>
 (y199 = true → (Q r390 H391)) ∧
 (y199 = false → (Q false H391))))))
def F9_4 (Q : ZQB) (y217 : (Option Addr)) (y218 y219 : Addr) (y220 : Sl) (y256 : Addr) (y257 : Int) (H_4 : Hp) : Prop :=
∃ x273 x274 x275 x276 x277 x278 x279 x280 x281 x282, cells H_4 (Addr.add y218 5) (eR x273 x274 x275 x276 x277 x278 x279 x280 x281 x282) 0 ∧ (
 ∃ x284 x285 x286 x287 x288 x289 x290, cells H_4 (Addr.add y218 16) (xR x284 x285 x286 x287 x288 x289 x290) 0 ∧ (
 F32 x273 x274 x275 x276 x277 x278 x279 x280 x281 x282 x284 x285 x286 x287 x288 x289 x290 H_4 (fun r293 r294 r295 r296 r297 H291 =>
 ∀ H298, H298 = Array.push H291 (.cells (vR 0 0 bE false).toArray 38) → (
 mayw H298 (bk H291) 4 0 ∧ ∀ H300, H300 = sets H298 (bk H291) (vR r293 r294 r295 r296) 0 → (
 ∃ x304 x305 x306 x307, cells H300 y256 (vR x304 x305 x306 x307) 0 ∧ (
 ∃ x309 x310 x311 x312, cells H300 (bk H291) (vR x309 x310 x311 x312) 0 ∧ (
 ((decide (x304 = x309) && (decide (x305 = x310) && (seq x306 x311 && (x307 == x312)))) = true → ((decide (y257 = r297) = true → (∃ x318 x319 x320 x321 x322 x323 x324 x325 x326 x327, cells H300 (Addr.add y218 5) (eR x318 x319 x320 x321 x322 x323 x324 x325 x326 x327) 0 ∧ (
 ∀ H328, H328 = Array.push H300 (.cells (eR x318 x319 x320 x321 x322 x323 x324 x325 x326 x327).toArray 41) → (
 F33 (Sl.mk (some (bk H300)) 1 1) y220 H328 (fun r332 H330 =>
 F9_3 Q y217 y218 y219 r332 H330))))) ∧
 (decide (y257 = r297) = false → (F9_3 Q y217 y218 y219 false H300)))) ∧
 ((decide (x304 = x309) && (decide (x305 = x310) && (seq x306 x311 && (x307 == x312)))) = false → (F9_3 Q y217 y218 y219 false H300)))))))))
def F9_2 (Q : ZQB) (y34 : (Option Addr)) (y35 : Addr) (y58 : Bool) (H_2 : Hp) : Prop :=
(y58 = true → (∃ x66 x67 x68 x69 x70 x71 x72 x73 x74 x75 x76 x77 x78 x79 x80 x81 x82 x83 x84 x85 x86 x87 x88, cells H_2 y35 [(iv x66), (sv x67), (iv x68), (Sl.v x69), (sv x70), (iv x71), (iv x72), (iv x73), (iv x74), (sv x75), (bv x76), (sv x77), (iv x78), (sv x79), (Sl.v x80), (Sl.v x81), (Sl.v x82), (Sl.v x83), (sv x84), (sv x85), (iv x86), (Sl.v x87), (Sl.v x88)] 0 ∧ (
 F25 x66 x67 x68 x69 x70 x71 x72 x73 x74 x75 x76 x77 x78 x79 x80 x81 x82 x83 x84 x85 x86 x87 x88 H_2 (fun r91 H89 =>
 Q r91 H89)))) ∧
 (y58 = false → (∃ x93 x94 x95 x96 x97 x98 x99, cells H_2 (Addr.add y35 16) (xR x93 x94 x95 x96 x97 x98 x99) 0 ∧ (
 F26 y34 x93 x94 x95 x96 x97 x98 x99 H_2 (fun r102 r103 r104 r105 r106 r107 r108 H100 =>
 ∀ H109, H109 = Array.push H100 (.cells (xR Sl.nil Sl.nil bE bE 0 Sl.nil Sl.nil).toArray 43) → (
 mayw H109 (bk H100) 7 0 ∧ ∀ H111, H111 = sets H109 (bk H100) (xR r102 r103 r104 r105 r106 r107 r108) 0 → (
 ∃ x118, cell H111 y35 = some (iv x118) ∧ (
 (decide (x118 = 1) = true → (∃ x121 x122 x123, cells H111 (Addr.add y35 1) (tR x121 x122 x123) 0 ∧ (
 F27 y34 x121 x122 x123 H111 (fun r126 r127 r128 H124 =>
 ∀ H129, H129 = Array.push H124 (.cells (tR bE 0 Sl.nil).toArray 36) → (
 mayw H129 (bk H124) 3 0 ∧ ∀ H131, H131 = sets H129 (bk H124) (tR r126 r127 r128) 0 → (
 ∃ x135 x136 x137, cells H131 (bk H124) (tR x135 x136 x137) 0 ∧ (
 ∃ x139, cell H131 (Addr.add y35 4) = some (sv x139) ∧ (
 ∃ x141, cell H131 (Addr.add (bk H100) 6) = some (Sl.v x141) ∧ (
 F28 x135 x136 x137 x139 x141 H131 (fun r144 r145 r146 r147 r148 H142 =>
 ∀ H149, H149 = Array.push H142 (.cells (vR 0 0 bE false).toArray 38) → (
 mayw H149 (bk H142) 4 0 ∧ ∀ H151, H151 = sets H149 (bk H142) (vR r144 r145 r146 r147) 0 → (
 ∃ x155 x156 x157, cells H151 (Addr.add y35 1) (tR x155 x156 x157) 0 ∧ (
 ∃ x159, cell H151 (Addr.add y35 4) = some (sv x159) ∧ (
 ∃ x161, cell H151 (Addr.add (Addr.add y35 16) 6) = some (Sl.v x161) ∧ (
 F29 x155 x156 x157 x159 x161 H151 (fun r164 r165 r166 r167 r168 H162 =>
 ∀ H169, H169 = Array.push H162 (.cells (vR 0 0 bE false).toArray 38) → (
 mayw H169 (bk H162) 4 0 ∧ ∀ H171, H171 = sets H169 (bk H162) (vR r164 r165 r166 r167) 0 → (
 ∃ x175 x176 x177 x178, cells H171 (bk H142) (vR x175 x176 x177 x178) 0 ∧ (
 ∃ x180 x181 x182 x183, cells H171 (bk H162) (vR x180 x181 x182 x183) 0 ∧ (
 ((decide (x175 = x180) && (decide (x176 = x181) && (seq x177 x182 && (x178 == x183)))) = true → ((decide (r148 = r168) = true → (∃ x189 x190 x191, cells H171 (Addr.add y35 1) (tR x189 x190 x191) 0 ∧ (
 ∃ x193 x194 x195, cells H171 (bk H124) (tR x193 x194 x195) 0 ∧ (
 F30 x189 x190 x191 x193 x194 x195 H171 (fun r198 H196 =>
 F9_3 Q y34 y35 (bk H100) r198 H196))))) ∧
 (decide (r148 = r168) = false → (F9_3 Q y34 y35 (bk H100) false H171)))) ∧
 ((decide (x175 = x180) && (decide (x176 = x181) && (seq x177 x182 && (x178 == x183)))) = false → (F9_3 Q y34 y35 (bk H100) false H171)))))))))))))))))))))) ∧
 (decide (x118 = 1) = false → ((decide (x118 = 2) = true → (∃ x202 x203 x204 x205 x206 x207 x208 x209 x210 x211, cells H111 (Addr.add y35 5) (eR x202 x203 x204 x205 x206 x207 x208 x209 x210 x211) 0 ∧ (
 ∀ H212, H212 = Array.push H111 (.cells (eR x202 x203 x204 x205 x206 x207 x208 x209 x210 x211).toArray 41) → (
 F31 y34 (Sl.mk (some (bk H111)) 1 1) H212 (fun r216 H214 =>
 ∃ a221, (r216).b = some a221 ∧ (0 : Int) ≤ 0 ∧ (0 : Int) < ((r216).n : Int) ∧ (
 ∃ x226 x227 x228 x229 x230 x231 x232 x233 x234 x235, cells H214 (Addr.add a221 ((0 : Int).toNat * 10)) (eR x226 x227 x228 x229 x230 x231 x232 x233 x234 x235) 0 ∧ (
 ∃ x237 x238 x239 x240 x241 x242 x243, cells H214 (bk H100) (xR x237 x238 x239 x240 x241 x242 x243) 0 ∧ (
 (F22 x226 x227 x228 x229 x230 x231 x232 x233 x234 x235 x237 x238 x239 x240 x241 x242 x243 H214 (fun r246 r247 r248 r249 r250 H244 =>
 ∀ H251, H251 = Array.push H244 (.cells (vR 0 0 bE false).toArray 38) → (
 mayw H251 (bk H244) 4 0 ∧ ∀ H253, H253 = sets H251 (bk H244) (vR r246 r247 r248 r249) 0 → (
 F9_4 Q y34 y35 (bk H100) r216 (bk H244) r250 H253)))) ∧
 (∀ H258, H258 = Array.push H214 (.cells (vR 0 0 bE false).toArray 38) → (
 cells H258 (bk H100) (xR x237 x238 x239 x240 x241 x242 x243) 0 ∧ cells H258 (Addr.add a221 ((0 : Int).toNat * 10)) (eR x226 x227 x228 x229 x230 x231 x232 x233 x234 x235) 0 ∧ (
 F22 x226 x227 x228 x229 x230 x231 x232 x233 x234 x235 x237 x238 x239 x240 x241 x242 x243 H258 (fun r264 r265 r266 r267 r268 H262 =>
 mayw H262 (bk H214) 4 0 ∧ ∀ H269, H269 = sets H262 (bk H214) (vR r264 r265 r266 r267) 0 → (
 F9_4 Q y34 y35 (bk H100) r216 (bk H214) r268 H269))))))))))))) ∧
 (decide (x118 = 2) = false → ((decide (x118 = 3) = true → (∃ x335, cell H111 (Addr.add y35 15) = some (Sl.v x335) ∧ (
 F31 y34 x335 H111 (fun r338 H336 =>
 ∃ x340 x341 x342 x343 x344 x345 x346, cells H336 (bk H100) (xR x340 x341 x342 x343 x344 x345 x346) 0 ∧ (
 ∃ x348, cell H336 (Addr.add y35 15) = some (Sl.v x348) ∧ (
 ∃ x350 x351 x352 x353 x354 x355 x356, cells H336 (Addr.add y35 16) (xR x350 x351 x352 x353 x354 x355 x356) 0 ∧ (
 F21 r338 x340 x341 x342 x343 x344 x345 x346 H336 (fun r359 H357 =>
 cells H357 (Addr.add y35 16) (xR x350 x351 x352 x353 x354 x355 x356) 0 ∧ cell H357 (Addr.add y35 15) = some (Sl.v x348) ∧ (
 F34 x348 x350 x351 x352 x353 x354 x355 x356 H357 (fun r364 H362 =>
 ((r359 == r364) = true → (∃ x368, cell H362 (Addr.add y35 15) = some (Sl.v x368) ∧ (
 F33 x368 r338 H362 (fun r371 H369 =>
 F9_3 Q y34 y35 (bk H100) r371 H369)))) ∧
 ((r359 == r364) = false → (F9_3 Q y34 y35 (bk H100) false H362)))))))))))) ∧
 (decide (x118 = 3) = false → (F9_3 Q y34 y35 (bk H100) true H111)))))))))))))
def F9_1 (Q : ZQB) (y3 : (Option Addr)) (y4 : Addr) (y27 : Bool) (H_1 : Hp) : Prop :=
(y27 = true → (Q true H_1)) ∧
 (y27 = false → (∃ x37, cell H_1 y4 = some (iv x37) ∧ (
 (decide (x37 ≠ 1) = true → (∃ x41 x42 x43 x44 x45 x46 x47 x48 x49 x50, cells H_1 (Addr.add y4 5) (eR x41 x42 x43 x44 x45 x46 x47 x48 x49 x50) 0 ∧ (
 ∀ H51, H51 = Array.push H_1 (.cells (eR x41 x42 x43 x44 x45 x46 x47 x48 x49 x50).toArray 41) → (
 F24 (Sl.mk (some (bk H_1)) 1 1) 16384 H51 (fun r55 H53 =>
 (decide (r55 < 0) = true → (F9_2 Q y3 y4 true H53)) ∧
 (decide (r55 < 0) = false → (∃ x60, cell H53 (Addr.add y4 15) = some (Sl.v x60) ∧ (
 F24 x60 16384 H53 (fun r63 H61 =>
 F9_2 Q y3 y4 (decide (r63 < 0)) H61))))))))) ∧
 (decide (x37 ≠ 1) = false → (F9_2 Q y3 y4 false H_1)))))
def F9 (p0 : (Option Addr)) (p1_0 : Int) (p1_1 : ByteArray) (p1_2 : Int) (p1_3 : Sl) (p1_4 : ByteArray) (p1_5 p1_6 p1_7 p1_8 : Int) (p1_9 : ByteArray) (p1_10 : Bool) (p1_11 : ByteArray) (p1_12 : Int) (p1_13 : ByteArray) (p1_14 p1_15 p1_16 p1_17 : Sl) (p1_18 p1_19 : ByteArray) (p1_20 : Int) (p1_21 p1_22 : Sl) (H : Hp) (Q : ZQB) : Prop :=
∀ H1, H1 = Array.push H (.cells #[(iv p1_0), (sv p1_1), (iv p1_2), (Sl.v p1_3), (sv p1_4), (iv p1_5), (iv p1_6), (iv p1_7), (iv p1_8), (sv p1_9), (bv p1_10), (sv p1_11), (iv p1_12), (sv p1_13), (Sl.v p1_14), (Sl.v p1_15), (Sl.v p1_16), (Sl.v p1_17), (sv p1_18), (sv p1_19), (iv p1_20), (Sl.v p1_21), (Sl.v p1_22)] 45) → (
 ∃ x6, cell H1 (bk H) = some (iv x6) ∧ (
 (decide (x6 ≠ 1) = true → (∃ x10 x11 x12 x13 x14 x15 x16 x17 x18 x19, cells H1 (Addr.add (bk H) 5) (eR x10 x11 x12 x13 x14 x15 x16 x17 x18 x19) 0 ∧ (
 ∀ H20, H20 = Array.push H1 (.cells (eR x10 x11 x12 x13 x14 x15 x16 x17 x18 x19).toArray 41) → (
 F24 (Sl.mk (some (bk H1)) 1 1) 262144 H20 (fun r24 H22 =>
 (decide (r24 < 0) = true → (F9_1 Q p0 (bk H) true H22)) ∧
 (decide (r24 < 0) = false → (∃ x29, cell H22 (Addr.add (bk H) 15) = some (Sl.v x29) ∧ (
 F24 x29 262144 H22 (fun r32 H30 =>
 F9_1 Q p0 (bk H) (decide (r32 < 0)) H30))))))))) ∧
 (decide (x6 ≠ 1) = false → (F9_1 Q p0 (bk H) false H1))))
theorem walk9 {w0 : World} {p0 : (Option Addr)} {p1_0 : Int} {p1_1 : ByteArray} {p1_2 : Int} {p1_3 : Sl} {p1_4 : ByteArray} {p1_5 p1_6 p1_7 p1_8 : Int} {p1_9 : ByteArray} {p1_10 : Bool} {p1_11 : ByteArray} {p1_12 : Int} {p1_13 : ByteArray} {p1_14 p1_15 p1_16 p1_17 : Sl} {p1_18 p1_19 : ByteArray} {p1_20 : Int} {p1_21 p1_22 : Sl} {H : Hp} {Q : ZQB} (h : F9 p0 p1_0 p1_1 p1_2 p1_3 p1_4 p1_5 p1_6 p1_7 p1_8 p1_9 p1_10 p1_11 p1_12 p1_13 p1_14 p1_15 p1_16 p1_17 p1_18 p1_19 p1_20 p1_21 p1_22 H Q) :
  Good prog w0 9 #[(.pointer p0), (.agg #[(iv p1_0), (sv p1_1), (iv p1_2), (Sl.v p1_3), (sv p1_4), (iv p1_5), (iv p1_6), (iv p1_7), (iv p1_8), (sv p1_9), (bv p1_10), (sv p1_11), (iv p1_12), (sv p1_13), (Sl.v p1_14), (Sl.v p1_15), (Sl.v p1_16), (Sl.v p1_17), (sv p1_18), (sv p1_19), (iv p1_20), (Sl.v p1_21), (Sl.v p1_22)])] H (fun v H => ∃ r0, v = (bv r0) ∧ Q r0 H) := by
 unfold F9 at h
 refine Good.enter' (fn := f9) func9 rfl rfl rfl (ws (wr_ (ho rfl (ob (v := .agg #[(iv p1_0), (sv p1_1), (iv p1_2), (Sl.v p1_3), (sv p1_4), (iv p1_5), (iv p1_6), (iv p1_7), (iv p1_8), (sv p1_9), (bv p1_10), (sv p1_11), (iv p1_12), (sv p1_13), (Sl.v p1_14), (Sl.v p1_15), (Sl.v p1_16), (Sl.v p1_17), (sv p1_18), (sv p1_19), (iv p1_20), (Sl.v p1_21), (Sl.v p1_22)]) rfl) ?_)))
 rintro _ H1 ⟨rfl, e2⟩
 replace h := h H1 e2
 refine hv (v := bv false) rfl (av rfl) (hn (nt (ws (wc (fun ρ H_1 => ∃ y27, Env.Is ρ [(0, (.pointer p0)), (3, (pp (bk H))), (34, (bv y27))] ∧ F9_1 Q p0 (bk H) y27 H_1) ?_ ?_))))
 ·refine wr_ (hv (v := pp (bk H)) rfl (HVal.fieldAddr0 runUnderlying45 rfl rfl sizeOf3 rfl) ?_)
  obtain ⟨x6, c5, h⟩ := h
  refine hv (v := iv x6) rfl (l1 isAgg3 rfl c5) (hv (v := bv (decide (x6 ≠ 1))) rfl (HVal.neqI rfl rfl) (hv (v := bv (decide (x6 ≠ 1))) rfl (mv rfl) ?_))
  obtain ⟨hT, hF⟩ := h
  rcases Bool.eq_false_or_eq_true (decide (x6 ≠ 1)) with hb7 | hb8
  ·have h := hT hb7
   refine hg (v := pp (Addr.add (bk H) 5)) rfl rfl rfl rfl (cB hb7) (fa runUnderlying45 rfl rfl sizeOf41 rfl) ?_
   obtain ⟨x10, x11, x12, x13, x14, x15, x16, x17, x18, x19, c9, h⟩ := h
   refine hg (v := .agg (eR x10 x11 x12 x13 x14 x15 x16 x17 x18 x19).toArray) rfl rfl rfl rfl (cB hb7) (ln (eR x10 x11 x12 x13 x14 x15 x16 x17 x18 x19) isAgg41 sizeOf41 rfl c9) ?_
   refine HList.gops rfl rfl rfl rfl (cB hb7) (HOp.buildSlice' (zs := zR) (cs := (eR x10 x11 x12 x13 x14 x15 x16 x17 x18 x19)) runUnderlying39 sizeOf41 zeroValue41 (by decide) (by kernel_rfl) (by kernel_rfl) (by decide)) ?_
   rintro _ H20 ⟨rfl, e21⟩
   replace h := h H20 e21
   refine HList.gops rfl rfl rfl rfl (cB hb7) (HOp.call' 24 [(Sl.v (Sl.mk (some (bk H1)) 1 1)), (iv 262144)] (cap := []) rfl rfl call24 (walk24 h)) ?_
   rintro _ H22 ⟨r24, rfl, h⟩
   refine hg (v := bv (decide (r24 < 0))) rfl rfl rfl rfl (cB hb7) (HVal.lss rfl rfl) (hg (v := bv (decide (r24 < 0))) rfl rfl rfl rfl (cB hb7) (mv rfl) ?_)
   obtain ⟨hT, hF⟩ := h
   rcases Bool.eq_false_or_eq_true (decide (r24 < 0)) with hb25 | hb26
   ·have h := hT hb25
    refine hs_ rfl rfl rfl rfl (cB hb25) (hs_ rfl rfl rfl rfl (cB hb25) (hs_ rfl rfl rfl rfl (cB hb25) (hs_ rfl rfl rfl rfl (cB hb25) ?_)))
    refine hg (v := bv true) rfl rfl rfl rfl (cB hb7) (pt_ rfl hb25 rfl) (hv (v := bv true) rfl (pt_ rfl hb7 rfl) (hn (nt ?_)))
    exact ⟨true, (isp rfl), h⟩
   have h := hF hb26
   refine hg (v := pp (Addr.add (bk H) 15)) rfl rfl rfl rfl (cB hb26) (fa runUnderlying45 rfl rfl sizeOf39 rfl) ?_
   obtain ⟨x29, c28, h⟩ := h
   refine hg (v := Sl.v x29) rfl rfl rfl rfl (cB hb26) (l1 isAgg39 rfl c28) (HList.gops rfl rfl rfl rfl (cB hb26) (HOp.call' 24 [(Sl.v x29), (iv 262144)] (cap := []) rfl rfl call24 (walk24 h)) ?_)
   rintro _ H30 ⟨r32, rfl, h⟩
   refine hg (v := bv (decide (r32 < 0))) rfl rfl rfl rfl (cB hb26) (HVal.lss rfl rfl) (hg (v := bv (decide (r32 < 0))) rfl rfl rfl rfl (cB hb7) (pf_ rfl hb26 rfl) ?_)
   refine hv (v := bv (decide (r32 < 0))) rfl (pt_ rfl hb7 rfl) (hn (nt ?_))
   exact ⟨(decide (r32 < 0)), (isp rfl), h⟩
  have h := hF hb8
  refine hs_ rfl rfl rfl rfl (cB hb8) (hs_ rfl rfl rfl rfl (cB hb8) (hs_ rfl rfl rfl rfl (cB hb8) (hs_ rfl rfl rfl rfl (cB hb8) ?_)))
  refine hs_ rfl rfl rfl rfl (cB hb8) (hs_ rfl rfl rfl rfl (cB hb8) (HList.uskips rfl rfl rfl rfl rfl (HList.uskips rfl rfl rfl rfl rfl (HList.uskips rfl rfl rfl rfl rfl ?_))))
  refine HList.uskips rfl rfl rfl rfl rfl (hs_ rfl rfl rfl rfl (cB hb8) (hv (v := bv false) rfl (pf_ rfl hb8 rfl) (hn (nt ?_))))
  exact ⟨false, (isp rfl), h⟩
 rintro ρ H_1 ⟨y27, hI, h⟩
 obtain ⟨ρ0, rfl⟩ := hI.ex
 clear hI; unfold F9_1 at h
 obtain ⟨hT, hF⟩ := h
 refine wk y27 rfl (fun hb33 => ?_) (fun hb33 => ?_)
 ·have h := hT hb33
  refine ws (wr_ (hv (v := bv true) rfl (av rfl) (hn (nt (HW.ret (tr ?_))))))
  exact ⟨_, resOf1 rfl Res1.t, ⟨true, rfl, h⟩⟩
 have h := hF hb33
 refine wp_ (nt (ws (wc (fun ρ H_2 => ∃ y58, Env.Is ρ [(0, (.pointer p0)), (3, (pp (bk H))), (50, (bv y58))] ∧ F9_2 Q p0 (bk H) y58 H_2) ?_ ?_)))
 ·refine wr_ (hv (v := pp (bk H)) rfl (HVal.fieldAddr0 runUnderlying45 rfl rfl sizeOf3 rfl) ?_)
  obtain ⟨x37, c36, h⟩ := h
  refine hv (v := iv x37) rfl (l1 isAgg3 rfl c36) (hv (v := bv (decide (x37 ≠ 1))) rfl (HVal.neqI rfl rfl) (hv (v := bv (decide (x37 ≠ 1))) rfl (mv rfl) ?_))
  obtain ⟨hT, hF⟩ := h
  rcases Bool.eq_false_or_eq_true (decide (x37 ≠ 1)) with hb38 | hb39
  ·have h := hT hb38
   refine hg (v := pp (Addr.add (bk H) 5)) rfl rfl rfl rfl (cB hb38) (fa runUnderlying45 rfl rfl sizeOf41 rfl) ?_
   obtain ⟨x41, x42, x43, x44, x45, x46, x47, x48, x49, x50, c40, h⟩ := h
   refine hg (v := .agg (eR x41 x42 x43 x44 x45 x46 x47 x48 x49 x50).toArray) rfl rfl rfl rfl (cB hb38) (ln (eR x41 x42 x43 x44 x45 x46 x47 x48 x49 x50) isAgg41 sizeOf41 rfl c40) ?_
   refine HList.gops rfl rfl rfl rfl (cB hb38) (HOp.buildSlice' (zs := zR) (cs := (eR x41 x42 x43 x44 x45 x46 x47 x48 x49 x50)) runUnderlying39 sizeOf41 zeroValue41 (by decide) (by kernel_rfl) (by kernel_rfl) (by decide)) ?_
   rintro _ H51 ⟨rfl, e52⟩
   replace h := h H51 e52
   refine HList.gops rfl rfl rfl rfl (cB hb38) (HOp.call' 24 [(Sl.v (Sl.mk (some (bk H_1)) 1 1)), (iv 16384)] (cap := []) rfl rfl call24 (walk24 h)) ?_
   rintro _ H53 ⟨r55, rfl, h⟩
   refine hg (v := bv (decide (r55 < 0))) rfl rfl rfl rfl (cB hb38) (HVal.lss rfl rfl) (hg (v := bv (decide (r55 < 0))) rfl rfl rfl rfl (cB hb38) (mv rfl) ?_)
   obtain ⟨hT, hF⟩ := h
   rcases Bool.eq_false_or_eq_true (decide (r55 < 0)) with hb56 | hb57
   ·have h := hT hb56
    refine hs_ rfl rfl rfl rfl (cB hb56) (hs_ rfl rfl rfl rfl (cB hb56) (hs_ rfl rfl rfl rfl (cB hb56) (hs_ rfl rfl rfl rfl (cB hb56) ?_)))
    refine hg (v := bv true) rfl rfl rfl rfl (cB hb38) (pt_ rfl hb56 rfl) (hv (v := bv true) rfl (pt_ rfl hb38 rfl) (hn (nt ?_)))
    exact ⟨true, (isp rfl), h⟩
   have h := hF hb57
   refine hg (v := pp (Addr.add (bk H) 15)) rfl rfl rfl rfl (cB hb57) (fa runUnderlying45 rfl rfl sizeOf39 rfl) ?_
   obtain ⟨x60, c59, h⟩ := h
   refine hg (v := Sl.v x60) rfl rfl rfl rfl (cB hb57) (l1 isAgg39 rfl c59) (HList.gops rfl rfl rfl rfl (cB hb57) (HOp.call' 24 [(Sl.v x60), (iv 16384)] (cap := []) rfl rfl call24 (walk24 h)) ?_)
   rintro _ H61 ⟨r63, rfl, h⟩
   refine hg (v := bv (decide (r63 < 0))) rfl rfl rfl rfl (cB hb57) (HVal.lss rfl rfl) (hg (v := bv (decide (r63 < 0))) rfl rfl rfl rfl (cB hb38) (pf_ rfl hb57 rfl) ?_)
   refine hv (v := bv (decide (r63 < 0))) rfl (pt_ rfl hb38 rfl) (hn (nt ?_))
   exact ⟨(decide (r63 < 0)), (isp rfl), h⟩
  have h := hF hb39
  refine hs_ rfl rfl rfl rfl (cB hb39) (hs_ rfl rfl rfl rfl (cB hb39) (hs_ rfl rfl rfl rfl (cB hb39) (hs_ rfl rfl rfl rfl (cB hb39) ?_)))
  refine hs_ rfl rfl rfl rfl (cB hb39) (hs_ rfl rfl rfl rfl (cB hb39) (HList.uskips rfl rfl rfl rfl rfl (HList.uskips rfl rfl rfl rfl rfl ?_)))
  refine HList.uskips rfl rfl rfl rfl rfl (HList.uskips rfl rfl rfl rfl rfl (hs_ rfl rfl rfl rfl (cB hb39) (hv (v := bv false) rfl (pf_ rfl hb39 rfl) ?_)))
  refine hn (nt ?_)
  exact ⟨false, (isp rfl), h⟩
 rintro ρ H_2 ⟨y58, hI, h⟩
 obtain ⟨ρ0, rfl⟩ := hI.ex
 clear hI; unfold F9_2 at h
 obtain ⟨hT, hF⟩ := h
 refine wk y58 rfl (fun hb64 => ?_) (fun hb64 => ?_)
 ·have h := hT hb64
  refine ws (wr_ ?_)
  obtain ⟨x66, x67, x68, x69, x70, x71, x72, x73, x74, x75, x76, x77, x78, x79, x80, x81, x82, x83, x84, x85, x86, x87, x88, c65, h⟩ := h
  refine hv (v := .agg #[(iv x66), (sv x67), (iv x68), (Sl.v x69), (sv x70), (iv x71), (iv x72), (iv x73), (iv x74), (sv x75), (bv x76), (sv x77), (iv x78), (sv x79), (Sl.v x80), (Sl.v x81), (Sl.v x82), (Sl.v x83), (sv x84), (sv x85), (iv x86), (Sl.v x87), (Sl.v x88)]) rfl (ln [(iv x66), (sv x67), (iv x68), (Sl.v x69), (sv x70), (iv x71), (iv x72), (iv x73), (iv x74), (sv x75), (bv x76), (sv x77), (iv x78), (sv x79), (Sl.v x80), (Sl.v x81), (Sl.v x82), (Sl.v x83), (sv x84), (sv x85), (iv x86), (Sl.v x87), (Sl.v x88)] isAgg45 sizeOf45 rfl c65) ?_
  refine ho rfl (HOp.call' 25 [(.agg #[(iv x66), (sv x67), (iv x68), (Sl.v x69), (sv x70), (iv x71), (iv x72), (iv x73), (iv x74), (sv x75), (bv x76), (sv x77), (iv x78), (sv x79), (Sl.v x80), (Sl.v x81), (Sl.v x82), (Sl.v x83), (sv x84), (sv x85), (iv x86), (Sl.v x87), (Sl.v x88)])] (cap := []) rfl rfl call25 (walk25 h)) ?_
  rintro _ H89 ⟨r91, rfl, h⟩
  refine hv (v := bv r91) rfl (av rfl) (hn (nt (HW.ret (tr ?_))))
  exact ⟨_, resOf1 rfl Res1.t, ⟨r91, rfl, h⟩⟩
 have h := hF hb64
 refine wp_ (nt (ws (wr_ (hv (v := .pointer p0) rfl (mv rfl) (hv (v := pp (Addr.add (bk H) 16)) rfl (fa runUnderlying45 rfl rfl sizeOf43 rfl) ?_)))))
 obtain ⟨x93, x94, x95, x96, x97, x98, x99, c92, h⟩ := h
 refine hv (v := .agg (xR x93 x94 x95 x96 x97 x98 x99).toArray) rfl (ln (xR x93 x94 x95 x96 x97 x98 x99) isAgg43 sizeOf43 rfl c92) ?_
 refine ho rfl (HOp.call' 26 [(.pointer p0), (.agg (xR x93 x94 x95 x96 x97 x98 x99).toArray)] (cap := []) rfl rfl call26 (walk26 h)) ?_
 rintro _ H100 ⟨r102, r103, r104, r105, r106, r107, r108, rfl, h⟩
 refine ho rfl (HOp.alloc zeroValue43) ?_
 rintro _ H109 ⟨rfl, e110⟩
 replace h := h H109 e110
 obtain ⟨z113, h⟩ := h
 refine hq (HOp.storeN' (l := (xR r102 r103 r104 r105 r106 r107 r108)) sizeOf43 rfl rfl rfl z113) ?_
 rintro _ H111 e112
 replace h := h H111 e112
 refine hn (nt (ws (wr_ (hv (v := bv true) rfl (av rfl) (hn (nt (wc (fun ρ H_3 => ∃ y199, Env.Is ρ [(0, (.pointer p0)), (3, (pp (bk H))), (5, (pp (bk H100))), (6, (bv y199))] ∧ F9_3 Q p0 (bk H) (bk H100) y199 H_3) ?_ ?_)))))))
 ·refine ws (wr_ (hv (v := pp (bk H)) rfl (HVal.fieldAddr0 runUnderlying45 rfl rfl sizeOf3 rfl) ?_))
  obtain ⟨x118, c117, h⟩ := h
  refine hv (v := iv x118) rfl (l1 isAgg3 rfl c117) (hn (nt (wb (ws (wr_ (hv (v := bv (decide (x118 = 1))) rfl (HVal.eqlI rfl rfl) ?_))))))
  refine hv (v := bv (decide (x118 = 1))) rfl (av rfl) (hn (nt ?_))
  obtain ⟨hT, hF⟩ := h
  refine wk (decide (x118 = 1)) rfl (fun hb119 => ?_) (fun hb119 => ?_)
  ·have h := hT hb119
   refine ws (wr_ (hv (v := .pointer p0) rfl (mv rfl) (hv (v := pp (Addr.add (bk H) 1)) rfl (fa runUnderlying45 rfl rfl sizeOf36 rfl) ?_)))
   obtain ⟨x121, x122, x123, c120, h⟩ := h
   refine hv (v := .agg (tR x121 x122 x123).toArray) rfl (ln (tR x121 x122 x123) isAgg36 sizeOf36 rfl c120) (ho rfl (HOp.call' 27 [(.pointer p0), (.agg (tR x121 x122 x123).toArray)] (cap := []) rfl rfl call27 (walk27 h)) ?_)
   rintro _ H124 ⟨r126, r127, r128, rfl, h⟩
   refine ho rfl (HOp.alloc zeroValue36) ?_
   rintro _ H129 ⟨rfl, e130⟩
   replace h := h H129 e130
   obtain ⟨z133, h⟩ := h
   refine hq (HOp.storeN' (l := (tR r126 r127 r128)) sizeOf36 rfl rfl rfl z133) ?_
   rintro _ H131 e132
   replace h := h H131 e132
   refine hn (nt (ws (wr_ ?_)))
   obtain ⟨x135, x136, x137, c134, h⟩ := h
   refine hv (v := .agg (tR x135 x136 x137).toArray) rfl (ln (tR x135 x136 x137) isAgg36 sizeOf36 rfl c134) (hv (v := pp (Addr.add (bk H) 4)) rfl (fa runUnderlying45 rfl rfl sizeOf9 rfl) ?_)
   obtain ⟨x139, c138, h⟩ := h
   refine hv (v := sv x139) rfl (l1 isAgg9 rfl c138) (hv (v := pp (Addr.add (bk H100) 6)) rfl (fa runUnderlying43 rfl rfl sizeOf30 rfl) ?_)
   obtain ⟨x141, c140, h⟩ := h
   refine hv (v := Sl.v x141) rfl (l1 isAgg30 rfl c140) (ho rfl (HOp.call' 28 [(.agg (tR x135 x136 x137).toArray), (sv x139), (Sl.v x141)] (cap := []) rfl rfl call28 (walk28 h)) ?_)
   rintro _ H142 ⟨r144, r145, r146, r147, r148, rfl, h⟩
   refine hv (v := .tuple #[(.agg (vR r144 r145 r146 r147).toArray), (iv r148)]) rfl (mv rfl) (hv (v := .agg (vR r144 r145 r146 r147).toArray) rfl (HVal.extract rfl rfl) ?_)
   refine hv (v := iv r148) rfl (HVal.extract rfl rfl) (ho rfl (HOp.alloc zeroValue38) ?_)
   rintro _ H149 ⟨rfl, e150⟩
   replace h := h H149 e150
   obtain ⟨z153, h⟩ := h
   refine hq (HOp.storeN' (l := (vR r144 r145 r146 r147)) sizeOf38 rfl rfl rfl z153) ?_
   rintro _ H151 e152
   replace h := h H151 e152
   refine hv (v := iv r148) rfl (av rfl) (hn (nt (ws (wr_ (hv (v := pp (Addr.add (bk H) 1)) rfl (fa runUnderlying45 rfl rfl sizeOf36 rfl) ?_)))))
   obtain ⟨x155, x156, x157, c154, h⟩ := h
   refine hv (v := .agg (tR x155 x156 x157).toArray) rfl (ln (tR x155 x156 x157) isAgg36 sizeOf36 rfl c154) (hv (v := pp (Addr.add (bk H) 4)) rfl (fa runUnderlying45 rfl rfl sizeOf9 rfl) ?_)
   obtain ⟨x159, c158, h⟩ := h
   refine hv (v := sv x159) rfl (l1 isAgg9 rfl c158) (hv (v := pp (Addr.add (bk H) 16)) rfl (fa runUnderlying45 rfl rfl sizeOf43 rfl) ?_)
   refine hv (v := pp (Addr.add (Addr.add (bk H) 16) 6)) rfl (fa runUnderlying43 rfl rfl sizeOf30 rfl) ?_
   obtain ⟨x161, c160, h⟩ := h
   refine hv (v := Sl.v x161) rfl (l1 isAgg30 rfl c160) (ho rfl (HOp.call' 29 [(.agg (tR x155 x156 x157).toArray), (sv x159), (Sl.v x161)] (cap := []) rfl rfl call29 (walk29 h)) ?_)
   rintro _ H162 ⟨r164, r165, r166, r167, r168, rfl, h⟩
   refine hv (v := .tuple #[(.agg (vR r164 r165 r166 r167).toArray), (iv r168)]) rfl (mv rfl) (hv (v := .agg (vR r164 r165 r166 r167).toArray) rfl (HVal.extract rfl rfl) ?_)
   refine hv (v := iv r168) rfl (HVal.extract rfl rfl) (ho rfl (HOp.alloc zeroValue38) ?_)
   rintro _ H169 ⟨rfl, e170⟩
   replace h := h H169 e170
   obtain ⟨z173, h⟩ := h
   refine hq (HOp.storeN' (l := (vR r164 r165 r166 r167)) sizeOf38 rfl rfl rfl z173) ?_
   rintro _ H171 e172
   replace h := h H171 e172
   refine hv (v := iv r168) rfl (av rfl) (hn (nt (wr_ ?_)))
   obtain ⟨x175, x176, x177, x178, c174, h⟩ := h
   refine hv (v := .agg (vR x175 x176 x177 x178).toArray) rfl (ln (vR x175 x176 x177 x178) isAgg38 sizeOf38 rfl c174) ?_
   obtain ⟨x180, x181, x182, x183, c179, h⟩ := h
   refine hv (v := .agg (vR x180 x181 x182 x183).toArray) rfl (ln (vR x180 x181 x182 x183) isAgg38 sizeOf38 rfl c179) (hv (v := bv (decide (x175 = x180) && (decide (x176 = x181) && (seq x177 x182 && (x178 == x183))))) rfl (eqs38_eql rfl rfl) ?_)
   refine hv (v := bv (decide (x175 = x180) && (decide (x176 = x181) && (seq x177 x182 && (x178 == x183))))) rfl (mv rfl) ?_
   obtain ⟨hT, hF⟩ := h
   rcases Bool.eq_false_or_eq_true (decide (x175 = x180) && (decide (x176 = x181) && (seq x177 x182 && (x178 == x183)))) with hb184 | hb185
   ·have h := hT hb184
    refine hg (v := iv r148) rfl rfl rfl rfl (cB hb184) (mv rfl) (hg (v := iv r168) rfl rfl rfl rfl (cB hb184) (mv rfl) ?_)
    refine hg (v := bv (decide (r148 = r168))) rfl rfl rfl rfl (cB hb184) (HVal.eqlI rfl rfl) (hv (v := bv (decide (r148 = r168))) rfl (pt_ rfl hb184 rfl) ?_)
    refine hv (v := bv (decide (r148 = r168))) rfl (mv rfl) ?_
    obtain ⟨hT, hF⟩ := h
    rcases Bool.eq_false_or_eq_true (decide (r148 = r168)) with hb186 | hb187
    ·have h := hT hb186
     refine hg (v := pp (Addr.add (bk H) 1)) rfl rfl rfl rfl (cB hb186) (fa runUnderlying45 rfl rfl sizeOf36 rfl) ?_
     obtain ⟨x189, x190, x191, c188, h⟩ := h
     refine hg (v := .agg (tR x189 x190 x191).toArray) rfl rfl rfl rfl (cB hb186) (ln (tR x189 x190 x191) isAgg36 sizeOf36 rfl c188) ?_
     obtain ⟨x193, x194, x195, c192, h⟩ := h
     refine hg (v := .agg (tR x193 x194 x195).toArray) rfl rfl rfl rfl (cB hb186) (ln (tR x193 x194 x195) isAgg36 sizeOf36 rfl c192) ?_
     refine HList.gops rfl rfl rfl rfl (cB hb186) (HOp.call' 30 [(.agg (tR x189 x190 x191).toArray), (.agg (tR x193 x194 x195).toArray)] (cap := []) rfl rfl call30 (walk30 h)) ?_
     rintro _ H196 ⟨r198, rfl, h⟩
     refine hv (v := bv r198) rfl (pt_ rfl hb186 rfl) (hv (v := bv r198) rfl (av rfl) (hn (nb (nt ?_))))
     exact ⟨r198, (isp rfl), h⟩
    have h := hF hb187
    refine hs_ rfl rfl rfl rfl (cB hb187) (hs_ rfl rfl rfl rfl (cB hb187) (hs_ rfl rfl rfl rfl (cB hb187) (hs_ rfl rfl rfl rfl (cB hb187) ?_)))
    refine hv (v := bv false) rfl (pf_ rfl hb187 rfl) (hv (v := bv false) rfl (av rfl) (hn (nb (nt ?_))))
    exact ⟨false, (isp rfl), h⟩
   have h := hF hb185
   refine hs_ rfl rfl rfl rfl (cB hb185) (hs_ rfl rfl rfl rfl (cB hb185) (hs_ rfl rfl rfl rfl (cB hb185) (hv (v := bv false) rfl (pf_ rfl hb185 rfl) ?_)))
   refine hv (v := bv false) rfl (mv rfl) (hs_ rfl rfl rfl rfl rfl (hs_ rfl rfl rfl rfl rfl (hs_ rfl rfl rfl rfl rfl ?_)))
   refine hs_ rfl rfl rfl rfl rfl (hv (v := bv false) rfl (pf_ rfl rfl rfl) (hv (v := bv false) rfl (av rfl) (hn ?_)))
   refine nb (nt ?_)
   exact ⟨false, (isp rfl), h⟩
  have h := hF hb119
  refine ws (wr_ (hv (v := bv (decide (x118 = 2))) rfl (HVal.eqlI rfl rfl) (hv (v := bv (decide (x118 = 2))) rfl (av rfl) ?_)))
  refine hn (nt ?_)
  obtain ⟨hT, hF⟩ := h
  refine wk (decide (x118 = 2)) rfl (fun hb200 => ?_) (fun hb200 => ?_)
  ·have h := hT hb200
   refine ws (wr_ (hv (v := .pointer p0) rfl (mv rfl) (hv (v := pp (Addr.add (bk H) 5)) rfl (fa runUnderlying45 rfl rfl sizeOf41 rfl) ?_)))
   obtain ⟨x202, x203, x204, x205, x206, x207, x208, x209, x210, x211, c201, h⟩ := h
   refine hv (v := .agg (eR x202 x203 x204 x205 x206 x207 x208 x209 x210 x211).toArray) rfl (ln (eR x202 x203 x204 x205 x206 x207 x208 x209 x210 x211) isAgg41 sizeOf41 rfl c201) ?_
   refine ho rfl (HOp.buildSlice' (zs := zR) (cs := (eR x202 x203 x204 x205 x206 x207 x208 x209 x210 x211)) runUnderlying39 sizeOf41 zeroValue41 (by decide) (by kernel_rfl) (by kernel_rfl) (by decide)) ?_
   rintro _ H212 ⟨rfl, e213⟩
   replace h := h H212 e213
   refine ho rfl (HOp.call' 31 [(.pointer p0), (Sl.v (Sl.mk (some (bk H111)) 1 1))] (cap := []) rfl rfl call31 (walk31 h)) ?_
   rintro _ H214 ⟨r216, rfl, h⟩
   refine hv (v := Sl.v r216) rfl (av rfl) (hn (nt (wc (fun ρ H_4 => ∃ y256 y257, Env.Is ρ [(0, (.pointer p0)), (3, (pp (bk H))), (5, (pp (bk H100))), (12, (Sl.v r216)), (13, (pp y256)), (14, (iv y257))] ∧ F9_4 Q p0 (bk H) (bk H100) r216 y256 y257 H_4) ?_ ?_)))
   ·refine HW.draw mixed [(0, some []), (1, some []), (2, some [4, 9]), (3, some [4, 9]), (11, none), (11, none), (11, none), (11, none), (11, none), (11, none), (11, none)] rfl (by kernel_rfl) (by kernel_rfl) ?_
    refine pv (v := Sl.v r216) rfl rfl (fun _ => mv rfl) ?_
    obtain ⟨a221, e222, b223, b224, h⟩ := h
    refine pv (v := pp (Addr.add a221 ((0 : Int).toNat * 10))) rfl rfl (fun _ => ia runUnderlying39 sizeOf41 (Sl.v_some rfl e222) rfl b223 b224) ?_
    obtain ⟨x226, x227, x228, x229, x230, x231, x232, x233, x234, x235, c225, h⟩ := h
    refine pl (v := .agg (eR x226 x227 x228 x229 x230 x231 x232 x233 x234 x235).toArray) (fun X => cells X (Addr.add a221 ((0 : Int).toNat * 10)) (eR x226 x227 x228 x229 x230 x231 x232 x233 x234 x235) 0) rfl rfl (fun _ hX => ln (eR x226 x227 x228 x229 x230 x231 x232 x233 x234 x235) isAgg41 sizeOf41 rfl hX) c225 ?_
    obtain ⟨x237, x238, x239, x240, x241, x242, x243, c236, h⟩ := h
    refine pl (v := .agg (xR x237 x238 x239 x240 x241 x242 x243).toArray) (fun X => cells X (bk H100) (xR x237 x238 x239 x240 x241 x242 x243) 0) rfl rfl (fun _ hX => ln (xR x237 x238 x239 x240 x241 x242 x243) isAgg43 sizeOf43 rfl hX) c236 ?_
    obtain ⟨hB4, hB8⟩ := h
    refine HPlan.fork2 (i := 4) (j := 8) (by kernel_rfl) ?_ ?_
    ·have h := hB4
     clear hB4 hB8
     refine HBr.ops' [(5, some []), (6, some []), (7, some []), (8, none), (9, none), (10, some [])] rfl (by kernel_rfl) (by kernel_rfl) rfl rfl rfl (HOp.call' 22 [(.agg (eR x226 x227 x228 x229 x230 x231 x232 x233 x234 x235).toArray), (.agg (xR x237 x238 x239 x240 x241 x242 x243).toArray)] (cap := []) rfl rfl call22 (walk22 h)) ?_
     rintro _ H244 ⟨r246, r247, r248, r249, r250, rfl, h⟩
     refine ⟨SC_of ⟨nofun, nofun, trivial⟩, ?_⟩
     refine pv (v := .tuple #[(.agg (vR r246 r247 r248 r249).toArray), (iv r250)]) rfl rfl (fun _ => mv rfl) (pv (v := .agg (vR r246 r247 r248 r249).toArray) rfl rfl (fun _ => HVal.extract rfl rfl) ?_)
     refine pv (v := iv r250) rfl rfl (fun _ => HVal.extract rfl rfl) (po rfl rfl (HOp.alloc zeroValue38) ?_)
     rintro _ H251 ⟨rfl, e252⟩
     replace h := h H251 e252
     refine ⟨SC_of ⟨nofun, nofun, trivial⟩, ?_⟩
     obtain ⟨z255, h⟩ := h
     refine pn rfl (HOp.storeN' (l := (vR r246 r247 r248 r249)) sizeOf38 rfl rfl rfl z255) ?_
     rintro _ H253 e254
     replace h := h H253 e254
     refine ⟨SC_of ⟨nofun, nofun, trivial⟩, ?_⟩
     refine pv (v := iv r250) rfl rfl (fun _ => av rfl) (HPlan.done (nt ?_))
     exact ⟨(bk H244), r250, (isp rfl), h⟩
    have h := hB8
    clear hB4 hB8
    refine HBr.ops' [(4, none), (5, some []), (6, some []), (7, some []), (9, none), (10, some [])] rfl (by kernel_rfl) (by kernel_rfl) rfl rfl rfl (HOp.alloc zeroValue38) ?_
    rintro _ H258 ⟨rfl, e259⟩
    replace h := h H258 e259
    obtain ⟨s260, s261, h⟩ := h
    refine ⟨SC_of ⟨fun _ => s260, fun _ => s261, trivial⟩, ?_⟩
    refine po rfl rfl (HOp.call' 22 [(.agg (eR x226 x227 x228 x229 x230 x231 x232 x233 x234 x235).toArray), (.agg (xR x237 x238 x239 x240 x241 x242 x243).toArray)] (cap := []) rfl rfl call22 (walk22 h)) ?_
    rintro _ H262 ⟨r264, r265, r266, r267, r268, rfl, h⟩
    refine ⟨SC_of ⟨nofun, nofun, trivial⟩, ?_⟩
    refine pv (v := .tuple #[(.agg (vR r264 r265 r266 r267).toArray), (iv r268)]) rfl rfl (fun _ => mv rfl) (pv (v := .agg (vR r264 r265 r266 r267).toArray) rfl rfl (fun _ => HVal.extract rfl rfl) ?_)
    refine pv (v := iv r268) rfl rfl (fun _ => HVal.extract rfl rfl) ?_
    obtain ⟨z271, h⟩ := h
    refine pn rfl (HOp.storeN' (l := (vR r264 r265 r266 r267)) sizeOf38 rfl rfl rfl z271) ?_
    rintro _ H269 e270
    replace h := h H269 e270
    refine ⟨SC_of ⟨nofun, nofun, trivial⟩, ?_⟩
    refine pv (v := iv r268) rfl rfl (fun _ => av rfl) (HPlan.done (nt ?_))
    exact ⟨(bk H214), r268, (isp rfl), h⟩
   rintro ρ H_4 ⟨y256, y257, hI, h⟩
   obtain ⟨ρ0, rfl⟩ := hI.ex
   clear hI; unfold F9_4 at h
   refine ws (wr_ (hv (v := pp (Addr.add (bk H) 5)) rfl (fa runUnderlying45 rfl rfl sizeOf41 rfl) ?_))
   obtain ⟨x273, x274, x275, x276, x277, x278, x279, x280, x281, x282, c272, h⟩ := h
   refine hv (v := .agg (eR x273 x274 x275 x276 x277 x278 x279 x280 x281 x282).toArray) rfl (ln (eR x273 x274 x275 x276 x277 x278 x279 x280 x281 x282) isAgg41 sizeOf41 rfl c272) ?_
   refine hv (v := pp (Addr.add (bk H) 16)) rfl (fa runUnderlying45 rfl rfl sizeOf43 rfl) ?_
   obtain ⟨x284, x285, x286, x287, x288, x289, x290, c283, h⟩ := h
   refine hv (v := .agg (xR x284 x285 x286 x287 x288 x289 x290).toArray) rfl (ln (xR x284 x285 x286 x287 x288 x289 x290) isAgg43 sizeOf43 rfl c283) ?_
   refine ho rfl (HOp.call' 32 [(.agg (eR x273 x274 x275 x276 x277 x278 x279 x280 x281 x282).toArray), (.agg (xR x284 x285 x286 x287 x288 x289 x290).toArray)] (cap := []) rfl rfl call32 (walk32 h)) ?_
   rintro _ H291 ⟨r293, r294, r295, r296, r297, rfl, h⟩
   refine hv (v := .tuple #[(.agg (vR r293 r294 r295 r296).toArray), (iv r297)]) rfl (mv rfl) (hv (v := .agg (vR r293 r294 r295 r296).toArray) rfl (HVal.extract rfl rfl) ?_)
   refine hv (v := iv r297) rfl (HVal.extract rfl rfl) (ho rfl (HOp.alloc zeroValue38) ?_)
   rintro _ H298 ⟨rfl, e299⟩
   replace h := h H298 e299
   obtain ⟨z302, h⟩ := h
   refine hq (HOp.storeN' (l := (vR r293 r294 r295 r296)) sizeOf38 rfl rfl rfl z302) ?_
   rintro _ H300 e301
   replace h := h H300 e301
   refine hv (v := iv r297) rfl (av rfl) (hn (nt (wr_ ?_)))
   obtain ⟨x304, x305, x306, x307, c303, h⟩ := h
   refine hv (v := .agg (vR x304 x305 x306 x307).toArray) rfl (ln (vR x304 x305 x306 x307) isAgg38 sizeOf38 rfl c303) ?_
   obtain ⟨x309, x310, x311, x312, c308, h⟩ := h
   refine hv (v := .agg (vR x309 x310 x311 x312).toArray) rfl (ln (vR x309 x310 x311 x312) isAgg38 sizeOf38 rfl c308) (hv (v := bv (decide (x304 = x309) && (decide (x305 = x310) && (seq x306 x311 && (x307 == x312))))) rfl (eqs38_eql rfl rfl) ?_)
   refine hv (v := bv (decide (x304 = x309) && (decide (x305 = x310) && (seq x306 x311 && (x307 == x312))))) rfl (mv rfl) ?_
   obtain ⟨hT, hF⟩ := h
   rcases Bool.eq_false_or_eq_true (decide (x304 = x309) && (decide (x305 = x310) && (seq x306 x311 && (x307 == x312)))) with hb313 | hb314
   ·have h := hT hb313
    refine hg (v := iv y257) rfl rfl rfl rfl (cB hb313) (mv rfl) (hg (v := iv r297) rfl rfl rfl rfl (cB hb313) (mv rfl) ?_)
    refine hg (v := bv (decide (y257 = r297))) rfl rfl rfl rfl (cB hb313) (HVal.eqlI rfl rfl) (hv (v := bv (decide (y257 = r297))) rfl (pt_ rfl hb313 rfl) ?_)
    refine hv (v := bv (decide (y257 = r297))) rfl (mv rfl) ?_
    obtain ⟨hT, hF⟩ := h
    rcases Bool.eq_false_or_eq_true (decide (y257 = r297)) with hb315 | hb316
    ·have h := hT hb315
     refine hg (v := pp (Addr.add (bk H) 5)) rfl rfl rfl rfl (cB hb315) (fa runUnderlying45 rfl rfl sizeOf41 rfl) ?_
     obtain ⟨x318, x319, x320, x321, x322, x323, x324, x325, x326, x327, c317, h⟩ := h
     refine hg (v := .agg (eR x318 x319 x320 x321 x322 x323 x324 x325 x326 x327).toArray) rfl rfl rfl rfl (cB hb315) (ln (eR x318 x319 x320 x321 x322 x323 x324 x325 x326 x327) isAgg41 sizeOf41 rfl c317) ?_
     refine HList.gops rfl rfl rfl rfl (cB hb315) (HOp.buildSlice' (zs := zR) (cs := (eR x318 x319 x320 x321 x322 x323 x324 x325 x326 x327)) runUnderlying39 sizeOf41 zeroValue41 (by decide) (by kernel_rfl) (by kernel_rfl) (by decide)) ?_
     rintro _ H328 ⟨rfl, e329⟩
     replace h := h H328 e329
     refine hg (v := Sl.v r216) rfl rfl rfl rfl (cB hb315) (mv rfl) (HList.gops rfl rfl rfl rfl (cB hb315) (HOp.call' 33 [(Sl.v (Sl.mk (some (bk H300)) 1 1)), (Sl.v r216)] (cap := []) rfl rfl call33 (walk33 h)) ?_)
     rintro _ H330 ⟨r332, rfl, h⟩
     refine hv (v := bv r332) rfl (pt_ rfl hb315 rfl) (hv (v := bv r332) rfl (av rfl) (hn (nb (nt ?_))))
     exact ⟨r332, (isp rfl), h⟩
    have h := hF hb316
    refine hs_ rfl rfl rfl rfl (cB hb316) (hs_ rfl rfl rfl rfl (cB hb316) (hs_ rfl rfl rfl rfl (cB hb316) (hs_ rfl rfl rfl rfl (cB hb316) ?_)))
    refine hs_ rfl rfl rfl rfl (cB hb316) (hv (v := bv false) rfl (pf_ rfl hb316 rfl) (hv (v := bv false) rfl (av rfl) ?_))
    refine hn (nb (nt ?_))
    exact ⟨false, (isp rfl), h⟩
   have h := hF hb314
   refine hs_ rfl rfl rfl rfl (cB hb314) (hs_ rfl rfl rfl rfl (cB hb314) (hs_ rfl rfl rfl rfl (cB hb314) (hv (v := bv false) rfl (pf_ rfl hb314 rfl) ?_)))
   refine hv (v := bv false) rfl (mv rfl) (hs_ rfl rfl rfl rfl rfl (hs_ rfl rfl rfl rfl rfl (hs_ rfl rfl rfl rfl rfl ?_)))
   refine hs_ rfl rfl rfl rfl rfl (hs_ rfl rfl rfl rfl rfl (hv (v := bv false) rfl (pf_ rfl rfl rfl) (hv (v := bv false) rfl (av rfl) ?_)))
   refine hn (nb (nt ?_))
   exact ⟨false, (isp rfl), h⟩
  have h := hF hb200
  refine ws (wr_ (hv (v := bv (decide (x118 = 3))) rfl (HVal.eqlI rfl rfl) (hv (v := bv (decide (x118 = 3))) rfl (av rfl) ?_)))
  refine hn (nt ?_)
  obtain ⟨hT, hF⟩ := h
  refine wk (decide (x118 = 3)) rfl (fun hb333 => ?_) (fun hb333 => ?_)
  ·have h := hT hb333
   refine ws (wr_ (hv (v := .pointer p0) rfl (mv rfl) (hv (v := pp (Addr.add (bk H) 15)) rfl (fa runUnderlying45 rfl rfl sizeOf39 rfl) ?_)))
   obtain ⟨x335, c334, h⟩ := h
   refine hv (v := Sl.v x335) rfl (l1 isAgg39 rfl c334) (ho rfl (HOp.call' 31 [(.pointer p0), (Sl.v x335)] (cap := []) rfl rfl call31 (walk31 h)) ?_)
   rintro _ H336 ⟨r338, rfl, h⟩
   refine hv (v := Sl.v r338) rfl (av rfl) (hn (nt (HW.draw mixed [(0, some []), (1, some [2]), (3, some []), (4, some [7]), (5, some []), (6, some [7]), (2, none), (7, none), (8, some []), (9, some []), (10, some []), (11, some [13]), (12, some []), (13, none), (14, some []), (15, some [])] rfl (by kernel_rfl) (by kernel_rfl) ?_)))
   refine pv (v := Sl.v r338) rfl rfl (fun _ => mv rfl) ?_
   obtain ⟨x340, x341, x342, x343, x344, x345, x346, c339, h⟩ := h
   refine pl (v := .agg (xR x340 x341 x342 x343 x344 x345 x346).toArray) (fun X => cells X (bk H100) (xR x340 x341 x342 x343 x344 x345 x346) 0) rfl rfl (fun _ hX => ln (xR x340 x341 x342 x343 x344 x345 x346) isAgg43 sizeOf43 rfl hX) c339 ?_
   refine pv (v := pp (Addr.add (bk H) 15)) rfl rfl (fun _ => fa runUnderlying45 rfl rfl sizeOf39 rfl) ?_
   obtain ⟨x348, c347, h⟩ := h
   refine pl (v := Sl.v x348) (fun X => cell X (Addr.add (bk H) 15) = some (Sl.v x348)) rfl rfl (fun _ hX => l1 isAgg39 rfl hX) c347 (pv (v := pp (Addr.add (bk H) 16)) rfl rfl (fun _ => fa runUnderlying45 rfl rfl sizeOf43 rfl) ?_)
   obtain ⟨x350, x351, x352, x353, x354, x355, x356, c349, h⟩ := h
   refine pl (v := .agg (xR x350 x351 x352 x353 x354 x355 x356).toArray) (fun X => cells X (Addr.add (bk H) 16) (xR x350 x351 x352 x353 x354 x355 x356) 0) rfl rfl (fun _ hX => ln (xR x350 x351 x352 x353 x354 x355 x356) isAgg43 sizeOf43 rfl hX) c349 ?_
   refine po rfl rfl (HOp.call' 21 [(Sl.v r338), (.agg (xR x340 x341 x342 x343 x344 x345 x346).toArray)] (cap := []) rfl rfl call21 (walk21 h)) ?_
   rintro _ H357 ⟨r359, rfl, h⟩
   obtain ⟨s360, s361, h⟩ := h
   refine ⟨SC_of ⟨fun _ => s360, fun _ => s361, nofun, trivial⟩, ?_⟩
   refine po rfl rfl (HOp.call' 34 [(Sl.v x348), (.agg (xR x350 x351 x352 x353 x354 x355 x356).toArray)] (cap := []) rfl rfl call34 (walk34 h)) ?_
   rintro _ H362 ⟨r364, rfl, h⟩
   refine ⟨SC_of ⟨nofun, nofun, nofun, trivial⟩, ?_⟩
   refine pv (v := bv (r359 == r364)) rfl rfl (fun _ => HVal.eqlB underlying4 rfl rfl) (pv (v := bv (r359 == r364)) rfl rfl (fun _ => mv rfl) ?_)
   obtain ⟨hT, hF⟩ := h
   rcases Bool.eq_false_or_eq_true (r359 == r364) with hb365 | hb366
   ·have h := hT hb365
    refine HPlan.gtakev (v := pp (Addr.add (bk H) 15)) rfl rfl rfl rfl rfl (cB hb365) (fun _ => fa runUnderlying45 rfl rfl sizeOf39 rfl) ?_
    obtain ⟨x368, c367, h⟩ := h
    refine HPlan.gtakel (v := Sl.v x368) (fun X => cell X (Addr.add (bk H) 15) = some (Sl.v x368)) rfl rfl rfl rfl rfl (cB hb365) (fun _ hX => l1 isAgg39 rfl hX) c367 ?_
    refine HPlan.gtakev (v := Sl.v r338) rfl rfl rfl rfl rfl (cB hb365) (fun _ => mv rfl) (HPlan.gops rfl rfl rfl rfl rfl (cB hb365) (HOp.call' 33 [(Sl.v x368), (Sl.v r338)] (cap := []) rfl rfl call33 (walk33 h)) ?_)
    rintro _ H369 ⟨r371, rfl, h⟩
    refine ⟨SC_of ⟨nofun, nofun, nofun, nofun, trivial⟩, ?_⟩
    refine pv (v := bv r371) rfl rfl (fun _ => pt_ rfl hb365 rfl) (pv (v := bv r371) rfl rfl (fun _ => av rfl) (HPlan.done ?_))
    refine nb (nt ?_)
    exact ⟨r371, (isp rfl), h⟩
   have h := hF hb366
   refine pg rfl rfl rfl rfl (cB hb366) (pg rfl rfl rfl rfl (cB hb366) (pg rfl rfl rfl rfl (cB hb366) (HPlan.opgskip rfl rfl rfl rfl (cB hb366) ?_)))
   refine pv (v := bv false) rfl rfl (fun _ => pf_ rfl hb366 rfl) (pv (v := bv false) rfl rfl (fun _ => av rfl) (HPlan.done ?_))
   refine nb (nt ?_)
   exact ⟨false, (isp rfl), h⟩
  have h := hF hb333
  refine wp_ (nb (nt ?_))
  exact ⟨true, (isp rfl), h⟩
 rintro ρ H_3 ⟨y199, hI, h⟩
 obtain ⟨ρ0, rfl⟩ := hI.ex
 clear hI; unfold F9_3 at h
 refine ws (wr_ (hv (v := .pointer p0) rfl (mv rfl) (hv (v := pp (Addr.add (bk H) 16)) rfl (fa runUnderlying45 rfl rfl sizeOf43 rfl) ?_)))
 obtain ⟨x373, x374, x375, x376, x377, x378, x379, c372, h⟩ := h
 refine hv (v := .agg (xR x373 x374 x375 x376 x377 x378 x379).toArray) rfl (ln (xR x373 x374 x375 x376 x377 x378 x379) isAgg43 sizeOf43 rfl c372) ?_
 obtain ⟨x381, x382, x383, x384, x385, x386, x387, c380, h⟩ := h
 refine hv (v := .agg (xR x381 x382 x383 x384 x385 x386 x387).toArray) rfl (ln (xR x381 x382 x383 x384 x385 x386 x387) isAgg43 sizeOf43 rfl c380) ?_
 refine ho rfl (HOp.call' 35 [(.pointer p0), (.agg (xR x373 x374 x375 x376 x377 x378 x379).toArray), (.agg (xR x381 x382 x383 x384 x385 x386 x387).toArray)] (cap := []) rfl rfl call35 (walk35 h)) ?_
 rintro _ H388 ⟨r390, rfl, h⟩
 refine hv (v := bv r390) rfl (av rfl) (hn (nt (ws (wr_ (hv (v := .pointer p0) rfl (mv rfl) (ho rfl (HOp.call' 36 [(.pointer p0)] (cap := []) rfl rfl call36 (walk36 h)) ?_))))))
 rintro _ H391 ⟨rfl, h⟩
 refine hn (nt (ws (wr_ (hv (v := bv y199) rfl (mv rfl) (hv (v := bv y199) rfl (mv rfl) ?_)))))
 obtain ⟨hT, hF⟩ := h
 rcases Bool.eq_false_or_eq_true y199 with hb393 | hb394
 ·have h := hT hb393
  refine hg (v := bv r390) rfl rfl rfl rfl (cB hb393) (mv rfl) (hv (v := bv r390) rfl (pt_ rfl hb393 rfl) (hv (v := bv r390) rfl (av rfl) ?_))
  refine hn (nt (HW.ret ?_))
  exact ⟨_, resOf1 rfl Res1.t, ⟨r390, rfl, h⟩⟩
 have h := hF hb394
 refine hs_ rfl rfl rfl rfl (cB hb394) (hv (v := bv false) rfl (pf_ rfl hb394 rfl) (hv (v := bv false) rfl (av rfl) ?_))
 refine hn (nt (HW.ret ?_))
 exact ⟨_, resOf1 rfl Res1.t, ⟨false, rfl, h⟩⟩

def F3_L1b (Q : ZQB) (X1 : ZQI) (y8 : Sl) (y9 : Addr) (y7 : Int) (H_1 : Hp) : Prop :=
((decide (y7 < ((y8).n : Int))) = true → (∃ a11, (y8).b = some a11 ∧ (0 : Int) ≤ y7 ∧ y7 < ((y8).n : Int) ∧ (
 ∃ x16 x17 x18 x19 x20 x21 x22 x23 x24 x25 x26 x27 x28 x29 x30 x31 x32 x33 x34 x35 x36 x37 x38, cells H_1 (Addr.add a11 (y7.toNat * 23)) [(iv x16), (sv x17), (iv x18), (Sl.v x19), (sv x20), (iv x21), (iv x22), (iv x23), (iv x24), (sv x25), (bv x26), (sv x27), (iv x28), (sv x29), (Sl.v x30), (Sl.v x31), (Sl.v x32), (Sl.v x33), (sv x34), (sv x35), (iv x36), (Sl.v x37), (Sl.v x38)] 0 ∧ (
 F9 (some y9) x16 x17 x18 x19 x20 x21 x22 x23 x24 x25 x26 x27 x28 x29 x30 x31 x32 x33 x34 x35 x36 x37 x38 H_1 (fun r41 H39 =>
 ((!r41) = true → (Q false H39)) ∧
 ((!r41) = false → (X1 (IntKind.i64.wrap (y7 + 1)) H39))))))) ∧
 ((decide (y7 < ((y8).n : Int))) = false → (Q true H_1))
def F3_L1 (Q : ZQB) (y8 : Sl) (y9 : Addr) (y7 : Int) (H_1 : Hp) : Prop :=
 ∀ X1 : ZQI, (∀ (y7 : Int) (H_1 : Hp), F3_L1b Q X1 y8 y9 y7 H_1 → X1 y7 H_1) → X1 y7 H_1
def F3 (p0 : Sl) (H : Hp) (Q : ZQB) : Prop :=
F8 H (fun r3 H1 =>
 ((!r3) = true → (Q false H1)) ∧
 ((!r3) = false → (∀ H5, H5 = Array.push H1 (.cells #[sN, sN, sN, sN, sN, sN, sN, (iv 0), (iv 0), (iv 0), (iv 0)] 32) → (
 F3_L1 Q p0 (bk H1) 0 H5))))
theorem walk3 {w0 : World} {p0 : Sl} {H : Hp} {Q : ZQB} (h : F3 p0 H Q) :
  Good prog w0 3 #[(Sl.v p0)] H (fun v H => ∃ r0, v = (bv r0) ∧ Q r0 H) := by
 unfold F3 at h
 refine Good.enter' (fn := f3) func3 rfl rfl rfl (ws (wr_ (hv (v := bv false) rfl (av rfl) (hn (nt (ws ?_))))))
 refine ws (wr_ (ho rfl (HOp.call' 8 [] (cap := []) rfl rfl call8 (walk8 h)) ?_))
 rintro _ H1 ⟨r3, rfl, h⟩
 refine hv (v := bv (!r3)) rfl (HVal.not rfl) (hn (nt ?_))
 obtain ⟨hT, hF⟩ := h
 refine wk (!r3) rfl (fun hb4 => ?_) (fun hb4 => ?_)
 ·have h := hT hb4
  refine ws (wr_ (hv (v := bv false) rfl (av rfl) (hn (nt (HW.ret (tr ?_))))))
  exact ⟨_, resOf1 rfl Res1.t, ⟨false, rfl, h⟩⟩
 have h := hF hb4
 refine wp_ (nt (ws (wr_ (hv (v := .agg #[sN, sN, sN, sN, sN, sN, sN, (iv 0), (iv 0), (iv 0), (iv 0)]) rfl (HVal.build' (cs := [sN, sN, sN, sN, sN, sN, sN, (iv 0), (iv 0), (iv 0), (iv 0)]) runUnderlying32 zeroValue32 places32 (by kernel_rfl)) ?_))))
 refine ho rfl (ob (v := .agg #[sN, sN, sN, sN, sN, sN, sN, (iv 0), (iv 0), (iv 0), (iv 0)]) rfl) ?_
 rintro _ H5 ⟨rfl, e6⟩
 replace h := h H5 e6
 refine hv (v := pp (bk H1)) rfl (av rfl) (hn (nt (ws (ws (wr_ (hv (v := iv 0) rfl (av rfl) ?_))))))
 refine hn (nt (wb (HW.loop' (fun L1 hL1 => ?_))))
 obtain ⟨X1, hX1⟩ : ∃ X1 : ZQI, ∀ (y7 : Int) (H_1 : Hp), X1 y7 H_1 ↔ ∀ ρ, Env.Is ρ [(0, (Sl.v p0)), (3, (pp (bk H1))), (4, (iv y7))] → L1 ρ H_1 := ⟨_, fun _ _ => Iff.rfl⟩
 refine (hX1 _ _).1 (h X1 ?_) _ ?_
 rotate_left
 ·exact (isp rfl)
 clear h
 intro y7 H_1 h
 refine (hX1 _ _).2 fun ρ hI => ?_
 obtain ⟨ρ0, rfl⟩ := hI.ex
 clear hI; unfold F3_L1b at h; refine hL1 _ _ ?_
 refine ws (ws (wr_ (hv (v := iv y7) rfl (mv rfl) (hv (v := Sl.v p0) rfl (mv rfl) (hv (v := iv ((p0).n : Int)) rfl (HVal.len runUnderlying22 rfl) ?_)))))
 refine hv (v := bv (decide (y7 < ((p0).n : Int)))) rfl (HVal.lss rfl rfl) (hn (nt ?_))
 obtain ⟨hT, hF⟩ := h
 refine wk (decide (y7 < ((p0).n : Int))) rfl (fun hb10 => ?_) (fun hb10 => ?_)
 ·have h := hT hb10
  refine wp_ (nt (ws (wb (ws (wr_ (hv (v := pp (bk H1)) rfl (mv rfl) (hv (v := Sl.v p0) rfl (mv rfl) ?_)))))))
  refine hv (v := iv y7) rfl (mv rfl) ?_
  obtain ⟨a11, e12, b13, b14, h⟩ := h
  refine hv (v := pp (Addr.add a11 (y7.toNat * 23))) rfl (ia runUnderlying22 sizeOf45 (Sl.v_some rfl e12) rfl b13 b14) ?_
  obtain ⟨x16, x17, x18, x19, x20, x21, x22, x23, x24, x25, x26, x27, x28, x29, x30, x31, x32, x33, x34, x35, x36, x37, x38, c15, h⟩ := h
  refine hv (v := .agg #[(iv x16), (sv x17), (iv x18), (Sl.v x19), (sv x20), (iv x21), (iv x22), (iv x23), (iv x24), (sv x25), (bv x26), (sv x27), (iv x28), (sv x29), (Sl.v x30), (Sl.v x31), (Sl.v x32), (Sl.v x33), (sv x34), (sv x35), (iv x36), (Sl.v x37), (Sl.v x38)]) rfl (ln [(iv x16), (sv x17), (iv x18), (Sl.v x19), (sv x20), (iv x21), (iv x22), (iv x23), (iv x24), (sv x25), (bv x26), (sv x27), (iv x28), (sv x29), (Sl.v x30), (Sl.v x31), (Sl.v x32), (Sl.v x33), (sv x34), (sv x35), (iv x36), (Sl.v x37), (Sl.v x38)] isAgg45 sizeOf45 rfl c15) ?_
  refine ho rfl (HOp.call' 9 [(pp (bk H1)), (.agg #[(iv x16), (sv x17), (iv x18), (Sl.v x19), (sv x20), (iv x21), (iv x22), (iv x23), (iv x24), (sv x25), (bv x26), (sv x27), (iv x28), (sv x29), (Sl.v x30), (Sl.v x31), (Sl.v x32), (Sl.v x33), (sv x34), (sv x35), (iv x36), (Sl.v x37), (Sl.v x38)])] (cap := []) rfl rfl call9 (walk9 h)) ?_
  rintro _ H39 ⟨r41, rfl, h⟩
  refine hv (v := bv r41) rfl (av rfl) (hn (nt (ws (wr_ (hv (v := bv r41) rfl (mv rfl) (hv (v := bv (!r41)) rfl (HVal.not rfl) ?_))))))
  refine hn (nt ?_)
  obtain ⟨hT, hF⟩ := h
  refine wk (!r41) rfl (fun hb42 => ?_) (fun hb42 => ?_)
  ·have h := hT hb42
   refine ws (wr_ (hv (v := bv false) rfl (av rfl) (hn (nt (HW.ret (br (tr (tr (br (tr ?_))))))))))
   exact ⟨_, resOf1 rfl Res1.t, ⟨false, rfl, h⟩⟩
  have h := hF hb42
  refine wp_ (nb (nt (wr_ (hv (v := iv y7) rfl (mv rfl) (hv (v := iv (IntKind.i64.wrap (y7 + 1))) rfl (HVal.add rfl rfl) ?_)))))
  refine hv (v := iv (IntKind.i64.wrap (y7 + 1))) rfl (av rfl) (hn (nt ?_))
  exact (hX1 _ _).1 h _ (isp rfl)
 have h := hF hb10
 refine we (te (te (be (nt (ws (wr_ (hv (v := bv true) rfl (av rfl) (hn (nt (HW.ret ?_))))))))))
 exact ⟨_, resOf1 rfl Res1.t, ⟨true, rfl, h⟩⟩

end Go.Hw
