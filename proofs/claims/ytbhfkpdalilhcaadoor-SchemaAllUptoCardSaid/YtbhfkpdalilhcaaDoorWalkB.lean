/- The walks of this seat, printed by a program of this session (wip/tools/gen.py): of each function what it does to the heap, and that it does so. -/
import Derived.Test.YtbhfkpdalilhcaaDoorHwZ
import Derived.Test.YtbhfkpdalilhcaaDoorProg
import Derived.Test.YtbhfkpdalilhcaaDoorWAux
import Derived.Test.YtbhfkpdalilhcaaDoorWalkA
set_option linter.unusedVariables false
set_option linter.unusedSimpArgs false
set_option maxRecDepth 100000
set_option maxHeartbeats 4000000
namespace Go.Hw
open Go Go.Proofs Tryd
def F71 (p0_0 p0_1 : Int) (p0_2 : ByteArray) (p0_3 : Bool) (H : Hp) (Q : Bool → Hp → Prop) : Prop :=
∀ H1 : Hp, H1 = Array.push H (.cells (vR p0_0 p0_1 p0_2 p0_3).toArray 35) → (
 ∃ x4 : Int, cell H1 (bk H) = some (iv x4) ∧ (
 ((decide (x4 = 1)) = true → (∃ x7 : ByteArray, cell H1 (Addr.add (bk H) 2) = some (sv x7) ∧ (
 ((seq x7 bE) = true → (∃ x11 : Bool, cell H1 (Addr.add (bk H) 3) = some (bv x11) ∧ (
 Q (!x11) H1))) ∧
 ((seq x7 bE) = false → (Q false H1))))) ∧
 ((decide (x4 = 1)) = false → (((decide (x4 = 2)) = true → (∃ x14 : Int, cell H1 (Addr.add (bk H) 1) = some (iv x14) ∧ (
 ((decide (x14 = 0)) = true → (∃ x18 : Bool, cell H1 (Addr.add (bk H) 3) = some (bv x18) ∧ (
 ((!x18) = true → (∃ x22 : ByteArray, cell H1 (Addr.add (bk H) 2) = some (sv x22) ∧ (
 Q (decide (((x22).size : Int) ≤ 256)) H1))) ∧
 ((!x18) = false → (Q false H1))))) ∧
 ((decide (x14 = 0)) = false → (Q false H1))))) ∧
 ((decide (x4 = 2)) = false → (((decide (x4 = 3)) = true → (∃ x25 : Int, cell H1 (Addr.add (bk H) 1) = some (iv x25) ∧ (
 ((decide (x25 = 0)) = true → (∃ x29 : ByteArray, cell H1 (Addr.add (bk H) 2) = some (sv x29) ∧ (
 Q (seq x29 bE) H1))) ∧
 ((decide (x25 = 0)) = false → (Q false H1))))) ∧
 ((decide (x4 = 3)) = false → (Q false H1))))))))
theorem walk71 {w0 : World} {p0_0 p0_1 : Int} {p0_2 : ByteArray} {p0_3 : Bool} {H : Hp} {Q : Bool → Hp → Prop} (h : F71 p0_0 p0_1 p0_2 p0_3 H Q) :
  Good prog w0 71 #[(.agg (vR p0_0 p0_1 p0_2 p0_3).toArray)] H (fun v H => ∃ (r0 : Bool) , v = (bv r0) ∧ Q r0 H) := by
 unfold F71 at h
 refine Good.enter' (fn := f71) func71 rfl rfl rfl (ws (wr_ (ho rfl (ob (v := (.agg (vR p0_0 p0_1 p0_2 p0_3).toArray)) rfl) ?_)))
 rintro _ H1 ⟨rfl, e2⟩
 replace h := h H1 e2
 refine hv (v := (bv false)) rfl (av rfl) (hn (nt (ws (ws (wr_ (hv (v := (pp (bk H))) rfl (HVal.fieldAddr0 runUnderlying35 rfl rfl sizeOf3 rfl) ?_))))))
 obtain ⟨x4, c3, h⟩ := h
 refine hv (v := (iv x4)) rfl (l1 isAgg3 rfl c3) (hn (nt (wb (ws (wr_ (hv (v := (bv (decide (x4 = 1)))) rfl (HVal.eqlI rfl rfl) ?_))))))
 refine hv (v := (bv (decide (x4 = 1)))) rfl (av rfl) (hn (nt ?_))
 obtain ⟨hT, hF⟩ := h
 refine wk (decide (x4 = 1)) rfl (fun hb5 => ?_) (fun hb5 => ?_)
 ·have h := hT hb5
  refine ws (wr_ (hv (v := (pp (Addr.add (bk H) 2))) rfl (fa runUnderlying35 rfl rfl sizeOf9 rfl) ?_))
  obtain ⟨x7, c6, h⟩ := h
  refine hv (v := (sv x7)) rfl (l1 isAgg9 rfl c6) (hv (v := (bv (seq x7 bE))) rfl (HVal.eqlS rfl rfl) (hv (v := (bv (seq x7 bE))) rfl (mv rfl) ?_))
  obtain ⟨hT, hF⟩ := h
  rcases Bool.eq_false_or_eq_true (seq x7 bE) with hb8 | hb9
  ·have h := hT hb8
   refine hg (v := (pp (Addr.add (bk H) 3))) rfl rfl rfl rfl (cB hb8) (fa runUnderlying35 rfl rfl sizeOf4 rfl) ?_
   obtain ⟨x11, c10, h⟩ := h
   refine hg (v := (bv x11)) rfl rfl rfl rfl (cB hb8) (l1 isAgg4 rfl c10) (hg (v := (bv (!x11))) rfl rfl rfl rfl (cB hb8) (HVal.not rfl) ?_)
   refine hv (v := (bv (!x11))) rfl (pt_ rfl hb8 rfl) (hv (v := (bv (!x11))) rfl (av rfl) (hn (nt (HW.ret (br (tr ?_))))))
   exact ⟨_, resOf1 rfl Res1.t, ⟨(!x11), rfl, h⟩⟩
  have h := hF hb9
  refine hs_ rfl rfl rfl rfl (cB hb9) (hs_ rfl rfl rfl rfl (cB hb9) (hs_ rfl rfl rfl rfl (cB hb9) (hv (v := (bv false)) rfl (pf_ rfl hb9 rfl) ?_)))
  refine hv (v := (bv false)) rfl (av rfl) (hn (nt (HW.ret (br (tr ?_)))))
  exact ⟨_, resOf1 rfl Res1.t, ⟨false, rfl, h⟩⟩
 have h := hF hb5
 refine ws (wr_ (hv (v := (bv (decide (x4 = 2)))) rfl (HVal.eqlI rfl rfl) (hv (v := (bv (decide (x4 = 2)))) rfl (av rfl) ?_)))
 refine hn (nt ?_)
 obtain ⟨hT, hF⟩ := h
 refine wk (decide (x4 = 2)) rfl (fun hb12 => ?_) (fun hb12 => ?_)
 ·have h := hT hb12
  refine ws (wr_ (hv (v := (pp (Addr.add (bk H) 1))) rfl (fa runUnderlying35 rfl rfl sizeOf2 rfl) ?_))
  obtain ⟨x14, c13, h⟩ := h
  refine hv (v := (iv x14)) rfl (l1 isAgg2 rfl c13) (hv (v := (bv (decide (x14 = 0)))) rfl (HVal.eqlI rfl rfl) (hv (v := (bv (decide (x14 = 0)))) rfl (mv rfl) ?_))
  obtain ⟨hT, hF⟩ := h
  rcases Bool.eq_false_or_eq_true (decide (x14 = 0)) with hb15 | hb16
  ·have h := hT hb15
   refine hg (v := (pp (Addr.add (bk H) 3))) rfl rfl rfl rfl (cB hb15) (fa runUnderlying35 rfl rfl sizeOf4 rfl) ?_
   obtain ⟨x18, c17, h⟩ := h
   refine hg (v := (bv x18)) rfl rfl rfl rfl (cB hb15) (l1 isAgg4 rfl c17) (hg (v := (bv (!x18))) rfl rfl rfl rfl (cB hb15) (HVal.not rfl) ?_)
   refine hv (v := (bv (!x18))) rfl (pt_ rfl hb15 rfl) (hv (v := (bv (!x18))) rfl (mv rfl) ?_)
   obtain ⟨hT, hF⟩ := h
   rcases Bool.eq_false_or_eq_true (!x18) with hb19 | hb20
   ·have h := hT hb19
    refine hg (v := (pp (Addr.add (bk H) 2))) rfl rfl rfl rfl (cB hb19) (fa runUnderlying35 rfl rfl sizeOf9 rfl) ?_
    obtain ⟨x22, c21, h⟩ := h
    refine hg (v := (sv x22)) rfl rfl rfl rfl (cB hb19) (l1 isAgg9 rfl c21) (hg (v := (iv ((x22).size : Int))) rfl rfl rfl rfl (cB hb19) (HVal.lenS runUnderlying9 rfl) ?_)
    refine hg (v := (bv (decide (((x22).size : Int) ≤ 256)))) rfl rfl rfl rfl (cB hb19) (HVal.leq rfl rfl) (hv (v := (bv (decide (((x22).size : Int) ≤ 256)))) rfl (pt_ rfl hb19 rfl) ?_)
    refine hv (v := (bv (decide (((x22).size : Int) ≤ 256)))) rfl (av rfl) (hn (nt (HW.ret (br (tr ?_)))))
    exact ⟨_, resOf1 rfl Res1.t, ⟨(decide (((x22).size : Int) ≤ 256)), rfl, h⟩⟩
   have h := hF hb20
   refine hs_ rfl rfl rfl rfl (cB hb20) (hs_ rfl rfl rfl rfl (cB hb20) (hs_ rfl rfl rfl rfl (cB hb20) (hs_ rfl rfl rfl rfl (cB hb20) ?_)))
   refine hv (v := (bv false)) rfl (pf_ rfl hb20 rfl) (hv (v := (bv false)) rfl (av rfl) (hn (nt (HW.ret (br (tr ?_))))))
   exact ⟨_, resOf1 rfl Res1.t, ⟨false, rfl, h⟩⟩
  have h := hF hb16
  refine hs_ rfl rfl rfl rfl (cB hb16) (hs_ rfl rfl rfl rfl (cB hb16) (hs_ rfl rfl rfl rfl (cB hb16) (hv (v := (bv false)) rfl (pf_ rfl hb16 rfl) ?_)))
  refine hv (v := (bv false)) rfl (mv rfl) (hs_ rfl rfl rfl rfl rfl (hs_ rfl rfl rfl rfl rfl (hs_ rfl rfl rfl rfl rfl ?_)))
  refine hs_ rfl rfl rfl rfl rfl (hv (v := (bv false)) rfl (pf_ rfl rfl rfl) (hv (v := (bv false)) rfl (av rfl) (hn (nt ?_))))
  refine HW.ret (br (tr ?_))
  exact ⟨_, resOf1 rfl Res1.t, ⟨false, rfl, h⟩⟩
 have h := hF hb12
 refine ws (wr_ (hv (v := (bv (decide (x4 = 3)))) rfl (HVal.eqlI rfl rfl) (hv (v := (bv (decide (x4 = 3)))) rfl (av rfl) ?_)))
 refine hn (nt ?_)
 obtain ⟨hT, hF⟩ := h
 refine wk (decide (x4 = 3)) rfl (fun hb23 => ?_) (fun hb23 => ?_)
 ·have h := hT hb23
  refine ws (wr_ (hv (v := (pp (Addr.add (bk H) 1))) rfl (fa runUnderlying35 rfl rfl sizeOf2 rfl) ?_))
  obtain ⟨x25, c24, h⟩ := h
  refine hv (v := (iv x25)) rfl (l1 isAgg2 rfl c24) (hv (v := (bv (decide (x25 = 0)))) rfl (HVal.eqlI rfl rfl) (hv (v := (bv (decide (x25 = 0)))) rfl (mv rfl) ?_))
  obtain ⟨hT, hF⟩ := h
  rcases Bool.eq_false_or_eq_true (decide (x25 = 0)) with hb26 | hb27
  ·have h := hT hb26
   refine hg (v := (pp (Addr.add (bk H) 2))) rfl rfl rfl rfl (cB hb26) (fa runUnderlying35 rfl rfl sizeOf9 rfl) ?_
   obtain ⟨x29, c28, h⟩ := h
   refine hg (v := (sv x29)) rfl rfl rfl rfl (cB hb26) (l1 isAgg9 rfl c28) (hg (v := (bv (seq x29 bE))) rfl rfl rfl rfl (cB hb26) (HVal.eqlS rfl rfl) ?_)
   refine hv (v := (bv (seq x29 bE))) rfl (pt_ rfl hb26 rfl) (hv (v := (bv (seq x29 bE))) rfl (av rfl) (hn (nt (HW.ret ?_))))
   refine br (tr ?_)
   exact ⟨_, resOf1 rfl Res1.t, ⟨(seq x29 bE), rfl, h⟩⟩
  have h := hF hb27
  refine hs_ rfl rfl rfl rfl (cB hb27) (hs_ rfl rfl rfl rfl (cB hb27) (hs_ rfl rfl rfl rfl (cB hb27) (hv (v := (bv false)) rfl (pf_ rfl hb27 rfl) ?_)))
  refine hv (v := (bv false)) rfl (av rfl) (hn (nt (HW.ret (br (tr ?_)))))
  exact ⟨_, resOf1 rfl Res1.t, ⟨false, rfl, h⟩⟩
 have h := hF hb23
 refine wp_ (nb (nt (ws (wr_ (hv (v := (bv false)) rfl (av rfl) (hn (nt (HW.ret ?_))))))))
 exact ⟨_, resOf1 rfl Res1.t, ⟨false, rfl, h⟩⟩

def F47_L2b (Q X2 : Int → Hp → Prop) (y34 : Addr) (y35 : Sl) (y33 : Int) (H_2 : Hp) : Prop :=
((decide (y33 < ((y35).n : Int))) = true → (∃ x38 : Sl, cell H_2 (Addr.add y34 2) = some (Sl.v x38) ∧ (
 ∃ a39 : Addr, (x38).b = some a39 ∧ (0 : Int) ≤ y33 ∧ y33 < ((x38).n : Int) ∧ (
 ∃ x44 : Int, cell H_2 (Addr.add a39 (y33.toNat * 4)) = some (iv x44) ∧ (
 ∃ a45 : Addr, (y35).b = some a45 ∧ (0 : Int) ≤ y33 ∧ y33 < ((y35).n : Int) ∧ (
 ∃ x50 : Int, cell H_2 (Addr.add (Addr.add a45 (y33.toNat * 2)) 1) = some (iv x50) ∧ (
 ((decide (x44 ≠ x50)) = true → (Q 10 H_2)) ∧
 ((decide (x44 ≠ x50)) = false → (∃ x53 : Sl, cell H_2 (Addr.add y34 2) = some (Sl.v x53) ∧ (
 ∃ a54 : Addr, (x53).b = some a54 ∧ (0 : Int) ≤ y33 ∧ y33 < ((x53).n : Int) ∧ (
 ∃ (x59 x60 : Int) (x61 : ByteArray) (x62 : Bool), cells H_2 (Addr.add a54 (y33.toNat * 4)) (vR x59 x60 x61 x62) 0 ∧ (
 F71 x59 x60 x61 x62 H_2 (fun (r65 : Bool) (H63 : Hp) => 
 ((!r65) = true → (Q 12 H63)) ∧
 ((!r65) = false → (X2 (IntKind.i64.wrap (y33 + 1)) H63))))))))))))))) ∧
 ((decide (y33 < ((y35).n : Int))) = false → (Q 0 H_2))
def F47_L2 (Q : Int → Hp → Prop) (y34 : Addr) (y35 : Sl) (y33 : Int) (H_2 : Hp) : Prop :=
 ∀ X2 : Int → Hp → Prop, (∀ (y33 : Int) (H_2 : Hp), F47_L2b Q X2 y34 y35 y33 H_2 → X2 y33 H_2) → X2 y33 H_2
def F47_1 (Q : Int → Hp → Prop) (y9 : (Option Addr)) (y10 : Addr) (y11 : Int) (y16 : Bool) (H_1 : Hp) : Prop :=
(y16 = true → (Q 23 H_1)) ∧
 (y16 = false → (∃ a20 : Addr, y9 = some a20 ∧ (
 ∃ x23 : Sl, cell H_1 a20 = some (Sl.v x23) ∧ (
 ∃ a24 : Addr, (x23).b = some a24 ∧ (0 : Int) ≤ y11 ∧ y11 < ((x23).n : Int) ∧ (
 ∃ x29 : Sl, cell H_1 (Addr.add (Addr.add a24 (y11.toNat * 2)) 1) = some (Sl.v x29) ∧ (
 ∃ x31 : Sl, cell H_1 (Addr.add y10 2) = some (Sl.v x31) ∧ (
 ((decide (((x29).n : Int) ≠ ((x31).n : Int))) = true → (Q 22 H_1)) ∧
 ((decide (((x29).n : Int) ≠ ((x31).n : Int))) = false → (F47_L2 Q y10 x29 0 H_1)))))))))
def F47 (p0 : (Option Addr)) (p1_0 : ByteArray) (p1_1 : Int) (p1_2 : Sl) (H : Hp) (Q : Int → Hp → Prop) : Prop :=
∀ H1 : Hp, H1 = Array.push H (.cells (tR p1_0 p1_1 p1_2).toArray 33) → (
 ∃ x4 : ByteArray, cell H1 (bk H) = some (sv x4) ∧ (
 F69 p0 x4 H1 (fun (r7 : Int) (H5 : Hp) => 
 ((decide (r7 < 0)) = true → (Q 21 H5)) ∧
 ((decide (r7 < 0)) = false → (∃ x13 : Int, cell H5 (Addr.add (bk H) 1) = some (iv x13) ∧ (
 ((decide (x13 < 0)) = true → (F47_1 Q p0 (bk H) r7 true H5)) ∧
 ((decide (x13 < 0)) = false → (∃ x18 : Int, cell H5 (Addr.add (bk H) 1) = some (iv x18) ∧ (
 F47_1 Q p0 (bk H) r7 (decide ((4611686018427387904 : Int) < x18)) H5)))))))))
theorem walk47 {w0 : World} {p0 : (Option Addr)} {p1_0 : ByteArray} {p1_1 : Int} {p1_2 : Sl} {H : Hp} {Q : Int → Hp → Prop} (h : F47 p0 p1_0 p1_1 p1_2 H Q) :
  Good prog w0 47 #[(.pointer p0), (.agg (tR p1_0 p1_1 p1_2).toArray)] H (fun v H => ∃ (r0 : Int) , v = (iv r0) ∧ Q r0 H) := by
 unfold F47 at h
 refine Good.enter' (fn := f47) func47 rfl rfl rfl (ws (wr_ (ho rfl (ob (v := (.agg (tR p1_0 p1_1 p1_2).toArray)) rfl) ?_)))
 rintro _ H1 ⟨rfl, e2⟩
 replace h := h H1 e2
 refine hv (v := (iv 0)) rfl (av rfl) (hn (nt (ws (wr_ (hv (v := (.pointer p0)) rfl (mv rfl) (hv (v := (pp (bk H))) rfl (HVal.fieldAddr0 runUnderlying33 rfl rfl sizeOf9 rfl) ?_))))))
 obtain ⟨x4, c3, h⟩ := h
 refine hv (v := (sv x4)) rfl (l1 isAgg9 rfl c3) (ho rfl (HOp.call' 69 [(.pointer p0), (sv x4)] (cap := []) rfl rfl call69 (walk69 h)) ?_)
 rintro _ H5 ⟨r7, rfl, h⟩
 refine hv (v := (iv r7)) rfl (av rfl) (hn (nt (ws (ws (wr_ (hv (v := (iv r7)) rfl (mv rfl) (hv (v := (bv (decide (r7 < 0)))) rfl (HVal.lss rfl rfl) ?_)))))))
 refine hn (nt ?_)
 obtain ⟨hT, hF⟩ := h
 refine wk (decide (r7 < 0)) rfl (fun hb8 => ?_) (fun hb8 => ?_)
 ·have h := hT hb8
  refine ws (wr_ (hv (v := (iv 21)) rfl (av rfl) (hn (nt (HW.ret (tr ?_))))))
  exact ⟨_, resOf1 rfl Res1.t, ⟨21, rfl, h⟩⟩
 have h := hF hb8
 refine wp_ (nt (ws (wc (fun ρ H_1 => ∃ (y16 : Bool), Env.Is ρ [(0, (.pointer p0)), (3, (pp (bk H))), (5, (iv r7)), (21, (bv y16))] ∧ F47_1 Q p0 (bk H) r7 y16 H_1) ?_ ?_)))
 ·refine wr_ (hv (v := (pp (Addr.add (bk H) 1))) rfl (fa runUnderlying33 rfl rfl sizeOf2 rfl) ?_)
  obtain ⟨x13, c12, h⟩ := h
  refine hv (v := (iv x13)) rfl (l1 isAgg2 rfl c12) (hv (v := (bv (decide (x13 < 0)))) rfl (HVal.lss rfl rfl) (hv (v := (bv (decide (x13 < 0)))) rfl (mv rfl) ?_))
  obtain ⟨hT, hF⟩ := h
  rcases Bool.eq_false_or_eq_true (decide (x13 < 0)) with hb14 | hb15
  ·have h := hT hb14
   refine hs_ rfl rfl rfl rfl (cB hb14) (hs_ rfl rfl rfl rfl (cB hb14) (hs_ rfl rfl rfl rfl (cB hb14) (hv (v := (bv true)) rfl (pt_ rfl hb14 rfl) ?_)))
   refine hn (nt ?_)
   exact ⟨true, (isp rfl), h⟩
  have h := hF hb15
  refine hg (v := (pp (Addr.add (bk H) 1))) rfl rfl rfl rfl (cB hb15) (fa runUnderlying33 rfl rfl sizeOf2 rfl) ?_
  obtain ⟨x18, c17, h⟩ := h
  refine hg (v := (iv x18)) rfl rfl rfl rfl (cB hb15) (l1 isAgg2 rfl c17) (hg (v := (bv (decide ((4611686018427387904 : Int) < x18)))) rfl rfl rfl rfl (cB hb15) (HVal.gtr rfl rfl) ?_)
  refine hv (v := (bv (decide ((4611686018427387904 : Int) < x18)))) rfl (pf_ rfl hb15 rfl) (hn (nt ?_))
  exact ⟨(decide ((4611686018427387904 : Int) < x18)), (isp rfl), h⟩
 rintro ρ H_1 ⟨y16, hI, h⟩
 obtain ⟨ρ0, rfl⟩ := hI.ex
 clear hI; unfold F47_1 at h
 obtain ⟨hT, hF⟩ := h
 refine wk y16 rfl (fun hb19 => ?_) (fun hb19 => ?_)
 ·have h := hT hb19
  refine ws (wr_ (hv (v := (iv 23)) rfl (av rfl) (hn (nt (HW.ret (tr ?_))))))
  exact ⟨_, resOf1 rfl Res1.t, ⟨23, rfl, h⟩⟩
 have h := hF hb19
 refine wp_ (nt (ws (wr_ (hv (v := (.pointer p0)) rfl (mv rfl) ?_))))
 obtain ⟨a20, e21, h⟩ := h
 refine hv (v := (pp a20)) rfl (HVal.nilCheck (congrArg Value.pointer e21)) (hv (v := (pp a20)) rfl (HVal.fieldAddr0 runUnderlying118 rfl rfl sizeOf54 rfl) ?_)
 obtain ⟨x23, c22, h⟩ := h
 refine hv (v := (Sl.v x23)) rfl (l1 isAgg54 rfl c22) (hv (v := (iv r7)) rfl (mv rfl) ?_)
 obtain ⟨a24, e25, b26, b27, h⟩ := h
 refine hv (v := (pp (Addr.add a24 (r7.toNat * 2)))) rfl (ia runUnderlying54 sizeOf27 (Sl.v_some rfl e25) rfl b26 b27) ?_
 refine hv (v := (pp (Addr.add (Addr.add a24 (r7.toNat * 2)) 1))) rfl (fa runUnderlying27 rfl rfl sizeOf25 rfl) ?_
 obtain ⟨x29, c28, h⟩ := h
 refine hv (v := (Sl.v x29)) rfl (l1 isAgg25 rfl c28) (hv (v := (Sl.v x29)) rfl (av rfl) (hn (nt (ws (ws ?_)))))
 refine wr_ (hv (v := (Sl.v x29)) rfl (mv rfl) (hv (v := (iv ((x29).n : Int))) rfl (HVal.len runUnderlying25 rfl) (hv (v := (pp (Addr.add (bk H) 2))) rfl (fa runUnderlying33 rfl rfl sizeOf31 rfl) ?_)))
 obtain ⟨x31, c30, h⟩ := h
 refine hv (v := (Sl.v x31)) rfl (l1 isAgg31 rfl c30) (hv (v := (iv ((x31).n : Int))) rfl (HVal.len runUnderlying31 rfl) (hv (v := (bv (decide (((x29).n : Int) ≠ ((x31).n : Int))))) rfl (HVal.neqI rfl rfl) ?_))
 refine hn (nt ?_)
 obtain ⟨hT, hF⟩ := h
 refine wk (decide (((x29).n : Int) ≠ ((x31).n : Int))) rfl (fun hb32 => ?_) (fun hb32 => ?_)
 ·have h := hT hb32
  refine ws (wr_ (hv (v := (iv 22)) rfl (av rfl) (hn (nt (HW.ret (tr ?_))))))
  exact ⟨_, resOf1 rfl Res1.t, ⟨22, rfl, h⟩⟩
 have h := hF hb32
 refine wp_ (nt (ws (ws (wr_ (hv (v := (iv 0)) rfl (av rfl) (hn (nt (wb (HW.loop' (fun L2 hL2 => ?_))))))))))
 obtain ⟨X2, hX2⟩ : ∃ X2 : Int → Hp → Prop, ∀ (y33 : Int) (H_2 : Hp), X2 y33 H_2 ↔ ∀ ρ, Env.Is ρ [(3, (pp (bk H))), (6, (Sl.v x29)), (7, (iv y33))] → L2 ρ H_2 := ⟨_, fun _ _ => Iff.rfl⟩
 refine (hX2 _ _).1 (h X2 ?_) _ ?_
 rotate_left
 ·exact (isp rfl)
 clear h
 intro y33 H_2 h
 refine (hX2 _ _).2 fun ρ hI => ?_
 obtain ⟨ρ0, rfl⟩ := hI.ex
 clear hI; unfold F47_L2b at h; refine hL2 _ _ ?_
 refine ws (ws (wr_ (hv (v := (iv y33)) rfl (mv rfl) (hv (v := (Sl.v x29)) rfl (mv rfl) (hv (v := (iv ((x29).n : Int))) rfl (HVal.len runUnderlying25 rfl) ?_)))))
 refine hv (v := (bv (decide (y33 < ((x29).n : Int))))) rfl (HVal.lss rfl rfl) (hn (nt ?_))
 obtain ⟨hT, hF⟩ := h
 refine wk (decide (y33 < ((x29).n : Int))) rfl (fun hb36 => ?_) (fun hb36 => ?_)
 ·have h := hT hb36
  refine wp_ (nt (ws (wb (ws (ws (HW.draw mixed [(0, some []), (1, some []), (2, some []), (3, some []), (4, some []), (5, some []), (6, some []), (7, some []), (8, some []), (9, some []), (10, some []), (11, some [])] rfl (by kernel_rfl) (by kernel_rfl) ?_))))))
  refine pv (v := (pp (Addr.add (bk H) 2))) rfl rfl (fun _ => fa runUnderlying33 rfl rfl sizeOf31 rfl) ?_
  obtain ⟨x38, c37, h⟩ := h
  refine pl (v := (Sl.v x38)) (fun X => cell X (Addr.add (bk H) 2) = some (Sl.v x38)) rfl rfl (fun _ hX => l1 isAgg31 rfl hX) c37 (pv (v := (iv y33)) rfl rfl (fun _ => mv rfl) ?_)
  obtain ⟨a39, e40, b41, b42, h⟩ := h
  refine pv (v := (pp (Addr.add a39 (y33.toNat * 4)))) rfl rfl (fun _ => ia runUnderlying31 sizeOf35 (Sl.v_some rfl e40) rfl b41 b42) ?_
  refine pv (v := (pp (Addr.add a39 (y33.toNat * 4)))) rfl rfl (fun _ => HVal.fieldAddr0 runUnderlying35 rfl rfl sizeOf3 rfl) ?_
  obtain ⟨x44, c43, h⟩ := h
  refine pl (v := (iv x44)) (fun X => cell X (Addr.add a39 (y33.toNat * 4)) = some (iv x44)) rfl rfl (fun _ hX => l1 isAgg3 rfl hX) c43 ?_
  refine pv (v := (Sl.v x29)) rfl rfl (fun _ => mv rfl) (pv (v := (iv y33)) rfl rfl (fun _ => mv rfl) ?_)
  obtain ⟨a45, e46, b47, b48, h⟩ := h
  refine pv (v := (pp (Addr.add a45 (y33.toNat * 2)))) rfl rfl (fun _ => ia runUnderlying25 sizeOf38 (Sl.v_some rfl e46) rfl b47 b48) ?_
  refine pv (v := (pp (Addr.add (Addr.add a45 (y33.toNat * 2)) 1))) rfl rfl (fun _ => fa runUnderlying38 rfl rfl sizeOf3 rfl) ?_
  obtain ⟨x50, c49, h⟩ := h
  refine pl (v := (iv x50)) (fun X => cell X (Addr.add (Addr.add a45 (y33.toNat * 2)) 1) = some (iv x50)) rfl rfl (fun _ hX => l1 isAgg3 rfl hX) c49 ?_
  refine pv (v := (bv (decide (x44 ≠ x50)))) rfl rfl (fun _ => HVal.neqI rfl rfl) (HPlan.done (nt ?_))
  obtain ⟨hT, hF⟩ := h
  refine wk (decide (x44 ≠ x50)) rfl (fun hb51 => ?_) (fun hb51 => ?_)
  ·have h := hT hb51
   refine ws (wr_ (hv (v := (iv 10)) rfl (av rfl) (hn (nt (HW.ret (tr (br (tr (tr (br (tr ?_)))))))))))
   exact ⟨_, resOf1 rfl Res1.t, ⟨10, rfl, h⟩⟩
  have h := hF hb51
  refine wp_ (nt (ws (wr_ (hv (v := (pp (Addr.add (bk H) 2))) rfl (fa runUnderlying33 rfl rfl sizeOf31 rfl) ?_))))
  obtain ⟨x53, c52, h⟩ := h
  refine hv (v := (Sl.v x53)) rfl (l1 isAgg31 rfl c52) (hv (v := (iv y33)) rfl (mv rfl) ?_)
  obtain ⟨a54, e55, b56, b57, h⟩ := h
  refine hv (v := (pp (Addr.add a54 (y33.toNat * 4)))) rfl (ia runUnderlying31 sizeOf35 (Sl.v_some rfl e55) rfl b56 b57) ?_
  obtain ⟨x59, x60, x61, x62, c58, h⟩ := h
  refine hv (v := (.agg (vR x59 x60 x61 x62).toArray)) rfl (ln (vR x59 x60 x61 x62) isAgg35 sizeOf35 rfl c58) (ho rfl (HOp.call' 71 [(.agg (vR x59 x60 x61 x62).toArray)] (cap := []) rfl rfl call71 (walk71 h)) ?_)
  rintro _ H63 ⟨r65, rfl, h⟩
  refine hv (v := (bv (!r65))) rfl (HVal.not rfl) (hn (nt ?_))
  obtain ⟨hT, hF⟩ := h
  refine wk (!r65) rfl (fun hb66 => ?_) (fun hb66 => ?_)
  ·have h := hT hb66
   refine ws (wr_ (hv (v := (iv 12)) rfl (av rfl) (hn (nt (HW.ret (br (tr (tr (br (tr ?_))))))))))
   exact ⟨_, resOf1 rfl Res1.t, ⟨12, rfl, h⟩⟩
  have h := hF hb66
  refine wp_ (nb (nt (wr_ (hv (v := (iv y33)) rfl (mv rfl) (hv (v := (iv (IntKind.i64.wrap (y33 + 1)))) rfl (HVal.add rfl rfl) ?_)))))
  refine hv (v := (iv (IntKind.i64.wrap (y33 + 1)))) rfl (av rfl) (hn (nt ?_))
  exact (hX2 _ _).1 h _ (isp rfl)
 have h := hF hb36
 refine we (te (te (be (nt (ws (wr_ (hv (v := (iv 0)) rfl (av rfl) (hn (nt (HW.ret ?_))))))))))
 exact ⟨_, resOf1 rfl Res1.t, ⟨0, rfl, h⟩⟩

def F48_1 (Q : Bool → Hp → Prop) (y74 : Bool) (H_1 : Hp) : Prop :=
Q y74 H_1
def F48_4 (Q : Bool → Hp → Prop) (X2 : Bool → Int → Hp → Prop) (y39 : (Option Addr)) (y40 : Addr) (y41 : Int) (y62 : Bool) (H_4 : Hp) : Prop :=
∃ a63 : Addr, y39 = some a63 ∧ (
 ∃ x66 : Sl, cell H_4 (Addr.add a63 1) = some (Sl.v x66) ∧ (
 ∃ a67 : Addr, (x66).b = some a67 ∧ (0 : Int) ≤ y41 ∧ y41 < ((x66).n : Int) ∧ (
 mayw H_4 (Addr.add a67 (y41.toNat * 4)) 4 0 ∧ ∀ H71 : Hp, H71 = sets H_4 (Addr.add a67 (y41.toNat * 4)) (vR 99 0 S_kept false) 0 → (
 X2 y62 (IntKind.i64.wrap (y41 + 1)) H71))))
def F48_3 (Q : Bool → Hp → Prop) (X2 : Bool → Int → Hp → Prop) (y17 : (Option Addr)) (y18 : Addr) (y19 : Bool) (y20 : Int) (y21 : Addr) (H_3 : Hp) : Prop :=
(y19 = true → (∃ a44 : Addr, y17 = some a44 ∧ (
 ∃ x47 : Sl, cell H_3 (Addr.add a44 1) = some (Sl.v x47) ∧ (
 ∃ a48 : Addr, (x47).b = some a48 ∧ (0 : Int) ≤ y20 ∧ y20 < ((x47).n : Int) ∧ (
 ∃ (x53 x54 : Int) (x55 : ByteArray) (x56 : Bool), cells H_3 (Addr.add a48 (y20.toNat * 4)) (vR x53 x54 x55 x56) 0 ∧ (
 ∃ (x58 x59 : Int) (x60 : ByteArray) (x61 : Bool), cells H_3 y21 (vR x58 x59 x60 x61) 0 ∧ (
 F48_4 Q X2 y17 y18 y20 (decide (x53 = x58) && (decide (x54 = x59) && (seq x55 x60 && (x56 == x61)))) H_3))))))) ∧
 (y19 = false → (F48_4 Q X2 y17 y18 y20 false H_3))
def F48_L2b (Q : Bool → Hp → Prop) (X2 : Bool → Int → Hp → Prop) (y5 : (Option Addr)) (y6 : Addr) (y3 : Bool) (y4 : Int) (H_2 : Hp) : Prop :=
∃ a7 : Addr, y5 = some a7 ∧ (
 ∃ x10 : Sl, cell H_2 (Addr.add a7 1) = some (Sl.v x10) ∧ (
 ((decide (y4 < ((x10).n : Int))) = true → (∀ H12 : Hp, H12 = Array.push H_2 (.cells (vR 0 0 bE false).toArray 35) → (
 mayw H12 (bk H_2) 4 0 ∧ ∀ H14 : Hp, H14 = sets H12 (bk H_2) (vR (IntKind.i64.wrap (77 + y4)) 0 bE false) 0 → (
 ∃ x23 : Sl, cell H14 (Addr.add y6 2) = some (Sl.v x23) ∧ (
 ((decide (y4 < ((x23).n : Int))) = true → (∃ x26 : Sl, cell H14 (Addr.add y6 2) = some (Sl.v x26) ∧ (
 ∃ a27 : Addr, (x26).b = some a27 ∧ (0 : Int) ≤ y4 ∧ y4 < ((x26).n : Int) ∧ (
 ∃ (x32 x33 : Int) (x34 : ByteArray) (x35 : Bool), cells H14 (Addr.add a27 (y4.toNat * 4)) (vR x32 x33 x34 x35) 0 ∧ (
 mayw H14 (bk H_2) 4 0 ∧ ∀ H36 : Hp, H36 = sets H14 (bk H_2) (vR x32 x33 x34 x35) 0 → (
 F48_3 Q X2 y5 y6 y3 y4 (bk H_2) H36)))))) ∧
 ((decide (y4 < ((x23).n : Int))) = false → (F48_3 Q X2 y5 y6 y3 y4 (bk H_2) H14))))))) ∧
 ((decide (y4 < ((x10).n : Int))) = false → (F48_1 Q y3 H_2))))
def F48_L2 (Q : Bool → Hp → Prop) (y5 : (Option Addr)) (y6 : Addr) (y3 : Bool) (y4 : Int) (H_2 : Hp) : Prop :=
 ∀ X2 : Bool → Int → Hp → Prop, (∀ (y3 : Bool) (y4 : Int) (H_2 : Hp), F48_L2b Q X2 y5 y6 y3 y4 H_2 → X2 y3 y4 H_2) → X2 y3 y4 H_2
def F48 (p0 : (Option Addr)) (p1_0 : ByteArray) (p1_1 : Int) (p1_2 : Sl) (H : Hp) (Q : Bool → Hp → Prop) : Prop :=
∀ H1 : Hp, H1 = Array.push H (.cells (tR p1_0 p1_1 p1_2).toArray 33) → (
 F48_L2 Q p0 (bk H) true 0 H1)
theorem walk48 {w0 : World} {p0 : (Option Addr)} {p1_0 : ByteArray} {p1_1 : Int} {p1_2 : Sl} {H : Hp} {Q : Bool → Hp → Prop} (h : F48 p0 p1_0 p1_1 p1_2 H Q) :
  Good prog w0 48 #[(.pointer p0), (.agg (tR p1_0 p1_1 p1_2).toArray)] H (fun v H => ∃ (r0 : Bool) , v = (bv r0) ∧ Q r0 H) := by
 unfold F48 at h
 refine Good.enter' (fn := f48) func48 rfl rfl rfl (ws (wr_ (ho rfl (ob (v := (.agg (tR p1_0 p1_1 p1_2).toArray)) rfl) ?_)))
 rintro _ H1 ⟨rfl, e2⟩
 replace h := h H1 e2
 refine hv (v := (bv false)) rfl (av rfl) (hn (nt (ws (wr_ (hv (v := (bv true)) rfl (av rfl) (hn (nt ?_)))))))
 refine wc (fun ρ H_1 => ∃ (y74 : Bool), Env.Is ρ [(5, (bv y74))] ∧ F48_1 Q y74 H_1) ?_ ?_
 ·refine ws (wr_ (hv (v := (iv 0)) rfl (av rfl) (hn (nt (wb (HW.loop' (fun L2 hL2 => ?_)))))))
  obtain ⟨X2, hX2⟩ : ∃ X2 : Bool → Int → Hp → Prop, ∀ (y3 : Bool) (y4 : Int) (H_2 : Hp), X2 y3 y4 H_2 ↔ ∀ ρ, Env.Is ρ [(0, (.pointer p0)), (3, (pp (bk H))), (5, (bv y3)), (6, (iv y4))] → L2 ρ H_2 := ⟨_, fun _ _ _ => Iff.rfl⟩
  refine (hX2 _ _ _).1 (h X2 ?_) _ ?_
  rotate_left
  ·exact (isp rfl)
  clear h
  intro y3 y4 H_2 h
  refine (hX2 _ _ _).2 fun ρ hI => ?_
  obtain ⟨ρ0, rfl⟩ := hI.ex
  clear hI; unfold F48_L2b at h; refine hL2 _ _ ?_
  refine ws (ws (wr_ (hv (v := (iv y4)) rfl (mv rfl) (hv (v := (.pointer p0)) rfl (mv rfl) ?_))))
  obtain ⟨a7, e8, h⟩ := h
  refine hv (v := (pp a7)) rfl (HVal.nilCheck (congrArg Value.pointer e8)) (hv (v := (pp (Addr.add a7 1))) rfl (fa runUnderlying60 rfl rfl sizeOf31 rfl) ?_)
  obtain ⟨x10, c9, h⟩ := h
  refine hv (v := (Sl.v x10)) rfl (l1 isAgg31 rfl c9) (hv (v := (iv ((x10).n : Int))) rfl (HVal.len runUnderlying31 rfl) (hv (v := (bv (decide (y4 < ((x10).n : Int))))) rfl (HVal.lss rfl rfl) ?_))
  refine hn (nt ?_)
  obtain ⟨hT, hF⟩ := h
  refine wk (decide (y4 < ((x10).n : Int))) rfl (fun hb11 => ?_) (fun hb11 => ?_)
  ·have h := hT hb11
   refine wp_ (nt (ws (wb (ws (wr_ (hv (v := (iv y4)) rfl (mv rfl) (hv (v := (iv (IntKind.i64.wrap (77 + y4)))) rfl (HVal.add rfl rfl) ?_)))))))
   refine hv (v := (.agg (vR (IntKind.i64.wrap (77 + y4)) 0 bE false).toArray)) rfl (HVal.build' (cs := (vR (IntKind.i64.wrap (77 + y4)) 0 bE false)) runUnderlying35 zeroValue35 places35 rfl) ?_
   refine ho rfl (HOp.alloc zeroValue35) ?_
   rintro _ H12 ⟨rfl, e13⟩
   replace h := h H12 e13
   obtain ⟨z16, h⟩ := h
   refine hq (HOp.storeN' (l := (vR (IntKind.i64.wrap (77 + y4)) 0 bE false)) sizeOf35 rfl rfl rfl z16) ?_
   rintro _ H14 e15
   replace h := h H14 e15
   refine hn (nt (wc (fun ρ H_3 => Env.Is ρ [(0, (.pointer p0)), (3, (pp (bk H))), (5, (bv y3)), (6, (iv y4)), (7, (pp (bk H_2)))] ∧ F48_3 Q X2 p0 (bk H) y3 y4 (bk H_2) H_3) ?_ ?_))
   ·refine ws (wr_ (hv (v := (iv y4)) rfl (mv rfl) (hv (v := (pp (Addr.add (bk H) 2))) rfl (fa runUnderlying33 rfl rfl sizeOf31 rfl) ?_)))
    obtain ⟨x23, c22, h⟩ := h
    refine hv (v := (Sl.v x23)) rfl (l1 isAgg31 rfl c22) (hv (v := (iv ((x23).n : Int))) rfl (HVal.len runUnderlying31 rfl) ?_)
    refine hv (v := (bv (decide (y4 < ((x23).n : Int))))) rfl (HVal.lss rfl rfl) (hn (nt ?_))
    obtain ⟨hT, hF⟩ := h
    refine wk (decide (y4 < ((x23).n : Int))) rfl (fun hb24 => ?_) (fun hb24 => ?_)
    ·have h := hT hb24
     refine wr_ (hv (v := (pp (Addr.add (bk H) 2))) rfl (fa runUnderlying33 rfl rfl sizeOf31 rfl) ?_)
     obtain ⟨x26, c25, h⟩ := h
     refine hv (v := (Sl.v x26)) rfl (l1 isAgg31 rfl c25) (hv (v := (iv y4)) rfl (mv rfl) ?_)
     obtain ⟨a27, e28, b29, b30, h⟩ := h
     refine hv (v := (pp (Addr.add a27 (y4.toNat * 4)))) rfl (ia runUnderlying31 sizeOf35 (Sl.v_some rfl e28) rfl b29 b30) ?_
     obtain ⟨x32, x33, x34, x35, c31, h⟩ := h
     refine hv (v := (.agg (vR x32 x33 x34 x35).toArray)) rfl (ln (vR x32 x33 x34 x35) isAgg35 sizeOf35 rfl c31) ?_
     obtain ⟨z38, h⟩ := h
     refine hq (HOp.storeN' (l := (vR x32 x33 x34 x35)) sizeOf35 rfl rfl rfl z38) ?_
     rintro _ H36 e37
     replace h := h H36 e37
     refine hn (nt ?_)
     exact ⟨(isp rfl), h⟩
    have h := hF hb24
    refine wp_ (nt ?_)
    exact ⟨(isp rfl), h⟩
   rintro ρ H_3 ⟨hI, h⟩
   obtain ⟨ρ0, rfl⟩ := hI.ex
   clear hI; unfold F48_3 at h
   refine wc (fun ρ H_4 => ∃ (y62 : Bool), Env.Is ρ [(0, (.pointer p0)), (3, (pp (bk H))), (6, (iv y4)), (5, (bv y62))] ∧ F48_4 Q X2 p0 (bk H) y4 y62 H_4) ?_ ?_
   ·refine HW.draw mixed [(0, some []), (1, some []), (2, some []), (3, some []), (4, some []), (5, some []), (6, some []), (7, some []), (8, some []), (9, some []), (10, some []), (11, some []), (12, some [])] rfl (by kernel_rfl) (by kernel_rfl) ?_
    refine pv (v := (bv y3)) rfl rfl (fun _ => mv rfl) (pv (v := (bv y3)) rfl rfl (fun _ => mv rfl) ?_)
    obtain ⟨hT, hF⟩ := h
    rcases Bool.eq_false_or_eq_true y3 with hb42 | hb43
    ·have h := hT hb42
     refine HPlan.gtakev (v := (.pointer p0)) rfl rfl rfl rfl rfl (cB hb42) (fun _ => mv rfl) ?_
     obtain ⟨a44, e45, h⟩ := h
     refine HPlan.gtakev (v := (pp a44)) rfl rfl rfl rfl rfl (cB hb42) (fun _ => HVal.nilCheck (congrArg Value.pointer e45)) (HPlan.gtakev (v := (pp (Addr.add a44 1))) rfl rfl rfl rfl rfl (cB hb42) (fun _ => fa runUnderlying60 rfl rfl sizeOf31 rfl) ?_)
     obtain ⟨x47, c46, h⟩ := h
     refine HPlan.gtakel (v := (Sl.v x47)) (fun X => cell X (Addr.add a44 1) = some (Sl.v x47)) rfl rfl rfl rfl rfl (cB hb42) (fun _ hX => l1 isAgg31 rfl hX) c46 ?_
     refine HPlan.gtakev (v := (iv y4)) rfl rfl rfl rfl rfl (cB hb42) (fun _ => mv rfl) ?_
     obtain ⟨a48, e49, b50, b51, h⟩ := h
     refine HPlan.gtakev (v := (pp (Addr.add a48 (y4.toNat * 4)))) rfl rfl rfl rfl rfl (cB hb42) (fun _ => ia runUnderlying31 sizeOf35 (Sl.v_some rfl e49) rfl b50 b51) ?_
     obtain ⟨x53, x54, x55, x56, c52, h⟩ := h
     refine HPlan.gtakel (v := (.agg (vR x53 x54 x55 x56).toArray)) (fun X => cells X (Addr.add a48 (y4.toNat * 4)) (vR x53 x54 x55 x56) 0) rfl rfl rfl rfl rfl (cB hb42) (fun _ hX => ln (vR x53 x54 x55 x56) isAgg35 sizeOf35 rfl hX) c52 ?_
     obtain ⟨x58, x59, x60, x61, c57, h⟩ := h
     refine HPlan.gtakel (v := (.agg (vR x58 x59 x60 x61).toArray)) (fun X => cells X (bk H_2) (vR x58 x59 x60 x61) 0) rfl rfl rfl rfl rfl (cB hb42) (fun _ hX => ln (vR x58 x59 x60 x61) isAgg35 sizeOf35 rfl hX) c57 ?_
     refine HPlan.gtakev (v := (bv (decide (x53 = x58) && (decide (x54 = x59) && (seq x55 x60 && (x56 == x61)))))) rfl rfl rfl rfl rfl (cB hb42) (fun _ => eqs35_eql rfl rfl) ?_
     refine pv (v := (bv (decide (x53 = x58) && (decide (x54 = x59) && (seq x55 x60 && (x56 == x61)))))) rfl rfl (fun _ => pt_ rfl hb42 rfl) (pv (v := (bv (decide (x53 = x58) && (decide (x54 = x59) && (seq x55 x60 && (x56 == x61)))))) rfl rfl (fun _ => av rfl) ?_)
     refine HPlan.done (nt ?_)
     exact ⟨(decide (x53 = x58) && (decide (x54 = x59) && (seq x55 x60 && (x56 == x61)))), (isp rfl), h⟩
    have h := hF hb43
    refine pg rfl rfl rfl rfl (cB hb43) (pg rfl rfl rfl rfl (cB hb43) (pg rfl rfl rfl rfl (cB hb43) (pg rfl rfl rfl rfl (cB hb43) ?_)))
    refine pg rfl rfl rfl rfl (cB hb43) (pg rfl rfl rfl rfl (cB hb43) (pg rfl rfl rfl rfl (cB hb43) (pg rfl rfl rfl rfl (cB hb43) ?_)))
    refine pg rfl rfl rfl rfl (cB hb43) (pv (v := (bv false)) rfl rfl (fun _ => pf_ rfl hb43 rfl) (pv (v := (bv false)) rfl rfl (fun _ => av rfl) ?_))
    refine HPlan.done (nt ?_)
    exact ⟨false, (isp rfl), h⟩
   rintro ρ H_4 ⟨y62, hI, h⟩
   obtain ⟨ρ0, rfl⟩ := hI.ex
   clear hI; unfold F48_4 at h
   refine wr_ (hv (v := (.pointer p0)) rfl (mv rfl) ?_)
   obtain ⟨a63, e64, h⟩ := h
   refine hv (v := (pp a63)) rfl (HVal.nilCheck (congrArg Value.pointer e64)) (hv (v := (pp (Addr.add a63 1))) rfl (fa runUnderlying60 rfl rfl sizeOf31 rfl) ?_)
   obtain ⟨x66, c65, h⟩ := h
   refine hv (v := (Sl.v x66)) rfl (l1 isAgg31 rfl c65) (hv (v := (iv y4)) rfl (mv rfl) (hv (v := (.agg (vR 99 0 S_kept false).toArray)) rfl (HVal.build' (cs := (vR 99 0 S_kept false)) runUnderlying35 zeroValue35 places35 rfl) ?_))
   obtain ⟨a67, e68, b69, b70, h⟩ := h
   refine hv (v := (pp (Addr.add a67 (y4.toNat * 4)))) rfl (ia runUnderlying31 sizeOf35 (Sl.v_some rfl e68) rfl b69 b70) ?_
   obtain ⟨z73, h⟩ := h
   refine hq (HOp.storeN' (l := (vR 99 0 S_kept false)) sizeOf35 rfl rfl rfl z73) ?_
   rintro _ H71 e72
   replace h := h H71 e72
   refine hn (nb (nt (wr_ (hv (v := (iv y4)) rfl (mv rfl) (hv (v := (iv (IntKind.i64.wrap (y4 + 1)))) rfl (HVal.add rfl rfl) ?_)))))
   refine hv (v := (iv (IntKind.i64.wrap (y4 + 1)))) rfl (av rfl) (hn (nt ?_))
   exact (hX2 _ _ _).1 h _ (isp rfl)
  have h := hF hb11
  refine we (te (te (be (nt ?_))))
  exact ⟨y3, ⟨rfl, trivial⟩, h⟩
 rintro ρ H_1 ⟨y74, hI, h⟩
 obtain ⟨ρ0, rfl⟩ := hI.ex
 clear hI; unfold F48_1 at h
 refine ws (wr_ (hv (v := (bv y74)) rfl (mv rfl) (hv (v := (bv y74)) rfl (av rfl) (hn (nt (HW.ret ?_))))))
 exact ⟨_, resOf1 rfl Res1.t, ⟨y74, rfl, h⟩⟩

def F75_1 (Q : Sl → Hp → Prop) (y55 : Sl) (y56 : Int) (H_1 : Hp) : Prop :=
∀ H66 : Hp, H66 = Array.push H_1 (.cells #[(sv bE), (iv y56), (bv false)] 123) → (
 AppendF H66 123 3 32 #[(sv bE), (iv 0), (bv false)] y55 ((Sl.mk (some (bk H_1)) 1 1)).b ((Sl.mk (some (bk H_1)) 1 1)).n (fun (r70 : Sl) (H68 : Hp) => 
 Q r70 H68))
def F75_5 (Q : Sl → Hp → Prop) (X2 : Sl → Int → Hp → Prop) (y38 : ByteArray) (y39 : Sl) (y40 y53 : Int) (H_5 : Hp) : Prop :=
((decide (y53 = y40)) = true → (F75_1 Q y39 y53 H_5)) ∧
 ((decide (y53 = y40)) = false → ((0 : Int) ≤ y40 ∧ (0 : Int) ≤ y53 ∧ y40.toNat ≤ y53.toNat ∧ y53.toNat ≤ (y38).size ∧ (
 ∀ H61 : Hp, H61 = Array.push H_5 (.cells #[(sv ((y38).extract y40.toNat y53.toNat)), (iv y40), (bv true)] 123) → (
 AppendF H61 123 3 32 #[(sv bE), (iv 0), (bv false)] y39 ((Sl.mk (some (bk H_5)) 1 1)).b ((Sl.mk (some (bk H_5)) 1 1)).n (fun (r65 : Sl) (H63 : Hp) => 
 X2 r65 y53 H63)))))
def F75_L6b (Q : Sl → Hp → Prop) (X2 : Sl → Int → Hp → Prop) (X6 : Int → Hp → Prop) (y42 : ByteArray) (y43 : Sl) (y44 y41 : Int) (H_6 : Hp) : Prop :=
((decide (y41 < ((y42).size : Int))) = true → ((0 : Int) ≤ y41 ∧ y41.toNat < (y42).size ∧ (
 F74 (bt y42 y41.toNat) H_6 (fun (r51 : Bool) (H49 : Hp) => 
 (r51 = true → (X6 (IntKind.i64.wrap (y41 + 1)) H49)) ∧
 (r51 = false → (F75_5 Q X2 y42 y43 y44 y41 H49)))))) ∧
 ((decide (y41 < ((y42).size : Int))) = false → (F75_5 Q X2 y42 y43 y44 y41 H_6))
def F75_L6 (Q : Sl → Hp → Prop) (X2 : Sl → Int → Hp → Prop) (y42 : ByteArray) (y43 : Sl) (y44 y41 : Int) (H_6 : Hp) : Prop :=
 ∀ X6 : Int → Hp → Prop, (∀ (y41 : Int) (H_6 : Hp), F75_L6b Q X2 X6 y42 y43 y44 y41 H_6 → X6 y41 H_6) → X6 y41 H_6
def F75_4 (Q : Sl → Hp → Prop) (X2 : Sl → Int → Hp → Prop) (y19 : ByteArray) (y20 : Sl) (y21 y22 : Int) (y25 : Bool) (H_4 : Hp) : Prop :=
(y25 = true → ((0 : Int) ≤ y22 ∧ (0 : Int) ≤ (IntKind.i64.wrap (y21 + 1)) ∧ y22.toNat ≤ (IntKind.i64.wrap (y21 + 1)).toNat ∧ (IntKind.i64.wrap (y21 + 1)).toNat ≤ (y19).size ∧ (
 ∀ H33 : Hp, H33 = Array.push H_4 (.cells #[(sv ((y19).extract y22.toNat ((IntKind.i64.wrap (y21 + 1)).toNat))), (iv y22), (bv false)] 123) → (
 AppendF H33 123 3 32 #[(sv bE), (iv 0), (bv false)] y20 ((Sl.mk (some (bk H_4)) 1 1)).b ((Sl.mk (some (bk H_4)) 1 1)).n (fun (r37 : Sl) (H35 : Hp) => 
 X2 r37 (IntKind.i64.wrap (y21 + 1)) H35))))) ∧
 (y25 = false → (F75_L6 Q X2 y19 y20 y22 y21 H_4))
def F75_3 (Q : Sl → Hp → Prop) (X2 : Sl → Int → Hp → Prop) (y7 : ByteArray) (y8 : Sl) (y9 y10 : Int) (y13 : Bool) (H_3 : Hp) : Prop :=
(y13 = true → (X2 y8 (IntKind.i64.wrap (y9 + 1)) H_3)) ∧
 (y13 = false → (((decide (y10 = 40)) = true → (F75_4 Q X2 y7 y8 y9 y9 true H_3)) ∧
 ((decide (y10 = 40)) = false → (((decide (y10 = 41)) = true → (F75_4 Q X2 y7 y8 y9 y9 true H_3)) ∧
 ((decide (y10 = 41)) = false → (F75_4 Q X2 y7 y8 y9 y9 (decide (y10 = 44)) H_3))))))
def F75_L2b (Q : Sl → Hp → Prop) (X2 : Sl → Int → Hp → Prop) (y3 : ByteArray) (y1 : Sl) (y2 : Int) (H_2 : Hp) : Prop :=
((decide (y2 < ((y3).size : Int))) = true → ((0 : Int) ≤ y2 ∧ y2.toNat < (y3).size ∧ (
 ((decide ((bt y3 y2.toNat) = 32)) = true → (F75_3 Q X2 y3 y1 y2 (bt y3 y2.toNat) true H_2)) ∧
 ((decide ((bt y3 y2.toNat) = 32)) = false → (((decide ((bt y3 y2.toNat) = 9)) = true → (F75_3 Q X2 y3 y1 y2 (bt y3 y2.toNat) true H_2)) ∧
 ((decide ((bt y3 y2.toNat) = 9)) = false → (((decide ((bt y3 y2.toNat) = 10)) = true → (F75_3 Q X2 y3 y1 y2 (bt y3 y2.toNat) true H_2)) ∧
 ((decide ((bt y3 y2.toNat) = 10)) = false → (F75_3 Q X2 y3 y1 y2 (bt y3 y2.toNat) (decide ((bt y3 y2.toNat) = 13)) H_2))))))))) ∧
 ((decide (y2 < ((y3).size : Int))) = false → (F75_1 Q y1 y2 H_2))
def F75_L2 (Q : Sl → Hp → Prop) (y3 : ByteArray) (y1 : Sl) (y2 : Int) (H_2 : Hp) : Prop :=
 ∀ X2 : Sl → Int → Hp → Prop, (∀ (y1 : Sl) (y2 : Int) (H_2 : Hp), F75_L2b Q X2 y3 y1 y2 H_2 → X2 y1 y2 H_2) → X2 y1 y2 H_2
def F75 (p0 : ByteArray) (H : Hp) (Q : Sl → Hp → Prop) : Prop :=
F75_L2 Q p0 Sl.nil 0 H
theorem walk75 {w0 : World} {p0 : ByteArray} {H : Hp} {Q : Sl → Hp → Prop} (h : F75 p0 H Q) :
  Good prog w0 75 #[(sv p0)] H (fun v H => ∃ (r0 : Sl) , v = (Sl.v r0) ∧ Q r0 H) := by
 unfold F75 at h
 refine Good.enter' (fn := f75) func75 rfl rfl rfl (ws (wr_ (hv (v := sN) rfl (av rfl) (hn (nt (ws (wr_ ?_)))))))
 refine hv (v := sN) rfl (av rfl) (hn (nt (ws (wr_ (hv (v := (iv 0)) rfl (av rfl) (hn (nt (wc (fun ρ H_1 => ∃ (y55 : Sl) (y56 : Int), Env.Is ρ [(3, (Sl.v y55)), (4, (iv y56))] ∧ F75_1 Q y55 y56 H_1) ?_ ?_))))))))
 ·refine wb (HW.loop' (fun L2 hL2 => ?_))
  obtain ⟨X2, hX2⟩ : ∃ X2 : Sl → Int → Hp → Prop, ∀ (y1 : Sl) (y2 : Int) (H_2 : Hp), X2 y1 y2 H_2 ↔ ∀ ρ, Env.Is ρ [(0, (sv p0)), (3, (Sl.v y1)), (4, (iv y2))] → L2 ρ H_2 := ⟨_, fun _ _ _ => Iff.rfl⟩
  refine (hX2 _ _ _).1 (h X2 ?_) _ ?_
  rotate_left
  ·exact (isp rfl)
  clear h
  intro y1 y2 H_2 h
  refine (hX2 _ _ _).2 fun ρ hI => ?_
  obtain ⟨ρ0, rfl⟩ := hI.ex
  clear hI; unfold F75_L2b at h; refine hL2 _ _ ?_
  refine ws (ws (wr_ (hv (v := (iv y2)) rfl (mv rfl) (hv (v := (sv p0)) rfl (mv rfl) (hv (v := (iv ((p0).size : Int))) rfl (HVal.lenS runUnderlying9 rfl) ?_)))))
  refine hv (v := (bv (decide (y2 < ((p0).size : Int))))) rfl (HVal.lss rfl rfl) (hn (nt ?_))
  obtain ⟨hT, hF⟩ := h
  refine wk (decide (y2 < ((p0).size : Int))) rfl (fun hb4 => ?_) (fun hb4 => ?_)
  ·have h := hT hb4
   refine wp_ (nt (wb (ws (wr_ (hv (v := (sv p0)) rfl (mv rfl) (hv (v := (iv y2)) rfl (mv rfl) ?_))))))
   obtain ⟨b5, b6, h⟩ := h
   refine hv (v := (.int .u8 (bt p0 y2.toNat))) rfl (HVal.indexS' runUnderlying9 rfl rfl b5 b6) (hv (v := (.int .u8 (bt p0 y2.toNat))) rfl (av rfl) ?_)
   refine hn (nt (ws (wc (fun ρ H_3 => ∃ (y13 : Bool), Env.Is ρ [(0, (sv p0)), (3, (Sl.v y1)), (4, (iv y2)), (5, (.int .u8 (bt p0 y2.toNat))), (27, (bv y13))] ∧ F75_3 Q X2 p0 y1 y2 (bt p0 y2.toNat) y13 H_3) ?_ ?_)))
   ·refine wr_ (hv (v := (.int .u8 (bt p0 y2.toNat))) rfl (mv rfl) (hv (v := (bv (decide ((bt p0 y2.toNat) = 32)))) rfl (HVal.eqlI rfl rfl) ?_))
    refine hv (v := (bv (decide ((bt p0 y2.toNat) = 32)))) rfl (mv rfl) ?_
    obtain ⟨hT, hF⟩ := h
    rcases Bool.eq_false_or_eq_true (decide ((bt p0 y2.toNat) = 32)) with hb11 | hb12
    ·have h := hT hb11
     refine hs_ rfl rfl rfl rfl (cB hb11) (hs_ rfl rfl rfl rfl (cB hb11) (hv (v := (bv true)) rfl (pt_ rfl hb11 rfl) (hv (v := (bv true)) rfl (mv rfl) ?_)))
     refine hs_ rfl rfl rfl rfl rfl (hs_ rfl rfl rfl rfl rfl (hv (v := (bv true)) rfl (pt_ rfl rfl rfl) (hv (v := (bv true)) rfl (mv rfl) ?_)))
     refine hs_ rfl rfl rfl rfl rfl (hs_ rfl rfl rfl rfl rfl (hv (v := (bv true)) rfl (pt_ rfl rfl rfl) (hn (nt ?_))))
     exact ⟨true, (isp rfl), h⟩
    have h := hF hb12
    refine hg (v := (.int .u8 (bt p0 y2.toNat))) rfl rfl rfl rfl (cB hb12) (mv rfl) (hg (v := (bv (decide ((bt p0 y2.toNat) = 9)))) rfl rfl rfl rfl (cB hb12) (HVal.eqlI rfl rfl) ?_)
    refine hv (v := (bv (decide ((bt p0 y2.toNat) = 9)))) rfl (pf_ rfl hb12 rfl) (hv (v := (bv (decide ((bt p0 y2.toNat) = 9)))) rfl (mv rfl) ?_)
    obtain ⟨hT, hF⟩ := h
    rcases Bool.eq_false_or_eq_true (decide ((bt p0 y2.toNat) = 9)) with hb14 | hb15
    ·have h := hT hb14
     refine hs_ rfl rfl rfl rfl (cB hb14) (hs_ rfl rfl rfl rfl (cB hb14) (hv (v := (bv true)) rfl (pt_ rfl hb14 rfl) (hv (v := (bv true)) rfl (mv rfl) ?_)))
     refine hs_ rfl rfl rfl rfl rfl (hs_ rfl rfl rfl rfl rfl (hv (v := (bv true)) rfl (pt_ rfl rfl rfl) (hn (nt ?_))))
     exact ⟨true, (isp rfl), h⟩
    have h := hF hb15
    refine hg (v := (.int .u8 (bt p0 y2.toNat))) rfl rfl rfl rfl (cB hb15) (mv rfl) (hg (v := (bv (decide ((bt p0 y2.toNat) = 10)))) rfl rfl rfl rfl (cB hb15) (HVal.eqlI rfl rfl) ?_)
    refine hv (v := (bv (decide ((bt p0 y2.toNat) = 10)))) rfl (pf_ rfl hb15 rfl) (hv (v := (bv (decide ((bt p0 y2.toNat) = 10)))) rfl (mv rfl) ?_)
    obtain ⟨hT, hF⟩ := h
    rcases Bool.eq_false_or_eq_true (decide ((bt p0 y2.toNat) = 10)) with hb16 | hb17
    ·have h := hT hb16
     refine hs_ rfl rfl rfl rfl (cB hb16) (hs_ rfl rfl rfl rfl (cB hb16) (hv (v := (bv true)) rfl (pt_ rfl hb16 rfl) (hn (nt ?_))))
     exact ⟨true, (isp rfl), h⟩
    have h := hF hb17
    refine hg (v := (.int .u8 (bt p0 y2.toNat))) rfl rfl rfl rfl (cB hb17) (mv rfl) (hg (v := (bv (decide ((bt p0 y2.toNat) = 13)))) rfl rfl rfl rfl (cB hb17) (HVal.eqlI rfl rfl) ?_)
    refine hv (v := (bv (decide ((bt p0 y2.toNat) = 13)))) rfl (pf_ rfl hb17 rfl) (hn (nt ?_))
    exact ⟨(decide ((bt p0 y2.toNat) = 13)), (isp rfl), h⟩
   rintro ρ H_3 ⟨y13, hI, h⟩
   obtain ⟨ρ0, rfl⟩ := hI.ex
   clear hI; unfold F75_3 at h
   obtain ⟨hT, hF⟩ := h
   refine wk y13 rfl (fun hb18 => ?_) (fun hb18 => ?_)
   ·have h := hT hb18
    refine ws (wr_ (hv (v := (iv y2)) rfl (mv rfl) (hv (v := (iv (IntKind.i64.wrap (y2 + 1)))) rfl (HVal.add rfl rfl) (hv (v := (iv (IntKind.i64.wrap (y2 + 1)))) rfl (av rfl) ?_))))
    refine hn (nt (we (te (be (nt ?_)))))
    exact (hX2 _ _ _).1 h _ (isp rfl)
   have h := hF hb18
   refine wp_ (nt (ws (wr_ (hv (v := (iv y2)) rfl (mv rfl) (hv (v := (iv y2)) rfl (av rfl) (hn (nt ?_)))))))
   refine ws (wc (fun ρ H_4 => ∃ (y25 : Bool), Env.Is ρ [(0, (sv p0)), (3, (Sl.v y1)), (4, (iv y2)), (6, (iv y2)), (40, (bv y25))] ∧ F75_4 Q X2 p0 y1 y2 y2 y25 H_4) ?_ ?_)
   ·refine wr_ (hv (v := (.int .u8 (bt p0 y2.toNat))) rfl (mv rfl) (hv (v := (bv (decide ((bt p0 y2.toNat) = 40)))) rfl (HVal.eqlI rfl rfl) ?_))
    refine hv (v := (bv (decide ((bt p0 y2.toNat) = 40)))) rfl (mv rfl) ?_
    obtain ⟨hT, hF⟩ := h
    rcases Bool.eq_false_or_eq_true (decide ((bt p0 y2.toNat) = 40)) with hb23 | hb24
    ·have h := hT hb23
     refine hs_ rfl rfl rfl rfl (cB hb23) (hs_ rfl rfl rfl rfl (cB hb23) (hv (v := (bv true)) rfl (pt_ rfl hb23 rfl) (hv (v := (bv true)) rfl (mv rfl) ?_)))
     refine hs_ rfl rfl rfl rfl rfl (hs_ rfl rfl rfl rfl rfl (hv (v := (bv true)) rfl (pt_ rfl rfl rfl) (hn (nt ?_))))
     exact ⟨true, (isp rfl), h⟩
    have h := hF hb24
    refine hg (v := (.int .u8 (bt p0 y2.toNat))) rfl rfl rfl rfl (cB hb24) (mv rfl) (hg (v := (bv (decide ((bt p0 y2.toNat) = 41)))) rfl rfl rfl rfl (cB hb24) (HVal.eqlI rfl rfl) ?_)
    refine hv (v := (bv (decide ((bt p0 y2.toNat) = 41)))) rfl (pf_ rfl hb24 rfl) (hv (v := (bv (decide ((bt p0 y2.toNat) = 41)))) rfl (mv rfl) ?_)
    obtain ⟨hT, hF⟩ := h
    rcases Bool.eq_false_or_eq_true (decide ((bt p0 y2.toNat) = 41)) with hb26 | hb27
    ·have h := hT hb26
     refine hs_ rfl rfl rfl rfl (cB hb26) (hs_ rfl rfl rfl rfl (cB hb26) (hv (v := (bv true)) rfl (pt_ rfl hb26 rfl) (hn (nt ?_))))
     exact ⟨true, (isp rfl), h⟩
    have h := hF hb27
    refine hg (v := (.int .u8 (bt p0 y2.toNat))) rfl rfl rfl rfl (cB hb27) (mv rfl) (hg (v := (bv (decide ((bt p0 y2.toNat) = 44)))) rfl rfl rfl rfl (cB hb27) (HVal.eqlI rfl rfl) ?_)
    refine hv (v := (bv (decide ((bt p0 y2.toNat) = 44)))) rfl (pf_ rfl hb27 rfl) (hn (nt ?_))
    exact ⟨(decide ((bt p0 y2.toNat) = 44)), (isp rfl), h⟩
   rintro ρ H_4 ⟨y25, hI, h⟩
   obtain ⟨ρ0, rfl⟩ := hI.ex
   clear hI; unfold F75_4 at h
   obtain ⟨hT, hF⟩ := h
   refine wk y25 rfl (fun hb28 => ?_) (fun hb28 => ?_)
   ·have h := hT hb28
    refine ws (wr_ (hv (v := (iv y2)) rfl (mv rfl) (hv (v := (iv (IntKind.i64.wrap (y2 + 1)))) rfl (HVal.add rfl rfl) (hv (v := (iv (IntKind.i64.wrap (y2 + 1)))) rfl (av rfl) ?_))))
    refine hn (nt (ws (wr_ (hv (v := (Sl.v y1)) rfl (mv rfl) (hv (v := (sv p0)) rfl (mv rfl) (hv (v := (iv y2)) rfl (mv rfl) ?_))))))
    refine hv (v := (iv (IntKind.i64.wrap (y2 + 1)))) rfl (mv rfl) ?_
    obtain ⟨z29, z30, z31, z32, h⟩ := h
    refine hv (v := (sv ((p0).extract y2.toNat ((IntKind.i64.wrap (y2 + 1)).toNat)))) rfl (HVal.sliceS _ _ runUnderlying9 rfl ⟨_, _, rfl, z29, rfl⟩ ⟨_, _, rfl, z30, rfl⟩ z31 z32) ?_
    refine hv (v := (iv y2)) rfl (mv rfl) (hv (v := (.agg #[(sv ((p0).extract y2.toNat ((IntKind.i64.wrap (y2 + 1)).toNat))), (iv y2), (bv false)])) rfl (HVal.build' (cs := [(sv ((p0).extract y2.toNat ((IntKind.i64.wrap (y2 + 1)).toNat))), (iv y2), (bv false)]) runUnderlying123 zeroValue123 places123 rfl) ?_)
    refine ho rfl (HOp.buildSlice' (zs := [(sv bE), (iv 0), (bv false)]) (cs := [(sv ((p0).extract y2.toNat ((IntKind.i64.wrap (y2 + 1)).toNat))), (iv y2), (bv false)]) runUnderlying120 sizeOf123 zeroValue123 (by decide) (by kernel_rfl) rfl (by decide)) ?_
    rintro _ H33 ⟨rfl, e34⟩
    replace h := h H33 e34
    refine ho rfl (HOp.append (k := 3) (b := 32) runUnderlying120 runUnderlying120 typeInfo123 rfl rfl zeroValue123 rfl rfl h) ?_
    rintro _ H35 ⟨r37, rfl, h⟩
    refine hv (v := (Sl.v r37)) rfl (av rfl) (hn (nt (we (te (be (nt ?_))))))
    exact (hX2 _ _ _).1 h _ (isp rfl)
   have h := hF hb28
   refine wp_ (nt (wc (fun ρ H_5 => ∃ (y53 : Int), Env.Is ρ [(0, (sv p0)), (3, (Sl.v y1)), (6, (iv y2)), (4, (iv y53))] ∧ F75_5 Q X2 p0 y1 y2 y53 H_5) ?_ ?_))
   ·refine wb (HW.loop' (fun L6 hL6 => ?_))
    obtain ⟨X6, hX6⟩ : ∃ X6 : Int → Hp → Prop, ∀ (y41 : Int) (H_6 : Hp), X6 y41 H_6 ↔ ∀ ρ, Env.Is ρ [(0, (sv p0)), (3, (Sl.v y1)), (6, (iv y2)), (4, (iv y41))] → L6 ρ H_6 := ⟨_, fun _ _ => Iff.rfl⟩
    refine (hX6 _ _).1 (h X6 ?_) _ ?_
    rotate_left
    ·exact (isp rfl)
    clear h
    intro y41 H_6 h
    refine (hX6 _ _).2 fun ρ hI => ?_
    obtain ⟨ρ0, rfl⟩ := hI.ex
    clear hI; unfold F75_L6b at h; refine hL6 _ _ ?_
    refine ws (ws (wr_ (hv (v := (iv y41)) rfl (mv rfl) (hv (v := (sv p0)) rfl (mv rfl) (hv (v := (iv ((p0).size : Int))) rfl (HVal.lenS runUnderlying9 rfl) ?_)))))
    refine hv (v := (bv (decide (y41 < ((p0).size : Int))))) rfl (HVal.lss rfl rfl) (hv (v := (bv (decide (y41 < ((p0).size : Int))))) rfl (mv rfl) ?_)
    obtain ⟨hT, hF⟩ := h
    rcases Bool.eq_false_or_eq_true (decide (y41 < ((p0).size : Int))) with hb45 | hb46
    ·have h := hT hb45
     refine hg (v := (sv p0)) rfl rfl rfl rfl (cB hb45) (mv rfl) (hg (v := (iv y41)) rfl rfl rfl rfl (cB hb45) (mv rfl) ?_)
     obtain ⟨b47, b48, h⟩ := h
     refine hg (v := (.int .u8 (bt p0 y41.toNat))) rfl rfl rfl rfl (cB hb45) (HVal.indexS' runUnderlying9 rfl rfl b47 b48) (HList.gops rfl rfl rfl rfl (cB hb45) (HOp.call' 74 [(.int .u8 (bt p0 y41.toNat))] (cap := []) rfl rfl call74 (walk74 h)) ?_)
     rintro _ H49 ⟨r51, rfl, h⟩
     refine hv (v := (bv r51)) rfl (pt_ rfl hb45 rfl) (hn (nt ?_))
     obtain ⟨hT, hF⟩ := h
     refine wk r51 rfl (fun hb52 => ?_) (fun hb52 => ?_)
     ·have h := hT hb52
      refine wp_ (nt (wb (wr_ (hv (v := (iv y41)) rfl (mv rfl) (hv (v := (iv (IntKind.i64.wrap (y41 + 1)))) rfl (HVal.add rfl rfl) ?_)))))
      refine hv (v := (iv (IntKind.i64.wrap (y41 + 1)))) rfl (av rfl) (hn (nb (nt ?_)))
      exact (hX6 _ _).1 h _ (isp rfl)
     have h := hF hb52
     refine we (te (te (be (nt ?_))))
     exact ⟨y41, (isp rfl), h⟩
    have h := hF hb46
    refine hs_ rfl rfl rfl rfl (cB hb46) (hs_ rfl rfl rfl rfl (cB hb46) (hs_ rfl rfl rfl rfl (cB hb46) (hs_ rfl rfl rfl rfl (cB hb46) ?_)))
    refine hv (v := (bv false)) rfl (pf_ rfl hb46 rfl) (hn (nt (HW.condF false rfl rfl (we (te (te (be (nt ?_))))))))
    exact ⟨y41, (isp rfl), h⟩
   rintro ρ H_5 ⟨y53, hI, h⟩
   obtain ⟨ρ0, rfl⟩ := hI.ex
   clear hI; unfold F75_5 at h
   refine ws (ws (wr_ (hv (v := (iv y53)) rfl (mv rfl) (hv (v := (iv y2)) rfl (mv rfl) (hv (v := (bv (decide (y53 = y2)))) rfl (HVal.eqlI rfl rfl) ?_)))))
   refine hn (nt ?_)
   obtain ⟨hT, hF⟩ := h
   refine wk (decide (y53 = y2)) rfl (fun hb54 => ?_) (fun hb54 => ?_)
   ·have h := hT hb54
    refine we (te (bx rfl (te (be (nt ?_)))))
    exact ⟨y1, y53, (isp rfl), h⟩
   have h := hF hb54
   refine wp_ (nt (wr_ (hv (v := (Sl.v y1)) rfl (mv rfl) (hv (v := (sv p0)) rfl (mv rfl) (hv (v := (iv y2)) rfl (mv rfl) ?_)))))
   refine hv (v := (iv y53)) rfl (mv rfl) ?_
   obtain ⟨z57, z58, z59, z60, h⟩ := h
   refine hv (v := (sv ((p0).extract y2.toNat y53.toNat))) rfl (HVal.sliceS _ _ runUnderlying9 rfl ⟨_, _, rfl, z57, rfl⟩ ⟨_, _, rfl, z58, rfl⟩ z59 z60) ?_
   refine hv (v := (iv y2)) rfl (mv rfl) (hv (v := (.agg #[(sv ((p0).extract y2.toNat y53.toNat)), (iv y2), (bv true)])) rfl (HVal.build' (cs := [(sv ((p0).extract y2.toNat y53.toNat)), (iv y2), (bv true)]) runUnderlying123 zeroValue123 places123 rfl) ?_)
   refine ho rfl (HOp.buildSlice' (zs := [(sv bE), (iv 0), (bv false)]) (cs := [(sv ((p0).extract y2.toNat y53.toNat)), (iv y2), (bv true)]) runUnderlying120 sizeOf123 zeroValue123 (by decide) (by kernel_rfl) rfl (by decide)) ?_
   rintro _ H61 ⟨rfl, e62⟩
   replace h := h H61 e62
   refine ho rfl (HOp.append (k := 3) (b := 32) runUnderlying120 runUnderlying120 typeInfo123 rfl rfl zeroValue123 rfl rfl h) ?_
   rintro _ H63 ⟨r65, rfl, h⟩
   refine hv (v := (Sl.v r65)) rfl (av rfl) (hn (nb (nt ?_)))
   exact (hX2 _ _ _).1 h _ (isp rfl)
  have h := hF hb4
  refine we (te (te (be (nt ?_))))
  exact ⟨y1, y2, (isp rfl), h⟩
 rintro ρ H_1 ⟨y55, y56, hI, h⟩
 obtain ⟨ρ0, rfl⟩ := hI.ex
 clear hI; unfold F75_1 at h
 refine ws (wr_ (hv (v := (Sl.v y55)) rfl (mv rfl) (hv (v := (iv y56)) rfl (mv rfl) (hv (v := (.agg #[(sv bE), (iv y56), (bv false)])) rfl (HVal.build' (cs := [(sv bE), (iv y56), (bv false)]) runUnderlying123 zeroValue123 places123 rfl) ?_))))
 refine ho rfl (HOp.buildSlice' (zs := [(sv bE), (iv 0), (bv false)]) (cs := [(sv bE), (iv y56), (bv false)]) runUnderlying120 sizeOf123 zeroValue123 (by decide) (by kernel_rfl) rfl (by decide)) ?_
 rintro _ H66 ⟨rfl, e67⟩
 replace h := h H66 e67
 refine ho rfl (HOp.append (k := 3) (b := 32) runUnderlying120 runUnderlying120 typeInfo123 rfl rfl zeroValue123 rfl rfl h) ?_
 rintro _ H68 ⟨r70, rfl, h⟩
 refine hv (v := (Sl.v r70)) rfl (av rfl) (hn (nt (HW.ret ?_)))
 exact ⟨_, resOf1 rfl Res1.t, ⟨r70, rfl, h⟩⟩

def F92_L2b (Q X2 : Int → Hp → Prop) (y16 : ByteArray) (y17 : Addr) (y15 : Int) (H_2 : Hp) : Prop :=
∃ x19 : Sl, cell H_2 (Addr.add y17 1) = some (Sl.v x19) ∧ (
 ((decide (y15 < ((x19).n : Int))) = true → (∃ x22 : Sl, cell H_2 (Addr.add y17 1) = some (Sl.v x22) ∧ (
 ∃ a23 : Addr, (x22).b = some a23 ∧ (0 : Int) ≤ y15 ∧ y15 < ((x22).n : Int) ∧ (
 ∃ x28 : ByteArray, cell H_2 (Addr.add a23 (y15.toNat * 2)) = some (sv x28) ∧ (
 ((seq x28 y16) = true → (Q 5 H_2)) ∧
 ((seq x28 y16) = false → (X2 (IntKind.i64.wrap (y15 + 1)) H_2))))))) ∧
 ((decide (y15 < ((x19).n : Int))) = false → (Q 0 H_2)))
def F92_L2 (Q : Int → Hp → Prop) (y16 : ByteArray) (y17 : Addr) (y15 : Int) (H_2 : Hp) : Prop :=
 ∀ X2 : Int → Hp → Prop, (∀ (y15 : Int) (H_2 : Hp), F92_L2b Q X2 y16 y17 y15 H_2 → X2 y15 H_2) → X2 y15 H_2
def F92_1 (Q : Int → Hp → Prop) (y6 : ByteArray) (y7 : Addr) (y13 : Bool) (H_1 : Hp) : Prop :=
(y13 = true → (Q 20 H_1)) ∧
 (y13 = false → (F92_L2 Q y6 y7 0 H_1))
def F92 (p0_0 : ByteArray) (p0_1 : Sl) (p1 : ByteArray) (H : Hp) (Q : Int → Hp → Prop) : Prop :=
∀ H1 : Hp, H1 = Array.push H (.cells #[(sv p0_0), (Sl.v p0_1)] 27) → (
 ∃ x4 : Sl, cell H1 (Addr.add (bk H) 1) = some (Sl.v x4) ∧ (
 ((decide ((16 : Int) ≤ ((x4).n : Int))) = true → (Q 2 H1)) ∧
 ((decide ((16 : Int) ≤ ((x4).n : Int))) = false → (F49 p1 H1 (fun (r10 : Bool) (H8 : Hp) => 
 ((!r10) = true → (F92_1 Q p1 (bk H) true H8)) ∧
 ((!r10) = false → (F92_1 Q p1 (bk H) (seq p1 S_time) H8)))))))
theorem walk92 {w0 : World} {p0_0 : ByteArray} {p0_1 : Sl} {p1 : ByteArray} {H : Hp} {Q : Int → Hp → Prop} (h : F92 p0_0 p0_1 p1 H Q) :
  Good prog w0 92 #[(.agg #[(sv p0_0), (Sl.v p0_1)]), (sv p1)] H (fun v H => ∃ (r0 : Int) , v = (iv r0) ∧ Q r0 H) := by
 unfold F92 at h
 refine Good.enter' (fn := f92) func92 rfl rfl rfl (ws (wr_ (ho rfl (ob (v := (.agg #[(sv p0_0), (Sl.v p0_1)])) rfl) ?_)))
 rintro _ H1 ⟨rfl, e2⟩
 replace h := h H1 e2
 refine hv (v := (iv 0)) rfl (av rfl) (hn (nt (ws (ws (wr_ (hv (v := (pp (Addr.add (bk H) 1))) rfl (fa runUnderlying27 rfl rfl sizeOf25 rfl) ?_))))))
 obtain ⟨x4, c3, h⟩ := h
 refine hv (v := (Sl.v x4)) rfl (l1 isAgg25 rfl c3) (hv (v := (iv ((x4).n : Int))) rfl (HVal.len runUnderlying25 rfl) (hv (v := (bv (decide ((16 : Int) ≤ ((x4).n : Int))))) rfl (HVal.geq rfl rfl) ?_))
 refine hn (nt ?_)
 obtain ⟨hT, hF⟩ := h
 refine wk (decide ((16 : Int) ≤ ((x4).n : Int))) rfl (fun hb5 => ?_) (fun hb5 => ?_)
 ·have h := hT hb5
  refine ws (wr_ (hv (v := (iv 2)) rfl (av rfl) (hn (nt (HW.ret (tr ?_))))))
  exact ⟨_, resOf1 rfl Res1.t, ⟨2, rfl, h⟩⟩
 have h := hF hb5
 refine wp_ (nt (ws (wc (fun ρ H_1 => ∃ (y13 : Bool), Env.Is ρ [(1, (sv p1)), (2, (pp (bk H))), (16, (bv y13))] ∧ F92_1 Q p1 (bk H) y13 H_1) ?_ ?_)))
 ·refine wr_ (hv (v := (sv p1)) rfl (mv rfl) (ho rfl (HOp.call' 49 [(sv p1)] (cap := []) rfl rfl call49 (walk49 h)) ?_))
  rintro _ H8 ⟨r10, rfl, h⟩
  refine hv (v := (bv (!r10))) rfl (HVal.not rfl) (hv (v := (bv (!r10))) rfl (mv rfl) ?_)
  obtain ⟨hT, hF⟩ := h
  rcases Bool.eq_false_or_eq_true (!r10) with hb11 | hb12
  ·have h := hT hb11
   refine hs_ rfl rfl rfl rfl (cB hb11) (hs_ rfl rfl rfl rfl (cB hb11) (hv (v := (bv true)) rfl (pt_ rfl hb11 rfl) (hn (nt ?_))))
   exact ⟨true, (isp rfl), h⟩
  have h := hF hb12
  refine hg (v := (sv p1)) rfl rfl rfl rfl (cB hb12) (mv rfl) (hg (v := (bv (seq p1 S_time))) rfl rfl rfl rfl (cB hb12) (HVal.eqlS rfl rfl) ?_)
  refine hv (v := (bv (seq p1 S_time))) rfl (pf_ rfl hb12 rfl) (hn (nt ?_))
  exact ⟨(seq p1 S_time), (isp rfl), h⟩
 rintro ρ H_1 ⟨y13, hI, h⟩
 obtain ⟨ρ0, rfl⟩ := hI.ex
 clear hI; unfold F92_1 at h
 obtain ⟨hT, hF⟩ := h
 refine wk y13 rfl (fun hb14 => ?_) (fun hb14 => ?_)
 ·have h := hT hb14
  refine ws (wr_ (hv (v := (iv 20)) rfl (av rfl) (hn (nt (HW.ret (tr ?_))))))
  exact ⟨_, resOf1 rfl Res1.t, ⟨20, rfl, h⟩⟩
 have h := hF hb14
 refine wp_ (nt (ws (ws (wr_ (hv (v := (iv 0)) rfl (av rfl) (hn (nt (wb (HW.loop' (fun L2 hL2 => ?_))))))))))
 obtain ⟨X2, hX2⟩ : ∃ X2 : Int → Hp → Prop, ∀ (y15 : Int) (H_2 : Hp), X2 y15 H_2 ↔ ∀ ρ, Env.Is ρ [(1, (sv p1)), (2, (pp (bk H))), (5, (iv y15))] → L2 ρ H_2 := ⟨_, fun _ _ => Iff.rfl⟩
 refine (hX2 _ _).1 (h X2 ?_) _ ?_
 rotate_left
 ·exact (isp rfl)
 clear h
 intro y15 H_2 h
 refine (hX2 _ _).2 fun ρ hI => ?_
 obtain ⟨ρ0, rfl⟩ := hI.ex
 clear hI; unfold F92_L2b at h; refine hL2 _ _ ?_
 refine ws (ws (wr_ (hv (v := (iv y15)) rfl (mv rfl) (hv (v := (pp (Addr.add (bk H) 1))) rfl (fa runUnderlying27 rfl rfl sizeOf25 rfl) ?_))))
 obtain ⟨x19, c18, h⟩ := h
 refine hv (v := (Sl.v x19)) rfl (l1 isAgg25 rfl c18) (hv (v := (iv ((x19).n : Int))) rfl (HVal.len runUnderlying25 rfl) (hv (v := (bv (decide (y15 < ((x19).n : Int))))) rfl (HVal.lss rfl rfl) ?_))
 refine hn (nt ?_)
 obtain ⟨hT, hF⟩ := h
 refine wk (decide (y15 < ((x19).n : Int))) rfl (fun hb20 => ?_) (fun hb20 => ?_)
 ·have h := hT hb20
  refine wp_ (nt (ws (wb (ws (wr_ (hv (v := (pp (Addr.add (bk H) 1))) rfl (fa runUnderlying27 rfl rfl sizeOf25 rfl) ?_))))))
  obtain ⟨x22, c21, h⟩ := h
  refine hv (v := (Sl.v x22)) rfl (l1 isAgg25 rfl c21) (hv (v := (iv y15)) rfl (mv rfl) ?_)
  obtain ⟨a23, e24, b25, b26, h⟩ := h
  refine hv (v := (pp (Addr.add a23 (y15.toNat * 2)))) rfl (ia runUnderlying25 sizeOf38 (Sl.v_some rfl e24) rfl b25 b26) ?_
  refine hv (v := (pp (Addr.add a23 (y15.toNat * 2)))) rfl (HVal.fieldAddr0 runUnderlying38 rfl rfl sizeOf9 rfl) ?_
  obtain ⟨x28, c27, h⟩ := h
  refine hv (v := (sv x28)) rfl (l1 isAgg9 rfl c27) (hv (v := (sv p1)) rfl (mv rfl) (hv (v := (bv (seq x28 p1))) rfl (HVal.eqlS rfl rfl) ?_))
  refine hn (nt ?_)
  obtain ⟨hT, hF⟩ := h
  refine wk (seq x28 p1) rfl (fun hb29 => ?_) (fun hb29 => ?_)
  ·have h := hT hb29
   refine ws (wr_ (hv (v := (iv 5)) rfl (av rfl) (hn (nt (HW.ret (br (tr (tr (br (tr ?_))))))))))
   exact ⟨_, resOf1 rfl Res1.t, ⟨5, rfl, h⟩⟩
  have h := hF hb29
  refine wp_ (nb (nt (wr_ (hv (v := (iv y15)) rfl (mv rfl) (hv (v := (iv (IntKind.i64.wrap (y15 + 1)))) rfl (HVal.add rfl rfl) ?_)))))
  refine hv (v := (iv (IntKind.i64.wrap (y15 + 1)))) rfl (av rfl) (hn (nt ?_))
  exact (hX2 _ _).1 h _ (isp rfl)
 have h := hF hb20
 refine we (te (te (be (nt (ws (wr_ (hv (v := (iv 0)) rfl (av rfl) (hn (nt (HW.ret ?_))))))))))
 exact ⟨_, resOf1 rfl Res1.t, ⟨0, rfl, h⟩⟩

def F93_L1b (Q X1 : Int → Hp → Prop) (y7 : ByteArray) (y8 : Addr) (y6 : Int) (H_1 : Hp) : Prop :=
((decide (y6 < 4)) = true → ((0 : Int) ≤ y6 ∧ y6 < ((4 : Nat) : Int) ∧ (
 ∃ x13 : ByteArray, cell H_1 (Addr.add y8 (y6.toNat * 1)) = some (sv x13) ∧ (
 ((seq x13 y7) = true → (Q y6 H_1)) ∧
 ((seq x13 y7) = false → (X1 (IntKind.i64.wrap (y6 + 1)) H_1)))))) ∧
 ((decide (y6 < 4)) = false → (Q 0 H_1))
def F93_L1 (Q : Int → Hp → Prop) (y7 : ByteArray) (y8 : Addr) (y6 : Int) (H_1 : Hp) : Prop :=
 ∀ X1 : Int → Hp → Prop, (∀ (y6 : Int) (H_1 : Hp), F93_L1b Q X1 y7 y8 y6 H_1 → X1 y6 H_1) → X1 y6 H_1
def F93 (p0 : ByteArray) (H : Hp) (Q : Int → Hp → Prop) : Prop :=
∀ H1 : Hp, H1 = Array.push H (.cells #[(sv bE), (sv bE), (sv bE), (sv bE)] 49) → (
 mayw H1 (bk H) 4 0 ∧ ∀ H3 : Hp, H3 = sets H1 (bk H) [(sv bE), (sv S_INT), (sv S_STR), (sv S_BOOL)] 0 → (
 F93_L1 Q p0 (bk H) 1 H3))
theorem walk93 {w0 : World} {p0 : ByteArray} {H : Hp} {Q : Int → Hp → Prop} (h : F93 p0 H Q) :
  Good prog w0 93 #[(sv p0)] H (fun v H => ∃ (r0 : Int) , v = (iv r0) ∧ Q r0 H) := by
 unfold F93 at h
 refine Good.enter' (fn := f93) func93 rfl rfl rfl (ws (wr_ (hv (v := (iv 0)) rfl (av rfl) (hn (nt (ws ?_))))))
 refine wr_ (hv (v := (.agg #[(sv bE), (sv S_INT), (sv S_STR), (sv S_BOOL)])) rfl (HVal.buildA' (cs := [(sv bE), (sv S_INT), (sv S_STR), (sv S_BOOL)]) runUnderlying49 zeroValue49 sizeOf9 rfl) ?_)
 refine ho rfl (HOp.alloc zeroValue49) ?_
 rintro _ H1 ⟨rfl, e2⟩
 replace h := h H1 e2
 obtain ⟨z5, h⟩ := h
 refine hq (HOp.storeN' (l := [(sv bE), (sv S_INT), (sv S_STR), (sv S_BOOL)]) sizeOf49 rfl rfl rfl z5) ?_
 rintro _ H3 e4
 replace h := h H3 e4
 refine hn (nt (ws (ws (wr_ (hv (v := (iv 1)) rfl (av rfl) (hn (nt (wb (HW.loop' (fun L1 hL1 => ?_))))))))))
 obtain ⟨X1, hX1⟩ : ∃ X1 : Int → Hp → Prop, ∀ (y6 : Int) (H_1 : Hp), X1 y6 H_1 ↔ ∀ ρ, Env.Is ρ [(0, (sv p0)), (3, (pp (bk H))), (4, (iv y6))] → L1 ρ H_1 := ⟨_, fun _ _ => Iff.rfl⟩
 refine (hX1 _ _).1 (h X1 ?_) _ ?_
 rotate_left
 ·exact (isp rfl)
 clear h
 intro y6 H_1 h
 refine (hX1 _ _).2 fun ρ hI => ?_
 obtain ⟨ρ0, rfl⟩ := hI.ex
 clear hI; unfold F93_L1b at h; refine hL1 _ _ ?_
 refine ws (ws (wr_ (hv (v := (iv y6)) rfl (mv rfl) (hv (v := (bv (decide (y6 < 4)))) rfl (HVal.lss rfl rfl) (hn (nt ?_))))))
 obtain ⟨hT, hF⟩ := h
 refine wk (decide (y6 < 4)) rfl (fun hb9 => ?_) (fun hb9 => ?_)
 ·have h := hT hb9
  refine wp_ (nt (ws (wb (ws (wr_ (hv (v := (iv y6)) rfl (mv rfl) ?_))))))
  obtain ⟨b10, b11, h⟩ := h
  refine hv (v := (pp (Addr.add (bk H) (y6.toNat * 1)))) rfl (HVal.indexAddrA runUnderlying49 sizeOf9 rfl rfl b10 b11) ?_
  obtain ⟨x13, c12, h⟩ := h
  refine hv (v := (sv x13)) rfl (l1 isAgg9 rfl c12) (hv (v := (sv p0)) rfl (mv rfl) (hv (v := (bv (seq x13 p0))) rfl (HVal.eqlS rfl rfl) ?_))
  refine hn (nt ?_)
  obtain ⟨hT, hF⟩ := h
  refine wk (seq x13 p0) rfl (fun hb14 => ?_) (fun hb14 => ?_)
  ·have h := hT hb14
   refine ws (wr_ (hv (v := (iv y6)) rfl (mv rfl) (hv (v := (iv y6)) rfl (av rfl) (hn (nt (HW.ret (br ?_)))))))
   refine tr (tr (br (tr ?_)))
   exact ⟨_, resOf1 rfl Res1.t, ⟨y6, rfl, h⟩⟩
  have h := hF hb14
  refine wp_ (nb (nt (wr_ (hv (v := (iv y6)) rfl (mv rfl) (hv (v := (iv (IntKind.i64.wrap (y6 + 1)))) rfl (HVal.add rfl rfl) ?_)))))
  refine hv (v := (iv (IntKind.i64.wrap (y6 + 1)))) rfl (av rfl) (hn (nt ?_))
  exact (hX1 _ _).1 h _ (isp rfl)
 have h := hF hb9
 refine we (te (te (be (nt (ws (wr_ (hv (v := (iv 0)) rfl (av rfl) (hn (nt (HW.ret ?_))))))))))
 exact ⟨_, resOf1 rfl Res1.t, ⟨0, rfl, h⟩⟩

def F76_1 (Q : Int → Int → Hp → Prop) (H_1 : Hp) : Prop :=
Q 0 24 H_1
def F76_2 (Q : Int → Int → Hp → Prop) (y8 : (Option Addr)) (y9 : Addr) (y19 : Bool) (H_2 : Hp) : Prop :=
(y19 = true → (Q 0 20 H_2)) ∧
 (y19 = false → (∃ x22 : Bool, cell H_2 (Addr.add y9 2) = some (bv x22) ∧ (
 (x22 = true → (∃ x25 : ByteArray, cell H_2 y9 = some (sv x25) ∧ (
 ∃ a26 : Addr, y8 = some a26 ∧ (
 (cell H_2 a26).isSome = true ∧ frz H_2 a26 = false ∧ ∀ H28 : Hp, H28 = setc H_2 a26 (sv x25) → (
 Q 2 0 H28))))) ∧
 (x22 = false → (F76_1 Q H_2)))))
def F76_4 (Q : Int → Int → Hp → Prop) (y43 : (Option Addr)) (y44 : Addr) (y49 : Bool) (H_4 : Hp) : Prop :=
(y49 = true → (Q 7 0 H_4)) ∧
 (y49 = false → (∃ x52 : Bool, cell H_4 (Addr.add y44 2) = some (bv x52) ∧ (
 (x52 = true → (∃ a54 : Addr, y43 = some a54 ∧ (
 ∃ (x57 : ByteArray) (x58 : Sl), cells H_4 a54 [(sv x57), (Sl.v x58)] 0 ∧ (
 ∃ x60 : ByteArray, cell H_4 y44 = some (sv x60) ∧ (
 F92 x57 x58 x60 H_4 (fun (r63 : Int) (H61 : Hp) => 
 ∃ a64 : Addr, y43 = some a64 ∧ (
 ∃ x67 : Sl, cell H61 (Addr.add a64 1) = some (Sl.v x67) ∧ (
 ∃ x69 : ByteArray, cell H61 y44 = some (sv x69) ∧ (
 ∀ H70 : Hp, H70 = Array.push H61 (.cells #[(sv x69), (iv 0)] 38) → (
 cell H70 y44 = some (sv x69) ∧ cell H70 (Addr.add a64 1) = some (Sl.v x67) ∧ (
 AppendF H70 38 2 24 #[(sv bE), (iv 0)] x67 ((Sl.mk (some (bk H61)) 1 1)).b ((Sl.mk (some (bk H61)) 1 1)).n (fun (r76 : Sl) (H74 : Hp) => 
 cell H74 y44 = some (sv x69) ∧ (
 ∃ a78 : Addr, y43 = some a78 ∧ (
 (cell H74 (Addr.add a78 1)).isSome = true ∧ frz H74 (Addr.add a78 1) = false ∧ ∀ H80 : Hp, H80 = setc H74 (Addr.add a78 1) (Sl.v r76) → (
 Q 5 r63 H80))))))))))))))) ∧
 (x52 = false → (F76_1 Q H_4)))))
def F76_3 (Q : Int → Int → Hp → Prop) (y36 : (Option Addr)) (y37 : Int) (y38 : Addr) (y39 : Int) (y41 : Bool) (H_3 : Hp) : Prop :=
(y41 = true → (∃ x46 : ByteArray, cell H_3 y38 = some (sv x46) ∧ (
 ((seq x46 S___) = true → (F76_4 Q y36 y38 (decide (y37 = 3)) H_3)) ∧
 ((seq x46 S___) = false → (F76_4 Q y36 y38 false H_3))))) ∧
 (y41 = false → (((decide (y39 = 5)) = true → (∃ x86 : ByteArray, cell H_3 y38 = some (sv x86) ∧ (
 F93 x86 H_3 (fun (r89 : Int) (H87 : Hp) => 
 ((decide ((0 : Int) < r89)) = true → (∃ a91 : Addr, y36 = some a91 ∧ (
 ∃ x94 : Sl, cell H87 (Addr.add a91 1) = some (Sl.v x94) ∧ (
 ∃ a95 : Addr, y36 = some a95 ∧ (
 ∃ x98 : Sl, cell H87 (Addr.add a95 1) = some (Sl.v x98) ∧ (
 ∃ a99 : Addr, (x94).b = some a99 ∧ (0 : Int) ≤ (IntKind.i64.wrap (((x98).n : Int) - 1)) ∧ (IntKind.i64.wrap (((x98).n : Int) - 1)) < ((x94).n : Int) ∧ (
 (cell H87 (Addr.add (Addr.add a99 ((IntKind.i64.wrap (((x98).n : Int) - 1)).toNat * 2)) 1)).isSome = true ∧ frz H87 (Addr.add (Addr.add a99 ((IntKind.i64.wrap (((x98).n : Int) - 1)).toNat * 2)) 1) = false ∧ ∀ H103 : Hp, H103 = setc H87 (Addr.add (Addr.add a99 ((IntKind.i64.wrap (((x98).n : Int) - 1)).toNat * 2)) 1) (iv r89) → (
 Q 6 0 H103)))))))) ∧
 ((decide ((0 : Int) < r89)) = false → (F76_1 Q H87)))))) ∧
 ((decide (y39 = 5)) = false → (((decide (y39 = 6)) = true → (∃ x109 : ByteArray, cell H_3 y38 = some (sv x109) ∧ (
 ((seq x109 S____) = true → (Q 4 0 H_3)) ∧
 ((seq x109 S____) = false → (∃ x112 : ByteArray, cell H_3 y38 = some (sv x112) ∧ (
 ((seq x112 S___) = true → (Q 7 0 H_3)) ∧
 ((seq x112 S___) = false → (F76_1 Q H_3)))))))) ∧
 ((decide (y39 = 6)) = false → (F76_1 Q H_3))))))
def F76 (p0 : (Option Addr)) (p1 : Int) (p2_0 : ByteArray) (p2_1 : Int) (p2_2 : Bool) (H : Hp) (Q : Int → Int → Hp → Prop) : Prop :=
∀ H1 : Hp, H1 = Array.push H (.cells #[(sv p2_0), (iv p2_1), (bv p2_2)] 123) → (
 ((decide (p1 = 0)) = true → (∃ x5 : ByteArray, cell H1 (bk H) = some (sv x5) ∧ (
 ((seq x5 S_TYPE) = true → (Q 1 0 H1)) ∧
 ((seq x5 S_TYPE) = false → (F76_1 Q H1))))) ∧
 ((decide (p1 = 0)) = false → (((decide (p1 = 1)) = true → (∃ x11 : Bool, cell H1 (Addr.add (bk H) 2) = some (bv x11) ∧ (
 (x11 = true → (∃ x15 : ByteArray, cell H1 (bk H) = some (sv x15) ∧ (
 F49 x15 H1 (fun (r18 : Bool) (H16 : Hp) => 
 F76_2 Q p0 (bk H) (!r18) H16)))) ∧
 (x11 = false → (F76_2 Q p0 (bk H) false H1))))) ∧
 ((decide (p1 = 1)) = false → (((decide (p1 = 2)) = true → (∃ x34 : ByteArray, cell H1 (bk H) = some (sv x34) ∧ (
 ((seq x34 S__) = true → (Q 3 0 H1)) ∧
 ((seq x34 S__) = false → (F76_1 Q H1))))) ∧
 ((decide (p1 = 2)) = false → (((decide (p1 = 3)) = true → (F76_3 Q p0 p1 (bk H) p1 (decide (p1 = 3)) H1)) ∧
 ((decide (p1 = 3)) = false → (F76_3 Q p0 p1 (bk H) p1 (decide (p1 = 4)) H1)))))))))
theorem walk76 {w0 : World} {p0 : (Option Addr)} {p1 : Int} {p2_0 : ByteArray} {p2_1 : Int} {p2_2 : Bool} {H : Hp} {Q : Int → Int → Hp → Prop} (h : F76 p0 p1 p2_0 p2_1 p2_2 H Q) :
  Good prog w0 76 #[(.pointer p0), (iv p1), (.agg #[(sv p2_0), (iv p2_1), (bv p2_2)])] H (fun v H => ∃ (r0 r1 : Int) , v = (.tuple #[(iv r0), (iv r1)]) ∧ Q r0 r1 H) := by
 unfold F76 at h
 refine Good.enter' (fn := f76) func76 rfl rfl rfl (ws (wr_ (ho rfl (ob (v := (.agg #[(sv p2_0), (iv p2_1), (bv p2_2)])) rfl) ?_)))
 rintro _ H1 ⟨rfl, e2⟩
 replace h := h H1 e2
 refine hv (v := (iv 0)) rfl (av rfl) (hv (v := (iv 0)) rfl (av rfl) (hn (nt (wc (fun ρ H_1 => Env.Is ρ [] ∧ F76_1 Q H_1) ?_ ?_))))
 ·refine ws (wr_ (hv (v := (iv p1)) rfl (mv rfl) (hn (nt (wb (ws (wr_ (hv (v := (bv (decide (p1 = 0)))) rfl (HVal.eqlI rfl rfl) ?_))))))))
  refine hv (v := (bv (decide (p1 = 0)))) rfl (av rfl) (hn (nt ?_))
  obtain ⟨hT, hF⟩ := h
  refine wk (decide (p1 = 0)) rfl (fun hb3 => ?_) (fun hb3 => ?_)
  ·have h := hT hb3
   refine ws (wr_ (hv (v := (pp (bk H))) rfl (HVal.fieldAddr0 runUnderlying123 rfl rfl sizeOf9 rfl) ?_))
   obtain ⟨x5, c4, h⟩ := h
   refine hv (v := (sv x5)) rfl (l1 isAgg9 rfl c4) (hv (v := (bv (seq x5 S_TYPE))) rfl (HVal.eqlS rfl rfl) (hn (nt ?_)))
   obtain ⟨hT, hF⟩ := h
   refine wk (seq x5 S_TYPE) rfl (fun hb6 => ?_) (fun hb6 => ?_)
   ·have h := hT hb6
    refine ws (wr_ (hv (v := (iv 1)) rfl (av rfl) (hv (v := (iv 0)) rfl (av rfl) (hn (nt (HW.ret (br ?_)))))))
    refine tr ?_
    exact ⟨_, resOf2 rfl Res1.t Res1.t, ⟨1, 0, rfl, h⟩⟩
   have h := hF hb6
   refine wp_ (nb (nt ?_))
   exact ⟨trivial, h⟩
  have h := hF hb3
  refine ws (wr_ (hv (v := (bv (decide (p1 = 1)))) rfl (HVal.eqlI rfl rfl) (hv (v := (bv (decide (p1 = 1)))) rfl (av rfl) ?_)))
  refine hn (nt ?_)
  obtain ⟨hT, hF⟩ := h
  refine wk (decide (p1 = 1)) rfl (fun hb7 => ?_) (fun hb7 => ?_)
  ·have h := hT hb7
   refine ws (wc (fun ρ H_2 => ∃ (y19 : Bool), Env.Is ρ [(0, (.pointer p0)), (5, (pp (bk H))), (25, (bv y19))] ∧ F76_2 Q p0 (bk H) y19 H_2) ?_ ?_)
   ·refine wr_ (hv (v := (pp (Addr.add (bk H) 2))) rfl (fa runUnderlying123 rfl rfl sizeOf4 rfl) ?_)
    obtain ⟨x11, c10, h⟩ := h
    refine hv (v := (bv x11)) rfl (l1 isAgg4 rfl c10) (hv (v := (bv x11)) rfl (mv rfl) ?_)
    obtain ⟨hT, hF⟩ := h
    rcases Bool.eq_false_or_eq_true x11 with hb12 | hb13
    ·have h := hT hb12
     refine hg (v := (pp (bk H))) rfl rfl rfl rfl (cB hb12) (HVal.fieldAddr0 runUnderlying123 rfl rfl sizeOf9 rfl) ?_
     obtain ⟨x15, c14, h⟩ := h
     refine hg (v := (sv x15)) rfl rfl rfl rfl (cB hb12) (l1 isAgg9 rfl c14) (HList.gops rfl rfl rfl rfl (cB hb12) (HOp.call' 49 [(sv x15)] (cap := []) rfl rfl call49 (walk49 h)) ?_)
     rintro _ H16 ⟨r18, rfl, h⟩
     refine hg (v := (bv (!r18))) rfl rfl rfl rfl (cB hb12) (HVal.not rfl) (hv (v := (bv (!r18))) rfl (pt_ rfl hb12 rfl) (hn (nt ?_)))
     exact ⟨(!r18), (isp rfl), h⟩
    have h := hF hb13
    refine hs_ rfl rfl rfl rfl (cB hb13) (hs_ rfl rfl rfl rfl (cB hb13) (hs_ rfl rfl rfl rfl (cB hb13) (hs_ rfl rfl rfl rfl (cB hb13) ?_)))
    refine hv (v := (bv false)) rfl (pf_ rfl hb13 rfl) (hn (nt ?_))
    exact ⟨false, (isp rfl), h⟩
   rintro ρ H_2 ⟨y19, hI, h⟩
   obtain ⟨ρ0, rfl⟩ := hI.ex
   clear hI; unfold F76_2 at h
   obtain ⟨hT, hF⟩ := h
   refine wk y19 rfl (fun hb20 => ?_) (fun hb20 => ?_)
   ·have h := hT hb20
    refine ws (wr_ (hv (v := (iv 0)) rfl (av rfl) (hv (v := (iv 20)) rfl (av rfl) (hn (nt (HW.ret (tr ?_)))))))
    refine br (tr ?_)
    exact ⟨_, resOf2 rfl Res1.t Res1.t, ⟨0, 20, rfl, h⟩⟩
   have h := hF hb20
   refine wp_ (nt (ws (wr_ (hv (v := (pp (Addr.add (bk H) 2))) rfl (fa runUnderlying123 rfl rfl sizeOf4 rfl) ?_))))
   obtain ⟨x22, c21, h⟩ := h
   refine hv (v := (bv x22)) rfl (l1 isAgg4 rfl c21) (hn (nt ?_))
   obtain ⟨hT, hF⟩ := h
   refine wk x22 rfl (fun hb23 => ?_) (fun hb23 => ?_)
   ·have h := hT hb23
    refine ws (wr_ (hv (v := (.pointer p0)) rfl (mv rfl) (hv (v := (pp (bk H))) rfl (HVal.fieldAddr0 runUnderlying123 rfl rfl sizeOf9 rfl) ?_)))
    obtain ⟨x25, c24, h⟩ := h
    refine hv (v := (sv x25)) rfl (l1 isAgg9 rfl c24) ?_
    obtain ⟨a26, e27, h⟩ := h
    refine hv (v := (pp a26)) rfl (HVal.nilCheck (congrArg Value.pointer e27)) (hv (v := (pp a26)) rfl (HVal.fieldAddr0 runUnderlying27 rfl rfl sizeOf9 rfl) ?_)
    obtain ⟨z30, z31, h⟩ := h
    refine hq (HOp.store1 sizeOf9 rfl rfl rfl z30 z31) ?_
    rintro _ H28 e29
    replace h := h H28 e29
    refine hn (nt (ws (wr_ (hv (v := (iv 2)) rfl (av rfl) (hv (v := (iv 0)) rfl (av rfl) (hn (nt ?_)))))))
    refine HW.ret (br (tr ?_))
    exact ⟨_, resOf2 rfl Res1.t Res1.t, ⟨2, 0, rfl, h⟩⟩
   have h := hF hb23
   refine wp_ (nb (nt ?_))
   exact ⟨trivial, h⟩
  have h := hF hb7
  refine ws (wr_ (hv (v := (bv (decide (p1 = 2)))) rfl (HVal.eqlI rfl rfl) (hv (v := (bv (decide (p1 = 2)))) rfl (av rfl) ?_)))
  refine hn (nt ?_)
  obtain ⟨hT, hF⟩ := h
  refine wk (decide (p1 = 2)) rfl (fun hb32 => ?_) (fun hb32 => ?_)
  ·have h := hT hb32
   refine ws (wr_ (hv (v := (pp (bk H))) rfl (HVal.fieldAddr0 runUnderlying123 rfl rfl sizeOf9 rfl) ?_))
   obtain ⟨x34, c33, h⟩ := h
   refine hv (v := (sv x34)) rfl (l1 isAgg9 rfl c33) (hv (v := (bv (seq x34 S__))) rfl (HVal.eqlS rfl rfl) (hn (nt ?_)))
   obtain ⟨hT, hF⟩ := h
   refine wk (seq x34 S__) rfl (fun hb35 => ?_) (fun hb35 => ?_)
   ·have h := hT hb35
    refine ws (wr_ (hv (v := (iv 3)) rfl (av rfl) (hv (v := (iv 0)) rfl (av rfl) (hn (nt (HW.ret (br ?_)))))))
    refine tr ?_
    exact ⟨_, resOf2 rfl Res1.t Res1.t, ⟨3, 0, rfl, h⟩⟩
   have h := hF hb35
   refine wp_ (nb (nt ?_))
   exact ⟨trivial, h⟩
  have h := hF hb32
  refine wc (fun ρ H_3 => ∃ (y41 : Bool), Env.Is ρ [(0, (.pointer p0)), (1, (iv p1)), (5, (pp (bk H))), (10, (iv p1)), (38, (bv y41))] ∧ F76_3 Q p0 p1 (bk H) p1 y41 H_3) ?_ ?_
  ·refine ws (wr_ (hv (v := (bv (decide (p1 = 3)))) rfl (HVal.eqlI rfl rfl) (hv (v := (bv (decide (p1 = 3)))) rfl (av rfl) ?_)))
   refine hn (nt ?_)
   obtain ⟨hT, hF⟩ := h
   refine wk (decide (p1 = 3)) rfl (fun hb40 => ?_) (fun hb40 => ?_)
   ·have h := hT hb40
    refine wp_ (nt ?_)
    exact ⟨(decide (p1 = 3)), (isp rfl), h⟩
   have h := hF hb40
   refine wr_ (hv (v := (bv (decide (p1 = 4)))) rfl (HVal.eqlI rfl rfl) (hv (v := (bv (decide (p1 = 4)))) rfl (av rfl) (hn (nt ?_))))
   exact ⟨(decide (p1 = 4)), (isp rfl), h⟩
  rintro ρ H_3 ⟨y41, hI, h⟩
  obtain ⟨ρ0, rfl⟩ := hI.ex
  clear hI; unfold F76_3 at h
  obtain ⟨hT, hF⟩ := h
  refine wk y41 rfl (fun hb42 => ?_) (fun hb42 => ?_)
  ·have h := hT hb42
   refine ws (wc (fun ρ H_4 => ∃ (y49 : Bool), Env.Is ρ [(0, (.pointer p0)), (5, (pp (bk H))), (47, (bv y49))] ∧ F76_4 Q p0 (bk H) y49 H_4) ?_ ?_)
   ·refine wr_ (hv (v := (pp (bk H))) rfl (HVal.fieldAddr0 runUnderlying123 rfl rfl sizeOf9 rfl) ?_)
    obtain ⟨x46, c45, h⟩ := h
    refine hv (v := (sv x46)) rfl (l1 isAgg9 rfl c45) (hv (v := (bv (seq x46 S___))) rfl (HVal.eqlS rfl rfl) (hv (v := (bv (seq x46 S___))) rfl (mv rfl) ?_))
    obtain ⟨hT, hF⟩ := h
    rcases Bool.eq_false_or_eq_true (seq x46 S___) with hb47 | hb48
    ·have h := hT hb47
     refine hg (v := (iv p1)) rfl rfl rfl rfl (cB hb47) (mv rfl) (hg (v := (bv (decide (p1 = 3)))) rfl rfl rfl rfl (cB hb47) (HVal.eqlI rfl rfl) ?_)
     refine hv (v := (bv (decide (p1 = 3)))) rfl (pt_ rfl hb47 rfl) (hn (nt ?_))
     exact ⟨(decide (p1 = 3)), (isp rfl), h⟩
    have h := hF hb48
    refine hs_ rfl rfl rfl rfl (cB hb48) (hs_ rfl rfl rfl rfl (cB hb48) (hv (v := (bv false)) rfl (pf_ rfl hb48 rfl) (hn (nt ?_))))
    exact ⟨false, (isp rfl), h⟩
   rintro ρ H_4 ⟨y49, hI, h⟩
   obtain ⟨ρ0, rfl⟩ := hI.ex
   clear hI; unfold F76_4 at h
   obtain ⟨hT, hF⟩ := h
   refine wk y49 rfl (fun hb50 => ?_) (fun hb50 => ?_)
   ·have h := hT hb50
    refine ws (wr_ (hv (v := (iv 7)) rfl (av rfl) (hv (v := (iv 0)) rfl (av rfl) (hn (nt (HW.ret (tr ?_)))))))
    refine br (tr ?_)
    exact ⟨_, resOf2 rfl Res1.t Res1.t, ⟨7, 0, rfl, h⟩⟩
   have h := hF hb50
   refine wp_ (nt (ws (wr_ (hv (v := (pp (Addr.add (bk H) 2))) rfl (fa runUnderlying123 rfl rfl sizeOf4 rfl) ?_))))
   obtain ⟨x52, c51, h⟩ := h
   refine hv (v := (bv x52)) rfl (l1 isAgg4 rfl c51) (hn (nt ?_))
   obtain ⟨hT, hF⟩ := h
   refine wk x52 rfl (fun hb53 => ?_) (fun hb53 => ?_)
   ·have h := hT hb53
    refine ws (HW.draw mixed [(0, some []), (1, some []), (2, some [5]), (3, some []), (4, some [5]), (5, none), (6, some [])] rfl (by kernel_rfl) (by kernel_rfl) ?_)
    refine pv (v := (.pointer p0)) rfl rfl (fun _ => mv rfl) ?_
    obtain ⟨a54, e55, h⟩ := h
    refine pv (v := (pp a54)) rfl rfl (fun _ => HVal.nilCheck (congrArg Value.pointer e55)) ?_
    obtain ⟨x57, x58, c56, h⟩ := h
    refine pl (v := (.agg #[(sv x57), (Sl.v x58)])) (fun X => cells X a54 [(sv x57), (Sl.v x58)] 0) rfl rfl (fun _ hX => ln [(sv x57), (Sl.v x58)] isAgg27 sizeOf27 rfl hX) c56 ?_
    refine pv (v := (pp (bk H))) rfl rfl (fun _ => HVal.fieldAddr0 runUnderlying123 rfl rfl sizeOf9 rfl) ?_
    obtain ⟨x60, c59, h⟩ := h
    refine pl (v := (sv x60)) (fun X => cell X (bk H) = some (sv x60)) rfl rfl (fun _ hX => l1 isAgg9 rfl hX) c59 (po rfl rfl (HOp.call' 92 [(.agg #[(sv x57), (Sl.v x58)]), (sv x60)] (cap := []) rfl rfl call92 (walk92 h)) ?_)
    rintro _ H61 ⟨r63, rfl, h⟩
    refine ⟨SC_of ⟨nofun, nofun, trivial⟩, ?_⟩
    refine pv (v := (iv r63)) rfl rfl (fun _ => av rfl) (HPlan.done (nt (ws (HW.draw mixed [(0, some []), (1, some []), (2, some []), (3, some []), (4, some [9, 12]), (5, some []), (6, some [12]), (7, some []), (8, none), (9, none), (10, some []), (11, some []), (12, none)] rfl (by kernel_rfl) (by kernel_rfl) ?_))))
    refine pv (v := (.pointer p0)) rfl rfl (fun _ => mv rfl) (pv (v := (.pointer p0)) rfl rfl (fun _ => mv rfl) ?_)
    obtain ⟨a64, e65, h⟩ := h
    refine pv (v := (pp a64)) rfl rfl (fun _ => HVal.nilCheck (congrArg Value.pointer e65)) (pv (v := (pp (Addr.add a64 1))) rfl rfl (fun _ => fa runUnderlying27 rfl rfl sizeOf25 rfl) ?_)
    obtain ⟨x67, c66, h⟩ := h
    refine pl (v := (Sl.v x67)) (fun X => cell X (Addr.add a64 1) = some (Sl.v x67)) rfl rfl (fun _ hX => l1 isAgg25 rfl hX) c66 (pv (v := (pp (bk H))) rfl rfl (fun _ => HVal.fieldAddr0 runUnderlying123 rfl rfl sizeOf9 rfl) ?_)
    obtain ⟨x69, c68, h⟩ := h
    refine pl (v := (sv x69)) (fun X => cell X (bk H) = some (sv x69)) rfl rfl (fun _ hX => l1 isAgg9 rfl hX) c68 (pv (v := (.agg #[(sv x69), (iv 0)])) rfl rfl (fun _ => HVal.build' (cs := [(sv x69), (iv 0)]) runUnderlying38 zeroValue38 places38 rfl) ?_)
    refine po rfl rfl (HOp.buildSlice' (zs := [(sv bE), (iv 0)]) (cs := [(sv x69), (iv 0)]) runUnderlying25 sizeOf38 zeroValue38 (by decide) (by kernel_rfl) rfl (by decide)) ?_
    rintro _ H70 ⟨rfl, e71⟩
    replace h := h H70 e71
    obtain ⟨s72, s73, h⟩ := h
    refine ⟨SC_of ⟨fun _ => s72, fun _ => s73, trivial⟩, ?_⟩
    refine po rfl rfl (HOp.append (k := 2) (b := 24) runUnderlying25 runUnderlying25 typeInfo38 rfl rfl zeroValue38 rfl rfl h) ?_
    rintro _ H74 ⟨r76, rfl, h⟩
    obtain ⟨s77, h⟩ := h
    refine ⟨SC_of ⟨fun _ => s77, nofun, trivial⟩, ?_⟩
    obtain ⟨a78, e79, h⟩ := h
    refine pv (v := (pp a78)) rfl rfl (fun _ => HVal.nilCheck (congrArg Value.pointer e79)) (pv (v := (pp (Addr.add a78 1))) rfl rfl (fun _ => fa runUnderlying27 rfl rfl sizeOf25 rfl) ?_)
    obtain ⟨z82, z83, h⟩ := h
    refine pn rfl (HOp.store1 sizeOf25 rfl rfl rfl z82 z83) ?_
    rintro _ H80 e81
    replace h := h H80 e81
    refine ⟨SC_of ⟨nofun, nofun, trivial⟩, ?_⟩
    refine HPlan.done (nt (ws (wr_ (hv (v := (iv r63)) rfl (mv rfl) (hv (v := (iv 5)) rfl (av rfl) (hv (v := (iv r63)) rfl (av rfl) ?_))))))
    refine hn (nt (HW.ret (br (tr ?_))))
    exact ⟨_, resOf2 rfl Res1.t Res1.t, ⟨5, r63, rfl, h⟩⟩
   have h := hF hb53
   refine wp_ (nb (nt ?_))
   exact ⟨trivial, h⟩
  have h := hF hb42
  refine ws (wr_ (hv (v := (bv (decide (p1 = 5)))) rfl (HVal.eqlI rfl rfl) (hv (v := (bv (decide (p1 = 5)))) rfl (av rfl) ?_)))
  refine hn (nt ?_)
  obtain ⟨hT, hF⟩ := h
  refine wk (decide (p1 = 5)) rfl (fun hb84 => ?_) (fun hb84 => ?_)
  ·have h := hT hb84
   refine ws (wr_ (hv (v := (pp (bk H))) rfl (HVal.fieldAddr0 runUnderlying123 rfl rfl sizeOf9 rfl) ?_))
   obtain ⟨x86, c85, h⟩ := h
   refine hv (v := (sv x86)) rfl (l1 isAgg9 rfl c85) (ho rfl (HOp.call' 93 [(sv x86)] (cap := []) rfl rfl call93 (walk93 h)) ?_)
   rintro _ H87 ⟨r89, rfl, h⟩
   refine hv (v := (iv r89)) rfl (av rfl) (hn (nt (ws (wr_ (hv (v := (iv r89)) rfl (mv rfl) (hv (v := (bv (decide ((0 : Int) < r89)))) rfl (HVal.gtr rfl rfl) ?_))))))
   refine hn (nt ?_)
   obtain ⟨hT, hF⟩ := h
   refine wk (decide ((0 : Int) < r89)) rfl (fun hb90 => ?_) (fun hb90 => ?_)
   ·have h := hT hb90
    refine ws (HW.draw mixed [(0, some []), (1, some []), (2, some []), (3, some [13]), (4, some []), (5, some []), (6, some []), (7, some [13]), (8, some []), (9, some []), (10, some []), (11, some []), (12, some []), (13, none)] rfl (by kernel_rfl) (by kernel_rfl) ?_)
    refine pv (v := (.pointer p0)) rfl rfl (fun _ => mv rfl) ?_
    obtain ⟨a91, e92, h⟩ := h
    refine pv (v := (pp a91)) rfl rfl (fun _ => HVal.nilCheck (congrArg Value.pointer e92)) (pv (v := (pp (Addr.add a91 1))) rfl rfl (fun _ => fa runUnderlying27 rfl rfl sizeOf25 rfl) ?_)
    obtain ⟨x94, c93, h⟩ := h
    refine pl (v := (Sl.v x94)) (fun X => cell X (Addr.add a91 1) = some (Sl.v x94)) rfl rfl (fun _ hX => l1 isAgg25 rfl hX) c93 (pv (v := (.pointer p0)) rfl rfl (fun _ => mv rfl) ?_)
    obtain ⟨a95, e96, h⟩ := h
    refine pv (v := (pp a95)) rfl rfl (fun _ => HVal.nilCheck (congrArg Value.pointer e96)) (pv (v := (pp (Addr.add a95 1))) rfl rfl (fun _ => fa runUnderlying27 rfl rfl sizeOf25 rfl) ?_)
    obtain ⟨x98, c97, h⟩ := h
    refine pl (v := (Sl.v x98)) (fun X => cell X (Addr.add a95 1) = some (Sl.v x98)) rfl rfl (fun _ hX => l1 isAgg25 rfl hX) c97 (pv (v := (iv ((x98).n : Int))) rfl rfl (fun _ => HVal.len runUnderlying25 rfl) ?_)
    refine pv (v := (iv (IntKind.i64.wrap (((x98).n : Int) - 1)))) rfl rfl (fun _ => HVal.sub rfl rfl) (pv (v := (iv r89)) rfl rfl (fun _ => mv rfl) ?_)
    obtain ⟨a99, e100, b101, b102, h⟩ := h
    refine pv (v := (pp (Addr.add a99 ((IntKind.i64.wrap (((x98).n : Int) - 1)).toNat * 2)))) rfl rfl (fun _ => ia runUnderlying25 sizeOf38 (Sl.v_some rfl e100) rfl b101 b102) ?_
    refine pv (v := (pp (Addr.add (Addr.add a99 ((IntKind.i64.wrap (((x98).n : Int) - 1)).toNat * 2)) 1))) rfl rfl (fun _ => fa runUnderlying38 rfl rfl sizeOf3 rfl) ?_
    obtain ⟨z105, z106, h⟩ := h
    refine pn rfl (HOp.store1 sizeOf3 rfl rfl rfl z105 z106) ?_
    rintro _ H103 e104
    replace h := h H103 e104
    refine ⟨SC_of ⟨nofun, nofun, trivial⟩, ?_⟩
    refine HPlan.done (nt (ws (wr_ (hv (v := (iv 6)) rfl (av rfl) (hv (v := (iv 0)) rfl (av rfl) (hn (nt ?_)))))))
    refine HW.ret (br (tr ?_))
    exact ⟨_, resOf2 rfl Res1.t Res1.t, ⟨6, 0, rfl, h⟩⟩
   have h := hF hb90
   refine wp_ (nb (nt ?_))
   exact ⟨trivial, h⟩
  have h := hF hb84
  refine ws (wr_ (hv (v := (bv (decide (p1 = 6)))) rfl (HVal.eqlI rfl rfl) (hv (v := (bv (decide (p1 = 6)))) rfl (av rfl) ?_)))
  refine hn (nt ?_)
  obtain ⟨hT, hF⟩ := h
  refine wk (decide (p1 = 6)) rfl (fun hb107 => ?_) (fun hb107 => ?_)
  ·have h := hT hb107
   refine ws (ws (wr_ (hv (v := (pp (bk H))) rfl (HVal.fieldAddr0 runUnderlying123 rfl rfl sizeOf9 rfl) ?_)))
   obtain ⟨x109, c108, h⟩ := h
   refine hv (v := (sv x109)) rfl (l1 isAgg9 rfl c108) (hv (v := (bv (seq x109 S____))) rfl (HVal.eqlS rfl rfl) (hn (nt ?_)))
   obtain ⟨hT, hF⟩ := h
   refine wk (seq x109 S____) rfl (fun hb110 => ?_) (fun hb110 => ?_)
   ·have h := hT hb110
    refine ws (wr_ (hv (v := (iv 4)) rfl (av rfl) (hv (v := (iv 0)) rfl (av rfl) (hn (nt (HW.ret (tr ?_)))))))
    refine br (tr ?_)
    exact ⟨_, resOf2 rfl Res1.t Res1.t, ⟨4, 0, rfl, h⟩⟩
   have h := hF hb110
   refine wp_ (nt (ws (wr_ (hv (v := (pp (bk H))) rfl (HVal.fieldAddr0 runUnderlying123 rfl rfl sizeOf9 rfl) ?_))))
   obtain ⟨x112, c111, h⟩ := h
   refine hv (v := (sv x112)) rfl (l1 isAgg9 rfl c111) (hv (v := (bv (seq x112 S___))) rfl (HVal.eqlS rfl rfl) (hn (nt ?_)))
   obtain ⟨hT, hF⟩ := h
   refine wk (seq x112 S___) rfl (fun hb113 => ?_) (fun hb113 => ?_)
   ·have h := hT hb113
    refine ws (wr_ (hv (v := (iv 7)) rfl (av rfl) (hv (v := (iv 0)) rfl (av rfl) (hn (nt (HW.ret (br ?_)))))))
    refine tr ?_
    exact ⟨_, resOf2 rfl Res1.t Res1.t, ⟨7, 0, rfl, h⟩⟩
   have h := hF hb113
   refine wp_ (nb (nt ?_))
   exact ⟨trivial, h⟩
  have h := hF hb107
  refine wp_ (nb (nt ?_))
  exact ⟨trivial, h⟩
 rintro ρ H_1 ⟨hI, h⟩
 obtain ⟨ρ0, rfl⟩ := hI.ex
 clear hI; unfold F76_1 at h
 refine ws (wr_ (hv (v := (iv 0)) rfl (av rfl) (hv (v := (iv 24)) rfl (av rfl) (hn (nt (HW.ret ?_))))))
 exact ⟨_, resOf2 rfl Res1.t Res1.t, ⟨0, 24, rfl, h⟩⟩

def F50_1 (Q : ByteArray → Sl → Int → Int → Hp → Prop) (y15 : ByteArray) (y16 : Addr) (H_1 : Hp) : Prop :=
mayw H_1 y16 2 0 ∧ ∀ H83 : Hp, H83 = sets H_1 y16 [(sv bE), sN] 0 → (
 ∃ (x86 : ByteArray) (x87 : Sl), cells H83 y16 [(sv x86), (Sl.v x87)] 0 ∧ (
 Q x86 x87 ((y15).size : Int) 24 H83))
def F50_3 (Q : ByteArray → Sl → Int → Int → Hp → Prop) (X2 : Int → Int → Hp → Prop) (y24 : ByteArray) (y25 y26 : Addr) (y27 : Sl) (y28 y29 : Int) (y46 : Bool) (H_3 : Hp) : Prop :=
(y46 = true → (∃ (x49 : ByteArray) (x50 : Sl), cells H_3 y26 [(sv x49), (Sl.v x50)] 0 ∧ (
 mayw H_3 y25 2 0 ∧ ∀ H51 : Hp, H51 = sets H_3 y25 [(sv x49), (Sl.v x50)] 0 → (
 ∃ (x54 : ByteArray) (x55 : Sl), cells H51 y25 [(sv x54), (Sl.v x55)] 0 ∧ (
 Q x54 x55 0 0 H51))))) ∧
 (y46 = false → (∃ a57 : Addr, (y27).b = some a57 ∧ (0 : Int) ≤ y29 ∧ y29 < ((y27).n : Int) ∧ (
 ∃ (x62 : ByteArray) (x63 : Int) (x64 : Bool), cells H_3 (Addr.add a57 (y29.toNat * 3)) [(sv x62), (iv x63), (bv x64)] 0 ∧ (
 F76 (some y26) y28 x62 x63 x64 H_3 (fun (r67 r68 : Int) (H65 : Hp) => 
 ((decide (r68 ≠ 0)) = true → (∃ a70 : Addr, (y27).b = some a70 ∧ (0 : Int) ≤ y29 ∧ y29 < ((y27).n : Int) ∧ (
 ∃ x75 : Int, cell H65 (Addr.add (Addr.add a70 (y29.toNat * 3)) 1) = some (iv x75) ∧ (
 mayw H65 y25 2 0 ∧ ∀ H76 : Hp, H76 = sets H65 y25 [(sv bE), sN] 0 → (
 cell H76 (Addr.add (Addr.add a70 (y29.toNat * 3)) 1) = some (iv x75) ∧ (
 ∃ (x80 : ByteArray) (x81 : Sl), cells H76 y25 [(sv x80), (Sl.v x81)] 0 ∧ (
 Q x80 x81 x75 r68 H76))))))) ∧
 ((decide (r68 ≠ 0)) = false → (X2 r67 (IntKind.i64.wrap (y29 + 1)) H65)))))))
def F50_L2b (Q : ByteArray → Sl → Int → Int → Hp → Prop) (X2 : Int → Int → Hp → Prop) (y19 : ByteArray) (y20 y21 : Addr) (y22 : Sl) (y17 y18 : Int) (H_2 : Hp) : Prop :=
((decide (y18 < ((y22).n : Int))) = true → (((decide (y17 = 7)) = true → (∃ a32 : Addr, (y22).b = some a32 ∧ (0 : Int) ≤ y18 ∧ y18 < ((y22).n : Int) ∧ (
 ∃ x37 : ByteArray, cell H_2 (Addr.add a32 (y18.toNat * 3)) = some (sv x37) ∧ (
 ((seq x37 bE) = true → (∃ a40 : Addr, (y22).b = some a40 ∧ (0 : Int) ≤ y18 ∧ y18 < ((y22).n : Int) ∧ (
 ∃ x45 : Int, cell H_2 (Addr.add (Addr.add a40 (y18.toNat * 3)) 1) = some (iv x45) ∧ (
 F50_3 Q X2 y19 y20 y21 y22 y17 y18 (decide (x45 = ((y19).size : Int))) H_2)))) ∧
 ((seq x37 bE) = false → (F50_3 Q X2 y19 y20 y21 y22 y17 y18 false H_2)))))) ∧
 ((decide (y17 = 7)) = false → (F50_3 Q X2 y19 y20 y21 y22 y17 y18 false H_2)))) ∧
 ((decide (y18 < ((y22).n : Int))) = false → (F50_1 Q y19 y20 H_2))
def F50_L2 (Q : ByteArray → Sl → Int → Int → Hp → Prop) (y19 : ByteArray) (y20 y21 : Addr) (y22 : Sl) (y17 y18 : Int) (H_2 : Hp) : Prop :=
 ∀ X2 : Int → Int → Hp → Prop, (∀ (y17 y18 : Int) (H_2 : Hp), F50_L2b Q X2 y19 y20 y21 y22 y17 y18 H_2 → X2 y17 y18 H_2) → X2 y17 y18 H_2
def F50 (p0 : ByteArray) (H : Hp) (Q : ByteArray → Sl → Int → Int → Hp → Prop) : Prop :=
∀ H1 : Hp, H1 = Array.push H (.cells #[(sv bE), sN] 27) → (
 ((decide ((4096 : Int) < ((p0).size : Int))) = true → (mayw H1 (bk H) 2 0 ∧ ∀ H4 : Hp, H4 = sets H1 (bk H) [(sv bE), sN] 0 → (
 ∃ (x7 : ByteArray) (x8 : Sl), cells H4 (bk H) [(sv x7), (Sl.v x8)] 0 ∧ (
 Q x7 x8 0 2 H4)))) ∧
 ((decide ((4096 : Int) < ((p0).size : Int))) = false → (∀ H10 : Hp, H10 = Array.push H1 (.cells #[(sv bE), sN] 27) → (
 F75 p0 H10 (fun (r14 : Sl) (H12 : Hp) => 
 F50_L2 Q p0 (bk H) (bk H1) r14 0 0 H12)))))
theorem walk50 {w0 : World} {p0 : ByteArray} {H : Hp} {Q : ByteArray → Sl → Int → Int → Hp → Prop} (h : F50 p0 H Q) :
  Good prog w0 50 #[(sv p0)] H (fun v H => ∃ (r0 : ByteArray) (r1 : Sl) (r2 r3 : Int) , v = (.tuple #[(.agg #[(sv r0), (Sl.v r1)]), (iv r2), (iv r3)]) ∧ Q r0 r1 r2 r3 H) := by
 unfold F50 at h
 refine Good.enter' (fn := f50) func50 rfl rfl rfl (ws (wr_ (ho rfl (HOp.alloc zeroValue27) ?_)))
 rintro _ H1 ⟨rfl, e2⟩
 replace h := h H1 e2
 refine hv (v := (iv 0)) rfl (av rfl) (hv (v := (iv 0)) rfl (av rfl) (hn (nt (ws (ws (wr_ (hv (v := (sv p0)) rfl (mv rfl) ?_)))))))
 refine hv (v := (iv ((p0).size : Int))) rfl (HVal.lenS runUnderlying9 rfl) (hv (v := (bv (decide ((4096 : Int) < ((p0).size : Int))))) rfl (HVal.gtr rfl rfl) ?_)
 refine hn (nt ?_)
 obtain ⟨hT, hF⟩ := h
 refine wk (decide ((4096 : Int) < ((p0).size : Int))) rfl (fun hb3 => ?_) (fun hb3 => ?_)
 ·have h := hT hb3
  refine ws (wr_ (hv (v := (.agg #[(sv bE), sN])) rfl (HVal.build' (cs := [(sv bE), sN]) runUnderlying27 zeroValue27 places27 rfl) ?_))
  obtain ⟨z6, h⟩ := h
  refine hq (HOp.storeN' (l := [(sv bE), sN]) sizeOf27 rfl rfl rfl z6) ?_
  rintro _ H4 e5
  replace h := h H4 e5
  refine hv (v := (iv 0)) rfl (av rfl) (hv (v := (iv 2)) rfl (av rfl) (hn (nt (HW.ret (tr ?_)))))
  obtain ⟨x7, x8, c9, h⟩ := h
  exact ⟨_, resOf3 rfl (Res1.n [(sv x7), (Sl.v x8)] isAgg27 sizeOf27 rfl c9) Res1.t Res1.t, ⟨x7, x8, 0, 2, rfl, h⟩⟩
 have h := hF hb3
 refine wp_ (nt (ws (wr_ (ho rfl (HOp.alloc zeroValue27) ?_))))
 rintro _ H10 ⟨rfl, e11⟩
 replace h := h H10 e11
 refine hn (nt (ws (wr_ (hv (v := (sv p0)) rfl (mv rfl) (ho rfl (HOp.call' 75 [(sv p0)] (cap := []) rfl rfl call75 (walk75 h)) ?_)))))
 rintro _ H12 ⟨r14, rfl, h⟩
 refine hv (v := (Sl.v r14)) rfl (av rfl) (hn (nt (ws (wr_ (hv (v := (iv 0)) rfl (av rfl) (hn (nt ?_)))))))
 refine wc (fun ρ H_1 => Env.Is ρ [(0, (sv p0)), (2, (pp (bk H)))] ∧ F50_1 Q p0 (bk H) H_1) ?_ ?_
 ·refine ws (wr_ (hv (v := (iv 0)) rfl (av rfl) (hn (nt (wb (HW.loop' (fun L2 hL2 => ?_)))))))
  obtain ⟨X2, hX2⟩ : ∃ X2 : Int → Int → Hp → Prop, ∀ (y17 y18 : Int) (H_2 : Hp), X2 y17 y18 H_2 ↔ ∀ ρ, Env.Is ρ [(0, (sv p0)), (2, (pp (bk H))), (5, (pp (bk H1))), (6, (Sl.v r14)), (7, (iv y17)), (8, (iv y18))] → L2 ρ H_2 := ⟨_, fun _ _ _ => Iff.rfl⟩
  refine (hX2 _ _ _).1 (h X2 ?_) _ ?_
  rotate_left
  ·exact (isp rfl)
  clear h
  intro y17 y18 H_2 h
  refine (hX2 _ _ _).2 fun ρ hI => ?_
  obtain ⟨ρ0, rfl⟩ := hI.ex
  clear hI; unfold F50_L2b at h; refine hL2 _ _ ?_
  refine ws (ws (wr_ (hv (v := (iv y18)) rfl (mv rfl) (hv (v := (Sl.v r14)) rfl (mv rfl) (hv (v := (iv ((r14).n : Int))) rfl (HVal.len runUnderlying120 rfl) ?_)))))
  refine hv (v := (bv (decide (y18 < ((r14).n : Int))))) rfl (HVal.lss rfl rfl) (hn (nt ?_))
  obtain ⟨hT, hF⟩ := h
  refine wk (decide (y18 < ((r14).n : Int))) rfl (fun hb23 => ?_) (fun hb23 => ?_)
  ·have h := hT hb23
   refine wp_ (nt (ws (wb (ws (wc (fun ρ H_3 => ∃ (y46 : Bool), Env.Is ρ [(0, (sv p0)), (2, (pp (bk H))), (5, (pp (bk H1))), (6, (Sl.v r14)), (7, (iv y17)), (8, (iv y18)), (42, (bv y46))] ∧ F50_3 Q X2 p0 (bk H) (bk H1) r14 y17 y18 y46 H_3) ?_ ?_)))))
   ·refine wr_ (hv (v := (iv y17)) rfl (mv rfl) (hv (v := (bv (decide (y17 = 7)))) rfl (HVal.eqlI rfl rfl) (hv (v := (bv (decide (y17 = 7)))) rfl (mv rfl) ?_)))
    obtain ⟨hT, hF⟩ := h
    rcases Bool.eq_false_or_eq_true (decide (y17 = 7)) with hb30 | hb31
    ·have h := hT hb30
     refine hg (v := (Sl.v r14)) rfl rfl rfl rfl (cB hb30) (mv rfl) (hg (v := (iv y18)) rfl rfl rfl rfl (cB hb30) (mv rfl) ?_)
     obtain ⟨a32, e33, b34, b35, h⟩ := h
     refine hg (v := (pp (Addr.add a32 (y18.toNat * 3)))) rfl rfl rfl rfl (cB hb30) (ia runUnderlying120 sizeOf123 (Sl.v_some rfl e33) rfl b34 b35) ?_
     refine hg (v := (pp (Addr.add a32 (y18.toNat * 3)))) rfl rfl rfl rfl (cB hb30) (HVal.fieldAddr0 runUnderlying123 rfl rfl sizeOf9 rfl) ?_
     obtain ⟨x37, c36, h⟩ := h
     refine hg (v := (sv x37)) rfl rfl rfl rfl (cB hb30) (l1 isAgg9 rfl c36) (hg (v := (bv (seq x37 bE))) rfl rfl rfl rfl (cB hb30) (HVal.eqlS rfl rfl) ?_)
     refine hv (v := (bv (seq x37 bE))) rfl (pt_ rfl hb30 rfl) (hv (v := (bv (seq x37 bE))) rfl (mv rfl) ?_)
     obtain ⟨hT, hF⟩ := h
     rcases Bool.eq_false_or_eq_true (seq x37 bE) with hb38 | hb39
     ·have h := hT hb38
      refine hg (v := (Sl.v r14)) rfl rfl rfl rfl (cB hb38) (mv rfl) (hg (v := (iv y18)) rfl rfl rfl rfl (cB hb38) (mv rfl) ?_)
      obtain ⟨a40, e41, b42, b43, h⟩ := h
      refine hg (v := (pp (Addr.add a40 (y18.toNat * 3)))) rfl rfl rfl rfl (cB hb38) (ia runUnderlying120 sizeOf123 (Sl.v_some rfl e41) rfl b42 b43) ?_
      refine hg (v := (pp (Addr.add (Addr.add a40 (y18.toNat * 3)) 1))) rfl rfl rfl rfl (cB hb38) (fa runUnderlying123 rfl rfl sizeOf3 rfl) ?_
      obtain ⟨x45, c44, h⟩ := h
      refine hg (v := (iv x45)) rfl rfl rfl rfl (cB hb38) (l1 isAgg3 rfl c44) (hg (v := (sv p0)) rfl rfl rfl rfl (cB hb38) (mv rfl) ?_)
      refine hg (v := (iv ((p0).size : Int))) rfl rfl rfl rfl (cB hb38) (HVal.lenS runUnderlying9 rfl) (hg (v := (bv (decide (x45 = ((p0).size : Int))))) rfl rfl rfl rfl (cB hb38) (HVal.eqlI rfl rfl) ?_)
      refine hv (v := (bv (decide (x45 = ((p0).size : Int))))) rfl (pt_ rfl hb38 rfl) (hn (nt ?_))
      exact ⟨(decide (x45 = ((p0).size : Int))), (isp rfl), h⟩
     have h := hF hb39
     refine hs_ rfl rfl rfl rfl (cB hb39) (hs_ rfl rfl rfl rfl (cB hb39) (hs_ rfl rfl rfl rfl (cB hb39) (hs_ rfl rfl rfl rfl (cB hb39) ?_)))
     refine hs_ rfl rfl rfl rfl (cB hb39) (hs_ rfl rfl rfl rfl (cB hb39) (hs_ rfl rfl rfl rfl (cB hb39) (hs_ rfl rfl rfl rfl (cB hb39) ?_)))
     refine hv (v := (bv false)) rfl (pf_ rfl hb39 rfl) (hn (nt ?_))
     exact ⟨false, (isp rfl), h⟩
    have h := hF hb31
    refine hs_ rfl rfl rfl rfl (cB hb31) (hs_ rfl rfl rfl rfl (cB hb31) (hs_ rfl rfl rfl rfl (cB hb31) (hs_ rfl rfl rfl rfl (cB hb31) ?_)))
    refine hs_ rfl rfl rfl rfl (cB hb31) (hs_ rfl rfl rfl rfl (cB hb31) (hv (v := (bv false)) rfl (pf_ rfl hb31 rfl) (hv (v := (bv false)) rfl (mv rfl) ?_)))
    refine hs_ rfl rfl rfl rfl rfl (hs_ rfl rfl rfl rfl rfl (hs_ rfl rfl rfl rfl rfl (hs_ rfl rfl rfl rfl rfl (hs_ rfl rfl rfl rfl rfl ?_))))
    refine hs_ rfl rfl rfl rfl rfl (hs_ rfl rfl rfl rfl rfl (hs_ rfl rfl rfl rfl rfl (hv (v := (bv false)) rfl (pf_ rfl rfl rfl) ?_)))
    refine hn (nt ?_)
    exact ⟨false, (isp rfl), h⟩
   rintro ρ H_3 ⟨y46, hI, h⟩
   obtain ⟨ρ0, rfl⟩ := hI.ex
   clear hI; unfold F50_3 at h
   obtain ⟨hT, hF⟩ := h
   refine wk y46 rfl (fun hb47 => ?_) (fun hb47 => ?_)
   ·have h := hT hb47
    refine ws (wr_ ?_)
    obtain ⟨x49, x50, c48, h⟩ := h
    refine hv (v := (.agg #[(sv x49), (Sl.v x50)])) rfl (ln [(sv x49), (Sl.v x50)] isAgg27 sizeOf27 rfl c48) ?_
    obtain ⟨z53, h⟩ := h
    refine hq (HOp.storeN' (l := [(sv x49), (Sl.v x50)]) sizeOf27 rfl rfl rfl z53) ?_
    rintro _ H51 e52
    replace h := h H51 e52
    refine hv (v := (iv 0)) rfl (av rfl) (hv (v := (iv 0)) rfl (av rfl) (hn (nt (HW.ret (tr (br (tr (tr (br ?_)))))))))
    refine tr ?_
    obtain ⟨x54, x55, c56, h⟩ := h
    exact ⟨_, resOf3 rfl (Res1.n [(sv x54), (Sl.v x55)] isAgg27 sizeOf27 rfl c56) Res1.t Res1.t, ⟨x54, x55, 0, 0, rfl, h⟩⟩
   have h := hF hb47
   refine wp_ (nt (ws (wr_ (hv (v := (iv y17)) rfl (mv rfl) (hv (v := (Sl.v r14)) rfl (mv rfl) (hv (v := (iv y18)) rfl (mv rfl) ?_))))))
   obtain ⟨a57, e58, b59, b60, h⟩ := h
   refine hv (v := (pp (Addr.add a57 (y18.toNat * 3)))) rfl (ia runUnderlying120 sizeOf123 (Sl.v_some rfl e58) rfl b59 b60) ?_
   obtain ⟨x62, x63, x64, c61, h⟩ := h
   refine hv (v := (.agg #[(sv x62), (iv x63), (bv x64)])) rfl (ln [(sv x62), (iv x63), (bv x64)] isAgg123 sizeOf123 rfl c61) (ho rfl (HOp.call' 76 [(pp (bk H1)), (iv y17), (.agg #[(sv x62), (iv x63), (bv x64)])] (cap := []) rfl rfl call76 (walk76 h)) ?_)
   rintro _ H65 ⟨r67, r68, rfl, h⟩
   refine hv (v := (.tuple #[(iv r67), (iv r68)])) rfl (mv rfl) (hv (v := (iv r67)) rfl (HVal.extract rfl rfl) (hv (v := (iv r68)) rfl (HVal.extract rfl rfl) ?_))
   refine hv (v := (iv r67)) rfl (av rfl) (hv (v := (iv r68)) rfl (av rfl) (hn (nt (ws (ws (wr_ ?_))))))
   refine hv (v := (iv r68)) rfl (mv rfl) (hv (v := (bv (decide (r68 ≠ 0)))) rfl (HVal.neqI rfl rfl) (hn (nt ?_)))
   obtain ⟨hT, hF⟩ := h
   refine wk (decide (r68 ≠ 0)) rfl (fun hb69 => ?_) (fun hb69 => ?_)
   ·have h := hT hb69
    refine ws (HW.draw mixed [(0, some []), (1, some []), (2, some []), (3, some []), (4, some []), (5, some []), (6, some []), (7, none), (8, some []), (9, some [])] rfl (by kernel_rfl) (by kernel_rfl) ?_)
    refine pv (v := (.agg #[(sv bE), sN])) rfl rfl (fun _ => HVal.build' (cs := [(sv bE), sN]) runUnderlying27 zeroValue27 places27 rfl) (pv (v := (Sl.v r14)) rfl rfl (fun _ => mv rfl) ?_)
    refine pv (v := (iv y18)) rfl rfl (fun _ => mv rfl) ?_
    obtain ⟨a70, e71, b72, b73, h⟩ := h
    refine pv (v := (pp (Addr.add a70 (y18.toNat * 3)))) rfl rfl (fun _ => ia runUnderlying120 sizeOf123 (Sl.v_some rfl e71) rfl b72 b73) ?_
    refine pv (v := (pp (Addr.add (Addr.add a70 (y18.toNat * 3)) 1))) rfl rfl (fun _ => fa runUnderlying123 rfl rfl sizeOf3 rfl) ?_
    obtain ⟨x75, c74, h⟩ := h
    refine pl (v := (iv x75)) (fun X => cell X (Addr.add (Addr.add a70 (y18.toNat * 3)) 1) = some (iv x75)) rfl rfl (fun _ hX => l1 isAgg3 rfl hX) c74 ?_
    refine pv (v := (iv r68)) rfl rfl (fun _ => mv rfl) ?_
    obtain ⟨z78, h⟩ := h
    refine pn rfl (HOp.storeN' (l := [(sv bE), sN]) sizeOf27 rfl rfl rfl z78) ?_
    rintro _ H76 e77
    replace h := h H76 e77
    obtain ⟨s79, h⟩ := h
    refine ⟨SC_of ⟨fun _ => s79, trivial⟩, ?_⟩
    refine pv (v := (iv x75)) rfl rfl (fun _ => av rfl) (pv (v := (iv r68)) rfl rfl (fun _ => av rfl) (HPlan.done (nt ?_)))
    refine HW.ret (tr (br (tr (tr (br (tr ?_))))))
    obtain ⟨x80, x81, c82, h⟩ := h
    exact ⟨_, resOf3 rfl (Res1.n [(sv x80), (Sl.v x81)] isAgg27 sizeOf27 rfl c82) Res1.t Res1.t, ⟨x80, x81, x75, r68, rfl, h⟩⟩
   have h := hF hb69
   refine wp_ (nt (wr_ (hv (v := (iv r67)) rfl (mv rfl) (hv (v := (iv r67)) rfl (av rfl) (hn (nb (nt ?_)))))))
   refine wr_ (hv (v := (iv y18)) rfl (mv rfl) (hv (v := (iv (IntKind.i64.wrap (y18 + 1)))) rfl (HVal.add rfl rfl) (hv (v := (iv (IntKind.i64.wrap (y18 + 1)))) rfl (av rfl) ?_)))
   refine hn (nt ?_)
   exact (hX2 _ _ _).1 h _ (isp rfl)
  have h := hF hb23
  refine we (te (te (be (nt ?_))))
  exact ⟨(isp rfl), h⟩
 rintro ρ H_1 ⟨hI, h⟩
 obtain ⟨ρ0, rfl⟩ := hI.ex
 clear hI; unfold F50_1 at h
 refine ws (wr_ (hv (v := (.agg #[(sv bE), sN])) rfl (HVal.build' (cs := [(sv bE), sN]) runUnderlying27 zeroValue27 places27 rfl) ?_))
 refine hv (v := (sv p0)) rfl (mv rfl) (hv (v := (iv ((p0).size : Int))) rfl (HVal.lenS runUnderlying9 rfl) ?_)
 obtain ⟨z85, h⟩ := h
 refine hq (HOp.storeN' (l := [(sv bE), sN]) sizeOf27 rfl rfl rfl z85) ?_
 rintro _ H83 e84
 replace h := h H83 e84
 refine hv (v := (iv ((p0).size : Int))) rfl (av rfl) (hv (v := (iv 24)) rfl (av rfl) (hn (nt (HW.ret ?_))))
 obtain ⟨x86, x87, c88, h⟩ := h
 exact ⟨_, resOf3 rfl (Res1.n [(sv x86), (Sl.v x87)] isAgg27 sizeOf27 rfl c88) Res1.t Res1.t, ⟨x86, x87, ((p0).size : Int), 24, rfl, h⟩⟩

def F51_1 (Q : ByteArray → Int → Hp → Prop) (y55 : ByteArray) (H_1 : Hp) : Prop :=
(y55).size + (S___).size ≤ 9223372036854775807 ∧ (
 Q (y55 ++ S___) 0 H_1)
def F51_3 (Q X2 : ByteArray → Int → Hp → Prop) (y26 y27 : Addr) (y28 : Int) (y31 : ByteArray) (H_3 : Hp) : Prop :=
∃ x33 : Sl, cell H_3 (Addr.add y26 1) = some (Sl.v x33) ∧ (
 ∃ a34 : Addr, (x33).b = some a34 ∧ (0 : Int) ≤ y28 ∧ y28 < ((x33).n : Int) ∧ (
 ∃ x39 : ByteArray, cell H_3 (Addr.add a34 (y28.toNat * 2)) = some (sv x39) ∧ (
 (y31).size + (x39).size ≤ 9223372036854775807 ∧ (
 ((y31 ++ x39)).size + (S_______).size ≤ 9223372036854775807 ∧ (
 ∃ x43 : Sl, cell H_3 (Addr.add y26 1) = some (Sl.v x43) ∧ (
 ∃ a44 : Addr, (x43).b = some a44 ∧ (0 : Int) ≤ y28 ∧ y28 < ((x43).n : Int) ∧ (
 ∃ x49 : Int, cell H_3 (Addr.add (Addr.add a44 (y28.toNat * 2)) 1) = some (iv x49) ∧ (
 (0 : Int) ≤ x49 ∧ x49 < ((4 : Nat) : Int) ∧ (
 ∃ x53 : ByteArray, cell H_3 (Addr.add y27 (x49.toNat * 1)) = some (sv x53) ∧ (
 (((y31 ++ x39) ++ S_______)).size + (x53).size ≤ 9223372036854775807 ∧ (
 X2 (((y31 ++ x39) ++ S_______) ++ x53) (IntKind.i64.wrap (y28 + 1)) H_3)))))))))))
def F51_L2b (Q X2 : ByteArray → Int → Hp → Prop) (y21 y22 : Addr) (y19 : ByteArray) (y20 : Int) (H_2 : Hp) : Prop :=
∃ x24 : Sl, cell H_2 (Addr.add y21 1) = some (Sl.v x24) ∧ (
 ((decide (y20 < ((x24).n : Int))) = true → (((decide ((0 : Int) < y20)) = true → ((y19).size + (S______).size ≤ 9223372036854775807 ∧ (
 F51_3 Q X2 y21 y22 y20 (y19 ++ S______) H_2))) ∧
 ((decide ((0 : Int) < y20)) = false → (F51_3 Q X2 y21 y22 y20 y19 H_2)))) ∧
 ((decide (y20 < ((x24).n : Int))) = false → (F51_1 Q y19 H_2)))
def F51_L2 (Q : ByteArray → Int → Hp → Prop) (y21 y22 : Addr) (y19 : ByteArray) (y20 : Int) (H_2 : Hp) : Prop :=
 ∀ X2 : ByteArray → Int → Hp → Prop, (∀ (y19 : ByteArray) (y20 : Int) (H_2 : Hp), F51_L2b Q X2 y21 y22 y19 y20 H_2 → X2 y19 y20 H_2) → X2 y19 y20 H_2
def F51 (p0_0 : ByteArray) (p0_1 : Sl) (H : Hp) (Q : ByteArray → Int → Hp → Prop) : Prop :=
∀ H1 : Hp, H1 = Array.push H (.cells #[(sv p0_0), (Sl.v p0_1)] 27) → (
 ∃ (x4 : ByteArray) (x5 : Sl), cells H1 (bk H) [(sv x4), (Sl.v x5)] 0 ∧ (
 F68 x4 x5 H1 (fun (r8 : Int) (H6 : Hp) => 
 ((decide (r8 ≠ 0)) = true → (Q bE r8 H6)) ∧
 ((decide (r8 ≠ 0)) = false → (∀ H10 : Hp, H10 = Array.push H6 (.cells #[(sv bE), (sv bE), (sv bE), (sv bE)] 49) → (
 mayw H10 (bk H6) 4 0 ∧ ∀ H12 : Hp, H12 = sets H10 (bk H6) [(sv bE), (sv S_INT), (sv S_STR), (sv S_BOOL)] 0 → (
 ∃ x16 : ByteArray, cell H12 (bk H) = some (sv x16) ∧ (
 (S_TYPE_).size + (x16).size ≤ 9223372036854775807 ∧ (
 ((S_TYPE_ ++ x16)).size + (S_____).size ≤ 9223372036854775807 ∧ (
 F51_L2 Q (bk H) (bk H6) ((S_TYPE_ ++ x16) ++ S_____) 0 H12))))))))))
theorem walk51 {w0 : World} {p0_0 : ByteArray} {p0_1 : Sl} {H : Hp} {Q : ByteArray → Int → Hp → Prop} (h : F51 p0_0 p0_1 H Q) :
  Good prog w0 51 #[(.agg #[(sv p0_0), (Sl.v p0_1)])] H (fun v H => ∃ (r0 : ByteArray) (r1 : Int) , v = (.tuple #[(sv r0), (iv r1)]) ∧ Q r0 r1 H) := by
 unfold F51 at h
 refine Good.enter' (fn := f51) func51 rfl rfl rfl (ws (wr_ (ho rfl (ob (v := (.agg #[(sv p0_0), (Sl.v p0_1)])) rfl) ?_)))
 rintro _ H1 ⟨rfl, e2⟩
 replace h := h H1 e2
 refine hv (v := (sv bE)) rfl (av rfl) (hv (v := (iv 0)) rfl (av rfl) (hn (nt (ws (wr_ ?_)))))
 obtain ⟨x4, x5, c3, h⟩ := h
 refine hv (v := (.agg #[(sv x4), (Sl.v x5)])) rfl (ln [(sv x4), (Sl.v x5)] isAgg27 sizeOf27 rfl c3) (ho rfl (HOp.call' 68 [(.agg #[(sv x4), (Sl.v x5)])] (cap := []) rfl rfl call68 (walk68 h)) ?_)
 rintro _ H6 ⟨r8, rfl, h⟩
 refine hv (v := (iv r8)) rfl (av rfl) (hn (nt (ws (ws (wr_ (hv (v := (iv r8)) rfl (mv rfl) (hv (v := (bv (decide (r8 ≠ 0)))) rfl (HVal.neqI rfl rfl) ?_)))))))
 refine hn (nt ?_)
 obtain ⟨hT, hF⟩ := h
 refine wk (decide (r8 ≠ 0)) rfl (fun hb9 => ?_) (fun hb9 => ?_)
 ·have h := hT hb9
  refine ws (wr_ (hv (v := (iv r8)) rfl (mv rfl) (hv (v := (sv bE)) rfl (av rfl) (hv (v := (iv r8)) rfl (av rfl) ?_))))
  refine hn (nt (HW.ret (tr ?_)))
  exact ⟨_, resOf2 rfl Res1.t Res1.t, ⟨bE, r8, rfl, h⟩⟩
 have h := hF hb9
 refine wp_ (nt (ws (wr_ (hv (v := (.agg #[(sv bE), (sv S_INT), (sv S_STR), (sv S_BOOL)])) rfl (HVal.buildA' (cs := [(sv bE), (sv S_INT), (sv S_STR), (sv S_BOOL)]) runUnderlying49 zeroValue49 sizeOf9 rfl) ?_))))
 refine ho rfl (HOp.alloc zeroValue49) ?_
 rintro _ H10 ⟨rfl, e11⟩
 replace h := h H10 e11
 obtain ⟨z14, h⟩ := h
 refine hq (HOp.storeN' (l := [(sv bE), (sv S_INT), (sv S_STR), (sv S_BOOL)]) sizeOf49 rfl rfl rfl z14) ?_
 rintro _ H12 e13
 replace h := h H12 e13
 refine hn (nt (ws (wr_ (hv (v := (pp (bk H))) rfl (HVal.fieldAddr0 runUnderlying27 rfl rfl sizeOf9 rfl) ?_))))
 obtain ⟨x16, c15, h⟩ := h
 refine hv (v := (sv x16)) rfl (l1 isAgg9 rfl c15) ?_
 obtain ⟨z17, h⟩ := h
 refine hv (v := (sv (S_TYPE_ ++ x16))) rfl (HVal.addS rfl rfl z17) ?_
 obtain ⟨z18, h⟩ := h
 refine hv (v := (sv ((S_TYPE_ ++ x16) ++ S_____))) rfl (HVal.addS rfl rfl z18) (hv (v := (sv ((S_TYPE_ ++ x16) ++ S_____))) rfl (av rfl) ?_)
 refine hn (nt (wc (fun ρ H_1 => ∃ (y55 : ByteArray), Env.Is ρ [(6, (sv y55))] ∧ F51_1 Q y55 H_1) ?_ ?_))
 ·refine ws (wr_ (hv (v := (iv 0)) rfl (av rfl) (hn (nt (wb (HW.loop' (fun L2 hL2 => ?_)))))))
  obtain ⟨X2, hX2⟩ : ∃ X2 : ByteArray → Int → Hp → Prop, ∀ (y19 : ByteArray) (y20 : Int) (H_2 : Hp), X2 y19 y20 H_2 ↔ ∀ ρ, Env.Is ρ [(1, (pp (bk H))), (5, (pp (bk H6))), (6, (sv y19)), (7, (iv y20))] → L2 ρ H_2 := ⟨_, fun _ _ _ => Iff.rfl⟩
  refine (hX2 _ _ _).1 (h X2 ?_) _ ?_
  rotate_left
  ·exact (isp rfl)
  clear h
  intro y19 y20 H_2 h
  refine (hX2 _ _ _).2 fun ρ hI => ?_
  obtain ⟨ρ0, rfl⟩ := hI.ex
  clear hI; unfold F51_L2b at h; refine hL2 _ _ ?_
  refine ws (ws (wr_ (hv (v := (iv y20)) rfl (mv rfl) (hv (v := (pp (Addr.add (bk H) 1))) rfl (fa runUnderlying27 rfl rfl sizeOf25 rfl) ?_))))
  obtain ⟨x24, c23, h⟩ := h
  refine hv (v := (Sl.v x24)) rfl (l1 isAgg25 rfl c23) (hv (v := (iv ((x24).n : Int))) rfl (HVal.len runUnderlying25 rfl) (hv (v := (bv (decide (y20 < ((x24).n : Int))))) rfl (HVal.lss rfl rfl) ?_))
  refine hn (nt ?_)
  obtain ⟨hT, hF⟩ := h
  refine wk (decide (y20 < ((x24).n : Int))) rfl (fun hb25 => ?_) (fun hb25 => ?_)
  ·have h := hT hb25
   refine wp_ (nt (ws (wb (wc (fun ρ H_3 => ∃ (y31 : ByteArray), Env.Is ρ [(1, (pp (bk H))), (5, (pp (bk H6))), (7, (iv y20)), (6, (sv y31))] ∧ F51_3 Q X2 (bk H) (bk H6) y20 y31 H_3) ?_ ?_))))
   ·refine ws (wr_ (hv (v := (iv y20)) rfl (mv rfl) (hv (v := (bv (decide ((0 : Int) < y20)))) rfl (HVal.gtr rfl rfl) (hn (nt ?_)))))
    obtain ⟨hT, hF⟩ := h
    refine wk (decide ((0 : Int) < y20)) rfl (fun hb29 => ?_) (fun hb29 => ?_)
    ·have h := hT hb29
     refine wr_ (hv (v := (sv y19)) rfl (mv rfl) ?_)
     obtain ⟨z30, h⟩ := h
     refine hv (v := (sv (y19 ++ S______))) rfl (HVal.addS rfl rfl z30) (hv (v := (sv (y19 ++ S______))) rfl (av rfl) (hn (nt ?_)))
     exact ⟨(y19 ++ S______), (isp rfl), h⟩
    have h := hF hb29
    refine wp_ (nt ?_)
    exact ⟨y19, (isp rfl), h⟩
   rintro ρ H_3 ⟨y31, hI, h⟩
   obtain ⟨ρ0, rfl⟩ := hI.ex
   clear hI; unfold F51_3 at h
   refine HW.draw mixed [(0, some []), (1, some []), (2, some []), (3, some []), (4, some []), (5, some []), (6, some []), (7, some []), (8, some []), (9, some []), (10, some []), (11, some []), (12, some []), (13, some []), (14, some []), (15, some []), (16, some []), (17, some []), (18, some [])] rfl (by kernel_rfl) (by kernel_rfl) ?_
   refine pv (v := (sv y31)) rfl rfl (fun _ => mv rfl) (pv (v := (pp (Addr.add (bk H) 1))) rfl rfl (fun _ => fa runUnderlying27 rfl rfl sizeOf25 rfl) ?_)
   obtain ⟨x33, c32, h⟩ := h
   refine pl (v := (Sl.v x33)) (fun X => cell X (Addr.add (bk H) 1) = some (Sl.v x33)) rfl rfl (fun _ hX => l1 isAgg25 rfl hX) c32 (pv (v := (iv y20)) rfl rfl (fun _ => mv rfl) ?_)
   obtain ⟨a34, e35, b36, b37, h⟩ := h
   refine pv (v := (pp (Addr.add a34 (y20.toNat * 2)))) rfl rfl (fun _ => ia runUnderlying25 sizeOf38 (Sl.v_some rfl e35) rfl b36 b37) ?_
   refine pv (v := (pp (Addr.add a34 (y20.toNat * 2)))) rfl rfl (fun _ => HVal.fieldAddr0 runUnderlying38 rfl rfl sizeOf9 rfl) ?_
   obtain ⟨x39, c38, h⟩ := h
   refine pl (v := (sv x39)) (fun X => cell X (Addr.add a34 (y20.toNat * 2)) = some (sv x39)) rfl rfl (fun _ hX => l1 isAgg9 rfl hX) c38 ?_
   obtain ⟨z40, h⟩ := h
   refine pv (v := (sv (y31 ++ x39))) rfl rfl (fun _ => HVal.addS rfl rfl z40) ?_
   obtain ⟨z41, h⟩ := h
   refine pv (v := (sv ((y31 ++ x39) ++ S_______))) rfl rfl (fun _ => HVal.addS rfl rfl z41) (pv (v := (pp (Addr.add (bk H) 1))) rfl rfl (fun _ => fa runUnderlying27 rfl rfl sizeOf25 rfl) ?_)
   obtain ⟨x43, c42, h⟩ := h
   refine pl (v := (Sl.v x43)) (fun X => cell X (Addr.add (bk H) 1) = some (Sl.v x43)) rfl rfl (fun _ hX => l1 isAgg25 rfl hX) c42 (pv (v := (iv y20)) rfl rfl (fun _ => mv rfl) ?_)
   obtain ⟨a44, e45, b46, b47, h⟩ := h
   refine pv (v := (pp (Addr.add a44 (y20.toNat * 2)))) rfl rfl (fun _ => ia runUnderlying25 sizeOf38 (Sl.v_some rfl e45) rfl b46 b47) ?_
   refine pv (v := (pp (Addr.add (Addr.add a44 (y20.toNat * 2)) 1))) rfl rfl (fun _ => fa runUnderlying38 rfl rfl sizeOf3 rfl) ?_
   obtain ⟨x49, c48, h⟩ := h
   refine pl (v := (iv x49)) (fun X => cell X (Addr.add (Addr.add a44 (y20.toNat * 2)) 1) = some (iv x49)) rfl rfl (fun _ hX => l1 isAgg3 rfl hX) c48 ?_
   obtain ⟨b50, b51, h⟩ := h
   refine pv (v := (pp (Addr.add (bk H6) (x49.toNat * 1)))) rfl rfl (fun _ => HVal.indexAddrA runUnderlying49 sizeOf9 rfl rfl b50 b51) ?_
   obtain ⟨x53, c52, h⟩ := h
   refine pl (v := (sv x53)) (fun X => cell X (Addr.add (bk H6) (x49.toNat * 1)) = some (sv x53)) rfl rfl (fun _ hX => l1 isAgg9 rfl hX) c52 ?_
   obtain ⟨z54, h⟩ := h
   refine pv (v := (sv (((y31 ++ x39) ++ S_______) ++ x53))) rfl rfl (fun _ => HVal.addS rfl rfl z54) (pv (v := (sv (((y31 ++ x39) ++ S_______) ++ x53))) rfl rfl (fun _ => av rfl) ?_)
   refine HPlan.done (nb (nt (wr_ (hv (v := (iv y20)) rfl (mv rfl) (hv (v := (iv (IntKind.i64.wrap (y20 + 1)))) rfl (HVal.add rfl rfl) ?_)))))
   refine hv (v := (iv (IntKind.i64.wrap (y20 + 1)))) rfl (av rfl) (hn (nt ?_))
   exact (hX2 _ _ _).1 h _ (isp rfl)
  have h := hF hb25
  refine we (te (te (be (nt ?_))))
  exact ⟨y19, ⟨rfl, trivial⟩, h⟩
 rintro ρ H_1 ⟨y55, hI, h⟩
 obtain ⟨ρ0, rfl⟩ := hI.ex
 clear hI; unfold F51_1 at h
 refine ws (wr_ (hv (v := (sv y55)) rfl (mv rfl) ?_))
 obtain ⟨z56, h⟩ := h
 refine hv (v := (sv (y55 ++ S___))) rfl (HVal.addS rfl rfl z56) (hv (v := (sv (y55 ++ S___))) rfl (av rfl) (hv (v := (iv 0)) rfl (av rfl) ?_))
 refine hn (nt (HW.ret ?_))
 exact ⟨_, resOf2 rfl Res1.t Res1.t, ⟨(y55 ++ S___), 0, rfl, h⟩⟩

def F37 (H : Hp) (Q : ByteArray → Sl → Hp → Prop) : Prop :=
∀ H1 : Hp, H1 = Array.push H (.cells #[(sv bE), sN] 27) → (
 ∀ H3 : Hp, H3 = Array.push H1 (.cells #[(sv S_price), (iv 1), (sv S_sym), (iv 2), (sv S_live), (iv 3)] 38) → (
 mayw H3 (bk H) 2 0 ∧ ∀ H5 : Hp, H5 = sets H3 (bk H) [(sv S_Trade), (Sl.v (Sl.mk (some (bk H1)) 3 3))] 0 → (
 ∃ (x8 : ByteArray) (x9 : Sl), cells H5 (bk H) [(sv x8), (Sl.v x9)] 0 ∧ (
 Q x8 x9 H5))))
theorem walk37 {w0 : World} {H : Hp} {Q : ByteArray → Sl → Hp → Prop} (h : F37 H Q) :
  Good prog w0 37 #[] H (fun v H => ∃ (r0 : ByteArray) (r1 : Sl) , v = (.agg #[(sv r0), (Sl.v r1)]) ∧ Q r0 r1 H) := by
 unfold F37 at h
 refine Good.enter' (fn := f37) func37 rfl rfl rfl (ws (wr_ (ho rfl (HOp.alloc zeroValue27) ?_)))
 rintro _ H1 ⟨rfl, e2⟩
 replace h := h H1 e2
 refine hn (nt (ws (wr_ (hv (v := (.agg #[(sv S_price), (iv 1)])) rfl (HVal.build' (cs := [(sv S_price), (iv 1)]) runUnderlying38 zeroValue38 places38 rfl) ?_))))
 refine hv (v := (.agg #[(sv S_sym), (iv 2)])) rfl (HVal.build' (cs := [(sv S_sym), (iv 2)]) runUnderlying38 zeroValue38 places38 rfl) (hv (v := (.agg #[(sv S_live), (iv 3)])) rfl (HVal.build' (cs := [(sv S_live), (iv 3)]) runUnderlying38 zeroValue38 places38 rfl) ?_)
 refine ho rfl (HOp.buildSlice' (zs := [(sv bE), (iv 0), (sv bE), (iv 0), (sv bE), (iv 0)]) (cs := [(sv S_price), (iv 1), (sv S_sym), (iv 2), (sv S_live), (iv 3)]) runUnderlying25 sizeOf38 zeroValue38 (by decide) (by kernel_rfl) (by kernel_rfl) (by decide)) ?_
 rintro _ H3 ⟨rfl, e4⟩
 replace h := h H3 e4
 refine hv (v := (.agg #[(sv S_Trade), (Sl.v (Sl.mk (some (bk H1)) 3 3))])) rfl (HVal.build' (cs := [(sv S_Trade), (Sl.v (Sl.mk (some (bk H1)) 3 3))]) runUnderlying27 zeroValue27 places27 rfl) ?_
 obtain ⟨z7, h⟩ := h
 refine hq (HOp.storeN' (l := [(sv S_Trade), (Sl.v (Sl.mk (some (bk H1)) 3 3))]) sizeOf27 rfl rfl rfl z7) ?_
 rintro _ H5 e6
 replace h := h H5 e6
 refine hn (nt (HW.ret ?_))
 obtain ⟨x8, x9, c10, h⟩ := h
 exact ⟨_, resOf1 rfl (Res1.n [(sv x8), (Sl.v x9)] isAgg27 sizeOf27 rfl c10), ⟨x8, x9, rfl, h⟩⟩

def F20_1 (Q : Int → Hp → Prop) (y2 : Int) (H_1 : Hp) : Prop :=
Q (Int.tmod y2 (8 : Int)) H_1
def F20 (p0 : Int) (H : Hp) (Q : Int → Hp → Prop) : Prop :=
((decide (p0 < 0)) = true → (F20_1 Q (IntKind.i64.wrap ((-1) - p0)) H)) ∧
 ((decide (p0 < 0)) = false → (F20_1 Q p0 H))
theorem walk20 {w0 : World} {p0 : Int} {H : Hp} {Q : Int → Hp → Prop} (h : F20 p0 H Q) :
  Good prog w0 20 #[(iv p0)] H (fun v H => ∃ (r0 : Int) , v = (iv r0) ∧ Q r0 H) := by
 unfold F20 at h
 refine Good.enter' (fn := f20) func20 rfl rfl rfl (ws (wr_ (hv (v := (iv 0)) rfl (av rfl) (hn (nt (wc (fun ρ H_1 => ∃ (y2 : Int), Env.Is ρ [(0, (iv y2))] ∧ F20_1 Q y2 H_1) ?_ ?_))))))
 ·refine ws (wr_ (hv (v := (iv p0)) rfl (mv rfl) (hv (v := (bv (decide (p0 < 0)))) rfl (HVal.lss rfl rfl) (hn (nt ?_)))))
  obtain ⟨hT, hF⟩ := h
  refine wk (decide (p0 < 0)) rfl (fun hb1 => ?_) (fun hb1 => ?_)
  ·have h := hT hb1
   refine wr_ (hv (v := (iv p0)) rfl (mv rfl) (hv (v := (iv (IntKind.i64.wrap ((-1) - p0)))) rfl (HVal.sub rfl rfl) (hv (v := (iv (IntKind.i64.wrap ((-1) - p0)))) rfl (av rfl) ?_)))
   refine hn (nt ?_)
   exact ⟨(IntKind.i64.wrap ((-1) - p0)), ⟨rfl, trivial⟩, h⟩
  have h := hF hb1
  refine wp_ (nt ?_)
  exact ⟨p0, ⟨rfl, trivial⟩, h⟩
 rintro ρ H_1 ⟨y2, hI, h⟩
 obtain ⟨ρ0, rfl⟩ := hI.ex
 clear hI; unfold F20_1 at h
 refine ws (wr_ (hv (v := (iv y2)) rfl (mv rfl) (hv (v := (iv (Int.tmod y2 (8 : Int)))) rfl (HVal.rem rfl rfl (by decide)) ?_)))
 refine hv (v := (iv (Int.tmod y2 (8 : Int)))) rfl (av rfl) (hn (nt (HW.ret ?_)))
 exact ⟨_, resOf1 rfl Res1.t, ⟨(Int.tmod y2 (8 : Int)), rfl, h⟩⟩

def F78 (p0_0 : ByteArray) (p0_1 : Int) (p1 : Addr) (H : Hp) (Q : Bool → Hp → Prop) : Prop :=
∀ H1 : Hp, H1 = Array.push H (.cells #[(sv p0_0), (iv p0_1)] 38) → (
 ∃ x4 : ByteArray, cell H1 (bk H) = some (sv x4) ∧ (
 ∃ x6 : ByteArray, cell H1 p1 = some (sv x6) ∧ (
 Q (seq x4 x6) H1)))
theorem walk78 {w0 : World} {p0_0 : ByteArray} {p0_1 : Int} {p1 : Addr} {H : Hp} {Q : Bool → Hp → Prop} (h : F78 p0_0 p0_1 p1 H Q) :
  Good prog w0 78 #[(.agg #[(sv p0_0), (iv p0_1)]), (pp p1)] H (fun v H => ∃ (r0 : Bool) , v = (bv r0) ∧ Q r0 H) := by
 unfold F78 at h
 refine Good.enter' (fn := f78) func78 rfl rfl rfl (ws (wr_ (ho rfl (ob (v := (.agg #[(sv p0_0), (iv p0_1)])) rfl) ?_)))
 rintro _ H1 ⟨rfl, e2⟩
 replace h := h H1 e2
 refine hv (v := (bv false)) rfl (av rfl) (hn (nt (ws (wr_ (hv (v := (pp (bk H))) rfl (HVal.fieldAddr0 runUnderlying38 rfl rfl sizeOf9 rfl) ?_)))))
 obtain ⟨x4, c3, h⟩ := h
 refine hv (v := (sv x4)) rfl (l1 isAgg9 rfl c3) ?_
 obtain ⟨x6, c5, h⟩ := h
 refine hv (v := (sv x6)) rfl (l1 isAgg9 rfl c5) (hv (v := (bv (seq x4 x6))) rfl (HVal.eqlS rfl rfl) (hv (v := (bv (seq x4 x6))) rfl (av rfl) ?_))
 refine hn (nt (HW.ret ?_))
 exact ⟨_, resOf1 rfl Res1.t, ⟨(seq x4 x6), rfl, h⟩⟩

def F94_78_L1b (Q X1 : Int → Hp → Prop) (y2 : Sl) (y3 : Addr) (y4 y1 : Int) (H_1 : Hp) : Prop :=
((decide (y1 < y4)) = true → (∃ a6 : Addr, (y2).b = some a6 ∧ (0 : Int) ≤ y1 ∧ y1 < ((y2).n : Int) ∧ (
 ∃ (x11 : ByteArray) (x12 : Int), cells H_1 (Addr.add a6 (y1.toNat * 2)) [(sv x11), (iv x12)] 0 ∧ (
 F78 x11 x12 y3 H_1 (fun (r15 : Bool) (H13 : Hp) => 
 (r15 = true → (Q y1 H13)) ∧
 (r15 = false → (X1 (IntKind.i64.wrap (y1 + 1)) H13))))))) ∧
 ((decide (y1 < y4)) = false → (Q (-1) H_1))
def F94_78_L1 (Q : Int → Hp → Prop) (y2 : Sl) (y3 : Addr) (y4 y1 : Int) (H_1 : Hp) : Prop :=
 ∀ X1 : Int → Hp → Prop, (∀ (y1 : Int) (H_1 : Hp), F94_78_L1b Q X1 y2 y3 y4 y1 H_1 → X1 y1 H_1) → X1 y1 H_1
def F94_78 (p0 : Sl) (p1 : Addr) (H : Hp) (Q : Int → Hp → Prop) : Prop :=
F94_78_L1 Q p0 p1 ((p0).n : Int) 0 H
theorem walk94_78 {w0 : World} {p0 : Sl} {p1 : Addr} {H : Hp} {Q : Int → Hp → Prop} (h : F94_78 p0 p1 H Q) :
  Good prog w0 94 #[(Sl.v p0), (.func (.func 78) #[] #[(pp p1)])] H (fun v H => ∃ (r0 : Int) , v = (iv r0) ∧ Q r0 H) := by
 unfold F94_78 at h
 refine Good.enter' (fn := f94) func94 rfl rfl rfl (ws (wr_ (hv (v := (iv 0)) rfl (av rfl) (hn (nt (ws ?_))))))
 refine ws (wr_ (hv (v := (Sl.v p0)) rfl (mv rfl) (hv (v := (iv ((p0).n : Int))) rfl (HVal.len runUnderlying25 rfl) ?_)))
 refine hv (v := (iv 0)) rfl (mv rfl) (hn (nt (wb (HW.loop' (fun L1 hL1 => ?_)))))
 obtain ⟨X1, hX1⟩ : ∃ X1 : Int → Hp → Prop, ∀ (y1 : Int) (H_1 : Hp), X1 y1 H_1 ↔ ∀ ρ, Env.Is ρ [(0, (Sl.v p0)), (1, (.func (.func 78) #[] #[(pp p1)])), (7, (iv ((p0).n : Int))), (8, (iv y1))] → L1 ρ H_1 := ⟨_, fun _ _ => Iff.rfl⟩
 refine (hX1 _ _).1 (h X1 ?_) _ ?_
 rotate_left
 ·exact (isp rfl)
 clear h
 intro y1 H_1 h
 refine (hX1 _ _).2 fun ρ hI => ?_
 obtain ⟨ρ0, rfl⟩ := hI.ex
 clear hI; unfold F94_78_L1b at h; refine hL1 _ _ ?_
 refine ws (wr_ (hv (v := (bv (decide (y1 < ((p0).n : Int))))) rfl (HVal.lss rfl rfl) (hn (nt (ws ?_)))))
 obtain ⟨hT, hF⟩ := h
 refine wk (decide (y1 < ((p0).n : Int))) rfl (fun hb5 => ?_) (fun hb5 => ?_)
 ·have h := hT hb5
  refine wp_ (nt (ws (wb (ws (wr_ (hv (v := (iv y1)) rfl (mv rfl) (hv (v := (iv y1)) rfl (av rfl) ?_)))))))
  refine hn (nt (ws (wr_ (hv (v := (.func (.func 78) #[] #[(pp p1)])) rfl (mv rfl) (hv (v := (Sl.v p0)) rfl (mv rfl) ?_)))))
  refine hv (v := (iv y1)) rfl (mv rfl) ?_
  obtain ⟨a6, e7, b8, b9, h⟩ := h
  refine hv (v := (pp (Addr.add a6 (y1.toNat * 2)))) rfl (ia runUnderlying25 sizeOf38 (Sl.v_some rfl e7) rfl b8 b9) ?_
  obtain ⟨x11, x12, c10, h⟩ := h
  refine hv (v := (.agg #[(sv x11), (iv x12)])) rfl (ln [(sv x11), (iv x12)] isAgg38 sizeOf38 rfl c10) (ho rfl (HOp.call' 78 [(.agg #[(sv x11), (iv x12)]), (pp p1)] (cap := [(pp p1)]) rfl rfl call78 (walk78 h)) ?_)
  rintro _ H13 ⟨r15, rfl, h⟩
  refine hn (nt ?_)
  obtain ⟨hT, hF⟩ := h
  refine wk r15 rfl (fun hb16 => ?_) (fun hb16 => ?_)
  ·have h := hT hb16
   refine ws (wr_ (hv (v := (iv y1)) rfl (mv rfl) (hv (v := (iv y1)) rfl (av rfl) (hn (nt (HW.ret (br ?_)))))))
   refine tr (tr (br (tr ?_)))
   exact ⟨_, resOf1 rfl Res1.t, ⟨y1, rfl, h⟩⟩
  have h := hF hb16
  refine wp_ (nb (nt (wr_ (hv (v := (iv (IntKind.i64.wrap (y1 + 1)))) rfl (HVal.add rfl rfl) (hv (v := (iv (IntKind.i64.wrap (y1 + 1)))) rfl (mv rfl) ?_)))))
  refine hn (nt ?_)
  exact (hX1 _ _).1 h _ (isp rfl)
 have h := hF hb5
 refine we (te (te (be (nt (ws (wr_ (hv (v := (iv (-1))) rfl (av rfl) (hn (nt (HW.ret ?_))))))))))
 exact ⟨_, resOf1 rfl Res1.t, ⟨(-1), rfl, h⟩⟩

def F77_78 (p0 : Sl) (p1 : Addr) (H : Hp) (Q : Bool → Hp → Prop) : Prop :=
F94_78 p0 p1 H (fun (r3 : Int) (H1 : Hp) => 
 Q (decide ((0 : Int) ≤ r3)) H1)
theorem walk77_78 {w0 : World} {p0 : Sl} {p1 : Addr} {H : Hp} {Q : Bool → Hp → Prop} (h : F77_78 p0 p1 H Q) :
  Good prog w0 77 #[(Sl.v p0), (.func (.func 78) #[] #[(pp p1)])] H (fun v H => ∃ (r0 : Bool) , v = (bv r0) ∧ Q r0 H) := by
 unfold F77_78 at h
 refine Good.enter' (fn := f77) func77 rfl rfl rfl (ws (wr_ (hv (v := (bv false)) rfl (av rfl) (hn (nt (ws ?_))))))
 refine wr_ (hv (v := (Sl.v p0)) rfl (mv rfl) (hv (v := (.func (.func 78) #[] #[(pp p1)])) rfl (mv rfl) (ho rfl (HOp.call' 94 [(Sl.v p0), (.func (.func 78) #[] #[(pp p1)])] (cap := []) rfl rfl call94 (walk94_78 h)) ?_)))
 rintro _ H1 ⟨r3, rfl, h⟩
 refine hv (v := (bv (decide ((0 : Int) ≤ r3)))) rfl (HVal.geq rfl rfl) (hv (v := (bv (decide ((0 : Int) ≤ r3)))) rfl (av rfl) (hn (nt ?_)))
 refine HW.ret ?_
 exact ⟨_, resOf1 rfl Res1.t, ⟨(decide ((0 : Int) ≤ r3)), rfl, h⟩⟩

def F54 (p0 : Sl) (p1 : ByteArray) (H : Hp) (Q : Bool → Hp → Prop) : Prop :=
∀ H1 : Hp, H1 = Array.push H (.cells #[(sv p1)] 9) → (
 F77_78 p0 (bk H) H1 (fun (r5 : Bool) (H3 : Hp) => 
 Q r5 H3))
theorem walk54 {w0 : World} {p0 : Sl} {p1 : ByteArray} {H : Hp} {Q : Bool → Hp → Prop} (h : F54 p0 p1 H Q) :
  Good prog w0 54 #[(Sl.v p0), (sv p1)] H (fun v H => ∃ (r0 : Bool) , v = (bv r0) ∧ Q r0 H) := by
 unfold F54 at h
 refine Good.enter' (fn := f54) func54 rfl rfl rfl (ws (wr_ (ho rfl (ob (v := (sv p1)) rfl) ?_)))
 rintro _ H1 ⟨rfl, e2⟩
 replace h := h H1 e2
 refine hv (v := (bv false)) rfl (av rfl) (hn (nt (ws (wr_ (hv (v := (Sl.v p0)) rfl (mv rfl) (hv (v := (.func (.func 78) #[] #[(pp (bk H))])) rfl (HVal.makeFuncL rfl) ?_))))))
 refine ho rfl (HOp.call' 77 [(Sl.v p0), (.func (.func 78) #[] #[(pp (bk H))])] (cap := []) rfl rfl call77 (walk77_78 h)) ?_
 rintro _ H3 ⟨r5, rfl, h⟩
 refine hv (v := (bv r5)) rfl (av rfl) (hn (nt (HW.ret ?_)))
 exact ⟨_, resOf1 rfl Res1.t, ⟨r5, rfl, h⟩⟩

def F24_L1b (Q X1 : Int → Hp → Prop) (y15 : Addr) (y16 : Sl) (y17 y14 : Int) (H_1 : Hp) : Prop :=
((decide (y14 < y17)) = true → (∃ a19 : Addr, (y16).b = some a19 ∧ (0 : Int) ≤ y14 ∧ y14 < ((y16).n : Int) ∧ (
 ∃ (x24 : ByteArray) (x25 : Int), cells H_1 (Addr.add a19 (y14.toNat * 2)) [(sv x24), (iv x25)] 0 ∧ (
 ∀ H26 : Hp, H26 = Array.push H_1 (.cells #[(sv bE), (iv 0)] 38) → (
 mayw H26 (bk H_1) 2 0 ∧ ∀ H28 : Hp, H28 = sets H26 (bk H_1) [(sv x24), (iv x25)] 0 → (
 ∃ x32 : ByteArray, cell H28 (bk H_1) = some (sv x32) ∧ (
 F52 x32 H28 (fun (r35 : Bool) (H33 : Hp) => 
 ((!r35) = true → (Q 20 H33)) ∧
 ((!r35) = false → (∃ x38 : Int, cell H33 (Addr.add (bk H_1) 1) = some (iv x38) ∧ (
 F53 x38 H33 (fun (r41 : Bool) (H39 : Hp) => 
 ((!r41) = true → (Q 24 H39)) ∧
 ((!r41) = false → (∃ x44 : Sl, cell H39 (Addr.add y15 1) = some (Sl.v x44) ∧ (
 (0 : Int) ≤ y14 ∧ 0 ≤ y14.toNat ∧ y14.toNat ≤ (x44).c ∧ (x44).c ≤ (x44).c ∧ (
 ∃ x50 : ByteArray, cell H39 (bk H_1) = some (sv x50) ∧ (
 F54 (Sl.cut x44 2 0 y14.toNat ((x44).c)) x50 H39 (fun (r53 : Bool) (H51 : Hp) => 
 cell H51 (Addr.add y15 1) = some (Sl.v x44) ∧ (
 (r53 = true → (Q 5 H51)) ∧
 (r53 = false → (X1 (IntKind.i64.wrap (y14 + 1)) H51))))))))))))))))))))) ∧
 ((decide (y14 < y17)) = false → (Q 0 H_1))
def F24_L1 (Q : Int → Hp → Prop) (y15 : Addr) (y16 : Sl) (y17 y14 : Int) (H_1 : Hp) : Prop :=
 ∀ X1 : Int → Hp → Prop, (∀ (y14 : Int) (H_1 : Hp), F24_L1b Q X1 y15 y16 y17 y14 H_1 → X1 y14 H_1) → X1 y14 H_1
def F24 (p0_0 : ByteArray) (p0_1 : Sl) (H : Hp) (Q : Int → Hp → Prop) : Prop :=
∀ H1 : Hp, H1 = Array.push H (.cells #[(sv p0_0), (Sl.v p0_1)] 27) → (
 ∃ x4 : ByteArray, cell H1 (bk H) = some (sv x4) ∧ (
 F17 x4 H1 (fun (r7 : Bool) (H5 : Hp) => 
 ((!r7) = true → (Q 20 H5)) ∧
 ((!r7) = false → (∃ x10 : Sl, cell H5 (Addr.add (bk H) 1) = some (Sl.v x10) ∧ (
 ((decide ((16 : Int) < ((x10).n : Int))) = true → (Q 2 H5)) ∧
 ((decide ((16 : Int) < ((x10).n : Int))) = false → (∃ x13 : Sl, cell H5 (Addr.add (bk H) 1) = some (Sl.v x13) ∧ (
 F24_L1 Q (bk H) x13 ((x13).n : Int) 0 H5)))))))))
theorem walk24 {w0 : World} {p0_0 : ByteArray} {p0_1 : Sl} {H : Hp} {Q : Int → Hp → Prop} (h : F24 p0_0 p0_1 H Q) :
  Good prog w0 24 #[(.agg #[(sv p0_0), (Sl.v p0_1)])] H (fun v H => ∃ (r0 : Int) , v = (iv r0) ∧ Q r0 H) := by
 unfold F24 at h
 refine Good.enter' (fn := f24) func24 rfl rfl rfl (ws (wr_ (ho rfl (ob (v := (.agg #[(sv p0_0), (Sl.v p0_1)])) rfl) ?_)))
 rintro _ H1 ⟨rfl, e2⟩
 replace h := h H1 e2
 refine hv (v := (iv 0)) rfl (av rfl) (hn (nt (ws (ws (wr_ (hv (v := (pp (bk H))) rfl (HVal.fieldAddr0 runUnderlying27 rfl rfl sizeOf9 rfl) ?_))))))
 obtain ⟨x4, c3, h⟩ := h
 refine hv (v := (sv x4)) rfl (l1 isAgg9 rfl c3) (ho rfl (HOp.call' 17 [(sv x4)] (cap := []) rfl rfl call17 (walk17 h)) ?_)
 rintro _ H5 ⟨r7, rfl, h⟩
 refine hv (v := (bv (!r7))) rfl (HVal.not rfl) (hn (nt ?_))
 obtain ⟨hT, hF⟩ := h
 refine wk (!r7) rfl (fun hb8 => ?_) (fun hb8 => ?_)
 ·have h := hT hb8
  refine ws (wr_ (hv (v := (iv 20)) rfl (av rfl) (hn (nt (HW.ret (tr ?_))))))
  exact ⟨_, resOf1 rfl Res1.t, ⟨20, rfl, h⟩⟩
 have h := hF hb8
 refine wp_ (nt (ws (ws (wr_ (hv (v := (pp (Addr.add (bk H) 1))) rfl (fa runUnderlying27 rfl rfl sizeOf25 rfl) ?_)))))
 obtain ⟨x10, c9, h⟩ := h
 refine hv (v := (Sl.v x10)) rfl (l1 isAgg25 rfl c9) (hv (v := (iv ((x10).n : Int))) rfl (HVal.len runUnderlying25 rfl) (hv (v := (bv (decide ((16 : Int) < ((x10).n : Int))))) rfl (HVal.gtr rfl rfl) ?_))
 refine hn (nt ?_)
 obtain ⟨hT, hF⟩ := h
 refine wk (decide ((16 : Int) < ((x10).n : Int))) rfl (fun hb11 => ?_) (fun hb11 => ?_)
 ·have h := hT hb11
  refine ws (wr_ (hv (v := (iv 2)) rfl (av rfl) (hn (nt (HW.ret (tr ?_))))))
  exact ⟨_, resOf1 rfl Res1.t, ⟨2, rfl, h⟩⟩
 have h := hF hb11
 refine wp_ (nt (ws (ws (wr_ (hv (v := (pp (Addr.add (bk H) 1))) rfl (fa runUnderlying27 rfl rfl sizeOf25 rfl) ?_)))))
 obtain ⟨x13, c12, h⟩ := h
 refine hv (v := (Sl.v x13)) rfl (l1 isAgg25 rfl c12) (hv (v := (iv ((x13).n : Int))) rfl (HVal.len runUnderlying25 rfl) (hv (v := (iv 0)) rfl (mv rfl) ?_))
 refine hn (nt (wb (HW.loop' (fun L1 hL1 => ?_))))
 obtain ⟨X1, hX1⟩ : ∃ X1 : Int → Hp → Prop, ∀ (y14 : Int) (H_1 : Hp), X1 y14 H_1 ↔ ∀ ρ, Env.Is ρ [(1, (pp (bk H))), (14, (Sl.v x13)), (15, (iv ((x13).n : Int))), (16, (iv y14))] → L1 ρ H_1 := ⟨_, fun _ _ => Iff.rfl⟩
 refine (hX1 _ _).1 (h X1 ?_) _ ?_
 rotate_left
 ·exact (isp rfl)
 clear h
 intro y14 H_1 h
 refine (hX1 _ _).2 fun ρ hI => ?_
 obtain ⟨ρ0, rfl⟩ := hI.ex
 clear hI; unfold F24_L1b at h; refine hL1 _ _ ?_
 refine ws (wr_ (hv (v := (bv (decide (y14 < ((x13).n : Int))))) rfl (HVal.lss rfl rfl) (hn (nt (ws ?_)))))
 obtain ⟨hT, hF⟩ := h
 refine wk (decide (y14 < ((x13).n : Int))) rfl (fun hb18 => ?_) (fun hb18 => ?_)
 ·have h := hT hb18
  refine wp_ (nt (ws (wb (ws (wr_ (hv (v := (iv y14)) rfl (mv rfl) ?_))))))
  obtain ⟨a19, e20, b21, b22, h⟩ := h
  refine hv (v := (pp (Addr.add a19 (y14.toNat * 2)))) rfl (ia runUnderlying25 sizeOf38 (Sl.v_some rfl e20) rfl b21 b22) ?_
  obtain ⟨x24, x25, c23, h⟩ := h
  refine hv (v := (.agg #[(sv x24), (iv x25)])) rfl (ln [(sv x24), (iv x25)] isAgg38 sizeOf38 rfl c23) (ho rfl (HOp.alloc zeroValue38) ?_)
  rintro _ H26 ⟨rfl, e27⟩
  replace h := h H26 e27
  refine hv (v := (iv y14)) rfl (av rfl) ?_
  obtain ⟨z30, h⟩ := h
  refine hq (HOp.storeN' (l := [(sv x24), (iv x25)]) sizeOf38 rfl rfl rfl z30) ?_
  rintro _ H28 e29
  replace h := h H28 e29
  refine hn (nt (wb (ws (wr_ (hv (v := (pp (bk H_1))) rfl (HVal.fieldAddr0 runUnderlying38 rfl rfl sizeOf9 rfl) ?_)))))
  obtain ⟨x32, c31, h⟩ := h
  refine hv (v := (sv x32)) rfl (l1 isAgg9 rfl c31) (ho rfl (HOp.call' 52 [(sv x32)] (cap := []) rfl rfl call52 (walk52 h)) ?_)
  rintro _ H33 ⟨r35, rfl, h⟩
  refine hv (v := (bv (!r35))) rfl (HVal.not rfl) (hv (v := (bv (!r35))) rfl (av rfl) (hn (nt ?_)))
  obtain ⟨hT, hF⟩ := h
  refine wk (!r35) rfl (fun hb36 => ?_) (fun hb36 => ?_)
  ·have h := hT hb36
   refine ws (wr_ (hv (v := (iv 20)) rfl (av rfl) (hn (nt (HW.ret (br (br (tr (tr (br (tr ?_)))))))))))
   exact ⟨_, resOf1 rfl Res1.t, ⟨20, rfl, h⟩⟩
  have h := hF hb36
  refine ws (wr_ (hv (v := (pp (Addr.add (bk H_1) 1))) rfl (fa runUnderlying38 rfl rfl sizeOf3 rfl) ?_))
  obtain ⟨x38, c37, h⟩ := h
  refine hv (v := (iv x38)) rfl (l1 isAgg3 rfl c37) (ho rfl (HOp.call' 53 [(iv x38)] (cap := []) rfl rfl call53 (walk53 h)) ?_)
  rintro _ H39 ⟨r41, rfl, h⟩
  refine hv (v := (bv (!r41))) rfl (HVal.not rfl) (hv (v := (bv (!r41))) rfl (av rfl) (hn (nt ?_)))
  obtain ⟨hT, hF⟩ := h
  refine wk (!r41) rfl (fun hb42 => ?_) (fun hb42 => ?_)
  ·have h := hT hb42
   refine ws (wr_ (hv (v := (iv 24)) rfl (av rfl) (hn (nt (HW.ret (br (br (tr (tr (br (tr ?_)))))))))))
   exact ⟨_, resOf1 rfl Res1.t, ⟨24, rfl, h⟩⟩
  have h := hF hb42
  refine ws (HW.draw mixed [(0, some []), (1, some []), (2, some []), (3, some []), (4, some []), (5, some [6]), (6, none), (7, some [])] rfl (by kernel_rfl) (by kernel_rfl) ?_)
  refine pv (v := (pp (Addr.add (bk H) 1))) rfl rfl (fun _ => fa runUnderlying27 rfl rfl sizeOf25 rfl) ?_
  obtain ⟨x44, c43, h⟩ := h
  refine pl (v := (Sl.v x44)) (fun X => cell X (Addr.add (bk H) 1) = some (Sl.v x44)) rfl rfl (fun _ hX => l1 isAgg25 rfl hX) c43 (pv (v := (iv y14)) rfl rfl (fun _ => mv rfl) ?_)
  obtain ⟨z45, z46, z47, z48, h⟩ := h
  refine pv (v := (Sl.v (Sl.cut x44 2 0 y14.toNat ((x44).c)))) rfl rfl (fun _ => HVal.slice _ _ _ runUnderlying25 sizeOf38 rfl rfl ⟨_, _, rfl, z45, rfl⟩ rfl (by decide) z46 z47 z48) ?_
  refine pv (v := (pp (bk H_1))) rfl rfl (fun _ => HVal.fieldAddr0 runUnderlying38 rfl rfl sizeOf9 rfl) ?_
  obtain ⟨x50, c49, h⟩ := h
  refine pl (v := (sv x50)) (fun X => cell X (bk H_1) = some (sv x50)) rfl rfl (fun _ hX => l1 isAgg9 rfl hX) c49 (po rfl rfl (HOp.call' 54 [(Sl.v (Sl.cut x44 2 0 y14.toNat ((x44).c))), (sv x50)] (cap := []) rfl rfl call54 (walk54 h)) ?_)
  rintro _ H51 ⟨r53, rfl, h⟩
  obtain ⟨s54, h⟩ := h
  refine ⟨SC_of ⟨nofun, fun _ => s54, trivial⟩, ?_⟩
  refine pv (v := (bv r53)) rfl rfl (fun _ => av rfl) (HPlan.done (nt ?_))
  obtain ⟨hT, hF⟩ := h
  refine wk r53 rfl (fun hb55 => ?_) (fun hb55 => ?_)
  ·have h := hT hb55
   refine ws (wr_ (hv (v := (iv 5)) rfl (av rfl) (hn (nt (HW.ret (br (br (tr (tr (br (tr ?_)))))))))))
   exact ⟨_, resOf1 rfl Res1.t, ⟨5, rfl, h⟩⟩
  have h := hF hb55
  refine wp_ (nb (nb (nt (wr_ (hv (v := (iv (IntKind.i64.wrap (y14 + 1)))) rfl (HVal.add rfl rfl) (hv (v := (iv (IntKind.i64.wrap (y14 + 1)))) rfl (mv rfl) ?_))))))
  refine hn (nt ?_)
  exact (hX1 _ _).1 h _ (isp rfl)
 have h := hF hb18
 refine we (te (te (be (nt (ws (wr_ (hv (v := (iv 0)) rfl (av rfl) (hn (nt (HW.ret ?_))))))))))
 exact ⟨_, resOf1 rfl Res1.t, ⟨0, rfl, h⟩⟩

def F13_1 (Q : ByteArray → Int → Hp → Prop) (y20 : Addr) (H_1 : Hp) : Prop :=
F29 (some y20) 41 H_1 (fun (r69 : Value) (H67 : Hp) => 
 F30 (some y20) H67 (fun (r72 : ByteArray) (H70 : Hp) => 
 Q r72 0 H70))
def F13_3 (Q : ByteArray → Int → Hp → Prop) (X2 : Int → Hp → Prop) (y40 y41 : Addr) (y42 : Sl) (y43 y44 : Int) (H_3 : Hp) : Prop :=
∃ x51 : ByteArray, cell H_3 y41 = some (sv x51) ∧ (
 (x51).size + (S_______).size ≤ 9223372036854775807 ∧ (
 ∃ x54 : Int, cell H_3 (Addr.add y41 1) = some (iv x54) ∧ (
 (0 : Int) ≤ x54 ∧ x54 < ((4 : Nat) : Int) ∧ (
 ∃ x58 : ByteArray, cell H_3 (Addr.add ⟨0, 0, none⟩ (x54.toNat * 1)) = some (sv x58) ∧ (
 ((x51 ++ S_______)).size + (x58).size ≤ 9223372036854775807 ∧ (
 F28 (some y40) ((x51 ++ S_______) ++ x58) H_3 (fun (r62 : Int) (r63 : Value) (H60 : Hp) => 
 cell H60 (Addr.add ⟨0, 0, none⟩ (x54.toNat * 1)) = some (sv x58) ∧ cell H60 (Addr.add y41 1) = some (iv x54) ∧ cell H60 y41 = some (sv x51) ∧ (
 X2 (IntKind.i64.wrap (y44 + 1)) H60))))))))
def F13_L2b (Q : ByteArray → Int → Hp → Prop) (X2 : Int → Hp → Prop) (y24 : Addr) (y25 : Sl) (y26 y23 : Int) (H_2 : Hp) : Prop :=
((decide (y23 < y26)) = true → (∃ a28 : Addr, (y25).b = some a28 ∧ (0 : Int) ≤ y23 ∧ y23 < ((y25).n : Int) ∧ (
 ∃ (x33 : ByteArray) (x34 : Int), cells H_2 (Addr.add a28 (y23.toNat * 2)) [(sv x33), (iv x34)] 0 ∧ (
 ∀ H35 : Hp, H35 = Array.push H_2 (.cells #[(sv bE), (iv 0)] 38) → (
 mayw H35 (bk H_2) 2 0 ∧ ∀ H37 : Hp, H37 = sets H35 (bk H_2) [(sv x33), (iv x34)] 0 → (
 ((decide ((0 : Int) < y23)) = true → (F28 (some y24) S______ H37 (fun (r48 : Int) (r49 : Value) (H46 : Hp) => 
 F13_3 Q X2 y24 (bk H_2) y25 y26 y23 H46))) ∧
 ((decide ((0 : Int) < y23)) = false → (F13_3 Q X2 y24 (bk H_2) y25 y26 y23 H37)))))))) ∧
 ((decide (y23 < y26)) = false → (F13_1 Q y24 H_2))
def F13_L2 (Q : ByteArray → Int → Hp → Prop) (y24 : Addr) (y25 : Sl) (y26 y23 : Int) (H_2 : Hp) : Prop :=
 ∀ X2 : Int → Hp → Prop, (∀ (y23 : Int) (H_2 : Hp), F13_L2b Q X2 y24 y25 y26 y23 H_2 → X2 y23 H_2) → X2 y23 H_2
def F13 (p0_0 : ByteArray) (p0_1 : Sl) (H : Hp) (Q : ByteArray → Int → Hp → Prop) : Prop :=
∀ H1 : Hp, H1 = Array.push H (.cells #[(sv p0_0), (Sl.v p0_1)] 27) → (
 ∃ (x4 : ByteArray) (x5 : Sl), cells H1 (bk H) [(sv x4), (Sl.v x5)] 0 ∧ (
 F24 x4 x5 H1 (fun (r8 : Int) (H6 : Hp) => 
 ((decide (r8 ≠ 0)) = true → (Q bE r8 H6)) ∧
 ((decide (r8 ≠ 0)) = false → (∀ H10 : Hp, H10 = Array.push H6 (.cells #[(.pointer none), sN] 80) → (
 ∃ x13 : ByteArray, cell H10 (bk H) = some (sv x13) ∧ (
 (S_TYPE_).size + (x13).size ≤ 9223372036854775807 ∧ (
 ((S_TYPE_ ++ x13)).size + (S_____).size ≤ 9223372036854775807 ∧ (
 F28 (some (bk H6)) ((S_TYPE_ ++ x13) ++ S_____) H10 (fun (r18 : Int) (r19 : Value) (H16 : Hp) => 
 ∃ x22 : Sl, cell H16 (Addr.add (bk H) 1) = some (Sl.v x22) ∧ (
 F13_L2 Q (bk H6) x22 ((x22).n : Int) 0 H16)))))))))))
theorem walk13 {w0 : World} {p0_0 : ByteArray} {p0_1 : Sl} {H : Hp} {Q : ByteArray → Int → Hp → Prop} (h : F13 p0_0 p0_1 H Q) :
  Good prog w0 13 #[(.agg #[(sv p0_0), (Sl.v p0_1)])] H (fun v H => ∃ (r0 : ByteArray) (r1 : Int) , v = (.tuple #[(sv r0), (iv r1)]) ∧ Q r0 r1 H) := by
 unfold F13 at h
 refine Good.enter' (fn := f13) func13 rfl rfl rfl (ws (wr_ (ho rfl (ob (v := (.agg #[(sv p0_0), (Sl.v p0_1)])) rfl) ?_)))
 rintro _ H1 ⟨rfl, e2⟩
 replace h := h H1 e2
 refine hv (v := (sv bE)) rfl (av rfl) (hv (v := (iv 0)) rfl (av rfl) (hn (nt (ws (ws (wr_ ?_))))))
 obtain ⟨x4, x5, c3, h⟩ := h
 refine hv (v := (.agg #[(sv x4), (Sl.v x5)])) rfl (ln [(sv x4), (Sl.v x5)] isAgg27 sizeOf27 rfl c3) (ho rfl (HOp.call' 24 [(.agg #[(sv x4), (Sl.v x5)])] (cap := []) rfl rfl call24 (walk24 h)) ?_)
 rintro _ H6 ⟨r8, rfl, h⟩
 refine hv (v := (iv r8)) rfl (av rfl) (hn (nt (ws (wr_ (hv (v := (iv r8)) rfl (mv rfl) (hv (v := (bv (decide (r8 ≠ 0)))) rfl (HVal.neqI rfl rfl) ?_))))))
 refine hn (nt ?_)
 obtain ⟨hT, hF⟩ := h
 refine wk (decide (r8 ≠ 0)) rfl (fun hb9 => ?_) (fun hb9 => ?_)
 ·have h := hT hb9
  refine ws (wr_ (hv (v := (iv r8)) rfl (mv rfl) (hv (v := (sv bE)) rfl (av rfl) (hv (v := (iv r8)) rfl (av rfl) ?_))))
  refine hn (nt (HW.ret (tr ?_)))
  exact ⟨_, resOf2 rfl Res1.t Res1.t, ⟨bE, r8, rfl, h⟩⟩
 have h := hF hb9
 refine wp_ (nt (ws (wr_ (ho rfl (HOp.alloc zeroValue80) ?_))))
 rintro _ H10 ⟨rfl, e11⟩
 replace h := h H10 e11
 refine hn (nt (ws (wr_ (hv (v := (pp (bk H))) rfl (HVal.fieldAddr0 runUnderlying27 rfl rfl sizeOf9 rfl) ?_))))
 obtain ⟨x13, c12, h⟩ := h
 refine hv (v := (sv x13)) rfl (l1 isAgg9 rfl c12) ?_
 obtain ⟨z14, h⟩ := h
 refine hv (v := (sv (S_TYPE_ ++ x13))) rfl (HVal.addS rfl rfl z14) ?_
 obtain ⟨z15, h⟩ := h
 refine hv (v := (sv ((S_TYPE_ ++ x13) ++ S_____))) rfl (HVal.addS rfl rfl z15) (ho rfl (HOp.call' 28 [(pp (bk H6)), (sv ((S_TYPE_ ++ x13) ++ S_____))] (cap := []) rfl rfl call28 (walk28 h)) ?_)
 rintro _ H16 ⟨r18, r19, rfl, h⟩
 refine hn (nt (wc (fun ρ H_1 => Env.Is ρ [(5, (pp (bk H6)))] ∧ F13_1 Q (bk H6) H_1) ?_ ?_))
 ·refine ws (wr_ (hv (v := (pp (Addr.add (bk H) 1))) rfl (fa runUnderlying27 rfl rfl sizeOf25 rfl) ?_))
  obtain ⟨x22, c21, h⟩ := h
  refine hv (v := (Sl.v x22)) rfl (l1 isAgg25 rfl c21) (hv (v := (iv ((x22).n : Int))) rfl (HVal.len runUnderlying25 rfl) (hv (v := (iv 0)) rfl (mv rfl) ?_))
  refine hn (nt (wb (HW.loop' (fun L2 hL2 => ?_))))
  obtain ⟨X2, hX2⟩ : ∃ X2 : Int → Hp → Prop, ∀ (y23 : Int) (H_2 : Hp), X2 y23 H_2 ↔ ∀ ρ, Env.Is ρ [(5, (pp (bk H6))), (19, (Sl.v x22)), (20, (iv ((x22).n : Int))), (21, (iv y23))] → L2 ρ H_2 := ⟨_, fun _ _ => Iff.rfl⟩
  refine (hX2 _ _).1 (h X2 ?_) _ ?_
  rotate_left
  ·exact (isp rfl)
  clear h
  intro y23 H_2 h
  refine (hX2 _ _).2 fun ρ hI => ?_
  obtain ⟨ρ0, rfl⟩ := hI.ex
  clear hI; unfold F13_L2b at h; refine hL2 _ _ ?_
  refine ws (wr_ (hv (v := (bv (decide (y23 < ((x22).n : Int))))) rfl (HVal.lss rfl rfl) (hn (nt (ws ?_)))))
  obtain ⟨hT, hF⟩ := h
  refine wk (decide (y23 < ((x22).n : Int))) rfl (fun hb27 => ?_) (fun hb27 => ?_)
  ·have h := hT hb27
   refine wp_ (nt (ws (wb (ws (wr_ (hv (v := (iv y23)) rfl (mv rfl) ?_))))))
   obtain ⟨a28, e29, b30, b31, h⟩ := h
   refine hv (v := (pp (Addr.add a28 (y23.toNat * 2)))) rfl (ia runUnderlying25 sizeOf38 (Sl.v_some rfl e29) rfl b30 b31) ?_
   obtain ⟨x33, x34, c32, h⟩ := h
   refine hv (v := (.agg #[(sv x33), (iv x34)])) rfl (ln [(sv x33), (iv x34)] isAgg38 sizeOf38 rfl c32) (ho rfl (HOp.alloc zeroValue38) ?_)
   rintro _ H35 ⟨rfl, e36⟩
   replace h := h H35 e36
   refine hv (v := (iv y23)) rfl (av rfl) ?_
   obtain ⟨z39, h⟩ := h
   refine hq (HOp.storeN' (l := [(sv x33), (iv x34)]) sizeOf38 rfl rfl rfl z39) ?_
   rintro _ H37 e38
   replace h := h H37 e38
   refine hn (nt (wc (fun ρ H_3 => Env.Is ρ [(5, (pp (bk H6))), (7, (pp (bk H_2))), (19, (Sl.v x22)), (20, (iv ((x22).n : Int))), (21, (iv y23))] ∧ F13_3 Q X2 (bk H6) (bk H_2) x22 ((x22).n : Int) y23 H_3) ?_ ?_))
   ·refine ws (wr_ (hv (v := (iv y23)) rfl (mv rfl) (hv (v := (bv (decide ((0 : Int) < y23)))) rfl (HVal.gtr rfl rfl) (hn (nt ?_)))))
    obtain ⟨hT, hF⟩ := h
    refine wk (decide ((0 : Int) < y23)) rfl (fun hb45 => ?_) (fun hb45 => ?_)
    ·have h := hT hb45
     refine wr_ (ho rfl (HOp.call' 28 [(pp (bk H6)), (sv S______)] (cap := []) rfl rfl call28 (walk28 h)) ?_)
     rintro _ H46 ⟨r48, r49, rfl, h⟩
     refine hn (nt ?_)
     exact ⟨(isp rfl), h⟩
    have h := hF hb45
    refine wp_ (nt ?_)
    exact ⟨(isp rfl), h⟩
   rintro ρ H_3 ⟨hI, h⟩
   obtain ⟨ρ0, rfl⟩ := hI.ex
   clear hI; unfold F13_3 at h
   refine HW.draw mixed [(0, some []), (1, some []), (2, some []), (3, some []), (4, some []), (5, some []), (6, some []), (7, some []), (8, none)] rfl (by kernel_rfl) (by kernel_rfl) ?_
   refine pv (v := (pp (bk H_2))) rfl rfl (fun _ => HVal.fieldAddr0 runUnderlying38 rfl rfl sizeOf9 rfl) ?_
   obtain ⟨x51, c50, h⟩ := h
   refine pl (v := (sv x51)) (fun X => cell X (bk H_2) = some (sv x51)) rfl rfl (fun _ hX => l1 isAgg9 rfl hX) c50 ?_
   obtain ⟨z52, h⟩ := h
   refine pv (v := (sv (x51 ++ S_______))) rfl rfl (fun _ => HVal.addS rfl rfl z52) (pv (v := (pp (Addr.add (bk H_2) 1))) rfl rfl (fun _ => fa runUnderlying38 rfl rfl sizeOf3 rfl) ?_)
   obtain ⟨x54, c53, h⟩ := h
   refine pl (v := (iv x54)) (fun X => cell X (Addr.add (bk H_2) 1) = some (iv x54)) rfl rfl (fun _ hX => l1 isAgg3 rfl hX) c53 ?_
   obtain ⟨b55, b56, h⟩ := h
   refine pv (v := (pp (Addr.add ⟨0, 0, none⟩ (x54.toNat * 1)))) rfl rfl (fun _ => HVal.indexAddrA runUnderlying49 sizeOf9 rfl rfl b55 b56) ?_
   obtain ⟨x58, c57, h⟩ := h
   refine pl (v := (sv x58)) (fun X => cell X (Addr.add ⟨0, 0, none⟩ (x54.toNat * 1)) = some (sv x58)) rfl rfl (fun _ hX => l1 isAgg9 rfl hX) c57 ?_
   obtain ⟨z59, h⟩ := h
   refine pv (v := (sv ((x51 ++ S_______) ++ x58))) rfl rfl (fun _ => HVal.addS rfl rfl z59) (po rfl rfl (HOp.call' 28 [(pp (bk H6)), (sv ((x51 ++ S_______) ++ x58))] (cap := []) rfl rfl call28 (walk28 h)) ?_)
   rintro _ H60 ⟨r62, r63, rfl, h⟩
   obtain ⟨s64, s65, s66, h⟩ := h
   refine ⟨SC_of ⟨fun _ => s64, fun _ => s65, fun _ => s66, trivial⟩, ?_⟩
   refine HPlan.done (nb (nt (wr_ (hv (v := (iv (IntKind.i64.wrap (y23 + 1)))) rfl (HVal.add rfl rfl) (hv (v := (iv (IntKind.i64.wrap (y23 + 1)))) rfl (mv rfl) ?_)))))
   refine hn (nt ?_)
   exact (hX2 _ _).1 h _ (isp rfl)
  have h := hF hb27
  refine we (te (te (be (nt ?_))))
  exact ⟨⟨rfl, trivial⟩, h⟩
 rintro ρ H_1 ⟨hI, h⟩
 obtain ⟨ρ0, rfl⟩ := hI.ex
 clear hI; unfold F13_1 at h
 refine ws (wr_ (ho rfl (HOp.call' 29 [(pp (bk H6)), (.int .u8 41)] (cap := []) rfl rfl call29 (walk29 h)) ?_))
 rintro _ H67 ⟨r69, rfl, h⟩
 refine hn (nt (ws (wr_ (ho rfl (HOp.call' 30 [(pp (bk H6))] (cap := []) rfl rfl call30 (walk30 h)) ?_))))
 rintro _ H70 ⟨r72, rfl, h⟩
 refine hv (v := (sv r72)) rfl (av rfl) (hv (v := (iv 0)) rfl (av rfl) (hn (nt (HW.ret ?_))))
 exact ⟨_, resOf2 rfl Res1.t Res1.t, ⟨r72, 0, rfl, h⟩⟩

def F63_1 (Q : Int → Hp → Prop) (y41 : (Option Addr)) (y42 : (Option Addr)) (y43 : Addr) (H_1 : Hp) : Prop :=
∃ x95 : Int, cell H_1 (Addr.add y43 1) = some (iv x95) ∧ (
 ((decide (x95 = 0)) = true → (Q 24 H_1)) ∧
 ((decide (x95 = 0)) = false → (F60 y41 H_1 (fun (H97 : Hp) => 
 ∃ a99 : Addr, y42 = some a99 ∧ (
 ∃ x102 : Sl, cell H97 (Addr.add a99 1) = some (Sl.v x102) ∧ (
 ∃ (x104 : ByteArray) (x105 : Int), cells H97 y43 [(sv x104), (iv x105)] 0 ∧ (
 ∀ H106 : Hp, H106 = Array.push H97 (.cells #[(sv x104), (iv x105)] 38) → (
 cell H106 (Addr.add a99 1) = some (Sl.v x102) ∧ (
 AppendF H106 38 2 24 #[(sv bE), (iv 0)] x102 ((Sl.mk (some (bk H97)) 1 1)).b ((Sl.mk (some (bk H97)) 1 1)).n (fun (r111 : Sl) (H109 : Hp) => 
 ∃ a112 : Addr, y42 = some a112 ∧ (
 (cell H109 (Addr.add a112 1)).isSome = true ∧ frz H109 (Addr.add a112 1) = false ∧ ∀ H114 : Hp, H114 = setc H109 (Addr.add a112 1) (Sl.v r111) → (
 Q 0 H114))))))))))))
def F63_3 (Q X2 : Int → Hp → Prop) (y58 : (Option Addr)) (y59 : (Option Addr)) (y60 : Addr) (y61 y62 y63 y64 : ByteArray) (y65 : Int) (H_3 : Hp) : Prop :=
X2 (IntKind.i64.wrap (y65 + 1)) H_3
def F63_4 (Q X2 : Int → Hp → Prop) (y70 : (Option Addr)) (y71 : (Option Addr)) (y72 : Addr) (y73 : Int) (y74 y75 y76 y77 : ByteArray) (y78 : Int) (y88 : Bool) (H_4 : Hp) : Prop :=
(y88 = true → ((cell H_4 (Addr.add y72 1)).isSome = true ∧ frz H_4 (Addr.add y72 1) = false ∧ ∀ H90 : Hp, H90 = setc H_4 (Addr.add y72 1) (iv y73) → (
 F63_3 Q X2 y70 y71 y72 y74 y75 y76 y77 y78 H90))) ∧
 (y88 = false → (F63_3 Q X2 y70 y71 y72 y74 y75 y76 y77 y78 H_4))
def F63_L2b (Q X2 : Int → Hp → Prop) (y50 : (Option Addr)) (y51 : (Option Addr)) (y52 : Addr) (y53 y54 y55 y56 : ByteArray) (y49 : Int) (H_2 : Hp) : Prop :=
((decide (y49 < 4)) = true → ((0 : Int) ≤ y49 ∧ y49 < (4 : Int) ∧ ∃ y66 : ByteArray, ([y53, y54, y55, y56] : List ByteArray)[y49.toNat]? = some y66 ∧ (
 F53 y49 H_2 (fun (r81 : Bool) (H79 : Hp) => 
 (r81 = true → (∃ a84 : Addr, y50 = some a84 ∧ (
 ∃ x87 : ByteArray, cell H79 (Addr.add a84 3) = some (sv x87) ∧ (
 F63_4 Q X2 y50 y51 y52 y49 y53 y54 y55 y56 y49 (seq x87 y66) H79)))) ∧
 (r81 = false → (F63_4 Q X2 y50 y51 y52 y49 y53 y54 y55 y56 y49 false H79)))))) ∧
 ((decide (y49 < 4)) = false → (F63_1 Q y50 y51 y52 H_2))
def F63_L2 (Q : Int → Hp → Prop) (y50 : (Option Addr)) (y51 : (Option Addr)) (y52 : Addr) (y53 y54 y55 y56 : ByteArray) (y49 : Int) (H_2 : Hp) : Prop :=
 ∀ X2 : Int → Hp → Prop, (∀ (y49 : Int) (H_2 : Hp), F63_L2b Q X2 y50 y51 y52 y53 y54 y55 y56 y49 H_2 → X2 y49 H_2) → X2 y49 H_2
def F63 (p0 : (Option Addr)) (p1 : (Option Addr)) (H : Hp) (Q : Int → Hp → Prop) : Prop :=
F62 p0 H (fun (r3 : Bool) (H1 : Hp) => 
 ((!r3) = true → (Q 24 H1)) ∧
 ((!r3) = false → (∃ a5 : Addr, p1 = some a5 ∧ (
 ∃ x8 : Sl, cell H1 (Addr.add a5 1) = some (Sl.v x8) ∧ (
 ((decide (((x8).n : Int) = 16)) = true → (Q 2 H1)) ∧
 ((decide (((x8).n : Int) = 16)) = false → (∃ a10 : Addr, p0 = some a10 ∧ (
 ∃ x13 : ByteArray, cell H1 (Addr.add a10 3) = some (sv x13) ∧ (
 F52 x13 H1 (fun (r16 : Bool) (H14 : Hp) => 
 ((!r16) = true → (Q 20 H14)) ∧
 ((!r16) = false → (∃ a18 : Addr, p1 = some a18 ∧ (
 ∃ x21 : Sl, cell H14 (Addr.add a18 1) = some (Sl.v x21) ∧ (
 ∃ a22 : Addr, p0 = some a22 ∧ (
 ∃ x25 : ByteArray, cell H14 (Addr.add a22 3) = some (sv x25) ∧ (
 F54 x21 x25 H14 (fun (r28 : Bool) (H26 : Hp) => 
 (r28 = true → (Q 5 H26)) ∧
 (r28 = false → (∃ a30 : Addr, p0 = some a30 ∧ (
 ∃ x33 : ByteArray, cell H26 (Addr.add a30 3) = some (sv x33) ∧ (
 ∀ H34 : Hp, H34 = Array.push H26 (.cells #[(sv bE), (iv 0)] 38) → (
 mayw H34 (bk H26) 2 0 ∧ ∀ H36 : Hp, H36 = sets H34 (bk H26) [(sv x33), (iv 0)] 0 → (
 F60 p0 H36 (fun (H39 : Hp) => 
 ∃ (x45 x46 x47 x48 : ByteArray), cells H39 ⟨0, 0, none⟩ [(sv x45), (sv x46), (sv x47), (sv x48)] 0 ∧ (
 F63_L2 Q p0 p1 (bk H26) x45 x46 x47 x48 0 H39)))))))))))))))))))))))))
theorem walk63 {w0 : World} {p0 : (Option Addr)} {p1 : (Option Addr)} {H : Hp} {Q : Int → Hp → Prop} (h : F63 p0 p1 H Q) :
  Good prog w0 63 #[(.pointer p0), (.pointer p1)] H (fun v H => ∃ (r0 : Int) , v = (iv r0) ∧ Q r0 H) := by
 unfold F63 at h
 refine Good.enter' (fn := f63) func63 rfl rfl rfl (ws (wr_ (hv (v := (iv 0)) rfl (av rfl) (hn (nt (ws ?_))))))
 refine ws (wr_ (hv (v := (.pointer p0)) rfl (mv rfl) (ho rfl (HOp.call' 62 [(.pointer p0)] (cap := []) rfl rfl call62 (walk62 h)) ?_)))
 rintro _ H1 ⟨r3, rfl, h⟩
 refine hv (v := (bv (!r3))) rfl (HVal.not rfl) (hn (nt ?_))
 obtain ⟨hT, hF⟩ := h
 refine wk (!r3) rfl (fun hb4 => ?_) (fun hb4 => ?_)
 ·have h := hT hb4
  refine ws (wr_ (hv (v := (iv 24)) rfl (av rfl) (hn (nt (HW.ret (tr ?_))))))
  exact ⟨_, resOf1 rfl Res1.t, ⟨24, rfl, h⟩⟩
 have h := hF hb4
 refine wp_ (nt (ws (wb (ws (wr_ (hv (v := (.pointer p1)) rfl (mv rfl) ?_))))))
 obtain ⟨a5, e6, h⟩ := h
 refine hv (v := (pp a5)) rfl (HVal.nilCheck (congrArg Value.pointer e6)) (hv (v := (pp (Addr.add a5 1))) rfl (fa runUnderlying27 rfl rfl sizeOf25 rfl) ?_)
 obtain ⟨x8, c7, h⟩ := h
 refine hv (v := (Sl.v x8)) rfl (l1 isAgg25 rfl c7) (hv (v := (iv ((x8).n : Int))) rfl (HVal.len runUnderlying25 rfl) (hv (v := (bv (decide (((x8).n : Int) = 16)))) rfl (HVal.eqlI rfl rfl) ?_))
 refine hv (v := (bv (decide (((x8).n : Int) = 16)))) rfl (av rfl) (hn (nt ?_))
 obtain ⟨hT, hF⟩ := h
 refine wk (decide (((x8).n : Int) = 16)) rfl (fun hb9 => ?_) (fun hb9 => ?_)
 ·have h := hT hb9
  refine ws (wr_ (hv (v := (iv 2)) rfl (av rfl) (hn (nt (HW.ret (br (tr ?_)))))))
  exact ⟨_, resOf1 rfl Res1.t, ⟨2, rfl, h⟩⟩
 have h := hF hb9
 refine ws (wr_ (hv (v := (.pointer p0)) rfl (mv rfl) ?_))
 obtain ⟨a10, e11, h⟩ := h
 refine hv (v := (pp a10)) rfl (HVal.nilCheck (congrArg Value.pointer e11)) (hv (v := (pp (Addr.add a10 3))) rfl (fa runUnderlying89 rfl rfl sizeOf9 rfl) ?_)
 obtain ⟨x13, c12, h⟩ := h
 refine hv (v := (sv x13)) rfl (l1 isAgg9 rfl c12) (ho rfl (HOp.call' 52 [(sv x13)] (cap := []) rfl rfl call52 (walk52 h)) ?_)
 rintro _ H14 ⟨r16, rfl, h⟩
 refine hv (v := (bv (!r16))) rfl (HVal.not rfl) (hv (v := (bv (!r16))) rfl (av rfl) (hn (nt ?_)))
 obtain ⟨hT, hF⟩ := h
 refine wk (!r16) rfl (fun hb17 => ?_) (fun hb17 => ?_)
 ·have h := hT hb17
  refine ws (wr_ (hv (v := (iv 20)) rfl (av rfl) (hn (nt (HW.ret (br (tr ?_)))))))
  exact ⟨_, resOf1 rfl Res1.t, ⟨20, rfl, h⟩⟩
 have h := hF hb17
 refine ws (HW.draw mixed [(0, some []), (1, some []), (2, some []), (3, some [8]), (4, some []), (5, some []), (6, some []), (7, some [8]), (8, none), (9, some [])] rfl (by kernel_rfl) (by kernel_rfl) ?_)
 refine pv (v := (.pointer p1)) rfl rfl (fun _ => mv rfl) ?_
 obtain ⟨a18, e19, h⟩ := h
 refine pv (v := (pp a18)) rfl rfl (fun _ => HVal.nilCheck (congrArg Value.pointer e19)) (pv (v := (pp (Addr.add a18 1))) rfl rfl (fun _ => fa runUnderlying27 rfl rfl sizeOf25 rfl) ?_)
 obtain ⟨x21, c20, h⟩ := h
 refine pl (v := (Sl.v x21)) (fun X => cell X (Addr.add a18 1) = some (Sl.v x21)) rfl rfl (fun _ hX => l1 isAgg25 rfl hX) c20 (pv (v := (.pointer p0)) rfl rfl (fun _ => mv rfl) ?_)
 obtain ⟨a22, e23, h⟩ := h
 refine pv (v := (pp a22)) rfl rfl (fun _ => HVal.nilCheck (congrArg Value.pointer e23)) (pv (v := (pp (Addr.add a22 3))) rfl rfl (fun _ => fa runUnderlying89 rfl rfl sizeOf9 rfl) ?_)
 obtain ⟨x25, c24, h⟩ := h
 refine pl (v := (sv x25)) (fun X => cell X (Addr.add a22 3) = some (sv x25)) rfl rfl (fun _ hX => l1 isAgg9 rfl hX) c24 (po rfl rfl (HOp.call' 54 [(Sl.v x21), (sv x25)] (cap := []) rfl rfl call54 (walk54 h)) ?_)
 rintro _ H26 ⟨r28, rfl, h⟩
 refine ⟨SC_of ⟨nofun, nofun, trivial⟩, ?_⟩
 refine pv (v := (bv r28)) rfl rfl (fun _ => av rfl) (HPlan.done (nt ?_))
 obtain ⟨hT, hF⟩ := h
 refine wk r28 rfl (fun hb29 => ?_) (fun hb29 => ?_)
 ·have h := hT hb29
  refine ws (wr_ (hv (v := (iv 5)) rfl (av rfl) (hn (nt (HW.ret (br (tr ?_)))))))
  exact ⟨_, resOf1 rfl Res1.t, ⟨5, rfl, h⟩⟩
 have h := hF hb29
 refine wp_ (nb (nt (ws (wr_ (hv (v := (.pointer p0)) rfl (mv rfl) ?_)))))
 obtain ⟨a30, e31, h⟩ := h
 refine hv (v := (pp a30)) rfl (HVal.nilCheck (congrArg Value.pointer e31)) (hv (v := (pp (Addr.add a30 3))) rfl (fa runUnderlying89 rfl rfl sizeOf9 rfl) ?_)
 obtain ⟨x33, c32, h⟩ := h
 refine hv (v := (sv x33)) rfl (l1 isAgg9 rfl c32) (hv (v := (.agg #[(sv x33), (iv 0)])) rfl (HVal.build' (cs := [(sv x33), (iv 0)]) runUnderlying38 zeroValue38 places38 rfl) ?_)
 refine ho rfl (HOp.alloc zeroValue38) ?_
 rintro _ H34 ⟨rfl, e35⟩
 replace h := h H34 e35
 obtain ⟨z38, h⟩ := h
 refine hq (HOp.storeN' (l := [(sv x33), (iv 0)]) sizeOf38 rfl rfl rfl z38) ?_
 rintro _ H36 e37
 replace h := h H36 e37
 refine hn (nt (ws (wr_ (hv (v := (.pointer p0)) rfl (mv rfl) (ho rfl (HOp.call' 60 [(.pointer p0)] (cap := []) rfl rfl call60 (walk60 h)) ?_)))))
 rintro _ H39 ⟨rfl, h⟩
 refine hn (nt (wc (fun ρ H_1 => Env.Is ρ [(0, (.pointer p0)), (1, (.pointer p1)), (5, (pp (bk H26)))] ∧ F63_1 Q p0 p1 (bk H26) H_1) ?_ ?_))
 ·refine ws (wr_ ?_)
  obtain ⟨x45, x46, x47, x48, c44, h⟩ := h
  refine hv (v := (.agg #[(sv x45), (sv x46), (sv x47), (sv x48)])) rfl (ln [(sv x45), (sv x46), (sv x47), (sv x48)] isAgg49 sizeOf49 rfl c44) ?_
  refine hv (v := (iv 0)) rfl (mv rfl) (hn (nt (wb (HW.loop' (fun L2 hL2 => ?_)))))
  obtain ⟨X2, hX2⟩ : ∃ X2 : Int → Hp → Prop, ∀ (y49 : Int) (H_2 : Hp), X2 y49 H_2 ↔ ∀ ρ, Env.Is ρ [(0, (.pointer p0)), (1, (.pointer p1)), (5, (pp (bk H26))), (42, (.agg #[(sv x45), (sv x46), (sv x47), (sv x48)])), (43, (iv y49))] → L2 ρ H_2 := ⟨_, fun _ _ => Iff.rfl⟩
  refine (hX2 _ _).1 (h X2 ?_) _ ?_
  rotate_left
  ·exact (isp rfl)
  clear h
  intro y49 H_2 h
  refine (hX2 _ _).2 fun ρ hI => ?_
  obtain ⟨ρ0, rfl⟩ := hI.ex
  clear hI; unfold F63_L2b at h; refine hL2 _ _ ?_
  refine ws (wr_ (hv (v := (bv (decide (y49 < 4)))) rfl (HVal.lss rfl rfl) (hn (nt (ws ?_)))))
  obtain ⟨hT, hF⟩ := h
  refine wk (decide (y49 < 4)) rfl (fun hb57 => ?_) (fun hb57 => ?_)
  ·have h := hT hb57
   refine wp_ (nt (wc (fun ρ H_3 => Env.Is ρ [(0, (.pointer p0)), (1, (.pointer p1)), (5, (pp (bk H26))), (42, (.agg #[(sv x45), (sv x46), (sv x47), (sv x48)])), (43, (iv y49))] ∧ F63_3 Q X2 p0 p1 (bk H26) x45 x46 x47 x48 y49 H_3) ?_ ?_))
   ·refine wb (ws (wr_ (hv (v := (iv y49)) rfl (mv rfl) ?_)))
    obtain ⟨b67, b68, y66, b69, h⟩ := h
    refine hv (v := (sv y66)) rfl (HVal.indexA Value.string [x45, x46, x47, x48] runUnderlying49 isAgg9 sizeOf9 rfl rfl b67 b68 b69) (hv (v := (iv y49)) rfl (av rfl) ?_)
    refine hv (v := (sv y66)) rfl (av rfl) (hn (nt (wc (fun ρ H_4 => ∃ (y88 : Bool), Env.Is ρ [(0, (.pointer p0)), (1, (.pointer p1)), (5, (pp (bk H26))), (6, (iv y49)), (42, (.agg #[(sv x45), (sv x46), (sv x47), (sv x48)])), (43, (iv y49)), (56, (bv y88))] ∧ F63_4 Q X2 p0 p1 (bk H26) y49 x45 x46 x47 x48 y49 y88 H_4) ?_ ?_)))
    ·refine wr_ (hv (v := (iv y49)) rfl (mv rfl) (ho rfl (HOp.call' 53 [(iv y49)] (cap := []) rfl rfl call53 (walk53 h)) ?_))
     rintro _ H79 ⟨r81, rfl, h⟩
     refine hv (v := (bv r81)) rfl (mv rfl) ?_
     obtain ⟨hT, hF⟩ := h
     rcases Bool.eq_false_or_eq_true r81 with hb82 | hb83
     ·have h := hT hb82
      refine hg (v := (.pointer p0)) rfl rfl rfl rfl (cB hb82) (mv rfl) ?_
      obtain ⟨a84, e85, h⟩ := h
      refine hg (v := (pp a84)) rfl rfl rfl rfl (cB hb82) (HVal.nilCheck (congrArg Value.pointer e85)) (hg (v := (pp (Addr.add a84 3))) rfl rfl rfl rfl (cB hb82) (fa runUnderlying89 rfl rfl sizeOf9 rfl) ?_)
      obtain ⟨x87, c86, h⟩ := h
      refine hg (v := (sv x87)) rfl rfl rfl rfl (cB hb82) (l1 isAgg9 rfl c86) (hg (v := (sv y66)) rfl rfl rfl rfl (cB hb82) (mv rfl) ?_)
      refine hg (v := (bv (seq x87 y66))) rfl rfl rfl rfl (cB hb82) (HVal.eqlS rfl rfl) (hv (v := (bv (seq x87 y66))) rfl (pt_ rfl hb82 rfl) ?_)
      refine hn (nt ?_)
      exact ⟨(seq x87 y66), (isp rfl), h⟩
     have h := hF hb83
     refine hs_ rfl rfl rfl rfl (cB hb83) (hs_ rfl rfl rfl rfl (cB hb83) (hs_ rfl rfl rfl rfl (cB hb83) (hs_ rfl rfl rfl rfl (cB hb83) ?_)))
     refine hs_ rfl rfl rfl rfl (cB hb83) (hs_ rfl rfl rfl rfl (cB hb83) (hv (v := (bv false)) rfl (pf_ rfl hb83 rfl) (hn (nt ?_))))
     exact ⟨false, (isp rfl), h⟩
    rintro ρ H_4 ⟨y88, hI, h⟩
    obtain ⟨ρ0, rfl⟩ := hI.ex
    clear hI; unfold F63_4 at h
    obtain ⟨hT, hF⟩ := h
    refine wk y88 rfl (fun hb89 => ?_) (fun hb89 => ?_)
    ·have h := hT hb89
     refine wr_ (hv (v := (iv y49)) rfl (mv rfl) (hv (v := (pp (Addr.add (bk H26) 1))) rfl (fa runUnderlying38 rfl rfl sizeOf3 rfl) ?_))
     obtain ⟨z92, z93, h⟩ := h
     refine hq (HOp.store1 sizeOf3 rfl rfl rfl z92 z93) ?_
     rintro _ H90 e91
     replace h := h H90 e91
     refine hn (nb (nt ?_))
     exact ⟨(isp rfl), h⟩
    have h := hF hb89
    refine wp_ (nb (nt ?_))
    exact ⟨(isp rfl), h⟩
   rintro ρ H_3 ⟨hI, h⟩
   obtain ⟨ρ0, rfl⟩ := hI.ex
   clear hI; unfold F63_3 at h
   refine wr_ (hv (v := (iv (IntKind.i64.wrap (y49 + 1)))) rfl (HVal.add rfl rfl) (hv (v := (iv (IntKind.i64.wrap (y49 + 1)))) rfl (mv rfl) ?_))
   refine hn (nt ?_)
   exact (hX2 _ _).1 h _ (isp rfl)
  have h := hF hb57
  refine we (te (te (be (nt ?_))))
  exact ⟨(isp rfl), h⟩
 rintro ρ H_1 ⟨hI, h⟩
 obtain ⟨ρ0, rfl⟩ := hI.ex
 clear hI; unfold F63_1 at h
 refine ws (ws (wr_ (hv (v := (pp (Addr.add (bk H26) 1))) rfl (fa runUnderlying38 rfl rfl sizeOf3 rfl) ?_)))
 obtain ⟨x95, c94, h⟩ := h
 refine hv (v := (iv x95)) rfl (l1 isAgg3 rfl c94) (hv (v := (bv (decide (x95 = 0)))) rfl (HVal.eqlI rfl rfl) (hn (nt ?_)))
 obtain ⟨hT, hF⟩ := h
 refine wk (decide (x95 = 0)) rfl (fun hb96 => ?_) (fun hb96 => ?_)
 ·have h := hT hb96
  refine ws (wr_ (hv (v := (iv 24)) rfl (av rfl) (hn (nt (HW.ret (tr ?_))))))
  exact ⟨_, resOf1 rfl Res1.t, ⟨24, rfl, h⟩⟩
 have h := hF hb96
 refine wp_ (nt (ws (wr_ (hv (v := (.pointer p0)) rfl (mv rfl) (ho rfl (HOp.call' 60 [(.pointer p0)] (cap := []) rfl rfl call60 (walk60 h)) ?_)))))
 rintro _ H97 ⟨rfl, h⟩
 refine hn (nt (ws (HW.draw mixed [(0, some []), (1, some []), (2, some []), (3, some []), (4, some [7, 10]), (5, some [6, 10]), (6, none), (7, none), (8, some []), (9, some []), (10, none)] rfl (by kernel_rfl) (by kernel_rfl) ?_)))
 refine pv (v := (.pointer p1)) rfl rfl (fun _ => mv rfl) (pv (v := (.pointer p1)) rfl rfl (fun _ => mv rfl) ?_)
 obtain ⟨a99, e100, h⟩ := h
 refine pv (v := (pp a99)) rfl rfl (fun _ => HVal.nilCheck (congrArg Value.pointer e100)) (pv (v := (pp (Addr.add a99 1))) rfl rfl (fun _ => fa runUnderlying27 rfl rfl sizeOf25 rfl) ?_)
 obtain ⟨x102, c101, h⟩ := h
 refine pl (v := (Sl.v x102)) (fun X => cell X (Addr.add a99 1) = some (Sl.v x102)) rfl rfl (fun _ hX => l1 isAgg25 rfl hX) c101 ?_
 obtain ⟨x104, x105, c103, h⟩ := h
 refine pl (v := (.agg #[(sv x104), (iv x105)])) (fun X => cells X (bk H26) [(sv x104), (iv x105)] 0) rfl rfl (fun _ hX => ln [(sv x104), (iv x105)] isAgg38 sizeOf38 rfl hX) c103 ?_
 refine po rfl rfl (HOp.buildSlice' (zs := [(sv bE), (iv 0)]) (cs := [(sv x104), (iv x105)]) runUnderlying25 sizeOf38 zeroValue38 (by decide) (by kernel_rfl) rfl (by decide)) ?_
 rintro _ H106 ⟨rfl, e107⟩
 replace h := h H106 e107
 obtain ⟨s108, h⟩ := h
 refine ⟨SC_of ⟨nofun, fun _ => s108, trivial⟩, ?_⟩
 refine po rfl rfl (HOp.append (k := 2) (b := 24) runUnderlying25 runUnderlying25 typeInfo38 rfl rfl zeroValue38 rfl rfl h) ?_
 rintro _ H109 ⟨r111, rfl, h⟩
 refine ⟨SC_of ⟨nofun, nofun, trivial⟩, ?_⟩
 obtain ⟨a112, e113, h⟩ := h
 refine pv (v := (pp a112)) rfl rfl (fun _ => HVal.nilCheck (congrArg Value.pointer e113)) (pv (v := (pp (Addr.add a112 1))) rfl rfl (fun _ => fa runUnderlying27 rfl rfl sizeOf25 rfl) ?_)
 obtain ⟨z116, z117, h⟩ := h
 refine pn rfl (HOp.store1 sizeOf25 rfl rfl rfl z116 z117) ?_
 rintro _ H114 e115
 replace h := h H114 e115
 refine ⟨SC_of ⟨nofun, nofun, trivial⟩, ?_⟩
 refine HPlan.done (nt (ws (wr_ (hv (v := (iv 0)) rfl (av rfl) (hn (nt (HW.ret ?_)))))))
 exact ⟨_, resOf1 rfl Res1.t, ⟨0, rfl, h⟩⟩

def F31_2 (Q : Int → Hp → Prop) (y39 : (Option Addr)) (H_2 : Hp) : Prop :=
F60 y39 H_2 (fun (H64 : Hp) => 
 F64 y39 H64 (fun (r68 : Bool) (H66 : Hp) => 
 ((!r68) = true → (Q 24 H66)) ∧
 ((!r68) = false → (Q 0 H66))))
def F31_4 (Q : Int → Hp → Prop) (X3 : Hp → Prop) (y47 : (Option Addr)) (y48 : (Option Addr)) (y58 : Bool) (H_4 : Hp) : Prop :=
(y58 = true → (Q 24 H_4)) ∧
 (y58 = false → (F63 y47 y48 H_4 (fun (r62 : Int) (H60 : Hp) => 
 ((decide (r62 ≠ 0)) = true → (Q r62 H60)) ∧
 ((decide (r62 ≠ 0)) = false → (X3 H60)))))
def F31_L3b (Q : Int → Hp → Prop) (X3 : Hp → Prop) (y40 : (Option Addr)) (y41 : (Option Addr)) (H_3 : Hp) : Prop :=
∃ a42 : Addr, y40 = some a42 ∧ (
 ∃ x45 : ByteArray, cell H_3 (Addr.add a42 3) = some (sv x45) ∧ (
 ((!(seq x45 S___)) = true → (∃ a49 : Addr, y41 = some a49 ∧ (
 ∃ x52 : Sl, cell H_3 (Addr.add a49 1) = some (Sl.v x52) ∧ (
 ((decide ((0 : Int) < ((x52).n : Int))) = true → (F61 y40 S____ H_3 (fun (r57 : Bool) (H55 : Hp) => 
 F31_4 Q X3 y40 y41 (!r57) H55))) ∧
 ((decide ((0 : Int) < ((x52).n : Int))) = false → (F31_4 Q X3 y40 y41 false H_3)))))) ∧
 ((!(seq x45 S___)) = false → (F31_2 Q y40 H_3))))
def F31_L3 (Q : Int → Hp → Prop) (y40 : (Option Addr)) (y41 : (Option Addr)) (H_3 : Hp) : Prop :=
 ∀ X3 : Hp → Prop, (∀ (H_3 : Hp), F31_L3b Q X3 y40 y41 H_3 → X3 H_3) → X3 H_3
def F31_1 (Q : Int → Hp → Prop) (y3 : (Option Addr)) (y4 : (Option Addr)) (y10 : Bool) (H_1 : Hp) : Prop :=
(y10 = true → (Q 24 H_1)) ∧
 (y10 = false → (∃ a15 : Addr, y3 = some a15 ∧ (
 ∃ x18 : ByteArray, cell H_1 (Addr.add a15 3) = some (sv x18) ∧ (
 F17 x18 H_1 (fun (r21 : Bool) (H19 : Hp) => 
 ((!r21) = true → (Q 20 H19)) ∧
 ((!r21) = false → (∃ a23 : Addr, y3 = some a23 ∧ (
 ∃ x26 : ByteArray, cell H19 (Addr.add a23 3) = some (sv x26) ∧ (
 ∃ a27 : Addr, y4 = some a27 ∧ (
 (cell H19 a27).isSome = true ∧ frz H19 a27 = false ∧ ∀ H29 : Hp, H29 = setc H19 a27 (sv x26) → (
 F60 y3 H29 (fun (H33 : Hp) => 
 F61 y3 S__ H33 (fun (r37 : Bool) (H35 : Hp) => 
 ((!r37) = true → (Q 24 H35)) ∧
 ((!r37) = false → (F31_L3 Q y3 y4 H35)))))))))))))))
def F31 (p0 : (Option Addr)) (p1 : (Option Addr)) (H : Hp) (Q : Int → Hp → Prop) : Prop :=
F60 p0 H (fun (H1 : Hp) => 
 F61 p0 S_TYPE H1 (fun (r7 : Bool) (H5 : Hp) => 
 ((!r7) = true → (F31_1 Q p0 p1 true H5)) ∧
 ((!r7) = false → (F62 p0 H5 (fun (r13 : Bool) (H11 : Hp) => 
 F31_1 Q p0 p1 (!r13) H11)))))
theorem walk31 {w0 : World} {p0 : (Option Addr)} {p1 : (Option Addr)} {H : Hp} {Q : Int → Hp → Prop} (h : F31 p0 p1 H Q) :
  Good prog w0 31 #[(.pointer p0), (.pointer p1)] H (fun v H => ∃ (r0 : Int) , v = (iv r0) ∧ Q r0 H) := by
 unfold F31 at h
 refine Good.enter' (fn := f31) func31 rfl rfl rfl (ws (wr_ (hv (v := (iv 0)) rfl (av rfl) (hn (nt (ws ?_))))))
 refine wr_ (hv (v := (.pointer p0)) rfl (mv rfl) (ho rfl (HOp.call' 60 [(.pointer p0)] (cap := []) rfl rfl call60 (walk60 h)) ?_))
 rintro _ H1 ⟨rfl, h⟩
 refine hn (nt (ws (wc (fun ρ H_1 => ∃ (y10 : Bool), Env.Is ρ [(0, (.pointer p0)), (1, (.pointer p1)), (15, (bv y10))] ∧ F31_1 Q p0 p1 y10 H_1) ?_ ?_)))
 ·refine wr_ (hv (v := (.pointer p0)) rfl (mv rfl) (ho rfl (HOp.call' 61 [(.pointer p0), (sv S_TYPE)] (cap := []) rfl rfl call61 (walk61 h)) ?_))
  rintro _ H5 ⟨r7, rfl, h⟩
  refine hv (v := (bv (!r7))) rfl (HVal.not rfl) (hv (v := (bv (!r7))) rfl (mv rfl) ?_)
  obtain ⟨hT, hF⟩ := h
  rcases Bool.eq_false_or_eq_true (!r7) with hb8 | hb9
  ·have h := hT hb8
   refine hs_ rfl rfl rfl rfl (cB hb8) (hs_ rfl rfl rfl rfl (cB hb8) (hs_ rfl rfl rfl rfl (cB hb8) (hv (v := (bv true)) rfl (pt_ rfl hb8 rfl) ?_)))
   refine hn (nt ?_)
   exact ⟨true, (isp rfl), h⟩
  have h := hF hb9
  refine hg (v := (.pointer p0)) rfl rfl rfl rfl (cB hb9) (mv rfl) (HList.gops rfl rfl rfl rfl (cB hb9) (HOp.call' 62 [(.pointer p0)] (cap := []) rfl rfl call62 (walk62 h)) ?_)
  rintro _ H11 ⟨r13, rfl, h⟩
  refine hg (v := (bv (!r13))) rfl rfl rfl rfl (cB hb9) (HVal.not rfl) (hv (v := (bv (!r13))) rfl (pf_ rfl hb9 rfl) (hn (nt ?_)))
  exact ⟨(!r13), (isp rfl), h⟩
 rintro ρ H_1 ⟨y10, hI, h⟩
 obtain ⟨ρ0, rfl⟩ := hI.ex
 clear hI; unfold F31_1 at h
 obtain ⟨hT, hF⟩ := h
 refine wk y10 rfl (fun hb14 => ?_) (fun hb14 => ?_)
 ·have h := hT hb14
  refine ws (wr_ (hv (v := (iv 24)) rfl (av rfl) (hn (nt (HW.ret (tr ?_))))))
  exact ⟨_, resOf1 rfl Res1.t, ⟨24, rfl, h⟩⟩
 have h := hF hb14
 refine wp_ (nt (ws (ws (wr_ (hv (v := (.pointer p0)) rfl (mv rfl) ?_)))))
 obtain ⟨a15, e16, h⟩ := h
 refine hv (v := (pp a15)) rfl (HVal.nilCheck (congrArg Value.pointer e16)) (hv (v := (pp (Addr.add a15 3))) rfl (fa runUnderlying89 rfl rfl sizeOf9 rfl) ?_)
 obtain ⟨x18, c17, h⟩ := h
 refine hv (v := (sv x18)) rfl (l1 isAgg9 rfl c17) (ho rfl (HOp.call' 17 [(sv x18)] (cap := []) rfl rfl call17 (walk17 h)) ?_)
 rintro _ H19 ⟨r21, rfl, h⟩
 refine hv (v := (bv (!r21))) rfl (HVal.not rfl) (hn (nt ?_))
 obtain ⟨hT, hF⟩ := h
 refine wk (!r21) rfl (fun hb22 => ?_) (fun hb22 => ?_)
 ·have h := hT hb22
  refine ws (wr_ (hv (v := (iv 20)) rfl (av rfl) (hn (nt (HW.ret (tr ?_))))))
  exact ⟨_, resOf1 rfl Res1.t, ⟨20, rfl, h⟩⟩
 have h := hF hb22
 refine wp_ (nt (ws (wr_ (hv (v := (.pointer p1)) rfl (mv rfl) (hv (v := (.pointer p0)) rfl (mv rfl) ?_)))))
 obtain ⟨a23, e24, h⟩ := h
 refine hv (v := (pp a23)) rfl (HVal.nilCheck (congrArg Value.pointer e24)) (hv (v := (pp (Addr.add a23 3))) rfl (fa runUnderlying89 rfl rfl sizeOf9 rfl) ?_)
 obtain ⟨x26, c25, h⟩ := h
 refine hv (v := (sv x26)) rfl (l1 isAgg9 rfl c25) ?_
 obtain ⟨a27, e28, h⟩ := h
 refine hv (v := (pp a27)) rfl (HVal.nilCheck (congrArg Value.pointer e28)) (hv (v := (pp a27)) rfl (HVal.fieldAddr0 runUnderlying27 rfl rfl sizeOf9 rfl) ?_)
 obtain ⟨z31, z32, h⟩ := h
 refine hq (HOp.store1 sizeOf9 rfl rfl rfl z31 z32) ?_
 rintro _ H29 e30
 replace h := h H29 e30
 refine hn (nt (ws (wr_ (hv (v := (.pointer p0)) rfl (mv rfl) (ho rfl (HOp.call' 60 [(.pointer p0)] (cap := []) rfl rfl call60 (walk60 h)) ?_)))))
 rintro _ H33 ⟨rfl, h⟩
 refine hn (nt (ws (ws (wr_ (hv (v := (.pointer p0)) rfl (mv rfl) (ho rfl (HOp.call' 61 [(.pointer p0), (sv S__)] (cap := []) rfl rfl call61 (walk61 h)) ?_))))))
 rintro _ H35 ⟨r37, rfl, h⟩
 refine hv (v := (bv (!r37))) rfl (HVal.not rfl) (hn (nt ?_))
 obtain ⟨hT, hF⟩ := h
 refine wk (!r37) rfl (fun hb38 => ?_) (fun hb38 => ?_)
 ·have h := hT hb38
  refine ws (wr_ (hv (v := (iv 24)) rfl (av rfl) (hn (nt (HW.ret (tr ?_))))))
  exact ⟨_, resOf1 rfl Res1.t, ⟨24, rfl, h⟩⟩
 have h := hF hb38
 refine wp_ (nt (wc (fun ρ H_2 => Env.Is ρ [(0, (.pointer p0))] ∧ F31_2 Q p0 H_2) ?_ ?_))
 ·refine wb (HW.loop' (fun L3 hL3 => ?_))
  obtain ⟨X3, hX3⟩ : ∃ X3 : Hp → Prop, ∀ (H_3 : Hp), X3 H_3 ↔ ∀ ρ, Env.Is ρ [(0, (.pointer p0)), (1, (.pointer p1))] → L3 ρ H_3 := ⟨_, fun _ => Iff.rfl⟩
  refine (hX3 _).1 (h X3 ?_) _ ?_
  rotate_left
  ·exact (isp rfl)
  clear h
  intro H_3 h
  refine (hX3 _).2 fun ρ hI => ?_
  obtain ⟨ρ0, rfl⟩ := hI.ex
  clear hI; unfold F31_L3b at h; refine hL3 _ _ ?_
  refine ws (ws (wr_ (hv (v := (.pointer p0)) rfl (mv rfl) ?_)))
  obtain ⟨a42, e43, h⟩ := h
  refine hv (v := (pp a42)) rfl (HVal.nilCheck (congrArg Value.pointer e43)) (hv (v := (pp (Addr.add a42 3))) rfl (fa runUnderlying89 rfl rfl sizeOf9 rfl) ?_)
  obtain ⟨x45, c44, h⟩ := h
  refine hv (v := (sv x45)) rfl (l1 isAgg9 rfl c44) (hv (v := (bv (!(seq x45 S___)))) rfl (HVal.neqS rfl rfl) (hn (nt ?_)))
  obtain ⟨hT, hF⟩ := h
  refine wk (!(seq x45 S___)) rfl (fun hb46 => ?_) (fun hb46 => ?_)
  ·have h := hT hb46
   refine wp_ (nt (wb (ws (wc (fun ρ H_4 => ∃ (y58 : Bool), Env.Is ρ [(0, (.pointer p0)), (1, (.pointer p1)), (49, (bv y58))] ∧ F31_4 Q X3 p0 p1 y58 H_4) ?_ ?_))))
   ·refine wr_ (hv (v := (.pointer p1)) rfl (mv rfl) ?_)
    obtain ⟨a49, e50, h⟩ := h
    refine hv (v := (pp a49)) rfl (HVal.nilCheck (congrArg Value.pointer e50)) (hv (v := (pp (Addr.add a49 1))) rfl (fa runUnderlying27 rfl rfl sizeOf25 rfl) ?_)
    obtain ⟨x52, c51, h⟩ := h
    refine hv (v := (Sl.v x52)) rfl (l1 isAgg25 rfl c51) (hv (v := (iv ((x52).n : Int))) rfl (HVal.len runUnderlying25 rfl) ?_)
    refine hv (v := (bv (decide ((0 : Int) < ((x52).n : Int))))) rfl (HVal.gtr rfl rfl) (hv (v := (bv (decide ((0 : Int) < ((x52).n : Int))))) rfl (mv rfl) ?_)
    obtain ⟨hT, hF⟩ := h
    rcases Bool.eq_false_or_eq_true (decide ((0 : Int) < ((x52).n : Int))) with hb53 | hb54
    ·have h := hT hb53
     refine hg (v := (.pointer p0)) rfl rfl rfl rfl (cB hb53) (mv rfl) (HList.gops rfl rfl rfl rfl (cB hb53) (HOp.call' 61 [(.pointer p0), (sv S____)] (cap := []) rfl rfl call61 (walk61 h)) ?_)
     rintro _ H55 ⟨r57, rfl, h⟩
     refine hg (v := (bv (!r57))) rfl rfl rfl rfl (cB hb53) (HVal.not rfl) (hv (v := (bv (!r57))) rfl (pt_ rfl hb53 rfl) (hn (nt ?_)))
     exact ⟨(!r57), (isp rfl), h⟩
    have h := hF hb54
    refine hs_ rfl rfl rfl rfl (cB hb54) (hs_ rfl rfl rfl rfl (cB hb54) (hs_ rfl rfl rfl rfl (cB hb54) (hv (v := (bv false)) rfl (pf_ rfl hb54 rfl) ?_)))
    refine hn (nt ?_)
    exact ⟨false, (isp rfl), h⟩
   rintro ρ H_4 ⟨y58, hI, h⟩
   obtain ⟨ρ0, rfl⟩ := hI.ex
   clear hI; unfold F31_4 at h
   obtain ⟨hT, hF⟩ := h
   refine wk y58 rfl (fun hb59 => ?_) (fun hb59 => ?_)
   ·have h := hT hb59
    refine ws (wr_ (hv (v := (iv 24)) rfl (av rfl) (hn (nt (HW.ret (tr (br (tr (br (tr ?_))))))))))
    exact ⟨_, resOf1 rfl Res1.t, ⟨24, rfl, h⟩⟩
   have h := hF hb59
   refine wp_ (nt (ws (wr_ (hv (v := (.pointer p0)) rfl (mv rfl) (hv (v := (.pointer p1)) rfl (mv rfl) (ho rfl (HOp.call' 63 [(.pointer p0), (.pointer p1)] (cap := []) rfl rfl call63 (walk63 h)) ?_))))))
   rintro _ H60 ⟨r62, rfl, h⟩
   refine hv (v := (iv r62)) rfl (av rfl) (hn (nt (ws (wr_ (hv (v := (iv r62)) rfl (mv rfl) (hv (v := (bv (decide (r62 ≠ 0)))) rfl (HVal.neqI rfl rfl) ?_))))))
   refine hn (nt ?_)
   obtain ⟨hT, hF⟩ := h
   refine wk (decide (r62 ≠ 0)) rfl (fun hb63 => ?_) (fun hb63 => ?_)
   ·have h := hT hb63
    refine ws (wr_ (hv (v := (iv r62)) rfl (mv rfl) (hv (v := (iv r62)) rfl (av rfl) (hn (nt (HW.ret ?_))))))
    refine br (tr (br (tr ?_)))
    exact ⟨_, resOf1 rfl Res1.t, ⟨r62, rfl, h⟩⟩
   have h := hF hb63
   refine wp_ (nb (nt ?_))
   exact (hX3 _).1 h _ (isp rfl)
  have h := hF hb46
  refine we (te (te (be (nt ?_))))
  exact ⟨⟨rfl, trivial⟩, h⟩
 rintro ρ H_2 ⟨hI, h⟩
 obtain ⟨ρ0, rfl⟩ := hI.ex
 clear hI; unfold F31_2 at h
 refine ws (wr_ (hv (v := (.pointer p0)) rfl (mv rfl) (ho rfl (HOp.call' 60 [(.pointer p0)] (cap := []) rfl rfl call60 (walk60 h)) ?_)))
 rintro _ H64 ⟨rfl, h⟩
 refine hn (nt (ws (ws (wr_ (hv (v := (.pointer p0)) rfl (mv rfl) (ho rfl (HOp.call' 64 [(.pointer p0)] (cap := []) rfl rfl call64 (walk64 h)) ?_))))))
 rintro _ H66 ⟨r68, rfl, h⟩
 refine hv (v := (bv (!r68))) rfl (HVal.not rfl) (hn (nt ?_))
 obtain ⟨hT, hF⟩ := h
 refine wk (!r68) rfl (fun hb69 => ?_) (fun hb69 => ?_)
 ·have h := hT hb69
  refine ws (wr_ (hv (v := (iv 24)) rfl (av rfl) (hn (nt (HW.ret (tr ?_))))))
  exact ⟨_, resOf1 rfl Res1.t, ⟨24, rfl, h⟩⟩
 have h := hF hb69
 refine wp_ (nt (ws (wr_ (hv (v := (iv 0)) rfl (av rfl) (hn (nt (HW.ret ?_)))))))
 exact ⟨_, resOf1 rfl Res1.t, ⟨0, rfl, h⟩⟩

def F14 (p0 : ByteArray) (H : Hp) (Q : ByteArray → Sl → Int → Int → Hp → Prop) : Prop :=
∀ H1 : Hp, H1 = Array.push H (.cells #[(sv bE), sN] 27) → (
 ((decide ((4096 : Int) < ((p0).size : Int))) = true → (mayw H1 (bk H) 2 0 ∧ ∀ H4 : Hp, H4 = sets H1 (bk H) [(sv bE), sN] 0 → (
 ∃ (x7 : ByteArray) (x8 : Sl), cells H4 (bk H) [(sv x7), (Sl.v x8)] 0 ∧ (
 Q x7 x8 0 2 H4)))) ∧
 ((decide ((4096 : Int) < ((p0).size : Int))) = false → (∀ H10 : Hp, H10 = Array.push H1 (.cells #[(sv p0), (iv 0), (iv 0), (sv bE)] 89) → (
 ∀ H12 : Hp, H12 = Array.push H10 (.cells #[(sv bE), sN] 27) → (
 F31 (some (bk H1)) (some (bk H10)) H12 (fun (r16 : Int) (H14 : Hp) => 
 ((decide (r16 ≠ 0)) = true → (∃ x19 : Int, cell H14 (Addr.add (bk H1) 1) = some (iv x19) ∧ (
 mayw H14 (bk H) 2 0 ∧ ∀ H20 : Hp, H20 = sets H14 (bk H) [(sv bE), sN] 0 → (
 cell H20 (Addr.add (bk H1) 1) = some (iv x19) ∧ (
 ∃ (x24 : ByteArray) (x25 : Sl), cells H20 (bk H) [(sv x24), (Sl.v x25)] 0 ∧ (
 Q x24 x25 x19 r16 H20)))))) ∧
 ((decide (r16 ≠ 0)) = false → (∃ (x28 : ByteArray) (x29 : Sl), cells H14 (bk H10) [(sv x28), (Sl.v x29)] 0 ∧ (
 mayw H14 (bk H) 2 0 ∧ ∀ H30 : Hp, H30 = sets H14 (bk H) [(sv x28), (Sl.v x29)] 0 → (
 ∃ (x33 : ByteArray) (x34 : Sl), cells H30 (bk H) [(sv x33), (Sl.v x34)] 0 ∧ (
 Q x33 x34 0 0 H30)))))))))))
theorem walk14 {w0 : World} {p0 : ByteArray} {H : Hp} {Q : ByteArray → Sl → Int → Int → Hp → Prop} (h : F14 p0 H Q) :
  Good prog w0 14 #[(sv p0)] H (fun v H => ∃ (r0 : ByteArray) (r1 : Sl) (r2 r3 : Int) , v = (.tuple #[(.agg #[(sv r0), (Sl.v r1)]), (iv r2), (iv r3)]) ∧ Q r0 r1 r2 r3 H) := by
 unfold F14 at h
 refine Good.enter' (fn := f14) func14 rfl rfl rfl (ws (wr_ (ho rfl (HOp.alloc zeroValue27) ?_)))
 rintro _ H1 ⟨rfl, e2⟩
 replace h := h H1 e2
 refine hv (v := (iv 0)) rfl (av rfl) (hv (v := (iv 0)) rfl (av rfl) (hn (nt (ws (ws (wr_ (hv (v := (sv p0)) rfl (mv rfl) ?_)))))))
 refine hv (v := (iv ((p0).size : Int))) rfl (HVal.lenS runUnderlying9 rfl) (hv (v := (bv (decide ((4096 : Int) < ((p0).size : Int))))) rfl (HVal.gtr rfl rfl) ?_)
 refine hn (nt ?_)
 obtain ⟨hT, hF⟩ := h
 refine wk (decide ((4096 : Int) < ((p0).size : Int))) rfl (fun hb3 => ?_) (fun hb3 => ?_)
 ·have h := hT hb3
  refine ws (wr_ (hv (v := (.agg #[(sv bE), sN])) rfl (HVal.build' (cs := [(sv bE), sN]) runUnderlying27 zeroValue27 places27 rfl) ?_))
  obtain ⟨z6, h⟩ := h
  refine hq (HOp.storeN' (l := [(sv bE), sN]) sizeOf27 rfl rfl rfl z6) ?_
  rintro _ H4 e5
  replace h := h H4 e5
  refine hv (v := (iv 0)) rfl (av rfl) (hv (v := (iv 2)) rfl (av rfl) (hn (nt (HW.ret (tr ?_)))))
  obtain ⟨x7, x8, c9, h⟩ := h
  exact ⟨_, resOf3 rfl (Res1.n [(sv x7), (Sl.v x8)] isAgg27 sizeOf27 rfl c9) Res1.t Res1.t, ⟨x7, x8, 0, 2, rfl, h⟩⟩
 have h := hF hb3
 refine wp_ (nt (ws (wr_ (hv (v := (sv p0)) rfl (mv rfl) (hv (v := (.agg #[(sv p0), (iv 0), (iv 0), (sv bE)])) rfl (HVal.build' (cs := [(sv p0), (iv 0), (iv 0), (sv bE)]) runUnderlying89 zeroValue89 places89 rfl) ?_)))))
 refine ho rfl (ob (v := (.agg #[(sv p0), (iv 0), (iv 0), (sv bE)])) rfl) ?_
 rintro _ H10 ⟨rfl, e11⟩
 replace h := h H10 e11
 refine hv (v := (pp (bk H1))) rfl (av rfl) (hn (nt (ws (wr_ (ho rfl (HOp.alloc zeroValue27) ?_)))))
 rintro _ H12 ⟨rfl, e13⟩
 replace h := h H12 e13
 refine hn (nt (ws (ws (wr_ (hv (v := (pp (bk H1))) rfl (mv rfl) (ho rfl (HOp.call' 31 [(pp (bk H1)), (pp (bk H10))] (cap := []) rfl rfl call31 (walk31 h)) ?_))))))
 rintro _ H14 ⟨r16, rfl, h⟩
 refine hv (v := (iv r16)) rfl (av rfl) (hn (nt (ws (wr_ (hv (v := (iv r16)) rfl (mv rfl) (hv (v := (bv (decide (r16 ≠ 0)))) rfl (HVal.neqI rfl rfl) ?_))))))
 refine hn (nt ?_)
 obtain ⟨hT, hF⟩ := h
 refine wk (decide (r16 ≠ 0)) rfl (fun hb17 => ?_) (fun hb17 => ?_)
 ·have h := hT hb17
  refine ws (HW.draw mixed [(0, some []), (1, some []), (2, some []), (3, some []), (4, some []), (5, some []), (6, none), (7, some []), (8, some [])] rfl (by kernel_rfl) (by kernel_rfl) ?_)
  refine pv (v := (.agg #[(sv bE), sN])) rfl rfl (fun _ => HVal.build' (cs := [(sv bE), sN]) runUnderlying27 zeroValue27 places27 rfl) (pv (v := (pp (bk H1))) rfl rfl (fun _ => mv rfl) ?_)
  refine pv (v := (pp (bk H1))) rfl rfl (fun _ => HVal.nilCheck rfl) (pv (v := (pp (Addr.add (bk H1) 1))) rfl rfl (fun _ => fa runUnderlying89 rfl rfl sizeOf3 rfl) ?_)
  obtain ⟨x19, c18, h⟩ := h
  refine pl (v := (iv x19)) (fun X => cell X (Addr.add (bk H1) 1) = some (iv x19)) rfl rfl (fun _ hX => l1 isAgg3 rfl hX) c18 (pv (v := (iv r16)) rfl rfl (fun _ => mv rfl) ?_)
  obtain ⟨z22, h⟩ := h
  refine pn rfl (HOp.storeN' (l := [(sv bE), sN]) sizeOf27 rfl rfl rfl z22) ?_
  rintro _ H20 e21
  replace h := h H20 e21
  obtain ⟨s23, h⟩ := h
  refine ⟨SC_of ⟨fun _ => s23, trivial⟩, ?_⟩
  refine pv (v := (iv x19)) rfl rfl (fun _ => av rfl) (pv (v := (iv r16)) rfl rfl (fun _ => av rfl) (HPlan.done (nt (HW.ret ?_))))
  refine tr ?_
  obtain ⟨x24, x25, c26, h⟩ := h
  exact ⟨_, resOf3 rfl (Res1.n [(sv x24), (Sl.v x25)] isAgg27 sizeOf27 rfl c26) Res1.t Res1.t, ⟨x24, x25, x19, r16, rfl, h⟩⟩
 have h := hF hb17
 refine wp_ (nt (ws (wr_ ?_)))
 obtain ⟨x28, x29, c27, h⟩ := h
 refine hv (v := (.agg #[(sv x28), (Sl.v x29)])) rfl (ln [(sv x28), (Sl.v x29)] isAgg27 sizeOf27 rfl c27) ?_
 obtain ⟨z32, h⟩ := h
 refine hq (HOp.storeN' (l := [(sv x28), (Sl.v x29)]) sizeOf27 rfl rfl rfl z32) ?_
 rintro _ H30 e31
 replace h := h H30 e31
 refine hv (v := (iv 0)) rfl (av rfl) (hv (v := (iv 0)) rfl (av rfl) (hn (nt (HW.ret ?_))))
 obtain ⟨x33, x34, c35, h⟩ := h
 exact ⟨_, resOf3 rfl (Res1.n [(sv x33), (Sl.v x34)] isAgg27 sizeOf27 rfl c35) Res1.t Res1.t, ⟨x33, x34, 0, 0, rfl, h⟩⟩

def F9 (p0 : (Option Addr)) (p1_0 : ByteArray) (p1_1 : Sl) (H : Hp) (Q : Int → Hp → Prop) : Prop :=
∀ H1 : Hp, H1 = Array.push H (.cells #[(sv p1_0), (Sl.v p1_1)] 27) → (
 ∃ (x4 : ByteArray) (x5 : Sl), cells H1 (bk H) [(sv x4), (Sl.v x5)] 0 ∧ (
 F24 x4 x5 H1 (fun (r8 : Int) (H6 : Hp) => 
 ((decide (r8 ≠ 0)) = true → (Q r8 H6)) ∧
 ((decide (r8 ≠ 0)) = false → (∃ a10 : Addr, p0 = some a10 ∧ (
 ∃ x13 : (Option Nat), cell H6 a10 = some (.map x13) ∧ (
 ∃ x15 : ByteArray, cell H6 (bk H) = some (sv x15) ∧ (
 ∃ (L16 : ML ByteArray (ByteArray × Sl)) (c17 : Nat), MapK mk9 mv27 Always H6 x13 L16 c17 x15 ∧ (
 ∀ H19 : Hp, H19 = Array.push H6 (.cells #[(sv bE), sN] 27) → (
 MapK mk9 mv27 Always H19 x13 L16 c17 x15 ∧ cell H19 (bk H) = some (sv x15) ∧ cell H19 a10 = some (.map x13) ∧ (
 mayw H19 (bk H6) 2 0 ∧ ∀ H24 : Hp, H24 = sets H19 (bk H6) [(sv ((mget L16 x15).getD (bE, Sl.nil)).1), (Sl.v ((mget L16 x15).getD (bE, Sl.nil)).2)] 0 → (
 (((mget L16 x15).isSome) = true → (Q 5 H24)) ∧
 (((mget L16 x15).isSome) = false → (∃ a28 : Addr, p0 = some a28 ∧ (
 ∃ x31 : (Option Nat), cell H24 a28 = some (.map x31) ∧ (
 ∃ (L32 : ML ByteArray (ByteArray × Sl)) (c33 : Nat), mapAt mk9 mv27 H24 x31 L32 c33 ∧ (
 ((decide ((64 : Int) ≤ ((L32).length : Int))) = true → (Q 4 H24)) ∧
 ((decide ((64 : Int) ≤ ((L32).length : Int))) = false → (∃ a36 : Addr, p0 = some a36 ∧ (
 ∃ x39 : (Option Nat), cell H24 a36 = some (.map x39) ∧ (
 ∃ x41 : ByteArray, cell H24 (bk H) = some (sv x41) ∧ (
 ∃ (x43 : ByteArray) (x44 : Sl), cells H24 (bk H) [(sv x43), (Sl.v x44)] 0 ∧ (
 F26 x41 H24 (fun (r47 : ByteArray) (H45 : Hp) => 
 cells H45 (bk H) [(sv x43), (Sl.v x44)] 0 ∧ cell H45 a36 = some (.map x39) ∧ (
 F25 x43 x44 H45 (fun (r52 : ByteArray) (r53 : Sl) (H50 : Hp) => 
 cell H50 a36 = some (.map x39) ∧ (
 ∃ (r57 : Nat) (L58 : ML ByteArray (ByteArray × Sl)) (c59 : Nat), x39 = some r57 ∧ MapK mk9 mv27 Always H50 (some r57) L58 c59 r47 ∧ ∀ H55 : Hp, H55 = seto H50 r57 (mapo mk9 mv27 (mput L58 c59 r47 (r52, r53)).1 (mput L58 c59 r47 (r52, r53)).2) → (
 Q 0 H55))))))))))))))))))))))))))))
theorem walk9 {w0 : World} {p0 : (Option Addr)} {p1_0 : ByteArray} {p1_1 : Sl} {H : Hp} {Q : Int → Hp → Prop} (h : F9 p0 p1_0 p1_1 H Q) :
  Good prog w0 9 #[(.pointer p0), (.agg #[(sv p1_0), (Sl.v p1_1)])] H (fun v H => ∃ (r0 : Int) , v = (iv r0) ∧ Q r0 H) := by
 unfold F9 at h
 refine Good.enter' (fn := f9) func9 rfl rfl rfl (ws (wr_ (ho rfl (ob (v := (.agg #[(sv p1_0), (Sl.v p1_1)])) rfl) ?_)))
 rintro _ H1 ⟨rfl, e2⟩
 replace h := h H1 e2
 refine hv (v := (iv 0)) rfl (av rfl) (hn (nt (ws (ws (wr_ ?_)))))
 obtain ⟨x4, x5, c3, h⟩ := h
 refine hv (v := (.agg #[(sv x4), (Sl.v x5)])) rfl (ln [(sv x4), (Sl.v x5)] isAgg27 sizeOf27 rfl c3) (ho rfl (HOp.call' 24 [(.agg #[(sv x4), (Sl.v x5)])] (cap := []) rfl rfl call24 (walk24 h)) ?_)
 rintro _ H6 ⟨r8, rfl, h⟩
 refine hv (v := (iv r8)) rfl (av rfl) (hn (nt (ws (wr_ (hv (v := (iv r8)) rfl (mv rfl) (hv (v := (bv (decide (r8 ≠ 0)))) rfl (HVal.neqI rfl rfl) ?_))))))
 refine hn (nt ?_)
 obtain ⟨hT, hF⟩ := h
 refine wk (decide (r8 ≠ 0)) rfl (fun hb9 => ?_) (fun hb9 => ?_)
 ·have h := hT hb9
  refine ws (wr_ (hv (v := (iv r8)) rfl (mv rfl) (hv (v := (iv r8)) rfl (av rfl) (hn (nt (HW.ret (tr ?_)))))))
  exact ⟨_, resOf1 rfl Res1.t, ⟨r8, rfl, h⟩⟩
 have h := hF hb9
 refine wp_ (nt (ws (ws (HW.draw mixed [(0, some []), (1, some []), (2, some []), (3, some [11]), (4, some []), (5, some [11]), (6, some [11]), (7, some []), (8, some []), (9, some []), (10, none), (11, none), (12, some [])] rfl (by kernel_rfl) (by kernel_rfl) ?_))))
 refine pv (v := (.pointer p0)) rfl rfl (fun _ => mv rfl) ?_
 obtain ⟨a10, e11, h⟩ := h
 refine pv (v := (pp a10)) rfl rfl (fun _ => HVal.nilCheck (congrArg Value.pointer e11)) (pv (v := (pp a10)) rfl rfl (fun _ => HVal.fieldAddr0 runUnderlying72 rfl rfl sizeOf70 rfl) ?_)
 obtain ⟨x13, c12, h⟩ := h
 refine pl (v := (.map x13)) (fun X => cell X a10 = some (.map x13)) rfl rfl (fun _ hX => l1 isAgg70 rfl hX) c12 (pv (v := (pp (bk H))) rfl rfl (fun _ => HVal.fieldAddr0 runUnderlying27 rfl rfl sizeOf9 rfl) ?_)
 obtain ⟨x15, c14, h⟩ := h
 refine pl (v := (sv x15)) (fun X => cell X (bk H) = some (sv x15)) rfl rfl (fun _ hX => l1 isAgg9 rfl hX) c14 ?_
 obtain ⟨L16, c17, c18, h⟩ := h
 refine pl (v := (.tuple #[(.agg #[(sv ((mget L16 x15).getD (bE, Sl.nil)).1), (Sl.v ((mget L16 x15).getD (bE, Sl.nil)).2)]), (bv ((mget L16 x15).isSome))])) (fun X => MapK mk9 mv27 Always X x13 L16 c17 x15) rfl rfl (fun _ hX => HVal.lookupOk (f := mk9) (g := mv27) (k := x15) (z := (bE, Sl.nil)) runUnderlying70 mkk9 zeroValue27 rfl rfl hX) c18 ?_
 refine pv (v := (.tuple #[(.agg #[(sv ((mget L16 x15).getD (bE, Sl.nil)).1), (Sl.v ((mget L16 x15).getD (bE, Sl.nil)).2)]), (bv ((mget L16 x15).isSome))])) rfl rfl (fun _ => mv rfl) ?_
 refine pv (v := (.agg #[(sv ((mget L16 x15).getD (bE, Sl.nil)).1), (Sl.v ((mget L16 x15).getD (bE, Sl.nil)).2)])) rfl rfl (fun _ => HVal.extract rfl rfl) ?_
 refine pv (v := (bv ((mget L16 x15).isSome))) rfl rfl (fun _ => HVal.extract rfl rfl) (po rfl rfl (HOp.alloc zeroValue27) ?_)
 rintro _ H19 ⟨rfl, e20⟩
 replace h := h H19 e20
 obtain ⟨s21, s22, s23, h⟩ := h
 refine ⟨SC_of ⟨fun _ => s21, fun _ => s22, fun _ => s23, trivial⟩, ?_⟩
 obtain ⟨z26, h⟩ := h
 refine pn rfl (HOp.storeN' (l := [(sv ((mget L16 x15).getD (bE, Sl.nil)).1), (Sl.v ((mget L16 x15).getD (bE, Sl.nil)).2)]) sizeOf27 rfl rfl rfl z26) ?_
 rintro _ H24 e25
 replace h := h H24 e25
 refine ⟨SC_of ⟨nofun, nofun, nofun, trivial⟩, ?_⟩
 refine pv (v := (bv ((mget L16 x15).isSome))) rfl rfl (fun _ => av rfl) (HPlan.done (nt (ws (wr_ (hv (v := (bv ((mget L16 x15).isSome))) rfl (mv rfl) ?_)))))
 refine hn (nt ?_)
 obtain ⟨hT, hF⟩ := h
 refine wk ((mget L16 x15).isSome) rfl (fun hb27 => ?_) (fun hb27 => ?_)
 ·have h := hT hb27
  refine ws (wr_ (hv (v := (iv 5)) rfl (av rfl) (hn (nt (HW.ret (tr ?_))))))
  exact ⟨_, resOf1 rfl Res1.t, ⟨5, rfl, h⟩⟩
 have h := hF hb27
 refine wp_ (nt (ws (ws (wr_ (hv (v := (.pointer p0)) rfl (mv rfl) ?_)))))
 obtain ⟨a28, e29, h⟩ := h
 refine hv (v := (pp a28)) rfl (HVal.nilCheck (congrArg Value.pointer e29)) (hv (v := (pp a28)) rfl (HVal.fieldAddr0 runUnderlying72 rfl rfl sizeOf70 rfl) ?_)
 obtain ⟨x31, c30, h⟩ := h
 refine hv (v := (.map x31)) rfl (l1 isAgg70 rfl c30) ?_
 obtain ⟨L32, c33, c34, h⟩ := h
 refine hv (v := (iv ((L32).length : Int))) rfl (HVal.lenM (f := mk9) (g := mv27) runUnderlying70 rfl c34) (hv (v := (bv (decide ((64 : Int) ≤ ((L32).length : Int))))) rfl (HVal.geq rfl rfl) ?_)
 refine hn (nt ?_)
 obtain ⟨hT, hF⟩ := h
 refine wk (decide ((64 : Int) ≤ ((L32).length : Int))) rfl (fun hb35 => ?_) (fun hb35 => ?_)
 ·have h := hT hb35
  refine ws (wr_ (hv (v := (iv 4)) rfl (av rfl) (hn (nt (HW.ret (tr ?_))))))
  exact ⟨_, resOf1 rfl Res1.t, ⟨4, rfl, h⟩⟩
 have h := hF hb35
 refine wp_ (nt (ws (HW.draw mixed [(0, some []), (1, some []), (2, some []), (3, some [9]), (4, some []), (5, some [6, 9]), (7, some [8, 9]), (6, none), (8, none), (9, none)] rfl (by kernel_rfl) (by kernel_rfl) ?_)))
 refine pv (v := (.pointer p0)) rfl rfl (fun _ => mv rfl) ?_
 obtain ⟨a36, e37, h⟩ := h
 refine pv (v := (pp a36)) rfl rfl (fun _ => HVal.nilCheck (congrArg Value.pointer e37)) (pv (v := (pp a36)) rfl rfl (fun _ => HVal.fieldAddr0 runUnderlying72 rfl rfl sizeOf70 rfl) ?_)
 obtain ⟨x39, c38, h⟩ := h
 refine pl (v := (.map x39)) (fun X => cell X a36 = some (.map x39)) rfl rfl (fun _ hX => l1 isAgg70 rfl hX) c38 (pv (v := (pp (bk H))) rfl rfl (fun _ => HVal.fieldAddr0 runUnderlying27 rfl rfl sizeOf9 rfl) ?_)
 obtain ⟨x41, c40, h⟩ := h
 refine pl (v := (sv x41)) (fun X => cell X (bk H) = some (sv x41)) rfl rfl (fun _ hX => l1 isAgg9 rfl hX) c40 ?_
 obtain ⟨x43, x44, c42, h⟩ := h
 refine pl (v := (.agg #[(sv x43), (Sl.v x44)])) (fun X => cells X (bk H) [(sv x43), (Sl.v x44)] 0) rfl rfl (fun _ hX => ln [(sv x43), (Sl.v x44)] isAgg27 sizeOf27 rfl hX) c42 ?_
 refine po rfl rfl (HOp.call' 26 [(sv x41)] (cap := []) rfl rfl call26 (walk26 h)) ?_
 rintro _ H45 ⟨r47, rfl, h⟩
 obtain ⟨s48, s49, h⟩ := h
 refine ⟨SC_of ⟨fun _ => s48, nofun, fun _ => s49, trivial⟩, ?_⟩
 refine po rfl rfl (HOp.call' 25 [(.agg #[(sv x43), (Sl.v x44)])] (cap := []) rfl rfl call25 (walk25 h)) ?_
 rintro _ H50 ⟨r52, r53, rfl, h⟩
 obtain ⟨s54, h⟩ := h
 refine ⟨SC_of ⟨nofun, nofun, fun _ => s54, trivial⟩, ?_⟩
 obtain ⟨r57, L58, c59, e61, c60, h⟩ := h
 refine pn rfl (HOp.mapUpdate (f := mk9) (g := mv27) (k := r47) (v := (r52, r53)) runUnderlying70 mkk9 (congrArg Value.map e61) rfl rfl c60) ?_
 rintro _ H55 e56
 replace h := h H55 e56
 refine ⟨SC_of ⟨nofun, nofun, nofun, trivial⟩, ?_⟩
 refine HPlan.done (nt (ws (wr_ (hv (v := (iv 0)) rfl (av rfl) (hn (nt (HW.ret ?_)))))))
 exact ⟨_, resOf1 rfl Res1.t, ⟨0, rfl, h⟩⟩

def F22_2 (Q : Bool → Hp → Prop) (y80 : Addr) (y81 : Int) (y98 : Addr) (y99 : Int) (H_2 : Hp) : Prop :=
((decide (y81 = y99)) = true → (∃ (x115 : ByteArray) (x116 : Sl), cells H_2 y80 [(sv x115), (Sl.v x116)] 0 ∧ (
 ∃ (x118 : ByteArray) (x119 : Sl), cells H_2 y98 [(sv x118), (Sl.v x119)] 0 ∧ (
 F15 x115 x116 x118 x119 H_2 (fun (r122 : Bool) (H120 : Hp) => 
 Q r122 H120))))) ∧
 ((decide (y81 = y99)) = false → (Q false H_2))
def F22_1 (Q : Bool → Hp → Prop) (y48 : (Option Addr)) (y49 y66 : Addr) (y67 : Int) (H_1 : Hp) : Prop :=
∃ a82 : Addr, y48 = some a82 ∧ (
 ∃ x85 : (Option Addr), cell H_1 (Addr.add a82 1) = some (.pointer x85) ∧ (
 ∃ x87 : ByteArray, cell H_1 (Addr.add y49 4) = some (sv x87) ∧ (
 (F43 x85 x87 H_1 (fun (r90 : ByteArray) (r91 : Sl) (r92 : Int) (H88 : Hp) => 
 ∀ H93 : Hp, H93 = Array.push H88 (.cells #[(sv bE), sN] 27) → (
 mayw H93 (bk H88) 2 0 ∧ ∀ H95 : Hp, H95 = sets H93 (bk H88) [(sv r90), (Sl.v r91)] 0 → (
 F22_2 Q y66 y67 (bk H88) r92 H95)))) ∧
 (∀ H100 : Hp, H100 = Array.push H_1 (.cells #[(sv bE), sN] 27) → (
 cell H100 (Addr.add y49 4) = some (sv x87) ∧ cell H100 (Addr.add a82 1) = some (.pointer x85) ∧ (
 F43 x85 x87 H100 (fun (r106 : ByteArray) (r107 : Sl) (r108 : Int) (H104 : Hp) => 
 mayw H104 (bk H_1) 2 0 ∧ ∀ H109 : Hp, H109 = sets H104 (bk H_1) [(sv r106), (Sl.v r107)] 0 → (
 F22_2 Q y66 y67 (bk H_1) r108 H109))))))))
def F22 (p0 : (Option Addr)) (p1_0 p1_1 : Int) (p1_2 : ByteArray) (p1_3 : Sl) (p1_4 p1_5 : ByteArray) (p1_6 : Int) (p1_7 : Sl) (H : Hp) (Q : Bool → Hp → Prop) : Prop :=
∀ H1 : Hp, H1 = Array.push H (.cells #[(iv p1_0), (iv p1_1), (sv p1_2), (Sl.v p1_3), (sv p1_4), (sv p1_5), (iv p1_6), (Sl.v p1_7)] 65) → (
 ∃ x4 : Int, cell H1 (bk H) = some (iv x4) ∧ (
 ((decide (x4 = 1)) = true → (∃ a6 : Addr, p0 = some a6 ∧ (
 ∃ x9 : (Option Addr), cell H1 a6 = some (.pointer x9) ∧ (
 ∃ a10 : Addr, p0 = some a10 ∧ (
 ∃ x13 : (Option Addr), cell H1 (Addr.add a10 2) = some (.pointer x13) ∧ (
 ∃ (x15 : ByteArray) (x16 : Sl), cells H1 (Addr.add (bk H) 2) [(sv x15), (Sl.v x16)] 0 ∧ (
 F39 x13 x15 x16 H1 (fun (r19 : ByteArray) (r20 : Sl) (H17 : Hp) => 
 cell H17 a6 = some (.pointer x9) ∧ (
 F9 x9 r19 r20 H17 (fun (r24 : Int) (H22 : Hp) => 
 ∃ a25 : Addr, p0 = some a25 ∧ (
 ∃ x28 : (Option Addr), cell H22 (Addr.add a25 1) = some (.pointer x28) ∧ (
 ∃ (x30 : ByteArray) (x31 : Sl), cells H22 (Addr.add (bk H) 2) [(sv x30), (Sl.v x31)] 0 ∧ (
 F40 x28 x30 x31 H22 (fun (r34 : Int) (H32 : Hp) => 
 ∃ a35 : Addr, p0 = some a35 ∧ (
 ∃ x38 : (Option Addr), cell H32 (Addr.add a35 2) = some (.pointer x38) ∧ (
 ∃ (x40 : ByteArray) (x41 : Sl), cells H32 (Addr.add (bk H) 2) [(sv x40), (Sl.v x41)] 0 ∧ (
 F41 x38 x40 x41 H32 (fun (r44 : Bool) (H42 : Hp) => 
 (r44 = true → (Q (decide (r24 = r34)) H42)) ∧
 (r44 = false → (Q false H42)))))))))))))))))))) ∧
 ((decide (x4 = 1)) = false → (((decide (x4 = 2)) = true → (∃ a50 : Addr, p0 = some a50 ∧ (
 ∃ x53 : (Option Addr), cell H1 a50 = some (.pointer x53) ∧ (
 ∃ x55 : ByteArray, cell H1 (Addr.add (bk H) 4) = some (sv x55) ∧ (
 (F42 x53 x55 H1 (fun (r58 : ByteArray) (r59 : Sl) (r60 : Int) (H56 : Hp) => 
 ∀ H61 : Hp, H61 = Array.push H56 (.cells #[(sv bE), sN] 27) → (
 mayw H61 (bk H56) 2 0 ∧ ∀ H63 : Hp, H63 = sets H61 (bk H56) [(sv r58), (Sl.v r59)] 0 → (
 F22_1 Q p0 (bk H) (bk H56) r60 H63)))) ∧
 (∀ H68 : Hp, H68 = Array.push H1 (.cells #[(sv bE), sN] 27) → (
 cell H68 (Addr.add (bk H) 4) = some (sv x55) ∧ cell H68 a50 = some (.pointer x53) ∧ (
 F42 x53 x55 H68 (fun (r74 : ByteArray) (r75 : Sl) (r76 : Int) (H72 : Hp) => 
 mayw H72 (bk H1) 2 0 ∧ ∀ H77 : Hp, H77 = sets H72 (bk H1) [(sv r74), (Sl.v r75)] 0 → (
 F22_1 Q p0 (bk H) (bk H1) r76 H77)))))))))) ∧
 ((decide (x4 = 2)) = false → (((decide (x4 = 3)) = true → (∃ a124 : Addr, p0 = some a124 ∧ (
 ∃ x127 : (Option Addr), cell H1 a124 = some (.pointer x127) ∧ (
 ∃ a128 : Addr, p0 = some a128 ∧ (
 ∃ x131 : (Option Addr), cell H1 (Addr.add a128 1) = some (.pointer x131) ∧ (
 F18 x127 H1 (fun (r134 : Sl) (H132 : Hp) => 
 cell H132 (Addr.add a128 1) = some (.pointer x131) ∧ (
 F45 x131 H132 (fun (r138 : Sl) (H136 : Hp) => 
 F44 r134 r138 H136 (fun (r141 : Bool) (H139 : Hp) => 
 Q r141 H139)))))))))) ∧
 ((decide (x4 = 3)) = false → (((decide (x4 = 4)) = true → (∃ a143 : Addr, p0 = some a143 ∧ (
 ∃ x146 : (Option Addr), cell H1 a143 = some (.pointer x146) ∧ (
 ∃ a147 : Addr, p0 = some a147 ∧ (
 ∃ x150 : (Option Addr), cell H1 (Addr.add a147 2) = some (.pointer x150) ∧ (
 ∃ (x152 : ByteArray) (x153 : Int) (x154 : Sl), cells H1 (Addr.add (bk H) 5) (tR x152 x153 x154) 0 ∧ (
 F46 x150 x152 x153 x154 H1 (fun (r157 : ByteArray) (r158 : Int) (r159 : Sl) (H155 : Hp) => 
 cell H155 a143 = some (.pointer x146) ∧ (
 F11 x146 r157 r158 r159 H155 (fun (r163 : Int) (H161 : Hp) => 
 ∃ a164 : Addr, p0 = some a164 ∧ (
 ∃ x167 : (Option Addr), cell H161 (Addr.add a164 1) = some (.pointer x167) ∧ (
 ∃ (x169 : ByteArray) (x170 : Int) (x171 : Sl), cells H161 (Addr.add (bk H) 5) (tR x169 x170 x171) 0 ∧ (
 F47 x167 x169 x170 x171 H161 (fun (r174 : Int) (H172 : Hp) => 
 ∃ a175 : Addr, p0 = some a175 ∧ (
 ∃ x178 : (Option Addr), cell H172 (Addr.add a175 2) = some (.pointer x178) ∧ (
 ∃ (x180 : ByteArray) (x181 : Int) (x182 : Sl), cells H172 (Addr.add (bk H) 5) (tR x180 x181 x182) 0 ∧ (
 F48 x178 x180 x181 x182 H172 (fun (r185 : Bool) (H183 : Hp) => 
 (r185 = true → (Q (decide (r163 = r174)) H183)) ∧
 (r185 = false → (Q false H183)))))))))))))))))))) ∧
 ((decide (x4 = 4)) = false → (((decide (x4 = 5)) = true → (∃ x190 : ByteArray, cell H1 (Addr.add (bk H) 4) = some (sv x190) ∧ (
 ∃ x192 : ByteArray, cell H1 (Addr.add (bk H) 4) = some (sv x192) ∧ (
 F17 x190 H1 (fun (r195 : Bool) (H193 : Hp) => 
 cell H193 (Addr.add (bk H) 4) = some (sv x192) ∧ (
 F49 x192 H193 (fun (r199 : Bool) (H197 : Hp) => 
 Q (r195 == r199) H197))))))) ∧
 ((decide (x4 = 5)) = false → (((decide (x4 = 6)) = true → (∃ x202 : ByteArray, cell H1 (Addr.add (bk H) 4) = some (sv x202) ∧ (
 F14 x202 H1 (fun (r205 : ByteArray) (r206 : Sl) (r207 r208 : Int) (H203 : Hp) => 
 ∀ H209 : Hp, H209 = Array.push H203 (.cells #[(sv bE), sN] 27) → (
 mayw H209 (bk H203) 2 0 ∧ ∀ H211 : Hp, H211 = sets H209 (bk H203) [(sv r205), (Sl.v r206)] 0 → (
 ∃ x215 : ByteArray, cell H211 (Addr.add (bk H) 4) = some (sv x215) ∧ (
 F50 x215 H211 (fun (r218 : ByteArray) (r219 : Sl) (r220 r221 : Int) (H216 : Hp) => 
 ∀ H222 : Hp, H222 = Array.push H216 (.cells #[(sv bE), sN] 27) → (
 mayw H222 (bk H216) 2 0 ∧ ∀ H224 : Hp, H224 = sets H222 (bk H216) [(sv r218), (Sl.v r219)] 0 → (
 ((decide (r208 = r221)) = true → (((decide (r207 = r220)) = true → (∃ (x232 : ByteArray) (x233 : Sl), cells H224 (bk H203) [(sv x232), (Sl.v x233)] 0 ∧ (
 ∃ (x235 : ByteArray) (x236 : Sl), cells H224 (bk H216) [(sv x235), (Sl.v x236)] 0 ∧ (
 F15 x232 x233 x235 x236 H224 (fun (r239 : Bool) (H237 : Hp) => 
 Q r239 H237))))) ∧
 ((decide (r207 = r220)) = false → (Q false H224)))) ∧
 ((decide (r208 = r221)) = false → (Q false H224)))))))))))) ∧
 ((decide (x4 = 6)) = false → (((decide (x4 = 7)) = true → (∃ a241 : Addr, p0 = some a241 ∧ (
 ∃ x244 : (Option Addr), cell H1 (Addr.add a241 2) = some (.pointer x244) ∧ (
 ∃ (x246 : ByteArray) (x247 : Sl), cells H1 (Addr.add (bk H) 2) [(sv x246), (Sl.v x247)] 0 ∧ (
 F39 x244 x246 x247 H1 (fun (r250 : ByteArray) (r251 : Sl) (H248 : Hp) => 
 F13 r250 r251 H248 (fun (r254 : ByteArray) (r255 : Int) (H252 : Hp) => 
 ∃ (x257 : ByteArray) (x258 : Sl), cells H252 (Addr.add (bk H) 2) [(sv x257), (Sl.v x258)] 0 ∧ (
 F51 x257 x258 H252 (fun (r261 : ByteArray) (r262 : Int) (H259 : Hp) => 
 ∃ a263 : Addr, p0 = some a263 ∧ (
 ∃ x266 : (Option Addr), cell H259 (Addr.add a263 2) = some (.pointer x266) ∧ (
 ∃ (x268 : ByteArray) (x269 : Sl), cells H259 (Addr.add (bk H) 2) [(sv x268), (Sl.v x269)] 0 ∧ (
 F41 x266 x268 x269 H259 (fun (r272 : Bool) (H270 : Hp) => 
 (r272 = true → (((decide (r255 = r262)) = true → (Q (seq r254 r261) H270)) ∧
 ((decide (r255 = r262)) = false → (Q false H270)))) ∧
 (r272 = false → (Q false H270))))))))))))))) ∧
 ((decide (x4 = 7)) = false → (Q true H1))))))))))))))))
theorem walk22 {w0 : World} {p0 : (Option Addr)} {p1_0 p1_1 : Int} {p1_2 : ByteArray} {p1_3 : Sl} {p1_4 p1_5 : ByteArray} {p1_6 : Int} {p1_7 : Sl} {H : Hp} {Q : Bool → Hp → Prop} (h : F22 p0 p1_0 p1_1 p1_2 p1_3 p1_4 p1_5 p1_6 p1_7 H Q) :
  Good prog w0 22 #[(.pointer p0), (.agg #[(iv p1_0), (iv p1_1), (sv p1_2), (Sl.v p1_3), (sv p1_4), (sv p1_5), (iv p1_6), (Sl.v p1_7)])] H (fun v H => ∃ (r0 : Bool) , v = (bv r0) ∧ Q r0 H) := by
 unfold F22 at h
 refine Good.enter' (fn := f22) func22 rfl rfl rfl (ws (wr_ (ho rfl (ob (v := (.agg #[(iv p1_0), (iv p1_1), (sv p1_2), (Sl.v p1_3), (sv p1_4), (sv p1_5), (iv p1_6), (Sl.v p1_7)])) rfl) ?_)))
 rintro _ H1 ⟨rfl, e2⟩
 replace h := h H1 e2
 refine hv (v := (bv false)) rfl (av rfl) (hn (nt (ws (ws (wr_ (hv (v := (pp (bk H))) rfl (HVal.fieldAddr0 runUnderlying65 rfl rfl sizeOf3 rfl) ?_))))))
 obtain ⟨x4, c3, h⟩ := h
 refine hv (v := (iv x4)) rfl (l1 isAgg3 rfl c3) (hn (nt (wb (ws (wr_ (hv (v := (bv (decide (x4 = 1)))) rfl (HVal.eqlI rfl rfl) ?_))))))
 refine hv (v := (bv (decide (x4 = 1)))) rfl (av rfl) (hn (nt ?_))
 obtain ⟨hT, hF⟩ := h
 refine wk (decide (x4 = 1)) rfl (fun hb5 => ?_) (fun hb5 => ?_)
 ·have h := hT hb5
  refine ws (HW.draw mixed [(0, some []), (1, some []), (2, some []), (3, some [11]), (4, some []), (5, some []), (6, some []), (7, some [10]), (8, some []), (9, some [10]), (10, none), (11, none), (12, some [])] rfl (by kernel_rfl) (by kernel_rfl) ?_)
  refine pv (v := (.pointer p0)) rfl rfl (fun _ => mv rfl) ?_
  obtain ⟨a6, e7, h⟩ := h
  refine pv (v := (pp a6)) rfl rfl (fun _ => HVal.nilCheck (congrArg Value.pointer e7)) (pv (v := (pp a6)) rfl rfl (fun _ => HVal.fieldAddr0 runUnderlying101 rfl rfl sizeOf23 rfl) ?_)
  obtain ⟨x9, c8, h⟩ := h
  refine pl (v := (.pointer x9)) (fun X => cell X a6 = some (.pointer x9)) rfl rfl (fun _ hX => l1 isAgg23 rfl hX) c8 (pv (v := (.pointer p0)) rfl rfl (fun _ => mv rfl) ?_)
  obtain ⟨a10, e11, h⟩ := h
  refine pv (v := (pp a10)) rfl rfl (fun _ => HVal.nilCheck (congrArg Value.pointer e11)) (pv (v := (pp (Addr.add a10 2))) rfl rfl (fun _ => fa runUnderlying101 rfl rfl sizeOf58 rfl) ?_)
  obtain ⟨x13, c12, h⟩ := h
  refine pl (v := (.pointer x13)) (fun X => cell X (Addr.add a10 2) = some (.pointer x13)) rfl rfl (fun _ hX => l1 isAgg58 rfl hX) c12 (pv (v := (pp (Addr.add (bk H) 2))) rfl rfl (fun _ => fa runUnderlying65 rfl rfl sizeOf27 rfl) ?_)
  obtain ⟨x15, x16, c14, h⟩ := h
  refine pl (v := (.agg #[(sv x15), (Sl.v x16)])) (fun X => cells X (Addr.add (bk H) 2) [(sv x15), (Sl.v x16)] 0) rfl rfl (fun _ hX => ln [(sv x15), (Sl.v x16)] isAgg27 sizeOf27 rfl hX) c14 ?_
  refine po rfl rfl (HOp.call' 39 [(.pointer x13), (.agg #[(sv x15), (Sl.v x16)])] (cap := []) rfl rfl call39 (walk39 h)) ?_
  rintro _ H17 ⟨r19, r20, rfl, h⟩
  obtain ⟨s21, h⟩ := h
  refine ⟨SC_of ⟨nofun, nofun, fun _ => s21, trivial⟩, ?_⟩
  refine po rfl rfl (HOp.call' 9 [(.pointer x9), (.agg #[(sv r19), (Sl.v r20)])] (cap := []) rfl rfl call9 (walk9 h)) ?_
  rintro _ H22 ⟨r24, rfl, h⟩
  refine ⟨SC_of ⟨nofun, nofun, nofun, trivial⟩, ?_⟩
  refine pv (v := (iv r24)) rfl rfl (fun _ => av rfl) (HPlan.done (nt (ws (HW.draw mixed [(0, some []), (1, some []), (2, some []), (3, some [6]), (4, some []), (5, some [6]), (6, none), (7, some [])] rfl (by kernel_rfl) (by kernel_rfl) ?_))))
  refine pv (v := (.pointer p0)) rfl rfl (fun _ => mv rfl) ?_
  obtain ⟨a25, e26, h⟩ := h
  refine pv (v := (pp a25)) rfl rfl (fun _ => HVal.nilCheck (congrArg Value.pointer e26)) (pv (v := (pp (Addr.add a25 1))) rfl rfl (fun _ => fa runUnderlying101 rfl rfl sizeOf98 rfl) ?_)
  obtain ⟨x28, c27, h⟩ := h
  refine pl (v := (.pointer x28)) (fun X => cell X (Addr.add a25 1) = some (.pointer x28)) rfl rfl (fun _ hX => l1 isAgg98 rfl hX) c27 (pv (v := (pp (Addr.add (bk H) 2))) rfl rfl (fun _ => fa runUnderlying65 rfl rfl sizeOf27 rfl) ?_)
  obtain ⟨x30, x31, c29, h⟩ := h
  refine pl (v := (.agg #[(sv x30), (Sl.v x31)])) (fun X => cells X (Addr.add (bk H) 2) [(sv x30), (Sl.v x31)] 0) rfl rfl (fun _ hX => ln [(sv x30), (Sl.v x31)] isAgg27 sizeOf27 rfl hX) c29 ?_
  refine po rfl rfl (HOp.call' 40 [(.pointer x28), (.agg #[(sv x30), (Sl.v x31)])] (cap := []) rfl rfl call40 (walk40 h)) ?_
  rintro _ H32 ⟨r34, rfl, h⟩
  refine ⟨SC_of ⟨nofun, nofun, trivial⟩, ?_⟩
  refine pv (v := (iv r34)) rfl rfl (fun _ => av rfl) (HPlan.done (nt (ws (HW.draw mixed [(0, some []), (1, some []), (2, some []), (3, some [6]), (4, some []), (5, some [6]), (6, none), (7, some [])] rfl (by kernel_rfl) (by kernel_rfl) ?_))))
  refine pv (v := (.pointer p0)) rfl rfl (fun _ => mv rfl) ?_
  obtain ⟨a35, e36, h⟩ := h
  refine pv (v := (pp a35)) rfl rfl (fun _ => HVal.nilCheck (congrArg Value.pointer e36)) (pv (v := (pp (Addr.add a35 2))) rfl rfl (fun _ => fa runUnderlying101 rfl rfl sizeOf58 rfl) ?_)
  obtain ⟨x38, c37, h⟩ := h
  refine pl (v := (.pointer x38)) (fun X => cell X (Addr.add a35 2) = some (.pointer x38)) rfl rfl (fun _ hX => l1 isAgg58 rfl hX) c37 (pv (v := (pp (Addr.add (bk H) 2))) rfl rfl (fun _ => fa runUnderlying65 rfl rfl sizeOf27 rfl) ?_)
  obtain ⟨x40, x41, c39, h⟩ := h
  refine pl (v := (.agg #[(sv x40), (Sl.v x41)])) (fun X => cells X (Addr.add (bk H) 2) [(sv x40), (Sl.v x41)] 0) rfl rfl (fun _ hX => ln [(sv x40), (Sl.v x41)] isAgg27 sizeOf27 rfl hX) c39 ?_
  refine po rfl rfl (HOp.call' 41 [(.pointer x38), (.agg #[(sv x40), (Sl.v x41)])] (cap := []) rfl rfl call41 (walk41 h)) ?_
  rintro _ H42 ⟨r44, rfl, h⟩
  refine ⟨SC_of ⟨nofun, nofun, trivial⟩, ?_⟩
  refine pv (v := (bv r44)) rfl rfl (fun _ => av rfl) (HPlan.done (nt (ws (wr_ (hv (v := (bv r44)) rfl (mv rfl) ?_)))))
  refine hv (v := (bv r44)) rfl (mv rfl) ?_
  obtain ⟨hT, hF⟩ := h
  rcases Bool.eq_false_or_eq_true r44 with hb45 | hb46
  ·have h := hT hb45
   refine hg (v := (iv r24)) rfl rfl rfl rfl (cB hb45) (mv rfl) (hg (v := (iv r34)) rfl rfl rfl rfl (cB hb45) (mv rfl) (hg (v := (bv (decide (r24 = r34)))) rfl rfl rfl rfl (cB hb45) (HVal.eqlI rfl rfl) ?_))
   refine hv (v := (bv (decide (r24 = r34)))) rfl (pt_ rfl hb45 rfl) (hv (v := (bv (decide (r24 = r34)))) rfl (av rfl) (hn (nt ?_)))
   refine HW.ret (br (tr ?_))
   exact ⟨_, resOf1 rfl Res1.t, ⟨(decide (r24 = r34)), rfl, h⟩⟩
  have h := hF hb46
  refine hs_ rfl rfl rfl rfl (cB hb46) (hs_ rfl rfl rfl rfl (cB hb46) (hs_ rfl rfl rfl rfl (cB hb46) (hv (v := (bv false)) rfl (pf_ rfl hb46 rfl) ?_)))
  refine hv (v := (bv false)) rfl (av rfl) (hn (nt (HW.ret (br (tr ?_)))))
  exact ⟨_, resOf1 rfl Res1.t, ⟨false, rfl, h⟩⟩
 have h := hF hb5
 refine ws (wr_ (hv (v := (bv (decide (x4 = 2)))) rfl (HVal.eqlI rfl rfl) (hv (v := (bv (decide (x4 = 2)))) rfl (av rfl) ?_)))
 refine hn (nt ?_)
 obtain ⟨hT, hF⟩ := h
 refine wk (decide (x4 = 2)) rfl (fun hb47 => ?_) (fun hb47 => ?_)
 ·have h := hT hb47
  refine wc (fun ρ H_1 => ∃ (y66 : Addr) (y67 : Int), Env.Is ρ [(0, (.pointer p0)), (3, (pp (bk H))), (8, (pp y66)), (9, (iv y67))] ∧ F22_1 Q p0 (bk H) y66 y67 H_1) ?_ ?_
  ·refine HW.draw mixed [(0, some []), (1, some []), (2, some []), (3, some [6, 11]), (4, some []), (5, some [6, 11]), (13, none), (13, none), (13, none), (13, none), (13, none), (13, none), (13, none)] rfl (by kernel_rfl) (by kernel_rfl) ?_
   refine pv (v := (.pointer p0)) rfl rfl (fun _ => mv rfl) ?_
   obtain ⟨a50, e51, h⟩ := h
   refine pv (v := (pp a50)) rfl rfl (fun _ => HVal.nilCheck (congrArg Value.pointer e51)) (pv (v := (pp a50)) rfl rfl (fun _ => HVal.fieldAddr0 runUnderlying101 rfl rfl sizeOf23 rfl) ?_)
   obtain ⟨x53, c52, h⟩ := h
   refine pl (v := (.pointer x53)) (fun X => cell X a50 = some (.pointer x53)) rfl rfl (fun _ hX => l1 isAgg23 rfl hX) c52 (pv (v := (pp (Addr.add (bk H) 4))) rfl rfl (fun _ => fa runUnderlying65 rfl rfl sizeOf9 rfl) ?_)
   obtain ⟨x55, c54, h⟩ := h
   refine pl (v := (sv x55)) (fun X => cell X (Addr.add (bk H) 4) = some (sv x55)) rfl rfl (fun _ hX => l1 isAgg9 rfl hX) c54 ?_
   obtain ⟨hB6, hB10⟩ := h
   refine HPlan.fork2 (i := 6) (j := 10) (by kernel_rfl) ?_ ?_
   ·have h := hB6
    clear hB6 hB10
    refine HBr.ops' [(7, some []), (8, some []), (9, some []), (10, none), (11, none), (12, some [])] rfl (by kernel_rfl) (by kernel_rfl) rfl rfl rfl (HOp.call' 42 [(.pointer x53), (sv x55)] (cap := []) rfl rfl call42 (walk42 h)) ?_
    rintro _ H56 ⟨r58, r59, r60, rfl, h⟩
    refine ⟨SC_of ⟨nofun, nofun, trivial⟩, ?_⟩
    refine pv (v := (.tuple #[(.agg #[(sv r58), (Sl.v r59)]), (iv r60)])) rfl rfl (fun _ => mv rfl) (pv (v := (.agg #[(sv r58), (Sl.v r59)])) rfl rfl (fun _ => HVal.extract rfl rfl) ?_)
    refine pv (v := (iv r60)) rfl rfl (fun _ => HVal.extract rfl rfl) (po rfl rfl (HOp.alloc zeroValue27) ?_)
    rintro _ H61 ⟨rfl, e62⟩
    replace h := h H61 e62
    refine ⟨SC_of ⟨nofun, nofun, trivial⟩, ?_⟩
    obtain ⟨z65, h⟩ := h
    refine pn rfl (HOp.storeN' (l := [(sv r58), (Sl.v r59)]) sizeOf27 rfl rfl rfl z65) ?_
    rintro _ H63 e64
    replace h := h H63 e64
    refine ⟨SC_of ⟨nofun, nofun, trivial⟩, ?_⟩
    refine pv (v := (iv r60)) rfl rfl (fun _ => av rfl) (HPlan.done (nt ?_))
    exact ⟨(bk H56), r60, (isp rfl), h⟩
   have h := hB10
   clear hB6 hB10
   refine HBr.ops' [(6, none), (7, some []), (8, some []), (9, some []), (11, none), (12, some [])] rfl (by kernel_rfl) (by kernel_rfl) rfl rfl rfl (HOp.alloc zeroValue27) ?_
   rintro _ H68 ⟨rfl, e69⟩
   replace h := h H68 e69
   obtain ⟨s70, s71, h⟩ := h
   refine ⟨SC_of ⟨fun _ => s70, fun _ => s71, trivial⟩, ?_⟩
   refine po rfl rfl (HOp.call' 42 [(.pointer x53), (sv x55)] (cap := []) rfl rfl call42 (walk42 h)) ?_
   rintro _ H72 ⟨r74, r75, r76, rfl, h⟩
   refine ⟨SC_of ⟨nofun, nofun, trivial⟩, ?_⟩
   refine pv (v := (.tuple #[(.agg #[(sv r74), (Sl.v r75)]), (iv r76)])) rfl rfl (fun _ => mv rfl) (pv (v := (.agg #[(sv r74), (Sl.v r75)])) rfl rfl (fun _ => HVal.extract rfl rfl) ?_)
   refine pv (v := (iv r76)) rfl rfl (fun _ => HVal.extract rfl rfl) ?_
   obtain ⟨z79, h⟩ := h
   refine pn rfl (HOp.storeN' (l := [(sv r74), (Sl.v r75)]) sizeOf27 rfl rfl rfl z79) ?_
   rintro _ H77 e78
   replace h := h H77 e78
   refine ⟨SC_of ⟨nofun, nofun, trivial⟩, ?_⟩
   refine pv (v := (iv r76)) rfl rfl (fun _ => av rfl) (HPlan.done (nt ?_))
   exact ⟨(bk H1), r76, (isp rfl), h⟩
  rintro ρ H_1 ⟨y66, y67, hI, h⟩
  obtain ⟨ρ0, rfl⟩ := hI.ex
  clear hI; unfold F22_1 at h
  refine wc (fun ρ H_2 => ∃ (y98 : Addr) (y99 : Int), Env.Is ρ [(8, (pp y66)), (9, (iv y67)), (10, (pp y98)), (11, (iv y99))] ∧ F22_2 Q y66 y67 y98 y99 H_2) ?_ ?_
  ·refine HW.draw mixed [(0, some []), (1, some []), (2, some []), (3, some [6, 11]), (4, some []), (5, some [6, 11]), (13, none), (13, none), (13, none), (13, none), (13, none), (13, none), (13, none)] rfl (by kernel_rfl) (by kernel_rfl) ?_
   refine pv (v := (.pointer p0)) rfl rfl (fun _ => mv rfl) ?_
   obtain ⟨a82, e83, h⟩ := h
   refine pv (v := (pp a82)) rfl rfl (fun _ => HVal.nilCheck (congrArg Value.pointer e83)) (pv (v := (pp (Addr.add a82 1))) rfl rfl (fun _ => fa runUnderlying101 rfl rfl sizeOf98 rfl) ?_)
   obtain ⟨x85, c84, h⟩ := h
   refine pl (v := (.pointer x85)) (fun X => cell X (Addr.add a82 1) = some (.pointer x85)) rfl rfl (fun _ hX => l1 isAgg98 rfl hX) c84 ?_
   refine pv (v := (pp (Addr.add (bk H) 4))) rfl rfl (fun _ => fa runUnderlying65 rfl rfl sizeOf9 rfl) ?_
   obtain ⟨x87, c86, h⟩ := h
   refine pl (v := (sv x87)) (fun X => cell X (Addr.add (bk H) 4) = some (sv x87)) rfl rfl (fun _ hX => l1 isAgg9 rfl hX) c86 ?_
   obtain ⟨hB6, hB10⟩ := h
   refine HPlan.fork2 (i := 6) (j := 10) (by kernel_rfl) ?_ ?_
   ·have h := hB6
    clear hB6 hB10
    refine HBr.ops' [(7, some []), (8, some []), (9, some []), (10, none), (11, none), (12, some [])] rfl (by kernel_rfl) (by kernel_rfl) rfl rfl rfl (HOp.call' 43 [(.pointer x85), (sv x87)] (cap := []) rfl rfl call43 (walk43 h)) ?_
    rintro _ H88 ⟨r90, r91, r92, rfl, h⟩
    refine ⟨SC_of ⟨nofun, nofun, trivial⟩, ?_⟩
    refine pv (v := (.tuple #[(.agg #[(sv r90), (Sl.v r91)]), (iv r92)])) rfl rfl (fun _ => mv rfl) (pv (v := (.agg #[(sv r90), (Sl.v r91)])) rfl rfl (fun _ => HVal.extract rfl rfl) ?_)
    refine pv (v := (iv r92)) rfl rfl (fun _ => HVal.extract rfl rfl) (po rfl rfl (HOp.alloc zeroValue27) ?_)
    rintro _ H93 ⟨rfl, e94⟩
    replace h := h H93 e94
    refine ⟨SC_of ⟨nofun, nofun, trivial⟩, ?_⟩
    obtain ⟨z97, h⟩ := h
    refine pn rfl (HOp.storeN' (l := [(sv r90), (Sl.v r91)]) sizeOf27 rfl rfl rfl z97) ?_
    rintro _ H95 e96
    replace h := h H95 e96
    refine ⟨SC_of ⟨nofun, nofun, trivial⟩, ?_⟩
    refine pv (v := (iv r92)) rfl rfl (fun _ => av rfl) (HPlan.done (nt ?_))
    exact ⟨(bk H88), r92, (isp rfl), h⟩
   have h := hB10
   clear hB6 hB10
   refine HBr.ops' [(6, none), (7, some []), (8, some []), (9, some []), (11, none), (12, some [])] rfl (by kernel_rfl) (by kernel_rfl) rfl rfl rfl (HOp.alloc zeroValue27) ?_
   rintro _ H100 ⟨rfl, e101⟩
   replace h := h H100 e101
   obtain ⟨s102, s103, h⟩ := h
   refine ⟨SC_of ⟨fun _ => s102, fun _ => s103, trivial⟩, ?_⟩
   refine po rfl rfl (HOp.call' 43 [(.pointer x85), (sv x87)] (cap := []) rfl rfl call43 (walk43 h)) ?_
   rintro _ H104 ⟨r106, r107, r108, rfl, h⟩
   refine ⟨SC_of ⟨nofun, nofun, trivial⟩, ?_⟩
   refine pv (v := (.tuple #[(.agg #[(sv r106), (Sl.v r107)]), (iv r108)])) rfl rfl (fun _ => mv rfl) (pv (v := (.agg #[(sv r106), (Sl.v r107)])) rfl rfl (fun _ => HVal.extract rfl rfl) ?_)
   refine pv (v := (iv r108)) rfl rfl (fun _ => HVal.extract rfl rfl) ?_
   obtain ⟨z111, h⟩ := h
   refine pn rfl (HOp.storeN' (l := [(sv r106), (Sl.v r107)]) sizeOf27 rfl rfl rfl z111) ?_
   rintro _ H109 e110
   replace h := h H109 e110
   refine ⟨SC_of ⟨nofun, nofun, trivial⟩, ?_⟩
   refine pv (v := (iv r108)) rfl rfl (fun _ => av rfl) (HPlan.done (nt ?_))
   exact ⟨(bk H_1), r108, (isp rfl), h⟩
  rintro ρ H_2 ⟨y98, y99, hI, h⟩
  obtain ⟨ρ0, rfl⟩ := hI.ex
  clear hI; unfold F22_2 at h
  refine ws (wr_ (hv (v := (iv y67)) rfl (mv rfl) (hv (v := (iv y99)) rfl (mv rfl) (hv (v := (bv (decide (y67 = y99)))) rfl (HVal.eqlI rfl rfl) ?_))))
  refine hv (v := (bv (decide (y67 = y99)))) rfl (mv rfl) ?_
  obtain ⟨hT, hF⟩ := h
  rcases Bool.eq_false_or_eq_true (decide (y67 = y99)) with hb112 | hb113
  ·have h := hT hb112
   obtain ⟨x115, x116, c114, h⟩ := h
   refine hg (v := (.agg #[(sv x115), (Sl.v x116)])) rfl rfl rfl rfl (cB hb112) (ln [(sv x115), (Sl.v x116)] isAgg27 sizeOf27 rfl c114) ?_
   obtain ⟨x118, x119, c117, h⟩ := h
   refine hg (v := (.agg #[(sv x118), (Sl.v x119)])) rfl rfl rfl rfl (cB hb112) (ln [(sv x118), (Sl.v x119)] isAgg27 sizeOf27 rfl c117) ?_
   refine HList.gops rfl rfl rfl rfl (cB hb112) (HOp.call' 15 [(.agg #[(sv x115), (Sl.v x116)]), (.agg #[(sv x118), (Sl.v x119)])] (cap := []) rfl rfl call15 (walk15 h)) ?_
   rintro _ H120 ⟨r122, rfl, h⟩
   refine hv (v := (bv r122)) rfl (pt_ rfl hb112 rfl) (hv (v := (bv r122)) rfl (av rfl) (hn (nt (HW.ret (br (tr ?_))))))
   exact ⟨_, resOf1 rfl Res1.t, ⟨r122, rfl, h⟩⟩
  have h := hF hb113
  refine hs_ rfl rfl rfl rfl (cB hb113) (hs_ rfl rfl rfl rfl (cB hb113) (hs_ rfl rfl rfl rfl (cB hb113) (hv (v := (bv false)) rfl (pf_ rfl hb113 rfl) ?_)))
  refine hv (v := (bv false)) rfl (av rfl) (hn (nt (HW.ret (br (tr ?_)))))
  exact ⟨_, resOf1 rfl Res1.t, ⟨false, rfl, h⟩⟩
 have h := hF hb47
 refine ws (wr_ (hv (v := (bv (decide (x4 = 3)))) rfl (HVal.eqlI rfl rfl) (hv (v := (bv (decide (x4 = 3)))) rfl (av rfl) ?_)))
 refine hn (nt ?_)
 obtain ⟨hT, hF⟩ := h
 refine wk (decide (x4 = 3)) rfl (fun hb123 => ?_) (fun hb123 => ?_)
 ·have h := hT hb123
  refine ws (HW.draw mixed [(0, some []), (1, some []), (2, some []), (3, some [4]), (5, some []), (6, some []), (7, some []), (8, some [9]), (4, none), (9, none), (10, none), (11, some [])] rfl (by kernel_rfl) (by kernel_rfl) ?_)
  refine pv (v := (.pointer p0)) rfl rfl (fun _ => mv rfl) ?_
  obtain ⟨a124, e125, h⟩ := h
  refine pv (v := (pp a124)) rfl rfl (fun _ => HVal.nilCheck (congrArg Value.pointer e125)) (pv (v := (pp a124)) rfl rfl (fun _ => HVal.fieldAddr0 runUnderlying101 rfl rfl sizeOf23 rfl) ?_)
  obtain ⟨x127, c126, h⟩ := h
  refine pl (v := (.pointer x127)) (fun X => cell X a124 = some (.pointer x127)) rfl rfl (fun _ hX => l1 isAgg23 rfl hX) c126 (pv (v := (.pointer p0)) rfl rfl (fun _ => mv rfl) ?_)
  obtain ⟨a128, e129, h⟩ := h
  refine pv (v := (pp a128)) rfl rfl (fun _ => HVal.nilCheck (congrArg Value.pointer e129)) (pv (v := (pp (Addr.add a128 1))) rfl rfl (fun _ => fa runUnderlying101 rfl rfl sizeOf98 rfl) ?_)
  obtain ⟨x131, c130, h⟩ := h
  refine pl (v := (.pointer x131)) (fun X => cell X (Addr.add a128 1) = some (.pointer x131)) rfl rfl (fun _ hX => l1 isAgg98 rfl hX) c130 ?_
  refine po rfl rfl (HOp.call' 18 [(.pointer x127)] (cap := []) rfl rfl call18 (walk18 h)) ?_
  rintro _ H132 ⟨r134, rfl, h⟩
  obtain ⟨s135, h⟩ := h
  refine ⟨SC_of ⟨fun _ => s135, nofun, trivial⟩, ?_⟩
  refine po rfl rfl (HOp.call' 45 [(.pointer x131)] (cap := []) rfl rfl call45 (walk45 h)) ?_
  rintro _ H136 ⟨r138, rfl, h⟩
  refine ⟨SC_of ⟨nofun, nofun, trivial⟩, ?_⟩
  refine po rfl rfl (HOp.call' 44 [(Sl.v r134), (Sl.v r138)] (cap := []) rfl rfl call44 (walk44 h)) ?_
  rintro _ H139 ⟨r141, rfl, h⟩
  refine ⟨SC_of ⟨nofun, nofun, trivial⟩, ?_⟩
  refine pv (v := (bv r141)) rfl rfl (fun _ => av rfl) (HPlan.done (nt (HW.ret (br (tr ?_)))))
  exact ⟨_, resOf1 rfl Res1.t, ⟨r141, rfl, h⟩⟩
 have h := hF hb123
 refine ws (wr_ (hv (v := (bv (decide (x4 = 4)))) rfl (HVal.eqlI rfl rfl) (hv (v := (bv (decide (x4 = 4)))) rfl (av rfl) ?_)))
 refine hn (nt ?_)
 obtain ⟨hT, hF⟩ := h
 refine wk (decide (x4 = 4)) rfl (fun hb142 => ?_) (fun hb142 => ?_)
 ·have h := hT hb142
  refine ws (HW.draw mixed [(0, some []), (1, some []), (2, some []), (3, some [11]), (4, some []), (5, some []), (6, some []), (7, some [10]), (8, some []), (9, some [10]), (10, none), (11, none), (12, some [])] rfl (by kernel_rfl) (by kernel_rfl) ?_)
  refine pv (v := (.pointer p0)) rfl rfl (fun _ => mv rfl) ?_
  obtain ⟨a143, e144, h⟩ := h
  refine pv (v := (pp a143)) rfl rfl (fun _ => HVal.nilCheck (congrArg Value.pointer e144)) (pv (v := (pp a143)) rfl rfl (fun _ => HVal.fieldAddr0 runUnderlying101 rfl rfl sizeOf23 rfl) ?_)
  obtain ⟨x146, c145, h⟩ := h
  refine pl (v := (.pointer x146)) (fun X => cell X a143 = some (.pointer x146)) rfl rfl (fun _ hX => l1 isAgg23 rfl hX) c145 (pv (v := (.pointer p0)) rfl rfl (fun _ => mv rfl) ?_)
  obtain ⟨a147, e148, h⟩ := h
  refine pv (v := (pp a147)) rfl rfl (fun _ => HVal.nilCheck (congrArg Value.pointer e148)) (pv (v := (pp (Addr.add a147 2))) rfl rfl (fun _ => fa runUnderlying101 rfl rfl sizeOf58 rfl) ?_)
  obtain ⟨x150, c149, h⟩ := h
  refine pl (v := (.pointer x150)) (fun X => cell X (Addr.add a147 2) = some (.pointer x150)) rfl rfl (fun _ hX => l1 isAgg58 rfl hX) c149 ?_
  refine pv (v := (pp (Addr.add (bk H) 5))) rfl rfl (fun _ => fa runUnderlying65 rfl rfl sizeOf33 rfl) ?_
  obtain ⟨x152, x153, x154, c151, h⟩ := h
  refine pl (v := (.agg (tR x152 x153 x154).toArray)) (fun X => cells X (Addr.add (bk H) 5) (tR x152 x153 x154) 0) rfl rfl (fun _ hX => ln (tR x152 x153 x154) isAgg33 sizeOf33 rfl hX) c151 ?_
  refine po rfl rfl (HOp.call' 46 [(.pointer x150), (.agg (tR x152 x153 x154).toArray)] (cap := []) rfl rfl call46 (walk46 h)) ?_
  rintro _ H155 ⟨r157, r158, r159, rfl, h⟩
  obtain ⟨s160, h⟩ := h
  refine ⟨SC_of ⟨nofun, nofun, fun _ => s160, trivial⟩, ?_⟩
  refine po rfl rfl (HOp.call' 11 [(.pointer x146), (.agg (tR r157 r158 r159).toArray)] (cap := []) rfl rfl call11 (walk11 h)) ?_
  rintro _ H161 ⟨r163, rfl, h⟩
  refine ⟨SC_of ⟨nofun, nofun, nofun, trivial⟩, ?_⟩
  refine pv (v := (iv r163)) rfl rfl (fun _ => av rfl) (HPlan.done (nt (ws (HW.draw mixed [(0, some []), (1, some []), (2, some []), (3, some [6]), (4, some []), (5, some [6]), (6, none), (7, some [])] rfl (by kernel_rfl) (by kernel_rfl) ?_))))
  refine pv (v := (.pointer p0)) rfl rfl (fun _ => mv rfl) ?_
  obtain ⟨a164, e165, h⟩ := h
  refine pv (v := (pp a164)) rfl rfl (fun _ => HVal.nilCheck (congrArg Value.pointer e165)) (pv (v := (pp (Addr.add a164 1))) rfl rfl (fun _ => fa runUnderlying101 rfl rfl sizeOf98 rfl) ?_)
  obtain ⟨x167, c166, h⟩ := h
  refine pl (v := (.pointer x167)) (fun X => cell X (Addr.add a164 1) = some (.pointer x167)) rfl rfl (fun _ hX => l1 isAgg98 rfl hX) c166 ?_
  refine pv (v := (pp (Addr.add (bk H) 5))) rfl rfl (fun _ => fa runUnderlying65 rfl rfl sizeOf33 rfl) ?_
  obtain ⟨x169, x170, x171, c168, h⟩ := h
  refine pl (v := (.agg (tR x169 x170 x171).toArray)) (fun X => cells X (Addr.add (bk H) 5) (tR x169 x170 x171) 0) rfl rfl (fun _ hX => ln (tR x169 x170 x171) isAgg33 sizeOf33 rfl hX) c168 ?_
  refine po rfl rfl (HOp.call' 47 [(.pointer x167), (.agg (tR x169 x170 x171).toArray)] (cap := []) rfl rfl call47 (walk47 h)) ?_
  rintro _ H172 ⟨r174, rfl, h⟩
  refine ⟨SC_of ⟨nofun, nofun, trivial⟩, ?_⟩
  refine pv (v := (iv r174)) rfl rfl (fun _ => av rfl) (HPlan.done (nt (ws (HW.draw mixed [(0, some []), (1, some []), (2, some []), (3, some [6]), (4, some []), (5, some [6]), (6, none), (7, some [])] rfl (by kernel_rfl) (by kernel_rfl) ?_))))
  refine pv (v := (.pointer p0)) rfl rfl (fun _ => mv rfl) ?_
  obtain ⟨a175, e176, h⟩ := h
  refine pv (v := (pp a175)) rfl rfl (fun _ => HVal.nilCheck (congrArg Value.pointer e176)) (pv (v := (pp (Addr.add a175 2))) rfl rfl (fun _ => fa runUnderlying101 rfl rfl sizeOf58 rfl) ?_)
  obtain ⟨x178, c177, h⟩ := h
  refine pl (v := (.pointer x178)) (fun X => cell X (Addr.add a175 2) = some (.pointer x178)) rfl rfl (fun _ hX => l1 isAgg58 rfl hX) c177 ?_
  refine pv (v := (pp (Addr.add (bk H) 5))) rfl rfl (fun _ => fa runUnderlying65 rfl rfl sizeOf33 rfl) ?_
  obtain ⟨x180, x181, x182, c179, h⟩ := h
  refine pl (v := (.agg (tR x180 x181 x182).toArray)) (fun X => cells X (Addr.add (bk H) 5) (tR x180 x181 x182) 0) rfl rfl (fun _ hX => ln (tR x180 x181 x182) isAgg33 sizeOf33 rfl hX) c179 ?_
  refine po rfl rfl (HOp.call' 48 [(.pointer x178), (.agg (tR x180 x181 x182).toArray)] (cap := []) rfl rfl call48 (walk48 h)) ?_
  rintro _ H183 ⟨r185, rfl, h⟩
  refine ⟨SC_of ⟨nofun, nofun, trivial⟩, ?_⟩
  refine pv (v := (bv r185)) rfl rfl (fun _ => av rfl) (HPlan.done (nt (ws (wr_ (hv (v := (bv r185)) rfl (mv rfl) ?_)))))
  refine hv (v := (bv r185)) rfl (mv rfl) ?_
  obtain ⟨hT, hF⟩ := h
  rcases Bool.eq_false_or_eq_true r185 with hb186 | hb187
  ·have h := hT hb186
   refine hg (v := (iv r163)) rfl rfl rfl rfl (cB hb186) (mv rfl) (hg (v := (iv r174)) rfl rfl rfl rfl (cB hb186) (mv rfl) ?_)
   refine hg (v := (bv (decide (r163 = r174)))) rfl rfl rfl rfl (cB hb186) (HVal.eqlI rfl rfl) (hv (v := (bv (decide (r163 = r174)))) rfl (pt_ rfl hb186 rfl) ?_)
   refine hv (v := (bv (decide (r163 = r174)))) rfl (av rfl) (hn (nt (HW.ret (br (tr ?_)))))
   exact ⟨_, resOf1 rfl Res1.t, ⟨(decide (r163 = r174)), rfl, h⟩⟩
  have h := hF hb187
  refine hs_ rfl rfl rfl rfl (cB hb187) (hs_ rfl rfl rfl rfl (cB hb187) (hs_ rfl rfl rfl rfl (cB hb187) (hv (v := (bv false)) rfl (pf_ rfl hb187 rfl) ?_)))
  refine hv (v := (bv false)) rfl (av rfl) (hn (nt (HW.ret (br (tr ?_)))))
  exact ⟨_, resOf1 rfl Res1.t, ⟨false, rfl, h⟩⟩
 have h := hF hb142
 refine ws (wr_ (hv (v := (bv (decide (x4 = 5)))) rfl (HVal.eqlI rfl rfl) (hv (v := (bv (decide (x4 = 5)))) rfl (av rfl) ?_)))
 refine hn (nt ?_)
 obtain ⟨hT, hF⟩ := h
 refine wk (decide (x4 = 5)) rfl (fun hb188 => ?_) (fun hb188 => ?_)
 ·have h := hT hb188
  refine ws (HW.draw mixed [(0, some []), (1, some [2]), (3, some []), (4, some [5]), (2, none), (5, none), (6, some []), (7, some [])] rfl (by kernel_rfl) (by kernel_rfl) ?_)
  refine pv (v := (pp (Addr.add (bk H) 4))) rfl rfl (fun _ => fa runUnderlying65 rfl rfl sizeOf9 rfl) ?_
  obtain ⟨x190, c189, h⟩ := h
  refine pl (v := (sv x190)) (fun X => cell X (Addr.add (bk H) 4) = some (sv x190)) rfl rfl (fun _ hX => l1 isAgg9 rfl hX) c189 (pv (v := (pp (Addr.add (bk H) 4))) rfl rfl (fun _ => fa runUnderlying65 rfl rfl sizeOf9 rfl) ?_)
  obtain ⟨x192, c191, h⟩ := h
  refine pl (v := (sv x192)) (fun X => cell X (Addr.add (bk H) 4) = some (sv x192)) rfl rfl (fun _ hX => l1 isAgg9 rfl hX) c191 (po rfl rfl (HOp.call' 17 [(sv x190)] (cap := []) rfl rfl call17 (walk17 h)) ?_)
  rintro _ H193 ⟨r195, rfl, h⟩
  obtain ⟨s196, h⟩ := h
  refine ⟨SC_of ⟨fun _ => s196, nofun, trivial⟩, ?_⟩
  refine po rfl rfl (HOp.call' 49 [(sv x192)] (cap := []) rfl rfl call49 (walk49 h)) ?_
  rintro _ H197 ⟨r199, rfl, h⟩
  refine ⟨SC_of ⟨nofun, nofun, trivial⟩, ?_⟩
  refine pv (v := (bv (r195 == r199))) rfl rfl (fun _ => HVal.eqlB underlying4 rfl rfl) (pv (v := (bv (r195 == r199))) rfl rfl (fun _ => av rfl) ?_)
  refine HPlan.done (nt (HW.ret (br (tr ?_))))
  exact ⟨_, resOf1 rfl Res1.t, ⟨(r195 == r199), rfl, h⟩⟩
 have h := hF hb188
 refine ws (wr_ (hv (v := (bv (decide (x4 = 6)))) rfl (HVal.eqlI rfl rfl) (hv (v := (bv (decide (x4 = 6)))) rfl (av rfl) ?_)))
 refine hn (nt ?_)
 obtain ⟨hT, hF⟩ := h
 refine wk (decide (x4 = 6)) rfl (fun hb200 => ?_) (fun hb200 => ?_)
 ·have h := hT hb200
  refine ws (wr_ (hv (v := (pp (Addr.add (bk H) 4))) rfl (fa runUnderlying65 rfl rfl sizeOf9 rfl) ?_))
  obtain ⟨x202, c201, h⟩ := h
  refine hv (v := (sv x202)) rfl (l1 isAgg9 rfl c201) (ho rfl (HOp.call' 14 [(sv x202)] (cap := []) rfl rfl call14 (walk14 h)) ?_)
  rintro _ H203 ⟨r205, r206, r207, r208, rfl, h⟩
  refine hv (v := (.tuple #[(.agg #[(sv r205), (Sl.v r206)]), (iv r207), (iv r208)])) rfl (mv rfl) (hv (v := (.agg #[(sv r205), (Sl.v r206)])) rfl (HVal.extract rfl rfl) ?_)
  refine hv (v := (iv r207)) rfl (HVal.extract rfl rfl) (hv (v := (iv r208)) rfl (HVal.extract rfl rfl) (ho rfl (HOp.alloc zeroValue27) ?_))
  rintro _ H209 ⟨rfl, e210⟩
  replace h := h H209 e210
  obtain ⟨z213, h⟩ := h
  refine hq (HOp.storeN' (l := [(sv r205), (Sl.v r206)]) sizeOf27 rfl rfl rfl z213) ?_
  rintro _ H211 e212
  replace h := h H211 e212
  refine hv (v := (iv r207)) rfl (av rfl) (hv (v := (iv r208)) rfl (av rfl) (hn (nt (ws (wr_ (hv (v := (pp (Addr.add (bk H) 4))) rfl (fa runUnderlying65 rfl rfl sizeOf9 rfl) ?_))))))
  obtain ⟨x215, c214, h⟩ := h
  refine hv (v := (sv x215)) rfl (l1 isAgg9 rfl c214) (ho rfl (HOp.call' 50 [(sv x215)] (cap := []) rfl rfl call50 (walk50 h)) ?_)
  rintro _ H216 ⟨r218, r219, r220, r221, rfl, h⟩
  refine hv (v := (.tuple #[(.agg #[(sv r218), (Sl.v r219)]), (iv r220), (iv r221)])) rfl (mv rfl) (hv (v := (.agg #[(sv r218), (Sl.v r219)])) rfl (HVal.extract rfl rfl) ?_)
  refine hv (v := (iv r220)) rfl (HVal.extract rfl rfl) (hv (v := (iv r221)) rfl (HVal.extract rfl rfl) (ho rfl (HOp.alloc zeroValue27) ?_))
  rintro _ H222 ⟨rfl, e223⟩
  replace h := h H222 e223
  obtain ⟨z226, h⟩ := h
  refine hq (HOp.storeN' (l := [(sv r218), (Sl.v r219)]) sizeOf27 rfl rfl rfl z226) ?_
  rintro _ H224 e225
  replace h := h H224 e225
  refine hv (v := (iv r220)) rfl (av rfl) (hv (v := (iv r221)) rfl (av rfl) (hn (nt (ws (wr_ (hv (v := (iv r208)) rfl (mv rfl) ?_))))))
  refine hv (v := (iv r221)) rfl (mv rfl) (hv (v := (bv (decide (r208 = r221)))) rfl (HVal.eqlI rfl rfl) (hv (v := (bv (decide (r208 = r221)))) rfl (mv rfl) ?_))
  obtain ⟨hT, hF⟩ := h
  rcases Bool.eq_false_or_eq_true (decide (r208 = r221)) with hb227 | hb228
  ·have h := hT hb227
   refine hg (v := (iv r207)) rfl rfl rfl rfl (cB hb227) (mv rfl) (hg (v := (iv r220)) rfl rfl rfl rfl (cB hb227) (mv rfl) ?_)
   refine hg (v := (bv (decide (r207 = r220)))) rfl rfl rfl rfl (cB hb227) (HVal.eqlI rfl rfl) (hv (v := (bv (decide (r207 = r220)))) rfl (pt_ rfl hb227 rfl) ?_)
   refine hv (v := (bv (decide (r207 = r220)))) rfl (mv rfl) ?_
   obtain ⟨hT, hF⟩ := h
   rcases Bool.eq_false_or_eq_true (decide (r207 = r220)) with hb229 | hb230
   ·have h := hT hb229
    obtain ⟨x232, x233, c231, h⟩ := h
    refine hg (v := (.agg #[(sv x232), (Sl.v x233)])) rfl rfl rfl rfl (cB hb229) (ln [(sv x232), (Sl.v x233)] isAgg27 sizeOf27 rfl c231) ?_
    obtain ⟨x235, x236, c234, h⟩ := h
    refine hg (v := (.agg #[(sv x235), (Sl.v x236)])) rfl rfl rfl rfl (cB hb229) (ln [(sv x235), (Sl.v x236)] isAgg27 sizeOf27 rfl c234) ?_
    refine HList.gops rfl rfl rfl rfl (cB hb229) (HOp.call' 15 [(.agg #[(sv x232), (Sl.v x233)]), (.agg #[(sv x235), (Sl.v x236)])] (cap := []) rfl rfl call15 (walk15 h)) ?_
    rintro _ H237 ⟨r239, rfl, h⟩
    refine hv (v := (bv r239)) rfl (pt_ rfl hb229 rfl) (hv (v := (bv r239)) rfl (av rfl) (hn (nt (HW.ret (br (tr ?_))))))
    exact ⟨_, resOf1 rfl Res1.t, ⟨r239, rfl, h⟩⟩
   have h := hF hb230
   refine hs_ rfl rfl rfl rfl (cB hb230) (hs_ rfl rfl rfl rfl (cB hb230) (hs_ rfl rfl rfl rfl (cB hb230) (hv (v := (bv false)) rfl (pf_ rfl hb230 rfl) ?_)))
   refine hv (v := (bv false)) rfl (av rfl) (hn (nt (HW.ret (br (tr ?_)))))
   exact ⟨_, resOf1 rfl Res1.t, ⟨false, rfl, h⟩⟩
  have h := hF hb228
  refine hs_ rfl rfl rfl rfl (cB hb228) (hs_ rfl rfl rfl rfl (cB hb228) (hs_ rfl rfl rfl rfl (cB hb228) (hv (v := (bv false)) rfl (pf_ rfl hb228 rfl) ?_)))
  refine hv (v := (bv false)) rfl (mv rfl) (hs_ rfl rfl rfl rfl rfl (hs_ rfl rfl rfl rfl rfl (hs_ rfl rfl rfl rfl rfl ?_)))
  refine hv (v := (bv false)) rfl (pf_ rfl rfl rfl) (hv (v := (bv false)) rfl (av rfl) (hn (nt (HW.ret (br (tr ?_))))))
  exact ⟨_, resOf1 rfl Res1.t, ⟨false, rfl, h⟩⟩
 have h := hF hb200
 refine ws (wr_ (hv (v := (bv (decide (x4 = 7)))) rfl (HVal.eqlI rfl rfl) (hv (v := (bv (decide (x4 = 7)))) rfl (av rfl) ?_)))
 refine hn (nt ?_)
 obtain ⟨hT, hF⟩ := h
 refine wk (decide (x4 = 7)) rfl (fun hb240 => ?_) (fun hb240 => ?_)
 ·have h := hT hb240
  refine ws (HW.draw mixed [(0, some []), (1, some []), (2, some []), (3, some [6]), (4, some []), (5, some [6]), (6, none), (7, none), (8, some []), (9, some []), (10, some []), (11, some []), (12, some [])] rfl (by kernel_rfl) (by kernel_rfl) ?_)
  refine pv (v := (.pointer p0)) rfl rfl (fun _ => mv rfl) ?_
  obtain ⟨a241, e242, h⟩ := h
  refine pv (v := (pp a241)) rfl rfl (fun _ => HVal.nilCheck (congrArg Value.pointer e242)) (pv (v := (pp (Addr.add a241 2))) rfl rfl (fun _ => fa runUnderlying101 rfl rfl sizeOf58 rfl) ?_)
  obtain ⟨x244, c243, h⟩ := h
  refine pl (v := (.pointer x244)) (fun X => cell X (Addr.add a241 2) = some (.pointer x244)) rfl rfl (fun _ hX => l1 isAgg58 rfl hX) c243 ?_
  refine pv (v := (pp (Addr.add (bk H) 2))) rfl rfl (fun _ => fa runUnderlying65 rfl rfl sizeOf27 rfl) ?_
  obtain ⟨x246, x247, c245, h⟩ := h
  refine pl (v := (.agg #[(sv x246), (Sl.v x247)])) (fun X => cells X (Addr.add (bk H) 2) [(sv x246), (Sl.v x247)] 0) rfl rfl (fun _ hX => ln [(sv x246), (Sl.v x247)] isAgg27 sizeOf27 rfl hX) c245 ?_
  refine po rfl rfl (HOp.call' 39 [(.pointer x244), (.agg #[(sv x246), (Sl.v x247)])] (cap := []) rfl rfl call39 (walk39 h)) ?_
  rintro _ H248 ⟨r250, r251, rfl, h⟩
  refine ⟨SC_of ⟨nofun, nofun, trivial⟩, ?_⟩
  refine po rfl rfl (HOp.call' 13 [(.agg #[(sv r250), (Sl.v r251)])] (cap := []) rfl rfl call13 (walk13 h)) ?_
  rintro _ H252 ⟨r254, r255, rfl, h⟩
  refine ⟨SC_of ⟨nofun, nofun, trivial⟩, ?_⟩
  refine pv (v := (.tuple #[(sv r254), (iv r255)])) rfl rfl (fun _ => mv rfl) (pv (v := (sv r254)) rfl rfl (fun _ => HVal.extract rfl rfl) ?_)
  refine pv (v := (iv r255)) rfl rfl (fun _ => HVal.extract rfl rfl) (pv (v := (sv r254)) rfl rfl (fun _ => av rfl) (pv (v := (iv r255)) rfl rfl (fun _ => av rfl) ?_))
  refine HPlan.done (nt (ws (wr_ (hv (v := (pp (Addr.add (bk H) 2))) rfl (fa runUnderlying65 rfl rfl sizeOf27 rfl) ?_))))
  obtain ⟨x257, x258, c256, h⟩ := h
  refine hv (v := (.agg #[(sv x257), (Sl.v x258)])) rfl (ln [(sv x257), (Sl.v x258)] isAgg27 sizeOf27 rfl c256) (ho rfl (HOp.call' 51 [(.agg #[(sv x257), (Sl.v x258)])] (cap := []) rfl rfl call51 (walk51 h)) ?_)
  rintro _ H259 ⟨r261, r262, rfl, h⟩
  refine hv (v := (.tuple #[(sv r261), (iv r262)])) rfl (mv rfl) (hv (v := (sv r261)) rfl (HVal.extract rfl rfl) (hv (v := (iv r262)) rfl (HVal.extract rfl rfl) ?_))
  refine hv (v := (sv r261)) rfl (av rfl) (hv (v := (iv r262)) rfl (av rfl) (hn (nt (ws (HW.draw mixed [(0, some []), (1, some []), (2, some []), (3, some [6]), (4, some []), (5, some [6]), (6, none), (7, some [])] rfl (by kernel_rfl) (by kernel_rfl) ?_)))))
  refine pv (v := (.pointer p0)) rfl rfl (fun _ => mv rfl) ?_
  obtain ⟨a263, e264, h⟩ := h
  refine pv (v := (pp a263)) rfl rfl (fun _ => HVal.nilCheck (congrArg Value.pointer e264)) (pv (v := (pp (Addr.add a263 2))) rfl rfl (fun _ => fa runUnderlying101 rfl rfl sizeOf58 rfl) ?_)
  obtain ⟨x266, c265, h⟩ := h
  refine pl (v := (.pointer x266)) (fun X => cell X (Addr.add a263 2) = some (.pointer x266)) rfl rfl (fun _ hX => l1 isAgg58 rfl hX) c265 ?_
  refine pv (v := (pp (Addr.add (bk H) 2))) rfl rfl (fun _ => fa runUnderlying65 rfl rfl sizeOf27 rfl) ?_
  obtain ⟨x268, x269, c267, h⟩ := h
  refine pl (v := (.agg #[(sv x268), (Sl.v x269)])) (fun X => cells X (Addr.add (bk H) 2) [(sv x268), (Sl.v x269)] 0) rfl rfl (fun _ hX => ln [(sv x268), (Sl.v x269)] isAgg27 sizeOf27 rfl hX) c267 ?_
  refine po rfl rfl (HOp.call' 41 [(.pointer x266), (.agg #[(sv x268), (Sl.v x269)])] (cap := []) rfl rfl call41 (walk41 h)) ?_
  rintro _ H270 ⟨r272, rfl, h⟩
  refine ⟨SC_of ⟨nofun, nofun, trivial⟩, ?_⟩
  refine pv (v := (bv r272)) rfl rfl (fun _ => av rfl) (HPlan.done (nt (ws (wr_ (hv (v := (bv r272)) rfl (mv rfl) ?_)))))
  refine hv (v := (bv r272)) rfl (mv rfl) ?_
  obtain ⟨hT, hF⟩ := h
  rcases Bool.eq_false_or_eq_true r272 with hb273 | hb274
  ·have h := hT hb273
   refine hg (v := (iv r255)) rfl rfl rfl rfl (cB hb273) (mv rfl) (hg (v := (iv r262)) rfl rfl rfl rfl (cB hb273) (mv rfl) ?_)
   refine hg (v := (bv (decide (r255 = r262)))) rfl rfl rfl rfl (cB hb273) (HVal.eqlI rfl rfl) (hv (v := (bv (decide (r255 = r262)))) rfl (pt_ rfl hb273 rfl) ?_)
   refine hv (v := (bv (decide (r255 = r262)))) rfl (mv rfl) ?_
   obtain ⟨hT, hF⟩ := h
   rcases Bool.eq_false_or_eq_true (decide (r255 = r262)) with hb275 | hb276
   ·have h := hT hb275
    refine hg (v := (sv r254)) rfl rfl rfl rfl (cB hb275) (mv rfl) (hg (v := (sv r261)) rfl rfl rfl rfl (cB hb275) (mv rfl) ?_)
    refine hg (v := (bv (seq r254 r261))) rfl rfl rfl rfl (cB hb275) (HVal.eqlS rfl rfl) (hv (v := (bv (seq r254 r261))) rfl (pt_ rfl hb275 rfl) ?_)
    refine hv (v := (bv (seq r254 r261))) rfl (av rfl) (hn (nt (HW.ret (br (tr ?_)))))
    exact ⟨_, resOf1 rfl Res1.t, ⟨(seq r254 r261), rfl, h⟩⟩
   have h := hF hb276
   refine hs_ rfl rfl rfl rfl (cB hb276) (hs_ rfl rfl rfl rfl (cB hb276) (hs_ rfl rfl rfl rfl (cB hb276) (hv (v := (bv false)) rfl (pf_ rfl hb276 rfl) ?_)))
   refine hv (v := (bv false)) rfl (av rfl) (hn (nt (HW.ret (br (tr ?_)))))
   exact ⟨_, resOf1 rfl Res1.t, ⟨false, rfl, h⟩⟩
  have h := hF hb274
  refine hs_ rfl rfl rfl rfl (cB hb274) (hs_ rfl rfl rfl rfl (cB hb274) (hs_ rfl rfl rfl rfl (cB hb274) (hv (v := (bv false)) rfl (pf_ rfl hb274 rfl) ?_)))
  refine hv (v := (bv false)) rfl (mv rfl) (hs_ rfl rfl rfl rfl rfl (hs_ rfl rfl rfl rfl rfl (hs_ rfl rfl rfl rfl rfl ?_)))
  refine hv (v := (bv false)) rfl (pf_ rfl rfl rfl) (hv (v := (bv false)) rfl (av rfl) (hn (nt (HW.ret (br (tr ?_))))))
  exact ⟨_, resOf1 rfl Res1.t, ⟨false, rfl, h⟩⟩
 have h := hF hb240
 refine wp_ (nb (nt (ws (wr_ (hv (v := (bv true)) rfl (av rfl) (hn (nt (HW.ret ?_))))))))
 exact ⟨_, resOf1 rfl Res1.t, ⟨true, rfl, h⟩⟩

end Go.Hw
