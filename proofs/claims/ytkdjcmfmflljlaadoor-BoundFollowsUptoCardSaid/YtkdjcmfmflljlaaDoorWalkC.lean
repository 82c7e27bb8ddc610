/- The walks of this seat, printed by a program of this session (wip/tools/gen.py): of each function what it does to the heap, and that it does so. -/
import Derived.Test.YtkdjcmfmflljlaaDoorHwZ
import Derived.Test.YtkdjcmfmflljlaaDoorProg
import Derived.Test.YtkdjcmfmflljlaaDoorWAux
import Derived.Test.YtkdjcmfmflljlaaDoorWalkB
set_option linter.unusedVariables false
set_option linter.unusedSimpArgs false
set_option maxRecDepth 100000
set_option maxHeartbeats 4000000
namespace Go.Hw
open Go Go.Proofs Tryd
def F37_2 (Q : Int → Hp → Prop) (y7 : Int) (y8 : Sl) (H_2 : Hp) : Prop :=
(0 : Int) ≤ y7 ∧ y7 < ((14 : Nat) : Int) ∧ (
 ∃ x41 : Int, cell H_2 (Addr.add ⟨0, 0, none⟩ (y7.toNat * 1)) = some (iv x41) ∧ (
 F54 x41 y8 H_2 (fun (r44 : Bool) (H42 : Hp) => 
 ((!r44) = true → (Q 10 H42)) ∧
 ((!r44) = false → (Q 0 H42)))))
def F37_L3b (Q X3 : Int → Hp → Prop) (y10 : Int) (y11 y12 : Sl) (y13 y9 : Int) (H_3 : Hp) : Prop :=
((decide (y9 < y13)) = true → (∃ a15 : Addr, (y12).b = some a15 ∧ (0 : Int) ≤ y9 ∧ y9 < ((y12).n : Int) ∧ (
 ∃ (x20 x21 : Int) (x22 : ByteArray) (x23 : Bool), cells H_3 (Addr.add a15 (y9.toNat * 4)) (vR x20 x21 x22 x23) 0 ∧ (
 ∀ H24 : Hp, H24 = Array.push H_3 (.cells (vR 0 0 bE false).toArray 25) → (
 mayw H24 (bk H_3) 4 0 ∧ ∀ H26 : Hp, H26 = sets H24 (bk H_3) (vR x20 x21 x22 x23) 0 → (
 ∃ (x30 x31 : Int) (x32 : ByteArray) (x33 : Bool), cells H26 (bk H_3) (vR x30 x31 x32 x33) 0 ∧ (
 F13 x30 x31 x32 x33 H26 (fun (r36 : Bool) (H34 : Hp) => 
 ((!r36) = true → (Q 12 H34)) ∧
 ((!r36) = false → (X3 (IntKind.i64.wrap (y9 + 1)) H34)))))))))) ∧
 ((decide (y9 < y13)) = false → (F37_2 Q y10 y11 H_3))
def F37_L3 (Q : Int → Hp → Prop) (y10 : Int) (y11 y12 : Sl) (y13 y9 : Int) (H_3 : Hp) : Prop :=
 ∀ X3 : Int → Hp → Prop, (∀ (y9 : Int) (H_3 : Hp), F37_L3b Q X3 y10 y11 y12 y13 y9 H_3 → X3 y9 H_3) → X3 y9 H_3
def F37_1 (Q : Int → Hp → Prop) (y1 : Int) (y2 : Sl) (y5 : Bool) (H_1 : Hp) : Prop :=
(y5 = true → (Q 11 H_1)) ∧
 (y5 = false → (F37_L3 Q y1 y2 y2 ((y2).n : Int) 0 H_1))
def F37 (p0 p1 p2 : Int) (p3 : Sl) (H : Hp) (Q : Int → Hp → Prop) : Prop :=
((decide (p0 < p1)) = true → (F37_1 Q p0 p3 true H)) ∧
 ((decide (p0 < p1)) = false → (F37_1 Q p0 p3 (decide (p2 < p0)) H))
theorem walk37 {w0 : World} {p0 p1 p2 : Int} {p3 : Sl} {H : Hp} {Q : Int → Hp → Prop} (h : F37 p0 p1 p2 p3 H Q) :
  Good prog w0 37 #[(iv p0), (iv p1), (iv p2), (Sl.v p3)] H (fun v H => ∃ (r0 : Int) , v = (iv r0) ∧ Q r0 H) := by
 unfold F37 at h
 refine Good.enter' (fn := f37) func37 rfl rfl rfl (ws (wr_ (hv (v := (iv 0)) rfl (av rfl) (hn (nt (ws ?_))))))
 refine wc (fun ρ H_1 => ∃ (y5 : Bool), Env.Is ρ [(0, (iv p0)), (3, (Sl.v p3)), (18, (bv y5))] ∧ F37_1 Q p0 p3 y5 H_1) ?_ ?_
 ·refine wr_ (hv (v := (iv p0)) rfl (mv rfl) (hv (v := (iv p1)) rfl (mv rfl) (hv (v := (bv (decide (p0 < p1)))) rfl (HVal.lss rfl rfl) ?_)))
  refine hv (v := (bv (decide (p0 < p1)))) rfl (mv rfl) ?_
  obtain ⟨hT, hF⟩ := h
  rcases Bool.eq_false_or_eq_true (decide (p0 < p1)) with hb3 | hb4
  ·have h := hT hb3
   refine hs_ rfl rfl rfl rfl (cB hb3) (hs_ rfl rfl rfl rfl (cB hb3) (hs_ rfl rfl rfl rfl (cB hb3) (hv (v := (bv true)) rfl (pt_ rfl hb3 rfl) ?_)))
   refine hn (nt ?_)
   exact ⟨true, (isp rfl), h⟩
  have h := hF hb4
  refine hg (v := (iv p0)) rfl rfl rfl rfl (cB hb4) (mv rfl) (hg (v := (iv p2)) rfl rfl rfl rfl (cB hb4) (mv rfl) (hg (v := (bv (decide (p2 < p0)))) rfl rfl rfl rfl (cB hb4) (HVal.gtr rfl rfl) ?_))
  refine hv (v := (bv (decide (p2 < p0)))) rfl (pf_ rfl hb4 rfl) (hn (nt ?_))
  exact ⟨(decide (p2 < p0)), (isp rfl), h⟩
 rintro ρ H_1 ⟨y5, hI, h⟩
 obtain ⟨ρ0, rfl⟩ := hI.ex
 clear hI; unfold F37_1 at h
 obtain ⟨hT, hF⟩ := h
 refine wk y5 rfl (fun hb6 => ?_) (fun hb6 => ?_)
 ·have h := hT hb6
  refine ws (wr_ (hv (v := (iv 11)) rfl (av rfl) (hn (nt (HW.ret (tr ?_))))))
  exact ⟨_, resOf1 rfl Res1.t, ⟨11, rfl, h⟩⟩
 have h := hF hb6
 refine wp_ (nt (wc (fun ρ H_2 => Env.Is ρ [(0, (iv p0)), (3, (Sl.v p3))] ∧ F37_2 Q p0 p3 H_2) ?_ ?_))
 ·refine ws (wr_ (hv (v := (Sl.v p3)) rfl (mv rfl) (hv (v := (iv ((p3).n : Int))) rfl (HVal.len runUnderlying71 rfl) ?_)))
  refine hv (v := (iv 0)) rfl (mv rfl) (hn (nt (wb (HW.loop' (fun L3 hL3 => ?_)))))
  obtain ⟨X3, hX3⟩ : ∃ X3 : Int → Hp → Prop, ∀ (y9 : Int) (H_3 : Hp), X3 y9 H_3 ↔ ∀ ρ, Env.Is ρ [(0, (iv p0)), (3, (Sl.v p3)), (19, (Sl.v p3)), (20, (iv ((p3).n : Int))), (21, (iv y9))] → L3 ρ H_3 := ⟨_, fun _ _ => Iff.rfl⟩
  refine (hX3 _ _).1 (h X3 ?_) _ ?_
  rotate_left
  ·exact (isp rfl)
  clear h
  intro y9 H_3 h
  refine (hX3 _ _).2 fun ρ hI => ?_
  obtain ⟨ρ0, rfl⟩ := hI.ex
  clear hI; unfold F37_L3b at h; refine hL3 _ _ ?_
  refine ws (wr_ (hv (v := (bv (decide (y9 < ((p3).n : Int))))) rfl (HVal.lss rfl rfl) (hn (nt (ws ?_)))))
  obtain ⟨hT, hF⟩ := h
  refine wk (decide (y9 < ((p3).n : Int))) rfl (fun hb14 => ?_) (fun hb14 => ?_)
  ·have h := hT hb14
   refine wp_ (nt (ws (wb (ws (wr_ ?_)))))
   obtain ⟨a15, e16, b17, b18, h⟩ := h
   refine hv (v := (pp (Addr.add a15 (y9.toNat * 4)))) rfl (ia runUnderlying71 sizeOf25 (Sl.v_some rfl e16) rfl b17 b18) ?_
   obtain ⟨x20, x21, x22, x23, c19, h⟩ := h
   refine hv (v := (.agg (vR x20 x21 x22 x23).toArray)) rfl (ln (vR x20 x21 x22 x23) isAgg25 sizeOf25 rfl c19) (ho rfl (HOp.alloc zeroValue25) ?_)
   rintro _ H24 ⟨rfl, e25⟩
   replace h := h H24 e25
   obtain ⟨z28, h⟩ := h
   refine hq (HOp.storeN' (l := (vR x20 x21 x22 x23)) sizeOf25 rfl rfl rfl z28) ?_
   rintro _ H26 e27
   replace h := h H26 e27
   refine hn (nt (ws (wr_ ?_)))
   obtain ⟨x30, x31, x32, x33, c29, h⟩ := h
   refine hv (v := (.agg (vR x30 x31 x32 x33).toArray)) rfl (ln (vR x30 x31 x32 x33) isAgg25 sizeOf25 rfl c29) (ho rfl (HOp.call' 13 [(.agg (vR x30 x31 x32 x33).toArray)] (cap := []) rfl rfl call13 (walk13 h)) ?_)
   rintro _ H34 ⟨r36, rfl, h⟩
   refine hv (v := (bv (!r36))) rfl (HVal.not rfl) (hn (nt ?_))
   obtain ⟨hT, hF⟩ := h
   refine wk (!r36) rfl (fun hb37 => ?_) (fun hb37 => ?_)
   ·have h := hT hb37
    refine ws (wr_ (hv (v := (iv 12)) rfl (av rfl) (hn (nt (HW.ret (br (tr (tr (br (tr ?_))))))))))
    exact ⟨_, resOf1 rfl Res1.t, ⟨12, rfl, h⟩⟩
   have h := hF hb37
   refine wp_ (nb (nt (wr_ (hv (v := (iv (IntKind.i64.wrap (y9 + 1)))) rfl (HVal.add rfl rfl) (hv (v := (iv (IntKind.i64.wrap (y9 + 1)))) rfl (mv rfl) ?_)))))
   refine hn (nt ?_)
   exact (hX3 _ _).1 h _ (isp rfl)
  have h := hF hb14
  refine we (te (te (be (nt ?_))))
  exact ⟨(isp rfl), h⟩
 rintro ρ H_2 ⟨hI, h⟩
 obtain ⟨ρ0, rfl⟩ := hI.ex
 clear hI; unfold F37_2 at h
 refine ws (ws (wr_ (hv (v := (iv p0)) rfl (mv rfl) ?_)))
 obtain ⟨b38, b39, h⟩ := h
 refine hv (v := (pp (Addr.add ⟨0, 0, none⟩ (p0.toNat * 1)))) rfl (HVal.indexAddrA runUnderlying113 sizeOf3 rfl rfl b38 b39) ?_
 obtain ⟨x41, c40, h⟩ := h
 refine hv (v := (iv x41)) rfl (l1 isAgg3 rfl c40) (hv (v := (Sl.v p3)) rfl (mv rfl) (ho rfl (HOp.call' 54 [(iv x41), (Sl.v p3)] (cap := []) rfl rfl call54 (walk54 h)) ?_))
 rintro _ H42 ⟨r44, rfl, h⟩
 refine hv (v := (bv (!r44))) rfl (HVal.not rfl) (hn (nt ?_))
 obtain ⟨hT, hF⟩ := h
 refine wk (!r44) rfl (fun hb45 => ?_) (fun hb45 => ?_)
 ·have h := hT hb45
  refine ws (wr_ (hv (v := (iv 10)) rfl (av rfl) (hn (nt (HW.ret (tr ?_))))))
  exact ⟨_, resOf1 rfl Res1.t, ⟨10, rfl, h⟩⟩
 have h := hF hb45
 refine wp_ (nt (ws (wr_ (hv (v := (iv 0)) rfl (av rfl) (hn (nt (HW.ret ?_)))))))
 exact ⟨_, resOf1 rfl Res1.t, ⟨0, rfl, h⟩⟩

def F62_1 (Q : Int → Hp → Prop) (y1 : Int) (H_1 : Hp) : Prop :=
Q y1 H_1
def F62_L2b (Q X2 : Int → Hp → Prop) (y3 : Int) (y4 : Sl) (y5 y2 : Int) (H_2 : Hp) : Prop :=
((decide (y2 < y5)) = true → (∃ a7 : Addr, (y4).b = some a7 ∧ (0 : Int) ≤ y2 ∧ y2 < ((y4).n : Int) ∧ (
 ∃ x12 : Int, cell H_2 (Addr.add a7 (y2.toNat * 1)) = some (iv x12) ∧ (
 ((decide (x12 ≠ y3)) = true → (Q x12 H_2)) ∧
 ((decide (x12 ≠ y3)) = false → (X2 (IntKind.i64.wrap (y2 + 1)) H_2)))))) ∧
 ((decide (y2 < y5)) = false → (F62_1 Q y3 H_2))
def F62_L2 (Q : Int → Hp → Prop) (y3 : Int) (y4 : Sl) (y5 y2 : Int) (H_2 : Hp) : Prop :=
 ∀ X2 : Int → Hp → Prop, (∀ (y2 : Int) (H_2 : Hp), F62_L2b Q X2 y3 y4 y5 y2 H_2 → X2 y2 H_2) → X2 y2 H_2
def F62 (p0 : Sl) (H : Hp) (Q : Int → Hp → Prop) : Prop :=
F62_L2 Q 0 p0 ((p0).n : Int) 0 H
theorem walk62 {w0 : World} {p0 : Sl} {H : Hp} {Q : Int → Hp → Prop} (h : F62 p0 H Q) :
  Good prog w0 62 #[(Sl.v p0)] H (fun v H => ∃ (r0 : Int) , v = (iv r0) ∧ Q r0 H) := by
 unfold F62 at h
 refine Good.enter' (fn := f62) func62 rfl rfl rfl (ws (wr_ (hv (v := (iv 0)) rfl (av rfl) (hn (nt (ws ?_))))))
 refine wr_ (hv (v := (iv 0)) rfl (av rfl) (hn (nt (wc (fun ρ H_1 => Env.Is ρ [(3, (iv 0))] ∧ F62_1 Q 0 H_1) ?_ ?_))))
 ·refine ws (wr_ (hv (v := (Sl.v p0)) rfl (mv rfl) (hv (v := (iv ((p0).n : Int))) rfl (HVal.len runUnderlying47 rfl) ?_)))
  refine hv (v := (iv 0)) rfl (mv rfl) (hn (nt (wb (HW.loop' (fun L2 hL2 => ?_)))))
  obtain ⟨X2, hX2⟩ : ∃ X2 : Int → Hp → Prop, ∀ (y2 : Int) (H_2 : Hp), X2 y2 H_2 ↔ ∀ ρ, Env.Is ρ [(3, (iv 0)), (6, (Sl.v p0)), (7, (iv ((p0).n : Int))), (8, (iv y2))] → L2 ρ H_2 := ⟨_, fun _ _ => Iff.rfl⟩
  refine (hX2 _ _).1 (h X2 ?_) _ ?_
  rotate_left
  ·exact (isp rfl)
  clear h
  intro y2 H_2 h
  refine (hX2 _ _).2 fun ρ hI => ?_
  obtain ⟨ρ0, rfl⟩ := hI.ex
  clear hI; unfold F62_L2b at h; refine hL2 _ _ ?_
  refine ws (wr_ (hv (v := (bv (decide (y2 < ((p0).n : Int))))) rfl (HVal.lss rfl rfl) (hn (nt (ws ?_)))))
  obtain ⟨hT, hF⟩ := h
  refine wk (decide (y2 < ((p0).n : Int))) rfl (fun hb6 => ?_) (fun hb6 => ?_)
  ·have h := hT hb6
   refine wp_ (nt (ws (wb (ws (wr_ ?_)))))
   obtain ⟨a7, e8, b9, b10, h⟩ := h
   refine hv (v := (pp (Addr.add a7 (y2.toNat * 1)))) rfl (ia runUnderlying47 sizeOf3 (Sl.v_some rfl e8) rfl b9 b10) ?_
   obtain ⟨x12, c11, h⟩ := h
   refine hv (v := (iv x12)) rfl (l1 isAgg3 rfl c11) (hv (v := (iv x12)) rfl (av rfl) (hn (nt (ws (wr_ ?_)))))
   refine hv (v := (iv x12)) rfl (mv rfl) (hv (v := (iv 0)) rfl (mv rfl) (hv (v := (bv (decide (x12 ≠ 0)))) rfl (HVal.neqI rfl rfl) ?_))
   refine hn (nt ?_)
   obtain ⟨hT, hF⟩ := h
   refine wk (decide (x12 ≠ 0)) rfl (fun hb13 => ?_) (fun hb13 => ?_)
   ·have h := hT hb13
    refine ws (wr_ (hv (v := (iv x12)) rfl (mv rfl) (hv (v := (iv x12)) rfl (av rfl) (hn (nt (HW.ret ?_))))))
    refine br (tr (tr (br (tr ?_))))
    exact ⟨_, resOf1 rfl Res1.t, ⟨x12, rfl, h⟩⟩
   have h := hF hb13
   refine wp_ (nb (nt (wr_ (hv (v := (iv (IntKind.i64.wrap (y2 + 1)))) rfl (HVal.add rfl rfl) (hv (v := (iv (IntKind.i64.wrap (y2 + 1)))) rfl (mv rfl) ?_)))))
   refine hn (nt ?_)
   exact (hX2 _ _).1 h _ (isp rfl)
  have h := hF hb6
  refine we (te (te (be (nt ?_))))
  exact ⟨⟨rfl, trivial⟩, h⟩
 rintro ρ H_1 ⟨hI, h⟩
 obtain ⟨ρ0, rfl⟩ := hI.ex
 clear hI; unfold F62_1 at h
 refine ws (wr_ (hv (v := (iv 0)) rfl (mv rfl) (hv (v := (iv 0)) rfl (av rfl) (hn (nt (HW.ret ?_))))))
 exact ⟨_, resOf1 rfl Res1.t, ⟨0, rfl, h⟩⟩

def F67 (p0 : Int) (H : Hp) (Q : Bool → Hp → Prop) : Prop :=
Q (decide (p0 ≠ p0)) H
theorem walk67 {w0 : World} {p0 : Int} {H : Hp} {Q : Bool → Hp → Prop} (h : F67 p0 H Q) :
  Good prog w0 67 #[(iv p0)] H (fun v H => ∃ (r0 : Bool) , v = (bv r0) ∧ Q r0 H) := by
 unfold F67 at h
 refine Good.enter' (fn := f67) func67 rfl rfl rfl (ws (wr_ (hv (v := (bv false)) rfl (av rfl) (hn (nt (ws ?_))))))
 refine wr_ (hv (v := (iv p0)) rfl (mv rfl) (hv (v := (iv p0)) rfl (mv rfl) (hv (v := (bv (decide (p0 ≠ p0)))) rfl (HVal.neqI rfl rfl) ?_)))
 refine hv (v := (bv (decide (p0 ≠ p0)))) rfl (av rfl) (hn (nt (HW.ret ?_)))
 exact ⟨_, resOf1 rfl Res1.t, ⟨(decide (p0 ≠ p0)), rfl, h⟩⟩

def F63 (p0 p1 : Int) (H : Hp) (Q : Int → Hp → Prop) : Prop :=
F67 p0 H (fun (r3 : Bool) (H1 : Hp) => 
 F67 p1 H1 (fun (r6 : Bool) (H4 : Hp) => 
 (r3 = true → ((r6 = true → (Q 0 H4)) ∧
 (r6 = false → (Q (-1) H4)))) ∧
 (r3 = false → ((r6 = true → (Q 1 H4)) ∧
 (r6 = false → (((decide (p0 < p1)) = true → (Q (-1) H4)) ∧
 ((decide (p0 < p1)) = false → (((decide (p1 < p0)) = true → (Q 1 H4)) ∧
 ((decide (p1 < p0)) = false → (Q 0 H4))))))))))
theorem walk63 {w0 : World} {p0 p1 : Int} {H : Hp} {Q : Int → Hp → Prop} (h : F63 p0 p1 H Q) :
  Good prog w0 63 #[(iv p0), (iv p1)] H (fun v H => ∃ (r0 : Int) , v = (iv r0) ∧ Q r0 H) := by
 unfold F63 at h
 refine Good.enter' (fn := f63) func63 rfl rfl rfl (ws (wr_ (hv (v := (iv 0)) rfl (av rfl) (hn (nt (ws ?_))))))
 refine wr_ (hv (v := (iv p0)) rfl (mv rfl) (ho rfl (HOp.call' 67 [(iv p0)] (cap := []) rfl rfl call67 (walk67 h)) ?_))
 rintro _ H1 ⟨r3, rfl, h⟩
 refine hv (v := (bv r3)) rfl (av rfl) (hn (nt (ws (wr_ (hv (v := (iv p1)) rfl (mv rfl) (ho rfl (HOp.call' 67 [(iv p1)] (cap := []) rfl rfl call67 (walk67 h)) ?_))))))
 rintro _ H4 ⟨r6, rfl, h⟩
 refine hv (v := (bv r6)) rfl (av rfl) (hn (nt (ws (ws (wr_ (hv (v := (bv r3)) rfl (mv rfl) (hn (nt ?_))))))))
 obtain ⟨hT, hF⟩ := h
 refine wk r3 rfl (fun hb7 => ?_) (fun hb7 => ?_)
 ·have h := hT hb7
  refine ws (ws (wr_ (hv (v := (bv r6)) rfl (mv rfl) (hn (nt ?_)))))
  obtain ⟨hT, hF⟩ := h
  refine wk r6 rfl (fun hb8 => ?_) (fun hb8 => ?_)
  ·have h := hT hb8
   refine ws (wr_ (hv (v := (iv 0)) rfl (av rfl) (hn (nt (HW.ret (tr (tr ?_)))))))
   exact ⟨_, resOf1 rfl Res1.t, ⟨0, rfl, h⟩⟩
  have h := hF hb8
  refine wp_ (nt (ws (wr_ (hv (v := (iv (-1))) rfl (av rfl) (hn (nt (HW.ret (tr ?_))))))))
  exact ⟨_, resOf1 rfl Res1.t, ⟨(-1), rfl, h⟩⟩
 have h := hF hb7
 refine wp_ (nt (ws (ws (wr_ (hv (v := (bv r6)) rfl (mv rfl) (hn (nt ?_)))))))
 obtain ⟨hT, hF⟩ := h
 refine wk r6 rfl (fun hb9 => ?_) (fun hb9 => ?_)
 ·have h := hT hb9
  refine ws (wr_ (hv (v := (iv 1)) rfl (av rfl) (hn (nt (HW.ret (tr ?_))))))
  exact ⟨_, resOf1 rfl Res1.t, ⟨1, rfl, h⟩⟩
 have h := hF hb9
 refine wp_ (nt (ws (ws (wr_ (hv (v := (iv p0)) rfl (mv rfl) (hv (v := (iv p1)) rfl (mv rfl) (hv (v := (bv (decide (p0 < p1)))) rfl (HVal.lss rfl rfl) ?_)))))))
 refine hn (nt ?_)
 obtain ⟨hT, hF⟩ := h
 refine wk (decide (p0 < p1)) rfl (fun hb10 => ?_) (fun hb10 => ?_)
 ·have h := hT hb10
  refine ws (wr_ (hv (v := (iv (-1))) rfl (av rfl) (hn (nt (HW.ret (tr ?_))))))
  exact ⟨_, resOf1 rfl Res1.t, ⟨(-1), rfl, h⟩⟩
 have h := hF hb10
 refine wp_ (nt (ws (ws (wr_ (hv (v := (iv p0)) rfl (mv rfl) (hv (v := (iv p1)) rfl (mv rfl) (hv (v := (bv (decide (p1 < p0)))) rfl (HVal.gtr rfl rfl) ?_)))))))
 refine hn (nt ?_)
 obtain ⟨hT, hF⟩ := h
 refine wk (decide (p1 < p0)) rfl (fun hb11 => ?_) (fun hb11 => ?_)
 ·have h := hT hb11
  refine ws (wr_ (hv (v := (iv 1)) rfl (av rfl) (hn (nt (HW.ret (tr ?_))))))
  exact ⟨_, resOf1 rfl Res1.t, ⟨1, rfl, h⟩⟩
 have h := hF hb11
 refine wp_ (nt (ws (wr_ (hv (v := (iv 0)) rfl (av rfl) (hn (nt (HW.ret ?_)))))))
 exact ⟨_, resOf1 rfl Res1.t, ⟨0, rfl, h⟩⟩

def F68 (p0 : Int) (H : Hp) (Q : Bool → Hp → Prop) : Prop :=
Q (decide (p0 ≠ p0)) H
theorem walk68 {w0 : World} {p0 : Int} {H : Hp} {Q : Bool → Hp → Prop} (h : F68 p0 H Q) :
  Good prog w0 68 #[(iv p0)] H (fun v H => ∃ (r0 : Bool) , v = (bv r0) ∧ Q r0 H) := by
 unfold F68 at h
 refine Good.enter' (fn := f68) func68 rfl rfl rfl (ws (wr_ (hv (v := (bv false)) rfl (av rfl) (hn (nt (ws ?_))))))
 refine wr_ (hv (v := (iv p0)) rfl (mv rfl) (hv (v := (iv p0)) rfl (mv rfl) (hv (v := (bv (decide (p0 ≠ p0)))) rfl (HVal.neqI rfl rfl) ?_)))
 refine hv (v := (bv (decide (p0 ≠ p0)))) rfl (av rfl) (hn (nt (HW.ret ?_)))
 exact ⟨_, resOf1 rfl Res1.t, ⟨(decide (p0 ≠ p0)), rfl, h⟩⟩

def F64 (p0 p1 : Int) (H : Hp) (Q : Int → Hp → Prop) : Prop :=
F68 p0 H (fun (r3 : Bool) (H1 : Hp) => 
 F68 p1 H1 (fun (r6 : Bool) (H4 : Hp) => 
 (r3 = true → ((r6 = true → (Q 0 H4)) ∧
 (r6 = false → (Q (-1) H4)))) ∧
 (r3 = false → ((r6 = true → (Q 1 H4)) ∧
 (r6 = false → (((decide (p0 < p1)) = true → (Q (-1) H4)) ∧
 ((decide (p0 < p1)) = false → (((decide (p1 < p0)) = true → (Q 1 H4)) ∧
 ((decide (p1 < p0)) = false → (Q 0 H4))))))))))
theorem walk64 {w0 : World} {p0 p1 : Int} {H : Hp} {Q : Int → Hp → Prop} (h : F64 p0 p1 H Q) :
  Good prog w0 64 #[(iv p0), (iv p1)] H (fun v H => ∃ (r0 : Int) , v = (iv r0) ∧ Q r0 H) := by
 unfold F64 at h
 refine Good.enter' (fn := f64) func64 rfl rfl rfl (ws (wr_ (hv (v := (iv 0)) rfl (av rfl) (hn (nt (ws ?_))))))
 refine wr_ (hv (v := (iv p0)) rfl (mv rfl) (ho rfl (HOp.call' 68 [(iv p0)] (cap := []) rfl rfl call68 (walk68 h)) ?_))
 rintro _ H1 ⟨r3, rfl, h⟩
 refine hv (v := (bv r3)) rfl (av rfl) (hn (nt (ws (wr_ (hv (v := (iv p1)) rfl (mv rfl) (ho rfl (HOp.call' 68 [(iv p1)] (cap := []) rfl rfl call68 (walk68 h)) ?_))))))
 rintro _ H4 ⟨r6, rfl, h⟩
 refine hv (v := (bv r6)) rfl (av rfl) (hn (nt (ws (ws (wr_ (hv (v := (bv r3)) rfl (mv rfl) (hn (nt ?_))))))))
 obtain ⟨hT, hF⟩ := h
 refine wk r3 rfl (fun hb7 => ?_) (fun hb7 => ?_)
 ·have h := hT hb7
  refine ws (ws (wr_ (hv (v := (bv r6)) rfl (mv rfl) (hn (nt ?_)))))
  obtain ⟨hT, hF⟩ := h
  refine wk r6 rfl (fun hb8 => ?_) (fun hb8 => ?_)
  ·have h := hT hb8
   refine ws (wr_ (hv (v := (iv 0)) rfl (av rfl) (hn (nt (HW.ret (tr (tr ?_)))))))
   exact ⟨_, resOf1 rfl Res1.t, ⟨0, rfl, h⟩⟩
  have h := hF hb8
  refine wp_ (nt (ws (wr_ (hv (v := (iv (-1))) rfl (av rfl) (hn (nt (HW.ret (tr ?_))))))))
  exact ⟨_, resOf1 rfl Res1.t, ⟨(-1), rfl, h⟩⟩
 have h := hF hb7
 refine wp_ (nt (ws (ws (wr_ (hv (v := (bv r6)) rfl (mv rfl) (hn (nt ?_)))))))
 obtain ⟨hT, hF⟩ := h
 refine wk r6 rfl (fun hb9 => ?_) (fun hb9 => ?_)
 ·have h := hT hb9
  refine ws (wr_ (hv (v := (iv 1)) rfl (av rfl) (hn (nt (HW.ret (tr ?_))))))
  exact ⟨_, resOf1 rfl Res1.t, ⟨1, rfl, h⟩⟩
 have h := hF hb9
 refine wp_ (nt (ws (ws (wr_ (hv (v := (iv p0)) rfl (mv rfl) (hv (v := (iv p1)) rfl (mv rfl) (hv (v := (bv (decide (p0 < p1)))) rfl (HVal.lss rfl rfl) ?_)))))))
 refine hn (nt ?_)
 obtain ⟨hT, hF⟩ := h
 refine wk (decide (p0 < p1)) rfl (fun hb10 => ?_) (fun hb10 => ?_)
 ·have h := hT hb10
  refine ws (wr_ (hv (v := (iv (-1))) rfl (av rfl) (hn (nt (HW.ret (tr ?_))))))
  exact ⟨_, resOf1 rfl Res1.t, ⟨(-1), rfl, h⟩⟩
 have h := hF hb10
 refine wp_ (nt (ws (ws (wr_ (hv (v := (iv p0)) rfl (mv rfl) (hv (v := (iv p1)) rfl (mv rfl) (hv (v := (bv (decide (p1 < p0)))) rfl (HVal.gtr rfl rfl) ?_)))))))
 refine hn (nt ?_)
 obtain ⟨hT, hF⟩ := h
 refine wk (decide (p1 < p0)) rfl (fun hb11 => ?_) (fun hb11 => ?_)
 ·have h := hT hb11
  refine ws (wr_ (hv (v := (iv 1)) rfl (av rfl) (hn (nt (HW.ret (tr ?_))))))
  exact ⟨_, resOf1 rfl Res1.t, ⟨1, rfl, h⟩⟩
 have h := hF hb11
 refine wp_ (nt (ws (wr_ (hv (v := (iv 0)) rfl (av rfl) (hn (nt (HW.ret ?_)))))))
 exact ⟨_, resOf1 rfl Res1.t, ⟨0, rfl, h⟩⟩

def F69 (p0 : ByteArray) (H : Hp) (Q : Bool → Hp → Prop) : Prop :=
Q (!(seq p0 p0)) H
theorem walk69 {w0 : World} {p0 : ByteArray} {H : Hp} {Q : Bool → Hp → Prop} (h : F69 p0 H Q) :
  Good prog w0 69 #[(sv p0)] H (fun v H => ∃ (r0 : Bool) , v = (bv r0) ∧ Q r0 H) := by
 unfold F69 at h
 refine Good.enter' (fn := f69) func69 rfl rfl rfl (ws (wr_ (hv (v := (bv false)) rfl (av rfl) (hn (nt (ws ?_))))))
 refine wr_ (hv (v := (sv p0)) rfl (mv rfl) (hv (v := (sv p0)) rfl (mv rfl) (hv (v := (bv (!(seq p0 p0)))) rfl (HVal.neqS rfl rfl) ?_)))
 refine hv (v := (bv (!(seq p0 p0)))) rfl (av rfl) (hn (nt (HW.ret ?_)))
 exact ⟨_, resOf1 rfl Res1.t, ⟨(!(seq p0 p0)), rfl, h⟩⟩

def F65 (p0 p1 : ByteArray) (H : Hp) (Q : Int → Hp → Prop) : Prop :=
F69 p0 H (fun (r3 : Bool) (H1 : Hp) => 
 F69 p1 H1 (fun (r6 : Bool) (H4 : Hp) => 
 (r3 = true → ((r6 = true → (Q 0 H4)) ∧
 (r6 = false → (Q (-1) H4)))) ∧
 (r3 = false → ((r6 = true → (Q 1 H4)) ∧
 (r6 = false → (((slt p0 p1) = true → (Q (-1) H4)) ∧
 ((slt p0 p1) = false → (((!(slt p0 p1) && !(seq p0 p1)) = true → (Q 1 H4)) ∧
 ((!(slt p0 p1) && !(seq p0 p1)) = false → (Q 0 H4))))))))))
theorem walk65 {w0 : World} {p0 p1 : ByteArray} {H : Hp} {Q : Int → Hp → Prop} (h : F65 p0 p1 H Q) :
  Good prog w0 65 #[(sv p0), (sv p1)] H (fun v H => ∃ (r0 : Int) , v = (iv r0) ∧ Q r0 H) := by
 unfold F65 at h
 refine Good.enter' (fn := f65) func65 rfl rfl rfl (ws (wr_ (hv (v := (iv 0)) rfl (av rfl) (hn (nt (ws ?_))))))
 refine wr_ (hv (v := (sv p0)) rfl (mv rfl) (ho rfl (HOp.call' 69 [(sv p0)] (cap := []) rfl rfl call69 (walk69 h)) ?_))
 rintro _ H1 ⟨r3, rfl, h⟩
 refine hv (v := (bv r3)) rfl (av rfl) (hn (nt (ws (wr_ (hv (v := (sv p1)) rfl (mv rfl) (ho rfl (HOp.call' 69 [(sv p1)] (cap := []) rfl rfl call69 (walk69 h)) ?_))))))
 rintro _ H4 ⟨r6, rfl, h⟩
 refine hv (v := (bv r6)) rfl (av rfl) (hn (nt (ws (ws (wr_ (hv (v := (bv r3)) rfl (mv rfl) (hn (nt ?_))))))))
 obtain ⟨hT, hF⟩ := h
 refine wk r3 rfl (fun hb7 => ?_) (fun hb7 => ?_)
 ·have h := hT hb7
  refine ws (ws (wr_ (hv (v := (bv r6)) rfl (mv rfl) (hn (nt ?_)))))
  obtain ⟨hT, hF⟩ := h
  refine wk r6 rfl (fun hb8 => ?_) (fun hb8 => ?_)
  ·have h := hT hb8
   refine ws (wr_ (hv (v := (iv 0)) rfl (av rfl) (hn (nt (HW.ret (tr (tr ?_)))))))
   exact ⟨_, resOf1 rfl Res1.t, ⟨0, rfl, h⟩⟩
  have h := hF hb8
  refine wp_ (nt (ws (wr_ (hv (v := (iv (-1))) rfl (av rfl) (hn (nt (HW.ret (tr ?_))))))))
  exact ⟨_, resOf1 rfl Res1.t, ⟨(-1), rfl, h⟩⟩
 have h := hF hb7
 refine wp_ (nt (ws (ws (wr_ (hv (v := (bv r6)) rfl (mv rfl) (hn (nt ?_)))))))
 obtain ⟨hT, hF⟩ := h
 refine wk r6 rfl (fun hb9 => ?_) (fun hb9 => ?_)
 ·have h := hT hb9
  refine ws (wr_ (hv (v := (iv 1)) rfl (av rfl) (hn (nt (HW.ret (tr ?_))))))
  exact ⟨_, resOf1 rfl Res1.t, ⟨1, rfl, h⟩⟩
 have h := hF hb9
 refine wp_ (nt (ws (ws (wr_ (hv (v := (sv p0)) rfl (mv rfl) (hv (v := (sv p1)) rfl (mv rfl) (hv (v := (bv (slt p0 p1))) rfl (HVal.lssS rfl rfl) ?_)))))))
 refine hn (nt ?_)
 obtain ⟨hT, hF⟩ := h
 refine wk (slt p0 p1) rfl (fun hb10 => ?_) (fun hb10 => ?_)
 ·have h := hT hb10
  refine ws (wr_ (hv (v := (iv (-1))) rfl (av rfl) (hn (nt (HW.ret (tr ?_))))))
  exact ⟨_, resOf1 rfl Res1.t, ⟨(-1), rfl, h⟩⟩
 have h := hF hb10
 refine wp_ (nt (ws (ws (wr_ (hv (v := (sv p0)) rfl (mv rfl) (hv (v := (sv p1)) rfl (mv rfl) (hv (v := (bv (!(slt p0 p1) && !(seq p0 p1)))) rfl (HVal.gtrS rfl rfl) ?_)))))))
 refine hn (nt ?_)
 obtain ⟨hT, hF⟩ := h
 refine wk (!(slt p0 p1) && !(seq p0 p1)) rfl (fun hb11 => ?_) (fun hb11 => ?_)
 ·have h := hT hb11
  refine ws (wr_ (hv (v := (iv 1)) rfl (av rfl) (hn (nt (HW.ret (tr ?_))))))
  exact ⟨_, resOf1 rfl Res1.t, ⟨1, rfl, h⟩⟩
 have h := hF hb11
 refine wp_ (nt (ws (wr_ (hv (v := (iv 0)) rfl (av rfl) (hn (nt (HW.ret ?_)))))))
 exact ⟨_, resOf1 rfl Res1.t, ⟨0, rfl, h⟩⟩

def F66 (p0 : Bool) (H : Hp) (Q : Int → Hp → Prop) : Prop :=
(p0 = true → (Q 1 H)) ∧
 (p0 = false → (Q 0 H))
theorem walk66 {w0 : World} {p0 : Bool} {H : Hp} {Q : Int → Hp → Prop} (h : F66 p0 H Q) :
  Good prog w0 66 #[(bv p0)] H (fun v H => ∃ (r0 : Int) , v = (iv r0) ∧ Q r0 H) := by
 unfold F66 at h
 refine Good.enter' (fn := f66) func66 rfl rfl rfl (ws (wr_ (hv (v := (iv 0)) rfl (av rfl) (hn (nt (ws ?_))))))
 refine ws (wr_ (hv (v := (bv p0)) rfl (mv rfl) (hn (nt ?_))))
 obtain ⟨hT, hF⟩ := h
 refine wk p0 rfl (fun hb1 => ?_) (fun hb1 => ?_)
 ·have h := hT hb1
  refine ws (wr_ (hv (v := (iv 1)) rfl (av rfl) (hn (nt (HW.ret (tr ?_))))))
  exact ⟨_, resOf1 rfl Res1.t, ⟨1, rfl, h⟩⟩
 have h := hF hb1
 refine wp_ (nt (ws (wr_ (hv (v := (iv 0)) rfl (av rfl) (hn (nt (HW.ret ?_)))))))
 exact ⟨_, resOf1 rfl Res1.t, ⟨0, rfl, h⟩⟩

def F55 (p0_0 p0_1 : Int) (p0_2 : ByteArray) (p0_3 : Bool) (p1_0 p1_1 : Int) (p1_2 : ByteArray) (p1_3 : Bool) (H : Hp) (Q : Int → Hp → Prop) : Prop :=
∀ H1 : Hp, H1 = Array.push H (.cells (vR p0_0 p0_1 p0_2 p0_3).toArray 25) → (
 ∀ H3 : Hp, H3 = Array.push H1 (.cells (vR p1_0 p1_1 p1_2 p1_3).toArray 25) → (
 ∃ x6 : Int, cell H3 (bk H) = some (iv x6) ∧ (
 ∃ x8 : Int, cell H3 (bk H1) = some (iv x8) ∧ (
 ∃ x10 : Int, cell H3 (Addr.add (bk H) 1) = some (iv x10) ∧ (
 ∃ x12 : Int, cell H3 (Addr.add (bk H1) 1) = some (iv x12) ∧ (
 ∃ x14 : ByteArray, cell H3 (Addr.add (bk H) 2) = some (sv x14) ∧ (
 ∃ x16 : ByteArray, cell H3 (Addr.add (bk H1) 2) = some (sv x16) ∧ (
 ∃ x18 : Bool, cell H3 (Addr.add (bk H) 3) = some (bv x18) ∧ (
 ∃ x20 : Bool, cell H3 (Addr.add (bk H1) 3) = some (bv x20) ∧ (
 F63 x6 x8 H3 (fun (r23 : Int) (H21 : Hp) => 
 cell H21 (Addr.add (bk H1) 3) = some (bv x20) ∧ cell H21 (Addr.add (bk H) 3) = some (bv x18) ∧ cell H21 (Addr.add (bk H1) 2) = some (sv x16) ∧ cell H21 (Addr.add (bk H) 2) = some (sv x14) ∧ cell H21 (Addr.add (bk H1) 1) = some (iv x12) ∧ cell H21 (Addr.add (bk H) 1) = some (iv x10) ∧ (
 F64 x10 x12 H21 (fun (r32 : Int) (H30 : Hp) => 
 cell H30 (Addr.add (bk H1) 3) = some (bv x20) ∧ cell H30 (Addr.add (bk H) 3) = some (bv x18) ∧ cell H30 (Addr.add (bk H1) 2) = some (sv x16) ∧ cell H30 (Addr.add (bk H) 2) = some (sv x14) ∧ (
 F65 x14 x16 H30 (fun (r39 : Int) (H37 : Hp) => 
 cell H37 (Addr.add (bk H1) 3) = some (bv x20) ∧ cell H37 (Addr.add (bk H) 3) = some (bv x18) ∧ (
 F66 x18 H37 (fun (r44 : Int) (H42 : Hp) => 
 cell H42 (Addr.add (bk H1) 3) = some (bv x20) ∧ (
 F66 x20 H42 (fun (r48 : Int) (H46 : Hp) => 
 F63 r44 r48 H46 (fun (r51 : Int) (H49 : Hp) => 
 ∀ H52 : Hp, H52 = Array.push H49 (.cells #[(iv r23), (iv r32), (iv r39), (iv r51)] 3) → (
 F62 (Sl.mk (some (bk H49)) 4 4) H52 (fun (r56 : Int) (H54 : Hp) => 
 Q r56 H54))))))))))))))))))))))
theorem walk55 {w0 : World} {p0_0 p0_1 : Int} {p0_2 : ByteArray} {p0_3 : Bool} {p1_0 p1_1 : Int} {p1_2 : ByteArray} {p1_3 : Bool} {H : Hp} {Q : Int → Hp → Prop} (h : F55 p0_0 p0_1 p0_2 p0_3 p1_0 p1_1 p1_2 p1_3 H Q) :
  Good prog w0 55 #[(.agg (vR p0_0 p0_1 p0_2 p0_3).toArray), (.agg (vR p1_0 p1_1 p1_2 p1_3).toArray)] H (fun v H => ∃ (r0 : Int) , v = (iv r0) ∧ Q r0 H) := by
 unfold F55 at h
 refine Good.enter' (fn := f55) func55 rfl rfl rfl (ws (wr_ (ho rfl (ob (v := (.agg (vR p0_0 p0_1 p0_2 p0_3).toArray)) rfl) ?_)))
 rintro _ H1 ⟨rfl, e2⟩
 replace h := h H1 e2
 refine ho rfl (ob (v := (.agg (vR p1_0 p1_1 p1_2 p1_3).toArray)) rfl) ?_
 rintro _ H3 ⟨rfl, e4⟩
 replace h := h H3 e4
 refine hv (v := (iv 0)) rfl (av rfl) (hn (nt (ws (HW.draw mixed [(0, some []), (1, some [4]), (2, some []), (3, some [4]), (5, some []), (6, some [9]), (7, some []), (8, some [9]), (10, some []), (11, some [14]), (12, some []), (13, some [14]), (15, some []), (16, some [17]), (18, some []), (19, some [20]), (4, none), (9, none), (14, none), (17, none), (20, none), (21, none), (22, none), (23, none), (24, some [])] rfl (by kernel_rfl) (by kernel_rfl) ?_))))
 refine pv (v := (pp (bk H))) rfl rfl (fun _ => HVal.fieldAddr0 runUnderlying25 rfl rfl sizeOf3 rfl) ?_
 obtain ⟨x6, c5, h⟩ := h
 refine pl (v := (iv x6)) (fun X => cell X (bk H) = some (iv x6)) rfl rfl (fun _ hX => l1 isAgg3 rfl hX) c5 (pv (v := (pp (bk H1))) rfl rfl (fun _ => HVal.fieldAddr0 runUnderlying25 rfl rfl sizeOf3 rfl) ?_)
 obtain ⟨x8, c7, h⟩ := h
 refine pl (v := (iv x8)) (fun X => cell X (bk H1) = some (iv x8)) rfl rfl (fun _ hX => l1 isAgg3 rfl hX) c7 (pv (v := (pp (Addr.add (bk H) 1))) rfl rfl (fun _ => fa runUnderlying25 rfl rfl sizeOf2 rfl) ?_)
 obtain ⟨x10, c9, h⟩ := h
 refine pl (v := (iv x10)) (fun X => cell X (Addr.add (bk H) 1) = some (iv x10)) rfl rfl (fun _ hX => l1 isAgg2 rfl hX) c9 (pv (v := (pp (Addr.add (bk H1) 1))) rfl rfl (fun _ => fa runUnderlying25 rfl rfl sizeOf2 rfl) ?_)
 obtain ⟨x12, c11, h⟩ := h
 refine pl (v := (iv x12)) (fun X => cell X (Addr.add (bk H1) 1) = some (iv x12)) rfl rfl (fun _ hX => l1 isAgg2 rfl hX) c11 (pv (v := (pp (Addr.add (bk H) 2))) rfl rfl (fun _ => fa runUnderlying25 rfl rfl sizeOf9 rfl) ?_)
 obtain ⟨x14, c13, h⟩ := h
 refine pl (v := (sv x14)) (fun X => cell X (Addr.add (bk H) 2) = some (sv x14)) rfl rfl (fun _ hX => l1 isAgg9 rfl hX) c13 (pv (v := (pp (Addr.add (bk H1) 2))) rfl rfl (fun _ => fa runUnderlying25 rfl rfl sizeOf9 rfl) ?_)
 obtain ⟨x16, c15, h⟩ := h
 refine pl (v := (sv x16)) (fun X => cell X (Addr.add (bk H1) 2) = some (sv x16)) rfl rfl (fun _ hX => l1 isAgg9 rfl hX) c15 (pv (v := (pp (Addr.add (bk H) 3))) rfl rfl (fun _ => fa runUnderlying25 rfl rfl sizeOf4 rfl) ?_)
 obtain ⟨x18, c17, h⟩ := h
 refine pl (v := (bv x18)) (fun X => cell X (Addr.add (bk H) 3) = some (bv x18)) rfl rfl (fun _ hX => l1 isAgg4 rfl hX) c17 (pv (v := (pp (Addr.add (bk H1) 3))) rfl rfl (fun _ => fa runUnderlying25 rfl rfl sizeOf4 rfl) ?_)
 obtain ⟨x20, c19, h⟩ := h
 refine pl (v := (bv x20)) (fun X => cell X (Addr.add (bk H1) 3) = some (bv x20)) rfl rfl (fun _ hX => l1 isAgg4 rfl hX) c19 (po rfl rfl (HOp.call' 63 [(iv x6), (iv x8)] (cap := []) rfl rfl call63 (walk63 h)) ?_)
 rintro _ H21 ⟨r23, rfl, h⟩
 obtain ⟨s24, s25, s26, s27, s28, s29, h⟩ := h
 refine ⟨SC_of ⟨fun _ => s24, fun _ => s25, fun _ => s26, fun _ => s27, fun _ => s28, fun _ => s29, nofun, nofun, trivial⟩, ?_⟩
 refine po rfl rfl (HOp.call' 64 [(iv x10), (iv x12)] (cap := []) rfl rfl call64 (walk64 h)) ?_
 rintro _ H30 ⟨r32, rfl, h⟩
 obtain ⟨s33, s34, s35, s36, h⟩ := h
 refine ⟨SC_of ⟨fun _ => s33, fun _ => s34, fun _ => s35, fun _ => s36, nofun, nofun, nofun, nofun, trivial⟩, ?_⟩
 refine po rfl rfl (HOp.call' 65 [(sv x14), (sv x16)] (cap := []) rfl rfl call65 (walk65 h)) ?_
 rintro _ H37 ⟨r39, rfl, h⟩
 obtain ⟨s40, s41, h⟩ := h
 refine ⟨SC_of ⟨fun _ => s40, fun _ => s41, nofun, nofun, nofun, nofun, nofun, nofun, trivial⟩, ?_⟩
 refine po rfl rfl (HOp.call' 66 [(bv x18)] (cap := []) rfl rfl call66 (walk66 h)) ?_
 rintro _ H42 ⟨r44, rfl, h⟩
 obtain ⟨s45, h⟩ := h
 refine ⟨SC_of ⟨fun _ => s45, nofun, nofun, nofun, nofun, nofun, nofun, nofun, trivial⟩, ?_⟩
 refine po rfl rfl (HOp.call' 66 [(bv x20)] (cap := []) rfl rfl call66 (walk66 h)) ?_
 rintro _ H46 ⟨r48, rfl, h⟩
 refine ⟨SC_of ⟨nofun, nofun, nofun, nofun, nofun, nofun, nofun, nofun, trivial⟩, ?_⟩
 refine po rfl rfl (HOp.call' 63 [(iv r44), (iv r48)] (cap := []) rfl rfl call63 (walk63 h)) ?_
 rintro _ H49 ⟨r51, rfl, h⟩
 refine ⟨SC_of ⟨nofun, nofun, nofun, nofun, nofun, nofun, nofun, nofun, trivial⟩, ?_⟩
 refine po rfl rfl (HOp.buildSlice' (zs := [(iv 0), (iv 0), (iv 0), (iv 0)]) (cs := [(iv r23), (iv r32), (iv r39), (iv r51)]) runUnderlying47 sizeOf3 zeroValue3 (by decide) (by kernel_rfl) rfl (by decide)) ?_
 rintro _ H52 ⟨rfl, e53⟩
 replace h := h H52 e53
 refine ⟨SC_of ⟨nofun, nofun, nofun, nofun, nofun, nofun, nofun, nofun, trivial⟩, ?_⟩
 refine po rfl rfl (HOp.call' 62 [(Sl.v (Sl.mk (some (bk H49)) 4 4))] (cap := []) rfl rfl call62 (walk62 h)) ?_
 rintro _ H54 ⟨r56, rfl, h⟩
 refine ⟨SC_of ⟨nofun, nofun, nofun, nofun, nofun, nofun, nofun, nofun, trivial⟩, ?_⟩
 refine pv (v := (iv r56)) rfl rfl (fun _ => av rfl) (HPlan.done (nt (HW.ret ?_)))
 exact ⟨_, resOf1 rfl Res1.t, ⟨r56, rfl, h⟩⟩

def F38_1 (Q : Bool → Hp → Prop) (y27 : Bool) (H_1 : Hp) : Prop :=
Q y27 H_1
def F38_2 (Q : Bool → Hp → Prop) (y18 : Int) (y24 : Bool) (H_2 : Hp) : Prop :=
(y24 = true → (F38_1 Q true H_2)) ∧
 (y24 = false → (F38_1 Q (decide (y18 < 0)) H_2))
def F38_3 (Q : Bool → Hp → Prop) (y19 : Int) (y21 : Bool) (H_3 : Hp) : Prop :=
(y21 = true → (F38_1 Q true H_3)) ∧
 (y21 = false → (F38_1 Q (decide (y19 = 0)) H_3))
def F38 (p0 p1_0 p1_1 : Int) (p1_2 : ByteArray) (p1_3 : Bool) (p2_0 p2_1 : Int) (p2_2 : ByteArray) (p2_3 : Bool) (H : Hp) (Q : Bool → Hp → Prop) : Prop :=
∀ H1 : Hp, H1 = Array.push H (.cells (vR p1_0 p1_1 p1_2 p1_3).toArray 25) → (
 ∀ H3 : Hp, H3 = Array.push H1 (.cells (vR p2_0 p2_1 p2_2 p2_3).toArray 25) → (
 ∃ (x6 x7 : Int) (x8 : ByteArray) (x9 : Bool), cells H3 (bk H) (vR x6 x7 x8 x9) 0 ∧ (
 ∃ (x11 x12 : Int) (x13 : ByteArray) (x14 : Bool), cells H3 (bk H1) (vR x11 x12 x13 x14) 0 ∧ (
 F55 x6 x7 x8 x9 x11 x12 x13 x14 H3 (fun (r17 : Int) (H15 : Hp) => 
 ((decide (p0 = 11)) = true → (F38_3 Q r17 (decide ((0 : Int) < r17)) H15)) ∧
 ((decide (p0 = 11)) = false → (((decide (p0 = 6)) = true → (F38_3 Q r17 false H15)) ∧
 ((decide (p0 = 6)) = false → (((decide (p0 = 9)) = true → (F38_2 Q r17 (decide (r17 = 0)) H15)) ∧
 ((decide (p0 = 9)) = false → (((decide (p0 = 8)) = true → (F38_2 Q r17 false H15)) ∧
 ((decide (p0 = 8)) = false → (((decide (p0 = 7)) = true → (F38_1 Q (decide (r17 ≠ 0)) H15)) ∧
 ((decide (p0 = 7)) = false → (((decide (p0 = 10)) = true → (F38_1 Q (decide ((0 : Int) < r17)) H15)) ∧
 ((decide (p0 = 10)) = false → (((decide (p0 = 12)) = true → (∃ x31 : Bool, cell H15 (Addr.add (bk H) 3) = some (bv x31) ∧ (
 (x31 = true → (∃ x35 : Bool, cell H15 (Addr.add (bk H1) 3) = some (bv x35) ∧ (
 F38_1 Q x35 H15))) ∧
 (x31 = false → (F38_1 Q false H15))))) ∧
 ((decide (p0 = 12)) = false → (((decide (p0 = 13)) = true → (∃ x38 : Bool, cell H15 (Addr.add (bk H) 3) = some (bv x38) ∧ (
 (x38 = true → (F38_1 Q true H15)) ∧
 (x38 = false → (∃ x42 : Bool, cell H15 (Addr.add (bk H1) 3) = some (bv x42) ∧ (
 F38_1 Q x42 H15)))))) ∧
 ((decide (p0 = 13)) = false → (F38_1 Q false H15)))))))))))))))))))))
theorem walk38 {w0 : World} {p0 p1_0 p1_1 : Int} {p1_2 : ByteArray} {p1_3 : Bool} {p2_0 p2_1 : Int} {p2_2 : ByteArray} {p2_3 : Bool} {H : Hp} {Q : Bool → Hp → Prop} (h : F38 p0 p1_0 p1_1 p1_2 p1_3 p2_0 p2_1 p2_2 p2_3 H Q) :
  Good prog w0 38 #[(iv p0), (.agg (vR p1_0 p1_1 p1_2 p1_3).toArray), (.agg (vR p2_0 p2_1 p2_2 p2_3).toArray)] H (fun v H => ∃ (r0 : Bool) , v = (bv r0) ∧ Q r0 H) := by
 unfold F38 at h
 refine Good.enter' (fn := f38) func38 rfl rfl rfl (ws (wr_ (ho rfl (ob (v := (.agg (vR p1_0 p1_1 p1_2 p1_3).toArray)) rfl) ?_)))
 rintro _ H1 ⟨rfl, e2⟩
 replace h := h H1 e2
 refine ho rfl (ob (v := (.agg (vR p2_0 p2_1 p2_2 p2_3).toArray)) rfl) ?_
 rintro _ H3 ⟨rfl, e4⟩
 replace h := h H3 e4
 refine hv (v := (bv false)) rfl (av rfl) (hn (nt (ws (wr_ (hv (v := (bv false)) rfl (av rfl) (hn (nt ?_)))))))
 refine ws (wr_ ?_)
 obtain ⟨x6, x7, x8, x9, c5, h⟩ := h
 refine hv (v := (.agg (vR x6 x7 x8 x9).toArray)) rfl (ln (vR x6 x7 x8 x9) isAgg25 sizeOf25 rfl c5) ?_
 obtain ⟨x11, x12, x13, x14, c10, h⟩ := h
 refine hv (v := (.agg (vR x11 x12 x13 x14).toArray)) rfl (ln (vR x11 x12 x13 x14) isAgg25 sizeOf25 rfl c10) (ho rfl (HOp.call' 55 [(.agg (vR x6 x7 x8 x9).toArray), (.agg (vR x11 x12 x13 x14).toArray)] (cap := []) rfl rfl call55 (walk55 h)) ?_)
 rintro _ H15 ⟨r17, rfl, h⟩
 refine hv (v := (iv r17)) rfl (av rfl) (hn (nt (wc (fun ρ H_1 => ∃ (y27 : Bool), Env.Is ρ [(7, (bv y27))] ∧ F38_1 Q y27 H_1) ?_ ?_)))
 ·refine ws (wr_ (hv (v := (iv p0)) rfl (mv rfl) (hn (nt (wb (ws (wb (ws (wb (ws (wb ?_)))))))))))
  refine ws (wb (wc (fun ρ H_2 => ∃ (y24 : Bool), Env.Is ρ [(8, (iv r17)), (7, (bv y24))] ∧ F38_2 Q r17 y24 H_2) ?_ ?_))
  ·refine wb (ws (wb (wc (fun ρ H_3 => ∃ (y21 : Bool), Env.Is ρ [(8, (iv r17)), (7, (bv y21))] ∧ F38_3 Q r17 y21 H_3) ?_ ?_)))
   ·refine wb (ws (wb (ws (ws (ws (wr_ (hv (v := (bv (decide (p0 = 11)))) rfl (HVal.eqlI rfl rfl) (hv (v := (bv (decide (p0 = 11)))) rfl (av rfl) ?_))))))))
    refine hn (nt ?_)
    obtain ⟨hT, hF⟩ := h
    refine wk (decide (p0 = 11)) rfl (fun hb20 => ?_) (fun hb20 => ?_)
    ·have h := hT hb20
     refine we (te (te (be (nt (wr_ (hv (v := (iv r17)) rfl (mv rfl) (hv (v := (bv (decide ((0 : Int) < r17)))) rfl (HVal.gtr rfl rfl) ?_)))))))
     refine hv (v := (bv (decide ((0 : Int) < r17)))) rfl (av rfl) (hn (nb (nt ?_)))
     exact ⟨(decide ((0 : Int) < r17)), (isp rfl), h⟩
    have h := hF hb20
    refine wp_ (nt (ws (ws (wr_ (hv (v := (bv (decide (p0 = 6)))) rfl (HVal.eqlI rfl rfl) (hv (v := (bv (decide (p0 = 6)))) rfl (av rfl) ?_))))))
    refine hn (nt ?_)
    obtain ⟨hT, hF⟩ := h
    refine wk (decide (p0 = 6)) rfl (fun hb22 => ?_) (fun hb22 => ?_)
    ·have h := hT hb22
     refine we (te (te (bx rfl (te (be (nt ?_))))))
     exact ⟨false, (isp rfl), h⟩
    have h := hF hb22
    refine wp_ (nt (ws (ws (wr_ (hv (v := (bv (decide (p0 = 9)))) rfl (HVal.eqlI rfl rfl) (hv (v := (bv (decide (p0 = 9)))) rfl (av rfl) ?_))))))
    refine hn (nt ?_)
    obtain ⟨hT, hF⟩ := h
    refine wk (decide (p0 = 9)) rfl (fun hb23 => ?_) (fun hb23 => ?_)
    ·have h := hT hb23
     refine we (te (te (bx rfl (te (bx rfl (te (be (nt (wr_ (hv (v := (iv r17)) rfl (mv rfl) (hv (v := (bv (decide (r17 = 0)))) rfl (HVal.eqlI rfl rfl) ?_)))))))))))
     refine hv (v := (bv (decide (r17 = 0)))) rfl (av rfl) (hn (nb (nt ?_)))
     exact ⟨(decide (r17 = 0)), (isp rfl), h⟩
    have h := hF hb23
    refine wp_ (nt (ws (ws (wr_ (hv (v := (bv (decide (p0 = 8)))) rfl (HVal.eqlI rfl rfl) (hv (v := (bv (decide (p0 = 8)))) rfl (av rfl) ?_))))))
    refine hn (nt ?_)
    obtain ⟨hT, hF⟩ := h
    refine wk (decide (p0 = 8)) rfl (fun hb25 => ?_) (fun hb25 => ?_)
    ·have h := hT hb25
     refine we (te (te (bx rfl (te (bx rfl (te (bx rfl (te (be (nt ?_))))))))))
     exact ⟨false, (isp rfl), h⟩
    have h := hF hb25
    refine wp_ (nt (ws (ws (wr_ (hv (v := (bv (decide (p0 = 7)))) rfl (HVal.eqlI rfl rfl) (hv (v := (bv (decide (p0 = 7)))) rfl (av rfl) ?_))))))
    refine hn (nt ?_)
    obtain ⟨hT, hF⟩ := h
    refine wk (decide (p0 = 7)) rfl (fun hb26 => ?_) (fun hb26 => ?_)
    ·have h := hT hb26
     refine we (te (te (bx rfl (te (bx rfl (te (bx rfl (te (bx rfl (te (be (nt (ws (wr_ (hv (v := (iv r17)) rfl (mv rfl) ?_)))))))))))))))
     refine hv (v := (bv (decide (r17 ≠ 0)))) rfl (HVal.neqI rfl rfl) (hv (v := (bv (decide (r17 ≠ 0)))) rfl (av rfl) (hn (nt ?_)))
     refine we (bx rfl (te (bx rfl (te (bx rfl (te (be (nt ?_))))))))
     exact ⟨(decide (r17 ≠ 0)), ⟨rfl, trivial⟩, h⟩
    have h := hF hb26
    refine wp_ (nt (ws (ws (wr_ (hv (v := (bv (decide (p0 = 10)))) rfl (HVal.eqlI rfl rfl) (hv (v := (bv (decide (p0 = 10)))) rfl (av rfl) ?_))))))
    refine hn (nt ?_)
    obtain ⟨hT, hF⟩ := h
    refine wk (decide (p0 = 10)) rfl (fun hb28 => ?_) (fun hb28 => ?_)
    ·have h := hT hb28
     refine we (te (te (bx rfl (te (bx rfl (te (bx rfl (te (bx rfl (te (bx rfl (te (be (nt (ws (wr_ (hv (v := (iv r17)) rfl (mv rfl) ?_)))))))))))))))))
     refine hv (v := (bv (decide ((0 : Int) < r17)))) rfl (HVal.gtr rfl rfl) (hv (v := (bv (decide ((0 : Int) < r17)))) rfl (av rfl) ?_)
     refine hn (nt (we (bx rfl (te (bx rfl (te (be (nt ?_))))))))
     exact ⟨(decide ((0 : Int) < r17)), ⟨rfl, trivial⟩, h⟩
    have h := hF hb28
    refine wp_ (nt (ws (ws (wr_ (hv (v := (bv (decide (p0 = 12)))) rfl (HVal.eqlI rfl rfl) (hv (v := (bv (decide (p0 = 12)))) rfl (av rfl) ?_))))))
    refine hn (nt ?_)
    obtain ⟨hT, hF⟩ := h
    refine wk (decide (p0 = 12)) rfl (fun hb29 => ?_) (fun hb29 => ?_)
    ·have h := hT hb29
     refine we (te (te (bx rfl (te (bx rfl (te (bx rfl (te (bx rfl (te (bx rfl (te (bx rfl (te (be (nt (ws (wr_ (hv (v := (pp (Addr.add (bk H) 3))) rfl (fa runUnderlying25 rfl rfl sizeOf4 rfl) ?_)))))))))))))))))))
     obtain ⟨x31, c30, h⟩ := h
     refine hv (v := (bv x31)) rfl (l1 isAgg4 rfl c30) (hv (v := (bv x31)) rfl (mv rfl) ?_)
     obtain ⟨hT, hF⟩ := h
     rcases Bool.eq_false_or_eq_true x31 with hb32 | hb33
     ·have h := hT hb32
      refine hg (v := (pp (Addr.add (bk H1) 3))) rfl rfl rfl rfl (cB hb32) (fa runUnderlying25 rfl rfl sizeOf4 rfl) ?_
      obtain ⟨x35, c34, h⟩ := h
      refine hg (v := (bv x35)) rfl rfl rfl rfl (cB hb32) (l1 isAgg4 rfl c34) (hv (v := (bv x35)) rfl (pt_ rfl hb32 rfl) ?_)
      refine hv (v := (bv x35)) rfl (av rfl) (hn (nt (we (bx rfl (te (be (nt ?_)))))))
      exact ⟨x35, ⟨rfl, trivial⟩, h⟩
     have h := hF hb33
     refine hs_ rfl rfl rfl rfl (cB hb33) (hs_ rfl rfl rfl rfl (cB hb33) (hv (v := (bv false)) rfl (pf_ rfl hb33 rfl) (hv (v := (bv false)) rfl (av rfl) ?_)))
     refine hn (nt (we (bx rfl (te (be (nt ?_))))))
     exact ⟨false, ⟨rfl, trivial⟩, h⟩
    have h := hF hb29
    refine wp_ (nt (ws (wr_ (hv (v := (bv (decide (p0 = 13)))) rfl (HVal.eqlI rfl rfl) (hv (v := (bv (decide (p0 = 13)))) rfl (av rfl) ?_)))))
    refine hn (nt ?_)
    obtain ⟨hT, hF⟩ := h
    refine wk (decide (p0 = 13)) rfl (fun hb36 => ?_) (fun hb36 => ?_)
    ·have h := hT hb36
     refine we (te (bx rfl (te (bx rfl (te (bx rfl (te (bx rfl (te (bx rfl (te (bx rfl (te (bx rfl (te (be (nt (ws (wr_ (hv (v := (pp (Addr.add (bk H) 3))) rfl (fa runUnderlying25 rfl rfl sizeOf4 rfl) ?_))))))))))))))))))))
     obtain ⟨x38, c37, h⟩ := h
     refine hv (v := (bv x38)) rfl (l1 isAgg4 rfl c37) (hv (v := (bv x38)) rfl (mv rfl) ?_)
     obtain ⟨hT, hF⟩ := h
     rcases Bool.eq_false_or_eq_true x38 with hb39 | hb40
     ·have h := hT hb39
      refine hs_ rfl rfl rfl rfl (cB hb39) (hs_ rfl rfl rfl rfl (cB hb39) (hv (v := (bv true)) rfl (pt_ rfl hb39 rfl) (hv (v := (bv true)) rfl (av rfl) ?_)))
      refine hn (nt (we (be (nt ?_))))
      exact ⟨true, ⟨rfl, trivial⟩, h⟩
     have h := hF hb40
     refine hg (v := (pp (Addr.add (bk H1) 3))) rfl rfl rfl rfl (cB hb40) (fa runUnderlying25 rfl rfl sizeOf4 rfl) ?_
     obtain ⟨x42, c41, h⟩ := h
     refine hg (v := (bv x42)) rfl rfl rfl rfl (cB hb40) (l1 isAgg4 rfl c41) (hv (v := (bv x42)) rfl (pf_ rfl hb40 rfl) ?_)
     refine hv (v := (bv x42)) rfl (av rfl) (hn (nt (we (be (nt ?_)))))
     exact ⟨x42, ⟨rfl, trivial⟩, h⟩
    have h := hF hb36
    refine wp_ (nt (we (bx rfl (te (bx rfl (te (bx rfl (te (bx rfl (te (bx rfl (te (bx rfl (te (bx rfl (te (bx rfl (te (be (nt ?_))))))))))))))))))))
    exact ⟨false, ⟨rfl, trivial⟩, h⟩
   rintro ρ H_3 ⟨y21, hI, h⟩
   obtain ⟨ρ0, rfl⟩ := hI.ex
   clear hI; unfold F38_3 at h
   refine ws (wr_ (hv (v := (bv y21)) rfl (mv rfl) (hv (v := (bv y21)) rfl (mv rfl) ?_)))
   obtain ⟨hT, hF⟩ := h
   rcases Bool.eq_false_or_eq_true y21 with hb43 | hb44
   ·have h := hT hb43
    refine hs_ rfl rfl rfl rfl (cB hb43) (hs_ rfl rfl rfl rfl (cB hb43) (hv (v := (bv true)) rfl (pt_ rfl hb43 rfl) (hv (v := (bv true)) rfl (av rfl) ?_)))
    refine hn (nt (we (bx rfl (te (bx rfl (te (bx rfl (te (bx rfl (te (bx rfl (te (bx rfl (te (be (nt ?_))))))))))))))))
    exact ⟨true, ⟨rfl, trivial⟩, h⟩
   have h := hF hb44
   refine hg (v := (iv r17)) rfl rfl rfl rfl (cB hb44) (mv rfl) (hg (v := (bv (decide (r17 = 0)))) rfl rfl rfl rfl (cB hb44) (HVal.eqlI rfl rfl) ?_)
   refine hv (v := (bv (decide (r17 = 0)))) rfl (pf_ rfl hb44 rfl) (hv (v := (bv (decide (r17 = 0)))) rfl (av rfl) (hn (nt ?_)))
   refine we (bx rfl (te (bx rfl (te (bx rfl (te (bx rfl (te (bx rfl (te (bx rfl (te (be (nt ?_))))))))))))))
   exact ⟨(decide (r17 = 0)), ⟨rfl, trivial⟩, h⟩
  rintro ρ H_2 ⟨y24, hI, h⟩
  obtain ⟨ρ0, rfl⟩ := hI.ex
  clear hI; unfold F38_2 at h
  refine ws (wr_ (hv (v := (bv y24)) rfl (mv rfl) (hv (v := (bv y24)) rfl (mv rfl) ?_)))
  obtain ⟨hT, hF⟩ := h
  rcases Bool.eq_false_or_eq_true y24 with hb45 | hb46
  ·have h := hT hb45
   refine hs_ rfl rfl rfl rfl (cB hb45) (hs_ rfl rfl rfl rfl (cB hb45) (hv (v := (bv true)) rfl (pt_ rfl hb45 rfl) (hv (v := (bv true)) rfl (av rfl) ?_)))
   refine hn (nt (we (bx rfl (te (bx rfl (te (bx rfl (te (bx rfl (te (be (nt ?_))))))))))))
   exact ⟨true, ⟨rfl, trivial⟩, h⟩
  have h := hF hb46
  refine hg (v := (iv r17)) rfl rfl rfl rfl (cB hb46) (mv rfl) (hg (v := (bv (decide (r17 < 0)))) rfl rfl rfl rfl (cB hb46) (HVal.lss rfl rfl) ?_)
  refine hv (v := (bv (decide (r17 < 0)))) rfl (pf_ rfl hb46 rfl) (hv (v := (bv (decide (r17 < 0)))) rfl (av rfl) (hn (nt ?_)))
  refine we (bx rfl (te (bx rfl (te (bx rfl (te (bx rfl (te (be (nt ?_))))))))))
  exact ⟨(decide (r17 < 0)), ⟨rfl, trivial⟩, h⟩
 rintro ρ H_1 ⟨y27, hI, h⟩
 obtain ⟨ρ0, rfl⟩ := hI.ex
 clear hI; unfold F38_1 at h
 refine ws (wr_ (hv (v := (bv y27)) rfl (mv rfl) (hv (v := (bv y27)) rfl (av rfl) (hn (nt (HW.ret ?_))))))
 exact ⟨_, resOf1 rfl Res1.t, ⟨y27, rfl, h⟩⟩

def F21 (p0 p1_0 p1_1 : Int) (p1_2 : ByteArray) (p1_3 : Bool) (p2_0 p2_1 : Int) (p2_2 : ByteArray) (p2_3 : Bool) (H : Hp) (Q : Int → Int → ByteArray → Bool → Int → Hp → Prop) : Prop :=
∀ H1 : Hp, H1 = Array.push H (.cells (vR p1_0 p1_1 p1_2 p1_3).toArray 25) → (
 ∀ H3 : Hp, H3 = Array.push H1 (.cells (vR p2_0 p2_1 p2_2 p2_3).toArray 25) → (
 ∀ H5 : Hp, H5 = Array.push H3 (.cells (vR 0 0 bE false).toArray 25) → (
 ∃ (x8 x9 : Int) (x10 : ByteArray) (x11 : Bool), cells H5 (bk H) (vR x8 x9 x10 x11) 0 ∧ (
 ∃ (x13 x14 : Int) (x15 : ByteArray) (x16 : Bool), cells H5 (bk H1) (vR x13 x14 x15 x16) 0 ∧ (
 ∀ H17 : Hp, H17 = Array.push H5 (.cells #[(iv x8), (iv x9), (sv x10), (bv x11), (iv x13), (iv x14), (sv x15), (bv x16)] 25) → (
 F37 p0 3 13 (Sl.mk (some (bk H5)) 2 2) H17 (fun (r21 : Int) (H19 : Hp) => 
 ((decide (r21 ≠ 0)) = true → (mayw H19 (bk H3) 4 0 ∧ ∀ H23 : Hp, H23 = sets H19 (bk H3) (vR 0 0 bE false) 0 → (
 ∃ (x26 x27 : Int) (x28 : ByteArray) (x29 : Bool), cells H23 (bk H3) (vR x26 x27 x28 x29) 0 ∧ (
 Q x26 x27 x28 x29 r21 H23)))) ∧
 ((decide (r21 ≠ 0)) = false → (((decide (p0 = 3)) = true → (∃ x33 : Int, cell H19 (Addr.add (bk H) 1) = some (iv x33) ∧ (
 ∃ x35 : Int, cell H19 (Addr.add (bk H1) 1) = some (iv x35) ∧ (
 F31 (IntKind.i64.wrap (x33 + x35)) H19 (fun (r38 r39 : Int) (r40 : ByteArray) (r41 : Bool) (H36 : Hp) => 
 mayw H36 (bk H3) 4 0 ∧ ∀ H42 : Hp, H42 = sets H36 (bk H3) (vR r38 r39 r40 r41) 0 → (
 ∃ (x45 x46 : Int) (x47 : ByteArray) (x48 : Bool), cells H42 (bk H3) (vR x45 x46 x47 x48) 0 ∧ (
 Q x45 x46 x47 x48 0 H42))))))) ∧
 ((decide (p0 = 3)) = false → (((decide (p0 = 4)) = true → (∃ x52 : Int, cell H19 (Addr.add (bk H) 1) = some (iv x52) ∧ (
 ∃ x54 : Int, cell H19 (Addr.add (bk H1) 1) = some (iv x54) ∧ (
 F31 (IntKind.i64.wrap (x52 - x54)) H19 (fun (r57 r58 : Int) (r59 : ByteArray) (r60 : Bool) (H55 : Hp) => 
 mayw H55 (bk H3) 4 0 ∧ ∀ H61 : Hp, H61 = sets H55 (bk H3) (vR r57 r58 r59 r60) 0 → (
 ∃ (x64 x65 : Int) (x66 : ByteArray) (x67 : Bool), cells H61 (bk H3) (vR x64 x65 x66 x67) 0 ∧ (
 Q x64 x65 x66 x67 0 H61))))))) ∧
 ((decide (p0 = 4)) = false → (((decide (p0 = 5)) = true → (∃ x71 : Int, cell H19 (Addr.add (bk H) 1) = some (iv x71) ∧ (
 ∃ x73 : Int, cell H19 (Addr.add (bk H1) 1) = some (iv x73) ∧ (
 F31 (IntKind.i64.wrap (x71 * x73)) H19 (fun (r76 r77 : Int) (r78 : ByteArray) (r79 : Bool) (H74 : Hp) => 
 mayw H74 (bk H3) 4 0 ∧ ∀ H80 : Hp, H80 = sets H74 (bk H3) (vR r76 r77 r78 r79) 0 → (
 ∃ (x83 x84 : Int) (x85 : ByteArray) (x86 : Bool), cells H80 (bk H3) (vR x83 x84 x85 x86) 0 ∧ (
 Q x83 x84 x85 x86 0 H80))))))) ∧
 ((decide (p0 = 5)) = false → (∃ (x89 x90 : Int) (x91 : ByteArray) (x92 : Bool), cells H19 (bk H) (vR x89 x90 x91 x92) 0 ∧ (
 ∃ (x94 x95 : Int) (x96 : ByteArray) (x97 : Bool), cells H19 (bk H1) (vR x94 x95 x96 x97) 0 ∧ (
 F38 p0 x89 x90 x91 x92 x94 x95 x96 x97 H19 (fun (r100 : Bool) (H98 : Hp) => 
 F33 r100 H98 (fun (r103 r104 : Int) (r105 : ByteArray) (r106 : Bool) (H101 : Hp) => 
 mayw H101 (bk H3) 4 0 ∧ ∀ H107 : Hp, H107 = sets H101 (bk H3) (vR r103 r104 r105 r106) 0 → (
 ∃ (x110 x111 : Int) (x112 : ByteArray) (x113 : Bool), cells H107 (bk H3) (vR x110 x111 x112 x113) 0 ∧ (
 Q x110 x111 x112 x113 0 H107)))))))))))))))))))))
theorem walk21 {w0 : World} {p0 p1_0 p1_1 : Int} {p1_2 : ByteArray} {p1_3 : Bool} {p2_0 p2_1 : Int} {p2_2 : ByteArray} {p2_3 : Bool} {H : Hp} {Q : Int → Int → ByteArray → Bool → Int → Hp → Prop} (h : F21 p0 p1_0 p1_1 p1_2 p1_3 p2_0 p2_1 p2_2 p2_3 H Q) :
  Good prog w0 21 #[(iv p0), (.agg (vR p1_0 p1_1 p1_2 p1_3).toArray), (.agg (vR p2_0 p2_1 p2_2 p2_3).toArray)] H (fun v H => ∃ (r0 r1 : Int) (r2 : ByteArray) (r3 : Bool) (r4 : Int) , v = (.tuple #[(.agg (vR r0 r1 r2 r3).toArray), (iv r4)]) ∧ Q r0 r1 r2 r3 r4 H) := by
 unfold F21 at h
 refine Good.enter' (fn := f21) func21 rfl rfl rfl (ws (wr_ (ho rfl (ob (v := (.agg (vR p1_0 p1_1 p1_2 p1_3).toArray)) rfl) ?_)))
 rintro _ H1 ⟨rfl, e2⟩
 replace h := h H1 e2
 refine ho rfl (ob (v := (.agg (vR p2_0 p2_1 p2_2 p2_3).toArray)) rfl) ?_
 rintro _ H3 ⟨rfl, e4⟩
 replace h := h H3 e4
 refine ho rfl (HOp.alloc zeroValue25) ?_
 rintro _ H5 ⟨rfl, e6⟩
 replace h := h H5 e6
 refine hv (v := (iv 0)) rfl (av rfl) (hn (nt (ws (ws (wr_ (hv (v := (iv p0)) rfl (mv rfl) ?_))))))
 obtain ⟨x8, x9, x10, x11, c7, h⟩ := h
 refine hv (v := (.agg (vR x8 x9 x10 x11).toArray)) rfl (ln (vR x8 x9 x10 x11) isAgg25 sizeOf25 rfl c7) ?_
 obtain ⟨x13, x14, x15, x16, c12, h⟩ := h
 refine hv (v := (.agg (vR x13 x14 x15 x16).toArray)) rfl (ln (vR x13 x14 x15 x16) isAgg25 sizeOf25 rfl c12) (ho rfl (HOp.buildSlice' (zs := [(iv 0), (iv 0), (sv bE), (bv false), (iv 0), (iv 0), (sv bE), (bv false)]) (cs := [(iv x8), (iv x9), (sv x10), (bv x11), (iv x13), (iv x14), (sv x15), (bv x16)]) runUnderlying71 sizeOf25 zeroValue25 (by decide) (by kernel_rfl) (by kernel_rfl) (by decide)) ?_)
 rintro _ H17 ⟨rfl, e18⟩
 replace h := h H17 e18
 refine ho rfl (HOp.call' 37 [(iv p0), (iv 3), (iv 13), (Sl.v (Sl.mk (some (bk H5)) 2 2))] (cap := []) rfl rfl call37 (walk37 h)) ?_
 rintro _ H19 ⟨r21, rfl, h⟩
 refine hv (v := (iv r21)) rfl (av rfl) (hn (nt (ws (wr_ (hv (v := (iv r21)) rfl (mv rfl) (hv (v := (bv (decide (r21 ≠ 0)))) rfl (HVal.neqI rfl rfl) ?_))))))
 refine hn (nt ?_)
 obtain ⟨hT, hF⟩ := h
 refine wk (decide (r21 ≠ 0)) rfl (fun hb22 => ?_) (fun hb22 => ?_)
 ·have h := hT hb22
  refine ws (wr_ (hv (v := (.agg (vR 0 0 bE false).toArray)) rfl (HVal.build' (cs := (vR 0 0 bE false)) runUnderlying25 zeroValue25 places25 rfl) ?_))
  refine hv (v := (iv r21)) rfl (mv rfl) ?_
  obtain ⟨z25, h⟩ := h
  refine hq (HOp.storeN' (l := (vR 0 0 bE false)) sizeOf25 rfl rfl rfl z25) ?_
  rintro _ H23 e24
  replace h := h H23 e24
  refine hv (v := (iv r21)) rfl (av rfl) (hn (nt (HW.ret (tr ?_))))
  obtain ⟨x26, x27, x28, x29, c30, h⟩ := h
  exact ⟨_, resOf2 rfl (Res1.n (vR x26 x27 x28 x29) isAgg25 sizeOf25 rfl c30) Res1.t, ⟨x26, x27, x28, x29, r21, rfl, h⟩⟩
 have h := hF hb22
 refine wp_ (nt (ws (ws (wr_ (hv (v := (iv p0)) rfl (mv rfl) (hn (nt (wb (ws (wr_ (hv (v := (bv (decide (p0 = 3)))) rfl (HVal.eqlI rfl rfl) ?_)))))))))))
 refine hv (v := (bv (decide (p0 = 3)))) rfl (av rfl) (hn (nt ?_))
 obtain ⟨hT, hF⟩ := h
 refine wk (decide (p0 = 3)) rfl (fun hb31 => ?_) (fun hb31 => ?_)
 ·have h := hT hb31
  refine ws (wr_ (hv (v := (pp (Addr.add (bk H) 1))) rfl (fa runUnderlying25 rfl rfl sizeOf2 rfl) ?_))
  obtain ⟨x33, c32, h⟩ := h
  refine hv (v := (iv x33)) rfl (l1 isAgg2 rfl c32) (hv (v := (pp (Addr.add (bk H1) 1))) rfl (fa runUnderlying25 rfl rfl sizeOf2 rfl) ?_)
  obtain ⟨x35, c34, h⟩ := h
  refine hv (v := (iv x35)) rfl (l1 isAgg2 rfl c34) (hv (v := (iv (IntKind.i64.wrap (x33 + x35)))) rfl (HVal.add rfl rfl) (ho rfl (HOp.call' 31 [(iv (IntKind.i64.wrap (x33 + x35)))] (cap := []) rfl rfl call31 (walk31 h)) ?_))
  rintro _ H36 ⟨r38, r39, r40, r41, rfl, h⟩
  obtain ⟨z44, h⟩ := h
  refine hq (HOp.storeN' (l := (vR r38 r39 r40 r41)) sizeOf25 rfl rfl rfl z44) ?_
  rintro _ H42 e43
  replace h := h H42 e43
  refine hv (v := (iv 0)) rfl (av rfl) (hn (nt (HW.ret (br (tr ?_)))))
  obtain ⟨x45, x46, x47, x48, c49, h⟩ := h
  exact ⟨_, resOf2 rfl (Res1.n (vR x45 x46 x47 x48) isAgg25 sizeOf25 rfl c49) Res1.t, ⟨x45, x46, x47, x48, 0, rfl, h⟩⟩
 have h := hF hb31
 refine ws (wr_ (hv (v := (bv (decide (p0 = 4)))) rfl (HVal.eqlI rfl rfl) (hv (v := (bv (decide (p0 = 4)))) rfl (av rfl) ?_)))
 refine hn (nt ?_)
 obtain ⟨hT, hF⟩ := h
 refine wk (decide (p0 = 4)) rfl (fun hb50 => ?_) (fun hb50 => ?_)
 ·have h := hT hb50
  refine ws (wr_ (hv (v := (pp (Addr.add (bk H) 1))) rfl (fa runUnderlying25 rfl rfl sizeOf2 rfl) ?_))
  obtain ⟨x52, c51, h⟩ := h
  refine hv (v := (iv x52)) rfl (l1 isAgg2 rfl c51) (hv (v := (pp (Addr.add (bk H1) 1))) rfl (fa runUnderlying25 rfl rfl sizeOf2 rfl) ?_)
  obtain ⟨x54, c53, h⟩ := h
  refine hv (v := (iv x54)) rfl (l1 isAgg2 rfl c53) (hv (v := (iv (IntKind.i64.wrap (x52 - x54)))) rfl (HVal.sub rfl rfl) (ho rfl (HOp.call' 31 [(iv (IntKind.i64.wrap (x52 - x54)))] (cap := []) rfl rfl call31 (walk31 h)) ?_))
  rintro _ H55 ⟨r57, r58, r59, r60, rfl, h⟩
  obtain ⟨z63, h⟩ := h
  refine hq (HOp.storeN' (l := (vR r57 r58 r59 r60)) sizeOf25 rfl rfl rfl z63) ?_
  rintro _ H61 e62
  replace h := h H61 e62
  refine hv (v := (iv 0)) rfl (av rfl) (hn (nt (HW.ret (br (tr ?_)))))
  obtain ⟨x64, x65, x66, x67, c68, h⟩ := h
  exact ⟨_, resOf2 rfl (Res1.n (vR x64 x65 x66 x67) isAgg25 sizeOf25 rfl c68) Res1.t, ⟨x64, x65, x66, x67, 0, rfl, h⟩⟩
 have h := hF hb50
 refine ws (wr_ (hv (v := (bv (decide (p0 = 5)))) rfl (HVal.eqlI rfl rfl) (hv (v := (bv (decide (p0 = 5)))) rfl (av rfl) ?_)))
 refine hn (nt ?_)
 obtain ⟨hT, hF⟩ := h
 refine wk (decide (p0 = 5)) rfl (fun hb69 => ?_) (fun hb69 => ?_)
 ·have h := hT hb69
  refine ws (wr_ (hv (v := (pp (Addr.add (bk H) 1))) rfl (fa runUnderlying25 rfl rfl sizeOf2 rfl) ?_))
  obtain ⟨x71, c70, h⟩ := h
  refine hv (v := (iv x71)) rfl (l1 isAgg2 rfl c70) (hv (v := (pp (Addr.add (bk H1) 1))) rfl (fa runUnderlying25 rfl rfl sizeOf2 rfl) ?_)
  obtain ⟨x73, c72, h⟩ := h
  refine hv (v := (iv x73)) rfl (l1 isAgg2 rfl c72) (hv (v := (iv (IntKind.i64.wrap (x71 * x73)))) rfl (HVal.mul rfl rfl) (ho rfl (HOp.call' 31 [(iv (IntKind.i64.wrap (x71 * x73)))] (cap := []) rfl rfl call31 (walk31 h)) ?_))
  rintro _ H74 ⟨r76, r77, r78, r79, rfl, h⟩
  obtain ⟨z82, h⟩ := h
  refine hq (HOp.storeN' (l := (vR r76 r77 r78 r79)) sizeOf25 rfl rfl rfl z82) ?_
  rintro _ H80 e81
  replace h := h H80 e81
  refine hv (v := (iv 0)) rfl (av rfl) (hn (nt (HW.ret (br (tr ?_)))))
  obtain ⟨x83, x84, x85, x86, c87, h⟩ := h
  exact ⟨_, resOf2 rfl (Res1.n (vR x83 x84 x85 x86) isAgg25 sizeOf25 rfl c87) Res1.t, ⟨x83, x84, x85, x86, 0, rfl, h⟩⟩
 have h := hF hb69
 refine wp_ (nb (nt (ws (wr_ (hv (v := (iv p0)) rfl (mv rfl) ?_)))))
 obtain ⟨x89, x90, x91, x92, c88, h⟩ := h
 refine hv (v := (.agg (vR x89 x90 x91 x92).toArray)) rfl (ln (vR x89 x90 x91 x92) isAgg25 sizeOf25 rfl c88) ?_
 obtain ⟨x94, x95, x96, x97, c93, h⟩ := h
 refine hv (v := (.agg (vR x94 x95 x96 x97).toArray)) rfl (ln (vR x94 x95 x96 x97) isAgg25 sizeOf25 rfl c93) (ho rfl (HOp.call' 38 [(iv p0), (.agg (vR x89 x90 x91 x92).toArray), (.agg (vR x94 x95 x96 x97).toArray)] (cap := []) rfl rfl call38 (walk38 h)) ?_)
 rintro _ H98 ⟨r100, rfl, h⟩
 refine ho rfl (HOp.call' 33 [(bv r100)] (cap := []) rfl rfl call33 (walk33 h)) ?_
 rintro _ H101 ⟨r103, r104, r105, r106, rfl, h⟩
 obtain ⟨z109, h⟩ := h
 refine hq (HOp.storeN' (l := (vR r103 r104 r105 r106)) sizeOf25 rfl rfl rfl z109) ?_
 rintro _ H107 e108
 replace h := h H107 e108
 refine hv (v := (iv 0)) rfl (av rfl) (hn (nt (HW.ret ?_)))
 obtain ⟨x110, x111, x112, x113, c114, h⟩ := h
 exact ⟨_, resOf2 rfl (Res1.n (vR x110 x111 x112 x113) isAgg25 sizeOf25 rfl c114) Res1.t, ⟨x110, x111, x112, x113, 0, rfl, h⟩⟩

def F22 (p0 p1_0 p1_1 : Int) (p1_2 : ByteArray) (p1_3 : Bool) (H : Hp) (Q : Int → Int → ByteArray → Bool → Int → Hp → Prop) : Prop :=
∀ H1 : Hp, H1 = Array.push H (.cells (vR p1_0 p1_1 p1_2 p1_3).toArray 25) → (
 ∀ H3 : Hp, H3 = Array.push H1 (.cells (vR 0 0 bE false).toArray 25) → (
 ∃ (x6 x7 : Int) (x8 : ByteArray) (x9 : Bool), cells H3 (bk H) (vR x6 x7 x8 x9) 0 ∧ (
 ∀ H10 : Hp, H10 = Array.push H3 (.cells (vR x6 x7 x8 x9).toArray 25) → (
 F37 p0 1 2 (Sl.mk (some (bk H3)) 1 1) H10 (fun (r14 : Int) (H12 : Hp) => 
 ((decide (r14 ≠ 0)) = true → (mayw H12 (bk H1) 4 0 ∧ ∀ H16 : Hp, H16 = sets H12 (bk H1) (vR 0 0 bE false) 0 → (
 ∃ (x19 x20 : Int) (x21 : ByteArray) (x22 : Bool), cells H16 (bk H1) (vR x19 x20 x21 x22) 0 ∧ (
 Q x19 x20 x21 x22 r14 H16)))) ∧
 ((decide (r14 ≠ 0)) = false → (((decide (p0 = 1)) = true → (∃ x26 : Int, cell H12 (Addr.add (bk H) 1) = some (iv x26) ∧ (
 F31 (IntKind.i64.wrap (0 - x26)) H12 (fun (r29 r30 : Int) (r31 : ByteArray) (r32 : Bool) (H27 : Hp) => 
 mayw H27 (bk H1) 4 0 ∧ ∀ H33 : Hp, H33 = sets H27 (bk H1) (vR r29 r30 r31 r32) 0 → (
 ∃ (x36 x37 : Int) (x38 : ByteArray) (x39 : Bool), cells H33 (bk H1) (vR x36 x37 x38 x39) 0 ∧ (
 Q x36 x37 x38 x39 0 H33)))))) ∧
 ((decide (p0 = 1)) = false → (∃ x42 : Bool, cell H12 (Addr.add (bk H) 3) = some (bv x42) ∧ (
 F33 (!x42) H12 (fun (r45 r46 : Int) (r47 : ByteArray) (r48 : Bool) (H43 : Hp) => 
 mayw H43 (bk H1) 4 0 ∧ ∀ H49 : Hp, H49 = sets H43 (bk H1) (vR r45 r46 r47 r48) 0 → (
 ∃ (x52 x53 : Int) (x54 : ByteArray) (x55 : Bool), cells H49 (bk H1) (vR x52 x53 x54 x55) 0 ∧ (
 Q x52 x53 x54 x55 0 H49)))))))))))))
theorem walk22 {w0 : World} {p0 p1_0 p1_1 : Int} {p1_2 : ByteArray} {p1_3 : Bool} {H : Hp} {Q : Int → Int → ByteArray → Bool → Int → Hp → Prop} (h : F22 p0 p1_0 p1_1 p1_2 p1_3 H Q) :
  Good prog w0 22 #[(iv p0), (.agg (vR p1_0 p1_1 p1_2 p1_3).toArray)] H (fun v H => ∃ (r0 r1 : Int) (r2 : ByteArray) (r3 : Bool) (r4 : Int) , v = (.tuple #[(.agg (vR r0 r1 r2 r3).toArray), (iv r4)]) ∧ Q r0 r1 r2 r3 r4 H) := by
 unfold F22 at h
 refine Good.enter' (fn := f22) func22 rfl rfl rfl (ws (wr_ (ho rfl (ob (v := (.agg (vR p1_0 p1_1 p1_2 p1_3).toArray)) rfl) ?_)))
 rintro _ H1 ⟨rfl, e2⟩
 replace h := h H1 e2
 refine ho rfl (HOp.alloc zeroValue25) ?_
 rintro _ H3 ⟨rfl, e4⟩
 replace h := h H3 e4
 refine hv (v := (iv 0)) rfl (av rfl) (hn (nt (ws (ws (wr_ (hv (v := (iv p0)) rfl (mv rfl) ?_))))))
 obtain ⟨x6, x7, x8, x9, c5, h⟩ := h
 refine hv (v := (.agg (vR x6 x7 x8 x9).toArray)) rfl (ln (vR x6 x7 x8 x9) isAgg25 sizeOf25 rfl c5) (ho rfl (HOp.buildSlice' (zs := (vR 0 0 bE false)) (cs := (vR x6 x7 x8 x9)) runUnderlying71 sizeOf25 zeroValue25 (by decide) (by kernel_rfl) rfl (by decide)) ?_)
 rintro _ H10 ⟨rfl, e11⟩
 replace h := h H10 e11
 refine ho rfl (HOp.call' 37 [(iv p0), (iv 1), (iv 2), (Sl.v (Sl.mk (some (bk H3)) 1 1))] (cap := []) rfl rfl call37 (walk37 h)) ?_
 rintro _ H12 ⟨r14, rfl, h⟩
 refine hv (v := (iv r14)) rfl (av rfl) (hn (nt (ws (wr_ (hv (v := (iv r14)) rfl (mv rfl) (hv (v := (bv (decide (r14 ≠ 0)))) rfl (HVal.neqI rfl rfl) ?_))))))
 refine hn (nt ?_)
 obtain ⟨hT, hF⟩ := h
 refine wk (decide (r14 ≠ 0)) rfl (fun hb15 => ?_) (fun hb15 => ?_)
 ·have h := hT hb15
  refine ws (wr_ (hv (v := (.agg (vR 0 0 bE false).toArray)) rfl (HVal.build' (cs := (vR 0 0 bE false)) runUnderlying25 zeroValue25 places25 rfl) ?_))
  refine hv (v := (iv r14)) rfl (mv rfl) ?_
  obtain ⟨z18, h⟩ := h
  refine hq (HOp.storeN' (l := (vR 0 0 bE false)) sizeOf25 rfl rfl rfl z18) ?_
  rintro _ H16 e17
  replace h := h H16 e17
  refine hv (v := (iv r14)) rfl (av rfl) (hn (nt (HW.ret (tr ?_))))
  obtain ⟨x19, x20, x21, x22, c23, h⟩ := h
  exact ⟨_, resOf2 rfl (Res1.n (vR x19 x20 x21 x22) isAgg25 sizeOf25 rfl c23) Res1.t, ⟨x19, x20, x21, x22, r14, rfl, h⟩⟩
 have h := hF hb15
 refine wp_ (nt (ws (ws (wr_ (hv (v := (iv p0)) rfl (mv rfl) (hv (v := (bv (decide (p0 = 1)))) rfl (HVal.eqlI rfl rfl) ?_))))))
 refine hn (nt ?_)
 obtain ⟨hT, hF⟩ := h
 refine wk (decide (p0 = 1)) rfl (fun hb24 => ?_) (fun hb24 => ?_)
 ·have h := hT hb24
  refine ws (wr_ (hv (v := (pp (Addr.add (bk H) 1))) rfl (fa runUnderlying25 rfl rfl sizeOf2 rfl) ?_))
  obtain ⟨x26, c25, h⟩ := h
  refine hv (v := (iv x26)) rfl (l1 isAgg2 rfl c25) (hv (v := (iv (IntKind.i64.wrap (0 - x26)))) rfl (HVal.neg rfl) (ho rfl (HOp.call' 31 [(iv (IntKind.i64.wrap (0 - x26)))] (cap := []) rfl rfl call31 (walk31 h)) ?_))
  rintro _ H27 ⟨r29, r30, r31, r32, rfl, h⟩
  obtain ⟨z35, h⟩ := h
  refine hq (HOp.storeN' (l := (vR r29 r30 r31 r32)) sizeOf25 rfl rfl rfl z35) ?_
  rintro _ H33 e34
  replace h := h H33 e34
  refine hv (v := (iv 0)) rfl (av rfl) (hn (nt (HW.ret (tr ?_))))
  obtain ⟨x36, x37, x38, x39, c40, h⟩ := h
  exact ⟨_, resOf2 rfl (Res1.n (vR x36 x37 x38 x39) isAgg25 sizeOf25 rfl c40) Res1.t, ⟨x36, x37, x38, x39, 0, rfl, h⟩⟩
 have h := hF hb24
 refine wp_ (nt (ws (wr_ (hv (v := (pp (Addr.add (bk H) 3))) rfl (fa runUnderlying25 rfl rfl sizeOf4 rfl) ?_))))
 obtain ⟨x42, c41, h⟩ := h
 refine hv (v := (bv x42)) rfl (l1 isAgg4 rfl c41) (hv (v := (bv (!x42))) rfl (HVal.not rfl) (ho rfl (HOp.call' 33 [(bv (!x42))] (cap := []) rfl rfl call33 (walk33 h)) ?_))
 rintro _ H43 ⟨r45, r46, r47, r48, rfl, h⟩
 obtain ⟨z51, h⟩ := h
 refine hq (HOp.storeN' (l := (vR r45 r46 r47 r48)) sizeOf25 rfl rfl rfl z51) ?_
 rintro _ H49 e50
 replace h := h H49 e50
 refine hv (v := (iv 0)) rfl (av rfl) (hn (nt (HW.ret ?_)))
 obtain ⟨x52, x53, x54, x55, c56, h⟩ := h
 exact ⟨_, resOf2 rfl (Res1.n (vR x52 x53 x54 x55) isAgg25 sizeOf25 rfl c56) Res1.t, ⟨x52, x53, x54, x55, 0, rfl, h⟩⟩

def F8_1 (Q : Bool → Hp → Prop) (y19 : Addr) (y50 : Int) (H_1 : Hp) : Prop :=
((decide (y50 = 0)) = true → (∃ (x135 x136 : Int) (x137 : ByteArray) (x138 : Bool), cells H_1 y19 (vR x135 x136 x137 x138) 0 ∧ (
 Q (decide (x135 = 3) && (decide (x136 = 0) && (seq x137 bE && (x138 == true)))) H_1))) ∧
 ((decide (y50 = 0)) = false → (Q false H_1))
def F8 (p0_0 p0_1 p0_2 p0_3 p0_4 : Int) (p0_5 : ByteArray) (p0_6 : Bool) (p0_7 p1_0 p1_1 : Int) (p1_2 : ByteArray) (p1_3 : Bool) (p1_4 p1_5 : Int) (p1_6 : ByteArray) (p1_7 : Bool) (p1_8 p1_9 : Int) (p1_10 : ByteArray) (p1_11 : Bool) (p1_12 p1_13 : Int) (p1_14 : ByteArray) (p1_15 : Bool) (p1_16 p1_17 : Int) (p1_18 : ByteArray) (p1_19 : Bool) (p1_20 p1_21 : Int) (p1_22 : ByteArray) (p1_23 : Bool) (H : Hp) (Q : Bool → Hp → Prop) : Prop :=
∀ H1 : Hp, H1 = Array.push H (.cells (mR p0_0 p0_1 p0_2 p0_3 p0_4 p0_5 p0_6 p0_7).toArray 31) → (
 ∀ H3 : Hp, H3 = Array.push H1 (.cells (nR p1_0 p1_1 p1_2 p1_3 p1_4 p1_5 p1_6 p1_7 p1_8 p1_9 p1_10 p1_11 p1_12 p1_13 p1_14 p1_15 p1_16 p1_17 p1_18 p1_19 p1_20 p1_21 p1_22 p1_23).toArray 26) → (
 ∃ x6 : Int, cell H3 (Addr.add (bk H) 1) = some (iv x6) ∧ (
 (0 : Int) ≤ x6 ∧ x6 < ((6 : Nat) : Int) ∧ (
 ∃ (x10 x11 : Int) (x12 : ByteArray) (x13 : Bool), cells H3 (Addr.add (bk H1) (x6.toNat * 4)) (vR x10 x11 x12 x13) 0 ∧ (
 ∀ H14 : Hp, H14 = Array.push H3 (.cells (vR 0 0 bE false).toArray 25) → (
 mayw H14 (bk H3) 4 0 ∧ ∀ H16 : Hp, H16 = sets H14 (bk H3) (vR x10 x11 x12 x13) 0 → (
 ∃ x21 : Int, cell H16 (Addr.add (bk H) 7) = some (iv x21) ∧ (
 ((decide (x21 = 0)) = true → (∃ x24 : Int, cell H16 (bk H) = some (iv x24) ∧ (
 ∃ x26 : Int, cell H16 (Addr.add (bk H) 1) = some (iv x26) ∧ (
 (0 : Int) ≤ x26 ∧ x26 < ((6 : Nat) : Int) ∧ (
 ∃ (x30 x31 : Int) (x32 : ByteArray) (x33 : Bool), cells H16 (Addr.add (bk H1) (x26.toNat * 4)) (vR x30 x31 x32 x33) 0 ∧ (
 ∃ (x35 x36 : Int) (x37 : ByteArray) (x38 : Bool), cells H16 (Addr.add (bk H) 3) (vR x35 x36 x37 x38) 0 ∧ (
 F21 x24 x30 x31 x32 x33 x35 x36 x37 x38 H16 (fun (r41 r42 : Int) (r43 : ByteArray) (r44 : Bool) (r45 : Int) (H39 : Hp) => 
 cell H39 (Addr.add (bk H) 1) = some (iv x26) ∧ (
 mayw H39 (bk H3) 4 0 ∧ ∀ H47 : Hp, H47 = sets H39 (bk H3) (vR r41 r42 r43 r44) 0 → (
 F8_1 Q (bk H3) r45 H47)))))))))) ∧
 ((decide (x21 = 0)) = false → (((decide (x21 = 1)) = true → (∃ x53 : Int, cell H16 (bk H) = some (iv x53) ∧ (
 ∃ (x55 x56 : Int) (x57 : ByteArray) (x58 : Bool), cells H16 (Addr.add (bk H) 3) (vR x55 x56 x57 x58) 0 ∧ (
 ∃ x60 : Int, cell H16 (Addr.add (bk H) 1) = some (iv x60) ∧ (
 (0 : Int) ≤ x60 ∧ x60 < ((6 : Nat) : Int) ∧ (
 ∃ (x64 x65 : Int) (x66 : ByteArray) (x67 : Bool), cells H16 (Addr.add (bk H1) (x60.toNat * 4)) (vR x64 x65 x66 x67) 0 ∧ (
 F21 x53 x55 x56 x57 x58 x64 x65 x66 x67 H16 (fun (r70 r71 : Int) (r72 : ByteArray) (r73 : Bool) (r74 : Int) (H68 : Hp) => 
 cell H68 (Addr.add (bk H) 1) = some (iv x60) ∧ (
 mayw H68 (bk H3) 4 0 ∧ ∀ H76 : Hp, H76 = sets H68 (bk H3) (vR r70 r71 r72 r73) 0 → (
 F8_1 Q (bk H3) r74 H76)))))))))) ∧
 ((decide (x21 = 1)) = false → (((decide (x21 = 2)) = true → (∃ x81 : Int, cell H16 (bk H) = some (iv x81) ∧ (
 ∃ x83 : Int, cell H16 (Addr.add (bk H) 1) = some (iv x83) ∧ (
 (0 : Int) ≤ x83 ∧ x83 < ((6 : Nat) : Int) ∧ (
 ∃ (x87 x88 : Int) (x89 : ByteArray) (x90 : Bool), cells H16 (Addr.add (bk H1) (x83.toNat * 4)) (vR x87 x88 x89 x90) 0 ∧ (
 ∃ x92 : Int, cell H16 (Addr.add (bk H) 2) = some (iv x92) ∧ (
 (0 : Int) ≤ x92 ∧ x92 < ((6 : Nat) : Int) ∧ (
 ∃ (x96 x97 : Int) (x98 : ByteArray) (x99 : Bool), cells H16 (Addr.add (bk H1) (x92.toNat * 4)) (vR x96 x97 x98 x99) 0 ∧ (
 F21 x81 x87 x88 x89 x90 x96 x97 x98 x99 H16 (fun (r102 r103 : Int) (r104 : ByteArray) (r105 : Bool) (r106 : Int) (H100 : Hp) => 
 cell H100 (Addr.add (bk H) 2) = some (iv x92) ∧ cell H100 (Addr.add (bk H) 1) = some (iv x83) ∧ (
 mayw H100 (bk H3) 4 0 ∧ ∀ H109 : Hp, H109 = sets H100 (bk H3) (vR r102 r103 r104 r105) 0 → (
 F8_1 Q (bk H3) r106 H109)))))))))))) ∧
 ((decide (x21 = 2)) = false → (((decide (x21 = 4)) = true → (∃ x114 : Int, cell H16 (Addr.add (bk H) 1) = some (iv x114) ∧ (
 (0 : Int) ≤ x114 ∧ x114 < ((6 : Nat) : Int) ∧ (
 ∃ (x118 x119 : Int) (x120 : ByteArray) (x121 : Bool), cells H16 (Addr.add (bk H1) (x114.toNat * 4)) (vR x118 x119 x120 x121) 0 ∧ (
 F22 2 x118 x119 x120 x121 H16 (fun (r124 r125 : Int) (r126 : ByteArray) (r127 : Bool) (r128 : Int) (H122 : Hp) => 
 mayw H122 (bk H3) 4 0 ∧ ∀ H129 : Hp, H129 = sets H122 (bk H3) (vR r124 r125 r126 r127) 0 → (
 F8_1 Q (bk H3) r128 H129))))))) ∧
 ((decide (x21 = 4)) = false → (F8_1 Q (bk H3) 0 H16))))))))))))))))
theorem walk8 {w0 : World} {p0_0 p0_1 p0_2 p0_3 p0_4 : Int} {p0_5 : ByteArray} {p0_6 : Bool} {p0_7 p1_0 p1_1 : Int} {p1_2 : ByteArray} {p1_3 : Bool} {p1_4 p1_5 : Int} {p1_6 : ByteArray} {p1_7 : Bool} {p1_8 p1_9 : Int} {p1_10 : ByteArray} {p1_11 : Bool} {p1_12 p1_13 : Int} {p1_14 : ByteArray} {p1_15 : Bool} {p1_16 p1_17 : Int} {p1_18 : ByteArray} {p1_19 : Bool} {p1_20 p1_21 : Int} {p1_22 : ByteArray} {p1_23 : Bool} {H : Hp} {Q : Bool → Hp → Prop} (h : F8 p0_0 p0_1 p0_2 p0_3 p0_4 p0_5 p0_6 p0_7 p1_0 p1_1 p1_2 p1_3 p1_4 p1_5 p1_6 p1_7 p1_8 p1_9 p1_10 p1_11 p1_12 p1_13 p1_14 p1_15 p1_16 p1_17 p1_18 p1_19 p1_20 p1_21 p1_22 p1_23 H Q) :
  Good prog w0 8 #[(.agg (mR p0_0 p0_1 p0_2 p0_3 p0_4 p0_5 p0_6 p0_7).toArray), (.agg (nR p1_0 p1_1 p1_2 p1_3 p1_4 p1_5 p1_6 p1_7 p1_8 p1_9 p1_10 p1_11 p1_12 p1_13 p1_14 p1_15 p1_16 p1_17 p1_18 p1_19 p1_20 p1_21 p1_22 p1_23).toArray)] H (fun v H => ∃ (r0 : Bool) , v = (bv r0) ∧ Q r0 H) := by
 unfold F8 at h
 refine Good.enter' (fn := f8) func8 rfl rfl rfl (ws (wr_ (ho rfl (ob (v := (.agg (mR p0_0 p0_1 p0_2 p0_3 p0_4 p0_5 p0_6 p0_7).toArray)) rfl) ?_)))
 rintro _ H1 ⟨rfl, e2⟩
 replace h := h H1 e2
 refine ho rfl (ob (v := (.agg (nR p1_0 p1_1 p1_2 p1_3 p1_4 p1_5 p1_6 p1_7 p1_8 p1_9 p1_10 p1_11 p1_12 p1_13 p1_14 p1_15 p1_16 p1_17 p1_18 p1_19 p1_20 p1_21 p1_22 p1_23).toArray)) rfl) ?_
 rintro _ H3 ⟨rfl, e4⟩
 replace h := h H3 e4
 refine hv (v := (bv false)) rfl (av rfl) (hn (nt (ws (wr_ (hv (v := (pp (Addr.add (bk H) 1))) rfl (fa runUnderlying31 rfl rfl sizeOf3 rfl) ?_)))))
 obtain ⟨x6, c5, h⟩ := h
 refine hv (v := (iv x6)) rfl (l1 isAgg3 rfl c5) ?_
 obtain ⟨b7, b8, h⟩ := h
 refine hv (v := (pp (Addr.add (bk H1) (x6.toNat * 4)))) rfl (HVal.indexAddrA runUnderlying26 sizeOf25 rfl rfl b7 b8) ?_
 obtain ⟨x10, x11, x12, x13, c9, h⟩ := h
 refine hv (v := (.agg (vR x10 x11 x12 x13).toArray)) rfl (ln (vR x10 x11 x12 x13) isAgg25 sizeOf25 rfl c9) (ho rfl (HOp.alloc zeroValue25) ?_)
 rintro _ H14 ⟨rfl, e15⟩
 replace h := h H14 e15
 obtain ⟨z18, h⟩ := h
 refine hq (HOp.storeN' (l := (vR x10 x11 x12 x13)) sizeOf25 rfl rfl rfl z18) ?_
 rintro _ H16 e17
 replace h := h H16 e17
 refine hn (nt (ws (wr_ (hv (v := (iv 0)) rfl (av rfl) (hn (nt (wc (fun ρ H_1 => ∃ (y50 : Int), Env.Is ρ [(5, (pp (bk H3))), (6, (iv y50))] ∧ F8_1 Q (bk H3) y50 H_1) ?_ ?_)))))))
 ·refine ws (wr_ (hv (v := (pp (Addr.add (bk H) 7))) rfl (fa runUnderlying31 rfl rfl sizeOf3 rfl) ?_))
  obtain ⟨x21, c20, h⟩ := h
  refine hv (v := (iv x21)) rfl (l1 isAgg3 rfl c20) (hn (nt (wb (ws (wr_ (hv (v := (bv (decide (x21 = 0)))) rfl (HVal.eqlI rfl rfl) ?_))))))
  refine hv (v := (bv (decide (x21 = 0)))) rfl (av rfl) (hn (nt ?_))
  obtain ⟨hT, hF⟩ := h
  refine wk (decide (x21 = 0)) rfl (fun hb22 => ?_) (fun hb22 => ?_)
  ·have h := hT hb22
   refine HW.draw mixed [(0, some []), (1, some [8, 12]), (2, some []), (3, some [12]), (4, some []), (5, some [8, 12]), (6, some []), (7, some [8, 12]), (8, none), (9, some []), (10, some []), (11, some []), (12, none), (13, some [])] rfl (by kernel_rfl) (by kernel_rfl) ?_
   refine pv (v := (pp (bk H))) rfl rfl (fun _ => HVal.fieldAddr0 runUnderlying31 rfl rfl sizeOf3 rfl) ?_
   obtain ⟨x24, c23, h⟩ := h
   refine pl (v := (iv x24)) (fun X => cell X (bk H) = some (iv x24)) rfl rfl (fun _ hX => l1 isAgg3 rfl hX) c23 (pv (v := (pp (Addr.add (bk H) 1))) rfl rfl (fun _ => fa runUnderlying31 rfl rfl sizeOf3 rfl) ?_)
   obtain ⟨x26, c25, h⟩ := h
   refine pl (v := (iv x26)) (fun X => cell X (Addr.add (bk H) 1) = some (iv x26)) rfl rfl (fun _ hX => l1 isAgg3 rfl hX) c25 ?_
   obtain ⟨b27, b28, h⟩ := h
   refine pv (v := (pp (Addr.add (bk H1) (x26.toNat * 4)))) rfl rfl (fun _ => HVal.indexAddrA runUnderlying26 sizeOf25 rfl rfl b27 b28) ?_
   obtain ⟨x30, x31, x32, x33, c29, h⟩ := h
   refine pl (v := (.agg (vR x30 x31 x32 x33).toArray)) (fun X => cells X (Addr.add (bk H1) (x26.toNat * 4)) (vR x30 x31 x32 x33) 0) rfl rfl (fun _ hX => ln (vR x30 x31 x32 x33) isAgg25 sizeOf25 rfl hX) c29 ?_
   refine pv (v := (pp (Addr.add (bk H) 3))) rfl rfl (fun _ => fa runUnderlying31 rfl rfl sizeOf25 rfl) ?_
   obtain ⟨x35, x36, x37, x38, c34, h⟩ := h
   refine pl (v := (.agg (vR x35 x36 x37 x38).toArray)) (fun X => cells X (Addr.add (bk H) 3) (vR x35 x36 x37 x38) 0) rfl rfl (fun _ hX => ln (vR x35 x36 x37 x38) isAgg25 sizeOf25 rfl hX) c34 ?_
   refine po rfl rfl (HOp.call' 21 [(iv x24), (.agg (vR x30 x31 x32 x33).toArray), (.agg (vR x35 x36 x37 x38).toArray)] (cap := []) rfl rfl call21 (walk21 h)) ?_
   rintro _ H39 ⟨r41, r42, r43, r44, r45, rfl, h⟩
   obtain ⟨s46, h⟩ := h
   refine ⟨SC_of ⟨nofun, nofun, fun _ => s46, nofun, trivial⟩, ?_⟩
   refine pv (v := (.tuple #[(.agg (vR r41 r42 r43 r44).toArray), (iv r45)])) rfl rfl (fun _ => mv rfl) (pv (v := (.agg (vR r41 r42 r43 r44).toArray)) rfl rfl (fun _ => HVal.extract rfl rfl) ?_)
   refine pv (v := (iv r45)) rfl rfl (fun _ => HVal.extract rfl rfl) ?_
   obtain ⟨z49, h⟩ := h
   refine pn rfl (HOp.storeN' (l := (vR r41 r42 r43 r44)) sizeOf25 rfl rfl rfl z49) ?_
   rintro _ H47 e48
   replace h := h H47 e48
   refine ⟨SC_of ⟨nofun, nofun, nofun, nofun, trivial⟩, ?_⟩
   refine pv (v := (iv r45)) rfl rfl (fun _ => av rfl) (HPlan.done (nb (nt ?_)))
   exact ⟨r45, (isp rfl), h⟩
  have h := hF hb22
  refine ws (wr_ (hv (v := (bv (decide (x21 = 1)))) rfl (HVal.eqlI rfl rfl) (hv (v := (bv (decide (x21 = 1)))) rfl (av rfl) ?_)))
  refine hn (nt ?_)
  obtain ⟨hT, hF⟩ := h
  refine wk (decide (x21 = 1)) rfl (fun hb51 => ?_) (fun hb51 => ?_)
  ·have h := hT hb51
   refine HW.draw mixed [(0, some []), (1, some [8, 12]), (2, some []), (3, some [8, 12]), (4, some []), (5, some [12]), (6, some []), (7, some [8, 12]), (8, none), (9, some []), (10, some []), (11, some []), (12, none), (13, some [])] rfl (by kernel_rfl) (by kernel_rfl) ?_
   refine pv (v := (pp (bk H))) rfl rfl (fun _ => HVal.fieldAddr0 runUnderlying31 rfl rfl sizeOf3 rfl) ?_
   obtain ⟨x53, c52, h⟩ := h
   refine pl (v := (iv x53)) (fun X => cell X (bk H) = some (iv x53)) rfl rfl (fun _ hX => l1 isAgg3 rfl hX) c52 (pv (v := (pp (Addr.add (bk H) 3))) rfl rfl (fun _ => fa runUnderlying31 rfl rfl sizeOf25 rfl) ?_)
   obtain ⟨x55, x56, x57, x58, c54, h⟩ := h
   refine pl (v := (.agg (vR x55 x56 x57 x58).toArray)) (fun X => cells X (Addr.add (bk H) 3) (vR x55 x56 x57 x58) 0) rfl rfl (fun _ hX => ln (vR x55 x56 x57 x58) isAgg25 sizeOf25 rfl hX) c54 ?_
   refine pv (v := (pp (Addr.add (bk H) 1))) rfl rfl (fun _ => fa runUnderlying31 rfl rfl sizeOf3 rfl) ?_
   obtain ⟨x60, c59, h⟩ := h
   refine pl (v := (iv x60)) (fun X => cell X (Addr.add (bk H) 1) = some (iv x60)) rfl rfl (fun _ hX => l1 isAgg3 rfl hX) c59 ?_
   obtain ⟨b61, b62, h⟩ := h
   refine pv (v := (pp (Addr.add (bk H1) (x60.toNat * 4)))) rfl rfl (fun _ => HVal.indexAddrA runUnderlying26 sizeOf25 rfl rfl b61 b62) ?_
   obtain ⟨x64, x65, x66, x67, c63, h⟩ := h
   refine pl (v := (.agg (vR x64 x65 x66 x67).toArray)) (fun X => cells X (Addr.add (bk H1) (x60.toNat * 4)) (vR x64 x65 x66 x67) 0) rfl rfl (fun _ hX => ln (vR x64 x65 x66 x67) isAgg25 sizeOf25 rfl hX) c63 ?_
   refine po rfl rfl (HOp.call' 21 [(iv x53), (.agg (vR x55 x56 x57 x58).toArray), (.agg (vR x64 x65 x66 x67).toArray)] (cap := []) rfl rfl call21 (walk21 h)) ?_
   rintro _ H68 ⟨r70, r71, r72, r73, r74, rfl, h⟩
   obtain ⟨s75, h⟩ := h
   refine ⟨SC_of ⟨nofun, fun _ => s75, nofun, nofun, trivial⟩, ?_⟩
   refine pv (v := (.tuple #[(.agg (vR r70 r71 r72 r73).toArray), (iv r74)])) rfl rfl (fun _ => mv rfl) (pv (v := (.agg (vR r70 r71 r72 r73).toArray)) rfl rfl (fun _ => HVal.extract rfl rfl) ?_)
   refine pv (v := (iv r74)) rfl rfl (fun _ => HVal.extract rfl rfl) ?_
   obtain ⟨z78, h⟩ := h
   refine pn rfl (HOp.storeN' (l := (vR r70 r71 r72 r73)) sizeOf25 rfl rfl rfl z78) ?_
   rintro _ H76 e77
   replace h := h H76 e77
   refine ⟨SC_of ⟨nofun, nofun, nofun, nofun, trivial⟩, ?_⟩
   refine pv (v := (iv r74)) rfl rfl (fun _ => av rfl) (HPlan.done (nb (nt ?_)))
   exact ⟨r74, (isp rfl), h⟩
  have h := hF hb51
  refine ws (wr_ (hv (v := (bv (decide (x21 = 2)))) rfl (HVal.eqlI rfl rfl) (hv (v := (bv (decide (x21 = 2)))) rfl (av rfl) ?_)))
  refine hn (nt ?_)
  obtain ⟨hT, hF⟩ := h
  refine wk (decide (x21 = 2)) rfl (fun hb79 => ?_) (fun hb79 => ?_)
  ·have h := hT hb79
   refine HW.draw mixed [(0, some []), (1, some [10, 14]), (2, some []), (3, some [14]), (4, some []), (5, some [10, 14]), (6, some []), (7, some [14]), (8, some []), (9, some [10, 14]), (10, none), (11, some []), (12, some []), (13, some []), (14, none), (15, some [])] rfl (by kernel_rfl) (by kernel_rfl) ?_
   refine pv (v := (pp (bk H))) rfl rfl (fun _ => HVal.fieldAddr0 runUnderlying31 rfl rfl sizeOf3 rfl) ?_
   obtain ⟨x81, c80, h⟩ := h
   refine pl (v := (iv x81)) (fun X => cell X (bk H) = some (iv x81)) rfl rfl (fun _ hX => l1 isAgg3 rfl hX) c80 (pv (v := (pp (Addr.add (bk H) 1))) rfl rfl (fun _ => fa runUnderlying31 rfl rfl sizeOf3 rfl) ?_)
   obtain ⟨x83, c82, h⟩ := h
   refine pl (v := (iv x83)) (fun X => cell X (Addr.add (bk H) 1) = some (iv x83)) rfl rfl (fun _ hX => l1 isAgg3 rfl hX) c82 ?_
   obtain ⟨b84, b85, h⟩ := h
   refine pv (v := (pp (Addr.add (bk H1) (x83.toNat * 4)))) rfl rfl (fun _ => HVal.indexAddrA runUnderlying26 sizeOf25 rfl rfl b84 b85) ?_
   obtain ⟨x87, x88, x89, x90, c86, h⟩ := h
   refine pl (v := (.agg (vR x87 x88 x89 x90).toArray)) (fun X => cells X (Addr.add (bk H1) (x83.toNat * 4)) (vR x87 x88 x89 x90) 0) rfl rfl (fun _ hX => ln (vR x87 x88 x89 x90) isAgg25 sizeOf25 rfl hX) c86 ?_
   refine pv (v := (pp (Addr.add (bk H) 2))) rfl rfl (fun _ => fa runUnderlying31 rfl rfl sizeOf3 rfl) ?_
   obtain ⟨x92, c91, h⟩ := h
   refine pl (v := (iv x92)) (fun X => cell X (Addr.add (bk H) 2) = some (iv x92)) rfl rfl (fun _ hX => l1 isAgg3 rfl hX) c91 ?_
   obtain ⟨b93, b94, h⟩ := h
   refine pv (v := (pp (Addr.add (bk H1) (x92.toNat * 4)))) rfl rfl (fun _ => HVal.indexAddrA runUnderlying26 sizeOf25 rfl rfl b93 b94) ?_
   obtain ⟨x96, x97, x98, x99, c95, h⟩ := h
   refine pl (v := (.agg (vR x96 x97 x98 x99).toArray)) (fun X => cells X (Addr.add (bk H1) (x92.toNat * 4)) (vR x96 x97 x98 x99) 0) rfl rfl (fun _ hX => ln (vR x96 x97 x98 x99) isAgg25 sizeOf25 rfl hX) c95 ?_
   refine po rfl rfl (HOp.call' 21 [(iv x81), (.agg (vR x87 x88 x89 x90).toArray), (.agg (vR x96 x97 x98 x99).toArray)] (cap := []) rfl rfl call21 (walk21 h)) ?_
   rintro _ H100 ⟨r102, r103, r104, r105, r106, rfl, h⟩
   obtain ⟨s107, s108, h⟩ := h
   refine ⟨SC_of ⟨nofun, fun _ => s107, nofun, fun _ => s108, nofun, trivial⟩, ?_⟩
   refine pv (v := (.tuple #[(.agg (vR r102 r103 r104 r105).toArray), (iv r106)])) rfl rfl (fun _ => mv rfl) (pv (v := (.agg (vR r102 r103 r104 r105).toArray)) rfl rfl (fun _ => HVal.extract rfl rfl) ?_)
   refine pv (v := (iv r106)) rfl rfl (fun _ => HVal.extract rfl rfl) ?_
   obtain ⟨z111, h⟩ := h
   refine pn rfl (HOp.storeN' (l := (vR r102 r103 r104 r105)) sizeOf25 rfl rfl rfl z111) ?_
   rintro _ H109 e110
   replace h := h H109 e110
   refine ⟨SC_of ⟨nofun, nofun, nofun, nofun, nofun, trivial⟩, ?_⟩
   refine pv (v := (iv r106)) rfl rfl (fun _ => av rfl) (HPlan.done (nb (nt ?_)))
   exact ⟨r106, (isp rfl), h⟩
  have h := hF hb79
  refine ws (wr_ (hv (v := (bv (decide (x21 = 4)))) rfl (HVal.eqlI rfl rfl) (hv (v := (bv (decide (x21 = 4)))) rfl (av rfl) ?_)))
  refine hn (nt ?_)
  obtain ⟨hT, hF⟩ := h
  refine wk (decide (x21 = 4)) rfl (fun hb112 => ?_) (fun hb112 => ?_)
  ·have h := hT hb112
   refine wr_ (hv (v := (pp (Addr.add (bk H) 1))) rfl (fa runUnderlying31 rfl rfl sizeOf3 rfl) ?_)
   obtain ⟨x114, c113, h⟩ := h
   refine hv (v := (iv x114)) rfl (l1 isAgg3 rfl c113) ?_
   obtain ⟨b115, b116, h⟩ := h
   refine hv (v := (pp (Addr.add (bk H1) (x114.toNat * 4)))) rfl (HVal.indexAddrA runUnderlying26 sizeOf25 rfl rfl b115 b116) ?_
   obtain ⟨x118, x119, x120, x121, c117, h⟩ := h
   refine hv (v := (.agg (vR x118 x119 x120 x121).toArray)) rfl (ln (vR x118 x119 x120 x121) isAgg25 sizeOf25 rfl c117) (ho rfl (HOp.call' 22 [(iv 2), (.agg (vR x118 x119 x120 x121).toArray)] (cap := []) rfl rfl call22 (walk22 h)) ?_)
   rintro _ H122 ⟨r124, r125, r126, r127, r128, rfl, h⟩
   refine hv (v := (.tuple #[(.agg (vR r124 r125 r126 r127).toArray), (iv r128)])) rfl (mv rfl) (hv (v := (.agg (vR r124 r125 r126 r127).toArray)) rfl (HVal.extract rfl rfl) ?_)
   refine hv (v := (iv r128)) rfl (HVal.extract rfl rfl) ?_
   obtain ⟨z131, h⟩ := h
   refine hq (HOp.storeN' (l := (vR r124 r125 r126 r127)) sizeOf25 rfl rfl rfl z131) ?_
   rintro _ H129 e130
   replace h := h H129 e130
   refine hv (v := (iv r128)) rfl (av rfl) (hn (nb (nt ?_)))
   exact ⟨r128, (isp rfl), h⟩
  have h := hF hb112
  refine wp_ (nb (nt ?_))
  exact ⟨0, (isp rfl), h⟩
 rintro ρ H_1 ⟨y50, hI, h⟩
 obtain ⟨ρ0, rfl⟩ := hI.ex
 clear hI; unfold F8_1 at h
 refine ws (wr_ (hv (v := (iv y50)) rfl (mv rfl) (hv (v := (bv (decide (y50 = 0)))) rfl (HVal.eqlI rfl rfl) (hv (v := (bv (decide (y50 = 0)))) rfl (mv rfl) ?_))))
 obtain ⟨hT, hF⟩ := h
 rcases Bool.eq_false_or_eq_true (decide (y50 = 0)) with hb132 | hb133
 ·have h := hT hb132
  obtain ⟨x135, x136, x137, x138, c134, h⟩ := h
  refine hg (v := (.agg (vR x135 x136 x137 x138).toArray)) rfl rfl rfl rfl (cB hb132) (ln (vR x135 x136 x137 x138) isAgg25 sizeOf25 rfl c134) ?_
  refine hg (v := (.agg (vR 3 0 bE true).toArray)) rfl rfl rfl rfl (cB hb132) (HVal.build' (cs := (vR 3 0 bE true)) runUnderlying25 zeroValue25 places25 rfl) ?_
  refine hg (v := (bv (decide (x135 = 3) && (decide (x136 = 0) && (seq x137 bE && (x138 == true)))))) rfl rfl rfl rfl (cB hb132) (eqs25_eql rfl rfl) ?_
  refine hv (v := (bv (decide (x135 = 3) && (decide (x136 = 0) && (seq x137 bE && (x138 == true)))))) rfl (pt_ rfl hb132 rfl) (hv (v := (bv (decide (x135 = 3) && (decide (x136 = 0) && (seq x137 bE && (x138 == true)))))) rfl (av rfl) ?_)
  refine hn (nt (HW.ret ?_))
  exact ⟨_, resOf1 rfl Res1.t, ⟨(decide (x135 = 3) && (decide (x136 = 0) && (seq x137 bE && (x138 == true)))), rfl, h⟩⟩
 have h := hF hb133
 refine hs_ rfl rfl rfl rfl (cB hb133) (hs_ rfl rfl rfl rfl (cB hb133) (hs_ rfl rfl rfl rfl (cB hb133) (hv (v := (bv false)) rfl (pf_ rfl hb133 rfl) ?_)))
 refine hv (v := (bv false)) rfl (av rfl) (hn (nt (HW.ret ?_)))
 exact ⟨_, resOf1 rfl Res1.t, ⟨false, rfl, h⟩⟩

def F11 (H : Hp) (Q : Sl → Hp → Prop) : Prop :=
F18 S_a S_x H (fun (r3 r4 r5 r6 : Int) (r7 : ByteArray) (r8 : Bool) (r9 : ByteArray) (r10 : Int) (r11 : ByteArray) (r12 : Sl) (H1 : Hp) => 
 F18 S_b S_x H1 (fun (r15 r16 r17 r18 : Int) (r19 : ByteArray) (r20 : Bool) (r21 : ByteArray) (r22 : Int) (r23 : ByteArray) (r24 : Sl) (H13 : Hp) => 
 F18 S_a S_s H13 (fun (r27 r28 r29 r30 : Int) (r31 : ByteArray) (r32 : Bool) (r33 : ByteArray) (r34 : Int) (r35 : ByteArray) (r36 : Sl) (H25 : Hp) => 
 F18 S_b S_s H25 (fun (r39 r40 r41 r42 : Int) (r43 : ByteArray) (r44 : Bool) (r45 : ByteArray) (r46 : Int) (r47 : ByteArray) (r48 : Sl) (H37 : Hp) => 
 F18 S_c S_t H37 (fun (r51 r52 r53 r54 : Int) (r55 : ByteArray) (r56 : Bool) (r57 : ByteArray) (r58 : Int) (r59 : ByteArray) (r60 : Sl) (H49 : Hp) => 
 ∀ H61 : Hp, H61 = Array.push H49 (.cells #[(iv r3), (iv r4), (iv r5), (iv r6), (sv r7), (bv r8), (sv r9), (iv r10), (sv r11), (Sl.v r12), (iv r15), (iv r16), (iv r17), (iv r18), (sv r19), (bv r20), (sv r21), (iv r22), (sv r23), (Sl.v r24), (iv r27), (iv r28), (iv r29), (iv r30), (sv r31), (bv r32), (sv r33), (iv r34), (sv r35), (Sl.v r36), (iv r39), (iv r40), (iv r41), (iv r42), (sv r43), (bv r44), (sv r45), (iv r46), (sv r47), (Sl.v r48), (iv 3), (iv 1), (iv 0), (iv 0), (sv bE), (bv false), (sv S_c), (iv 6), (sv bE), sN, (iv r51), (iv r52), (iv r53), (iv r54), (sv r55), (bv r56), (sv r57), (iv r58), (sv r59), (Sl.v r60)] 41) → (
 Q (Sl.mk (some (bk H49)) 6 6) H61))))))
theorem walk11 {w0 : World} {H : Hp} {Q : Sl → Hp → Prop} (h : F11 H Q) :
  Good prog w0 11 #[] H (fun v H => ∃ (r0 : Sl) , v = (Sl.v r0) ∧ Q r0 H) := by
 unfold F11 at h
 refine Good.enter' (fn := f11) func11 rfl rfl rfl (ws (wr_ (hv (v := sN) rfl (av rfl) (hn (nt (ws (wr_ ?_)))))))
 refine ho rfl (HOp.call' 18 [(sv S_a), (sv S_x)] (cap := []) rfl rfl call18 (walk18 h)) ?_
 rintro _ H1 ⟨r3, r4, r5, r6, r7, r8, r9, r10, r11, r12, rfl, h⟩
 refine ho rfl (HOp.call' 18 [(sv S_b), (sv S_x)] (cap := []) rfl rfl call18 (walk18 h)) ?_
 rintro _ H13 ⟨r15, r16, r17, r18, r19, r20, r21, r22, r23, r24, rfl, h⟩
 refine ho rfl (HOp.call' 18 [(sv S_a), (sv S_s)] (cap := []) rfl rfl call18 (walk18 h)) ?_
 rintro _ H25 ⟨r27, r28, r29, r30, r31, r32, r33, r34, r35, r36, rfl, h⟩
 refine ho rfl (HOp.call' 18 [(sv S_b), (sv S_s)] (cap := []) rfl rfl call18 (walk18 h)) ?_
 rintro _ H37 ⟨r39, r40, r41, r42, r43, r44, r45, r46, r47, r48, rfl, h⟩
 refine hv (v := (.agg (eR 3 1 0 0 bE false S_c 6 bE Sl.nil).toArray)) rfl (HVal.build' (cs := (eR 3 1 0 0 bE false S_c 6 bE Sl.nil)) runUnderlying41 zeroValue41 places41 (by kernel_rfl)) ?_
 refine ho rfl (HOp.call' 18 [(sv S_c), (sv S_t)] (cap := []) rfl rfl call18 (walk18 h)) ?_
 rintro _ H49 ⟨r51, r52, r53, r54, r55, r56, r57, r58, r59, r60, rfl, h⟩
 refine ho rfl (HOp.buildSlice' (zs := [(iv 0), (iv 0), (iv 0), (iv 0), (sv bE), (bv false), (sv bE), (iv 0), (sv bE), sN, (iv 0), (iv 0), (iv 0), (iv 0), (sv bE), (bv false), (sv bE), (iv 0), (sv bE), sN, (iv 0), (iv 0), (iv 0), (iv 0), (sv bE), (bv false), (sv bE), (iv 0), (sv bE), sN, (iv 0), (iv 0), (iv 0), (iv 0), (sv bE), (bv false), (sv bE), (iv 0), (sv bE), sN, (iv 0), (iv 0), (iv 0), (iv 0), (sv bE), (bv false), (sv bE), (iv 0), (sv bE), sN, (iv 0), (iv 0), (iv 0), (iv 0), (sv bE), (bv false), (sv bE), (iv 0), (sv bE), sN]) (cs := [(iv r3), (iv r4), (iv r5), (iv r6), (sv r7), (bv r8), (sv r9), (iv r10), (sv r11), (Sl.v r12), (iv r15), (iv r16), (iv r17), (iv r18), (sv r19), (bv r20), (sv r21), (iv r22), (sv r23), (Sl.v r24), (iv r27), (iv r28), (iv r29), (iv r30), (sv r31), (bv r32), (sv r33), (iv r34), (sv r35), (Sl.v r36), (iv r39), (iv r40), (iv r41), (iv r42), (sv r43), (bv r44), (sv r45), (iv r46), (sv r47), (Sl.v r48), (iv 3), (iv 1), (iv 0), (iv 0), (sv bE), (bv false), (sv S_c), (iv 6), (sv bE), sN, (iv r51), (iv r52), (iv r53), (iv r54), (sv r55), (bv r56), (sv r57), (iv r58), (sv r59), (Sl.v r60)]) runUnderlying35 sizeOf41 zeroValue41 (by decide) (by kernel_rfl) (by kernel_rfl) (by decide)) ?_
 rintro _ H61 ⟨rfl, e62⟩
 replace h := h H61 e62
 refine hv (v := (Sl.v (Sl.mk (some (bk H49)) 6 6))) rfl (av rfl) (hn (nt (HW.ret ?_)))
 exact ⟨_, resOf1 rfl Res1.t, ⟨(Sl.mk (some (bk H49)) 6 6), rfl, h⟩⟩

def F50_1 (Q : Int → Int → Int → Int → ByteArray → Bool → ByteArray → Int → ByteArray → Sl → Hp → Prop) (y5 y6 : Addr) (y13 : Bool) (H_1 : Hp) : Prop :=
(y13 = true → (∃ x16 : Int, cell H_1 (Addr.add y5 1) = some (iv x16) ∧ (
 F19 (IntKind.i64.wrap (0 - x16)) H_1 (fun (r19 r20 r21 r22 : Int) (r23 : ByteArray) (r24 : Bool) (r25 : ByteArray) (r26 : Int) (r27 : ByteArray) (r28 : Sl) (H17 : Hp) => 
 ∀ H29 : Hp, H29 = Array.push H17 (.cells (eR r19 r20 r21 r22 r23 r24 r25 r26 r27 r28).toArray 41) → (
 mayw H29 y6 10 0 ∧ ∀ H31 : Hp, H31 = sets H29 y6 (eR 4 1 0 0 bE false bE 0 bE (Sl.mk (some (bk H17)) 1 1)) 0 → (
 ∃ (x34 x35 x36 x37 : Int) (x38 : ByteArray) (x39 : Bool) (x40 : ByteArray) (x41 : Int) (x42 : ByteArray) (x43 : Sl), cells H31 y6 (eR x34 x35 x36 x37 x38 x39 x40 x41 x42 x43) 0 ∧ (
 Q x34 x35 x36 x37 x38 x39 x40 x41 x42 x43 H31))))))) ∧
 (y13 = false → (∃ (x46 x47 : Int) (x48 : ByteArray) (x49 : Bool), cells H_1 y5 (vR x46 x47 x48 x49) 0 ∧ (
 mayw H_1 y6 10 0 ∧ ∀ H50 : Hp, H50 = sets H_1 y6 (eR 1 0 x46 x47 x48 x49 bE 0 bE Sl.nil) 0 → (
 ∃ (x53 x54 x55 x56 : Int) (x57 : ByteArray) (x58 : Bool) (x59 : ByteArray) (x60 : Int) (x61 : ByteArray) (x62 : Sl), cells H50 y6 (eR x53 x54 x55 x56 x57 x58 x59 x60 x61 x62) 0 ∧ (
 Q x53 x54 x55 x56 x57 x58 x59 x60 x61 x62 H50)))))
def F50 (p0_0 p0_1 : Int) (p0_2 : ByteArray) (p0_3 : Bool) (H : Hp) (Q : Int → Int → Int → Int → ByteArray → Bool → ByteArray → Int → ByteArray → Sl → Hp → Prop) : Prop :=
∀ H1 : Hp, H1 = Array.push H (.cells (vR p0_0 p0_1 p0_2 p0_3).toArray 25) → (
 ∀ H3 : Hp, H3 = Array.push H1 (.cells zR.toArray 41) → (
 ∃ x8 : Int, cell H3 (bk H) = some (iv x8) ∧ (
 ((decide (x8 = 1)) = true → (∃ x12 : Int, cell H3 (Addr.add (bk H) 1) = some (iv x12) ∧ (
 F50_1 Q (bk H) (bk H1) (decide (x12 < 0)) H3))) ∧
 ((decide (x8 = 1)) = false → (F50_1 Q (bk H) (bk H1) false H3)))))
theorem walk50 {w0 : World} {p0_0 p0_1 : Int} {p0_2 : ByteArray} {p0_3 : Bool} {H : Hp} {Q : Int → Int → Int → Int → ByteArray → Bool → ByteArray → Int → ByteArray → Sl → Hp → Prop} (h : F50 p0_0 p0_1 p0_2 p0_3 H Q) :
  Good prog w0 50 #[(.agg (vR p0_0 p0_1 p0_2 p0_3).toArray)] H (fun v H => ∃ (r0 r1 r2 r3 : Int) (r4 : ByteArray) (r5 : Bool) (r6 : ByteArray) (r7 : Int) (r8 : ByteArray) (r9 : Sl) , v = (.agg (eR r0 r1 r2 r3 r4 r5 r6 r7 r8 r9).toArray) ∧ Q r0 r1 r2 r3 r4 r5 r6 r7 r8 r9 H) := by
 unfold F50 at h
 refine Good.enter' (fn := f50) func50 rfl rfl rfl (ws (wr_ (ho rfl (ob (v := (.agg (vR p0_0 p0_1 p0_2 p0_3).toArray)) rfl) ?_)))
 rintro _ H1 ⟨rfl, e2⟩
 replace h := h H1 e2
 refine ho rfl (HOp.alloc zeroValue41) ?_
 rintro _ H3 ⟨rfl, e4⟩
 replace h := h H3 e4
 refine hn (nt (ws (wc (fun ρ H_1 => ∃ (y13 : Bool), Env.Is ρ [(1, (pp (bk H))), (2, (pp (bk H1))), (10, (bv y13))] ∧ F50_1 Q (bk H) (bk H1) y13 H_1) ?_ ?_)))
 ·refine wr_ (hv (v := (pp (bk H))) rfl (HVal.fieldAddr0 runUnderlying25 rfl rfl sizeOf3 rfl) ?_)
  obtain ⟨x8, c7, h⟩ := h
  refine hv (v := (iv x8)) rfl (l1 isAgg3 rfl c7) (hv (v := (bv (decide (x8 = 1)))) rfl (HVal.eqlI rfl rfl) (hv (v := (bv (decide (x8 = 1)))) rfl (mv rfl) ?_))
  obtain ⟨hT, hF⟩ := h
  rcases Bool.eq_false_or_eq_true (decide (x8 = 1)) with hb9 | hb10
  ·have h := hT hb9
   refine hg (v := (pp (Addr.add (bk H) 1))) rfl rfl rfl rfl (cB hb9) (fa runUnderlying25 rfl rfl sizeOf2 rfl) ?_
   obtain ⟨x12, c11, h⟩ := h
   refine hg (v := (iv x12)) rfl rfl rfl rfl (cB hb9) (l1 isAgg2 rfl c11) (hg (v := (bv (decide (x12 < 0)))) rfl rfl rfl rfl (cB hb9) (HVal.lss rfl rfl) ?_)
   refine hv (v := (bv (decide (x12 < 0)))) rfl (pt_ rfl hb9 rfl) (hn (nt ?_))
   exact ⟨(decide (x12 < 0)), (isp rfl), h⟩
  have h := hF hb10
  refine hs_ rfl rfl rfl rfl (cB hb10) (hs_ rfl rfl rfl rfl (cB hb10) (hs_ rfl rfl rfl rfl (cB hb10) (hv (v := (bv false)) rfl (pf_ rfl hb10 rfl) ?_)))
  refine hn (nt ?_)
  exact ⟨false, (isp rfl), h⟩
 rintro ρ H_1 ⟨y13, hI, h⟩
 obtain ⟨ρ0, rfl⟩ := hI.ex
 clear hI; unfold F50_1 at h
 obtain ⟨hT, hF⟩ := h
 refine wk y13 rfl (fun hb14 => ?_) (fun hb14 => ?_)
 ·have h := hT hb14
  refine ws (wr_ (hv (v := (pp (Addr.add (bk H) 1))) rfl (fa runUnderlying25 rfl rfl sizeOf2 rfl) ?_))
  obtain ⟨x16, c15, h⟩ := h
  refine hv (v := (iv x16)) rfl (l1 isAgg2 rfl c15) (hv (v := (iv (IntKind.i64.wrap (0 - x16)))) rfl (HVal.sub rfl rfl) (ho rfl (HOp.call' 19 [(iv (IntKind.i64.wrap (0 - x16)))] (cap := []) rfl rfl call19 (walk19 h)) ?_))
  rintro _ H17 ⟨r19, r20, r21, r22, r23, r24, r25, r26, r27, r28, rfl, h⟩
  refine ho rfl (HOp.buildSlice' (zs := zR) (cs := (eR r19 r20 r21 r22 r23 r24 r25 r26 r27 r28)) runUnderlying35 sizeOf41 zeroValue41 (by decide) (by kernel_rfl) (by kernel_rfl) (by decide)) ?_
  rintro _ H29 ⟨rfl, e30⟩
  replace h := h H29 e30
  refine hv (v := (.agg (eR 4 1 0 0 bE false bE 0 bE (Sl.mk (some (bk H17)) 1 1)).toArray)) rfl (HVal.build' (cs := (eR 4 1 0 0 bE false bE 0 bE (Sl.mk (some (bk H17)) 1 1))) runUnderlying41 zeroValue41 places41 (by kernel_rfl)) ?_
  obtain ⟨z33, h⟩ := h
  refine hq (HOp.storeN' (l := (eR 4 1 0 0 bE false bE 0 bE (Sl.mk (some (bk H17)) 1 1))) sizeOf41 rfl rfl rfl z33) ?_
  rintro _ H31 e32
  replace h := h H31 e32
  refine hn (nt (HW.ret (tr ?_)))
  obtain ⟨x34, x35, x36, x37, x38, x39, x40, x41, x42, x43, c44, h⟩ := h
  exact ⟨_, resOf1 rfl (Res1.n (eR x34 x35 x36 x37 x38 x39 x40 x41 x42 x43) isAgg41 sizeOf41 rfl c44), ⟨x34, x35, x36, x37, x38, x39, x40, x41, x42, x43, rfl, h⟩⟩
 have h := hF hb14
 refine wp_ (nt (ws (wr_ ?_)))
 obtain ⟨x46, x47, x48, x49, c45, h⟩ := h
 refine hv (v := (.agg (vR x46 x47 x48 x49).toArray)) rfl (ln (vR x46 x47 x48 x49) isAgg25 sizeOf25 rfl c45) (hv (v := (.agg (eR 1 0 x46 x47 x48 x49 bE 0 bE Sl.nil).toArray)) rfl (HVal.build' (cs := (eR 1 0 x46 x47 x48 x49 bE 0 bE Sl.nil)) runUnderlying41 zeroValue41 places41 (by kernel_rfl)) ?_)
 obtain ⟨z52, h⟩ := h
 refine hq (HOp.storeN' (l := (eR 1 0 x46 x47 x48 x49 bE 0 bE Sl.nil)) sizeOf41 rfl rfl rfl z52) ?_
 rintro _ H50 e51
 replace h := h H50 e51
 refine hn (nt (HW.ret ?_))
 obtain ⟨x53, x54, x55, x56, x57, x58, x59, x60, x61, x62, c63, h⟩ := h
 exact ⟨_, resOf1 rfl (Res1.n (eR x53 x54 x55 x56 x57 x58 x59 x60 x61 x62) isAgg41 sizeOf41 rfl c63), ⟨x53, x54, x55, x56, x57, x58, x59, x60, x61, x62, rfl, h⟩⟩

def F29 (p0_0 p0_1 p0_2 p0_3 p0_4 : Int) (p0_5 : ByteArray) (p0_6 : Bool) (p0_7 : Int) (H : Hp) (Q : Int → Int → Int → Int → ByteArray → Bool → ByteArray → Int → ByteArray → Sl → Hp → Prop) : Prop :=
∀ H1 : Hp, H1 = Array.push H (.cells (mR p0_0 p0_1 p0_2 p0_3 p0_4 p0_5 p0_6 p0_7).toArray 31) → (
 ∀ H3 : Hp, H3 = Array.push H1 (.cells zR.toArray 41) → (
 F11 H3 (fun (r7 : Sl) (H5 : Hp) => 
 ∃ (x9 x10 : Int) (x11 : ByteArray) (x12 : Bool), cells H5 (Addr.add (bk H) 3) (vR x9 x10 x11 x12) 0 ∧ (
 F50 x9 x10 x11 x12 H5 (fun (r15 r16 r17 r18 : Int) (r19 : ByteArray) (r20 : Bool) (r21 : ByteArray) (r22 : Int) (r23 : ByteArray) (r24 : Sl) (H13 : Hp) => 
 ∀ H25 : Hp, H25 = Array.push H13 (.cells zR.toArray 41) → (
 mayw H25 (bk H13) 10 0 ∧ ∀ H27 : Hp, H27 = sets H25 (bk H13) (eR r15 r16 r17 r18 r19 r20 r21 r22 r23 r24) 0 → (
 ∃ x31 : Int, cell H27 (Addr.add (bk H) 7) = some (iv x31) ∧ (
 ((decide (x31 = 0)) = true → (∃ x34 : Int, cell H27 (bk H) = some (iv x34) ∧ (
 ∃ x36 : Int, cell H27 (Addr.add (bk H) 1) = some (iv x36) ∧ (
 ∃ a37 : Addr, (r7).b = some a37 ∧ (0 : Int) ≤ x36 ∧ x36 < ((r7).n : Int) ∧ (
 ∃ (x42 x43 x44 x45 : Int) (x46 : ByteArray) (x47 : Bool) (x48 : ByteArray) (x49 : Int) (x50 : ByteArray) (x51 : Sl), cells H27 (Addr.add a37 (x36.toNat * 10)) (eR x42 x43 x44 x45 x46 x47 x48 x49 x50 x51) 0 ∧ (
 ∃ (x53 x54 x55 x56 : Int) (x57 : ByteArray) (x58 : Bool) (x59 : ByteArray) (x60 : Int) (x61 : ByteArray) (x62 : Sl), cells H27 (bk H13) (eR x53 x54 x55 x56 x57 x58 x59 x60 x61 x62) 0 ∧ (
 ∀ H63 : Hp, H63 = Array.push H27 (.cells #[(iv x42), (iv x43), (iv x44), (iv x45), (sv x46), (bv x47), (sv x48), (iv x49), (sv x50), (Sl.v x51), (iv x53), (iv x54), (iv x55), (iv x56), (sv x57), (bv x58), (sv x59), (iv x60), (sv x61), (Sl.v x62)] 41) → (
 cell H63 (Addr.add (bk H) 1) = some (iv x36) ∧ cell H63 (bk H) = some (iv x34) ∧ (
 mayw H63 (bk H1) 10 0 ∧ ∀ H67 : Hp, H67 = sets H63 (bk H1) (eR 5 x34 0 0 bE false bE 0 bE (Sl.mk (some (bk H27)) 2 2)) 0 → (
 ∃ (x70 x71 x72 x73 : Int) (x74 : ByteArray) (x75 : Bool) (x76 : ByteArray) (x77 : Int) (x78 : ByteArray) (x79 : Sl), cells H67 (bk H1) (eR x70 x71 x72 x73 x74 x75 x76 x77 x78 x79) 0 ∧ (
 Q x70 x71 x72 x73 x74 x75 x76 x77 x78 x79 H67))))))))))) ∧
 ((decide (x31 = 0)) = false → (((decide (x31 = 1)) = true → (∃ x83 : Int, cell H27 (bk H) = some (iv x83) ∧ (
 ∃ (x85 x86 x87 x88 : Int) (x89 : ByteArray) (x90 : Bool) (x91 : ByteArray) (x92 : Int) (x93 : ByteArray) (x94 : Sl), cells H27 (bk H13) (eR x85 x86 x87 x88 x89 x90 x91 x92 x93 x94) 0 ∧ (
 ∃ x96 : Int, cell H27 (Addr.add (bk H) 1) = some (iv x96) ∧ (
 ∃ a97 : Addr, (r7).b = some a97 ∧ (0 : Int) ≤ x96 ∧ x96 < ((r7).n : Int) ∧ (
 ∃ (x102 x103 x104 x105 : Int) (x106 : ByteArray) (x107 : Bool) (x108 : ByteArray) (x109 : Int) (x110 : ByteArray) (x111 : Sl), cells H27 (Addr.add a97 (x96.toNat * 10)) (eR x102 x103 x104 x105 x106 x107 x108 x109 x110 x111) 0 ∧ (
 ∀ H112 : Hp, H112 = Array.push H27 (.cells #[(iv x85), (iv x86), (iv x87), (iv x88), (sv x89), (bv x90), (sv x91), (iv x92), (sv x93), (Sl.v x94), (iv x102), (iv x103), (iv x104), (iv x105), (sv x106), (bv x107), (sv x108), (iv x109), (sv x110), (Sl.v x111)] 41) → (
 cell H112 (Addr.add (bk H) 1) = some (iv x96) ∧ cell H112 (bk H) = some (iv x83) ∧ (
 mayw H112 (bk H1) 10 0 ∧ ∀ H116 : Hp, H116 = sets H112 (bk H1) (eR 5 x83 0 0 bE false bE 0 bE (Sl.mk (some (bk H27)) 2 2)) 0 → (
 ∃ (x119 x120 x121 x122 : Int) (x123 : ByteArray) (x124 : Bool) (x125 : ByteArray) (x126 : Int) (x127 : ByteArray) (x128 : Sl), cells H116 (bk H1) (eR x119 x120 x121 x122 x123 x124 x125 x126 x127 x128) 0 ∧ (
 Q x119 x120 x121 x122 x123 x124 x125 x126 x127 x128 H116))))))))))) ∧
 ((decide (x31 = 1)) = false → (((decide (x31 = 2)) = true → (∃ x132 : Int, cell H27 (bk H) = some (iv x132) ∧ (
 ∃ x134 : Int, cell H27 (Addr.add (bk H) 1) = some (iv x134) ∧ (
 ∃ a135 : Addr, (r7).b = some a135 ∧ (0 : Int) ≤ x134 ∧ x134 < ((r7).n : Int) ∧ (
 ∃ (x140 x141 x142 x143 : Int) (x144 : ByteArray) (x145 : Bool) (x146 : ByteArray) (x147 : Int) (x148 : ByteArray) (x149 : Sl), cells H27 (Addr.add a135 (x134.toNat * 10)) (eR x140 x141 x142 x143 x144 x145 x146 x147 x148 x149) 0 ∧ (
 ∃ x151 : Int, cell H27 (Addr.add (bk H) 2) = some (iv x151) ∧ (
 ∃ a152 : Addr, (r7).b = some a152 ∧ (0 : Int) ≤ x151 ∧ x151 < ((r7).n : Int) ∧ (
 ∃ (x157 x158 x159 x160 : Int) (x161 : ByteArray) (x162 : Bool) (x163 : ByteArray) (x164 : Int) (x165 : ByteArray) (x166 : Sl), cells H27 (Addr.add a152 (x151.toNat * 10)) (eR x157 x158 x159 x160 x161 x162 x163 x164 x165 x166) 0 ∧ (
 ∀ H167 : Hp, H167 = Array.push H27 (.cells #[(iv x140), (iv x141), (iv x142), (iv x143), (sv x144), (bv x145), (sv x146), (iv x147), (sv x148), (Sl.v x149), (iv x157), (iv x158), (iv x159), (iv x160), (sv x161), (bv x162), (sv x163), (iv x164), (sv x165), (Sl.v x166)] 41) → (
 cell H167 (Addr.add (bk H) 2) = some (iv x151) ∧ cell H167 (Addr.add (bk H) 1) = some (iv x134) ∧ cell H167 (bk H) = some (iv x132) ∧ (
 mayw H167 (bk H1) 10 0 ∧ ∀ H172 : Hp, H172 = sets H167 (bk H1) (eR 5 x132 0 0 bE false bE 0 bE (Sl.mk (some (bk H27)) 2 2)) 0 → (
 ∃ (x175 x176 x177 x178 : Int) (x179 : ByteArray) (x180 : Bool) (x181 : ByteArray) (x182 : Int) (x183 : ByteArray) (x184 : Sl), cells H172 (bk H1) (eR x175 x176 x177 x178 x179 x180 x181 x182 x183 x184) 0 ∧ (
 Q x175 x176 x177 x178 x179 x180 x181 x182 x183 x184 H172))))))))))))) ∧
 ((decide (x31 = 2)) = false → (((decide (x31 = 3)) = true → (∃ x188 : Int, cell H27 (Addr.add (bk H) 1) = some (iv x188) ∧ (
 ∃ a189 : Addr, (r7).b = some a189 ∧ (0 : Int) ≤ x188 ∧ x188 < ((r7).n : Int) ∧ (
 ∃ (x194 x195 x196 x197 : Int) (x198 : ByteArray) (x199 : Bool) (x200 : ByteArray) (x201 : Int) (x202 : ByteArray) (x203 : Sl), cells H27 (Addr.add a189 (x188.toNat * 10)) (eR x194 x195 x196 x197 x198 x199 x200 x201 x202 x203) 0 ∧ (
 mayw H27 (bk H1) 10 0 ∧ ∀ H204 : Hp, H204 = sets H27 (bk H1) (eR x194 x195 x196 x197 x198 x199 x200 x201 x202 x203) 0 → (
 ∃ (x207 x208 x209 x210 : Int) (x211 : ByteArray) (x212 : Bool) (x213 : ByteArray) (x214 : Int) (x215 : ByteArray) (x216 : Sl), cells H204 (bk H1) (eR x207 x208 x209 x210 x211 x212 x213 x214 x215 x216) 0 ∧ (
 Q x207 x208 x209 x210 x211 x212 x213 x214 x215 x216 H204))))))) ∧
 ((decide (x31 = 3)) = false → (∃ x219 : Int, cell H27 (Addr.add (bk H) 1) = some (iv x219) ∧ (
 ∃ a220 : Addr, (r7).b = some a220 ∧ (0 : Int) ≤ x219 ∧ x219 < ((r7).n : Int) ∧ (
 ∃ (x225 x226 x227 x228 : Int) (x229 : ByteArray) (x230 : Bool) (x231 : ByteArray) (x232 : Int) (x233 : ByteArray) (x234 : Sl), cells H27 (Addr.add a220 (x219.toNat * 10)) (eR x225 x226 x227 x228 x229 x230 x231 x232 x233 x234) 0 ∧ (
 ∀ H235 : Hp, H235 = Array.push H27 (.cells (eR x225 x226 x227 x228 x229 x230 x231 x232 x233 x234).toArray 41) → (
 mayw H235 (bk H1) 10 0 ∧ ∀ H237 : Hp, H237 = sets H235 (bk H1) (eR 4 2 0 0 bE false bE 0 bE (Sl.mk (some (bk H27)) 1 1)) 0 → (
 ∃ (x240 x241 x242 x243 : Int) (x244 : ByteArray) (x245 : Bool) (x246 : ByteArray) (x247 : Int) (x248 : ByteArray) (x249 : Sl), cells H237 (bk H1) (eR x240 x241 x242 x243 x244 x245 x246 x247 x248 x249) 0 ∧ (
 Q x240 x241 x242 x243 x244 x245 x246 x247 x248 x249 H237))))))))))))))))))))))
theorem walk29 {w0 : World} {p0_0 p0_1 p0_2 p0_3 p0_4 : Int} {p0_5 : ByteArray} {p0_6 : Bool} {p0_7 : Int} {H : Hp} {Q : Int → Int → Int → Int → ByteArray → Bool → ByteArray → Int → ByteArray → Sl → Hp → Prop} (h : F29 p0_0 p0_1 p0_2 p0_3 p0_4 p0_5 p0_6 p0_7 H Q) :
  Good prog w0 29 #[(.agg (mR p0_0 p0_1 p0_2 p0_3 p0_4 p0_5 p0_6 p0_7).toArray)] H (fun v H => ∃ (r0 r1 r2 r3 : Int) (r4 : ByteArray) (r5 : Bool) (r6 : ByteArray) (r7 : Int) (r8 : ByteArray) (r9 : Sl) , v = (.agg (eR r0 r1 r2 r3 r4 r5 r6 r7 r8 r9).toArray) ∧ Q r0 r1 r2 r3 r4 r5 r6 r7 r8 r9 H) := by
 unfold F29 at h
 refine Good.enter' (fn := f29) func29 rfl rfl rfl (ws (wr_ (ho rfl (ob (v := (.agg (mR p0_0 p0_1 p0_2 p0_3 p0_4 p0_5 p0_6 p0_7).toArray)) rfl) ?_)))
 rintro _ H1 ⟨rfl, e2⟩
 replace h := h H1 e2
 refine ho rfl (HOp.alloc zeroValue41) ?_
 rintro _ H3 ⟨rfl, e4⟩
 replace h := h H3 e4
 refine hn (nt (ws (wr_ (ho rfl (HOp.call' 11 [] (cap := []) rfl rfl call11 (walk11 h)) ?_))))
 rintro _ H5 ⟨r7, rfl, h⟩
 refine hv (v := (Sl.v r7)) rfl (av rfl) (hn (nt (ws (wr_ (hv (v := (pp (Addr.add (bk H) 3))) rfl (fa runUnderlying31 rfl rfl sizeOf25 rfl) ?_)))))
 obtain ⟨x9, x10, x11, x12, c8, h⟩ := h
 refine hv (v := (.agg (vR x9 x10 x11 x12).toArray)) rfl (ln (vR x9 x10 x11 x12) isAgg25 sizeOf25 rfl c8) (ho rfl (HOp.call' 50 [(.agg (vR x9 x10 x11 x12).toArray)] (cap := []) rfl rfl call50 (walk50 h)) ?_)
 rintro _ H13 ⟨r15, r16, r17, r18, r19, r20, r21, r22, r23, r24, rfl, h⟩
 refine ho rfl (HOp.alloc zeroValue41) ?_
 rintro _ H25 ⟨rfl, e26⟩
 replace h := h H25 e26
 obtain ⟨z29, h⟩ := h
 refine hq (HOp.storeN' (l := (eR r15 r16 r17 r18 r19 r20 r21 r22 r23 r24)) sizeOf41 rfl rfl rfl z29) ?_
 rintro _ H27 e28
 replace h := h H27 e28
 refine hn (nt (ws (ws (wr_ (hv (v := (pp (Addr.add (bk H) 7))) rfl (fa runUnderlying31 rfl rfl sizeOf3 rfl) ?_)))))
 obtain ⟨x31, c30, h⟩ := h
 refine hv (v := (iv x31)) rfl (l1 isAgg3 rfl c30) (hn (nt (wb (ws (wr_ (hv (v := (bv (decide (x31 = 0)))) rfl (HVal.eqlI rfl rfl) ?_))))))
 refine hv (v := (bv (decide (x31 = 0)))) rfl (av rfl) (hn (nt ?_))
 obtain ⟨hT, hF⟩ := h
 refine wk (decide (x31 = 0)) rfl (fun hb32 => ?_) (fun hb32 => ?_)
 ·have h := hT hb32
  refine ws (HW.draw mixed [(0, some []), (1, some [10]), (2, some []), (3, some []), (4, some [10]), (5, some []), (6, some [8, 10]), (7, some [8, 10]), (8, none), (9, some []), (10, none)] rfl (by kernel_rfl) (by kernel_rfl) ?_)
  refine pv (v := (pp (bk H))) rfl rfl (fun _ => HVal.fieldAddr0 runUnderlying31 rfl rfl sizeOf3 rfl) ?_
  obtain ⟨x34, c33, h⟩ := h
  refine pl (v := (iv x34)) (fun X => cell X (bk H) = some (iv x34)) rfl rfl (fun _ hX => l1 isAgg3 rfl hX) c33 (pv (v := (Sl.v r7)) rfl rfl (fun _ => mv rfl) ?_)
  refine pv (v := (pp (Addr.add (bk H) 1))) rfl rfl (fun _ => fa runUnderlying31 rfl rfl sizeOf3 rfl) ?_
  obtain ⟨x36, c35, h⟩ := h
  refine pl (v := (iv x36)) (fun X => cell X (Addr.add (bk H) 1) = some (iv x36)) rfl rfl (fun _ hX => l1 isAgg3 rfl hX) c35 ?_
  obtain ⟨a37, e38, b39, b40, h⟩ := h
  refine pv (v := (pp (Addr.add a37 (x36.toNat * 10)))) rfl rfl (fun _ => ia runUnderlying35 sizeOf41 (Sl.v_some rfl e38) rfl b39 b40) ?_
  obtain ⟨x42, x43, x44, x45, x46, x47, x48, x49, x50, x51, c41, h⟩ := h
  refine pl (v := (.agg (eR x42 x43 x44 x45 x46 x47 x48 x49 x50 x51).toArray)) (fun X => cells X (Addr.add a37 (x36.toNat * 10)) (eR x42 x43 x44 x45 x46 x47 x48 x49 x50 x51) 0) rfl rfl (fun _ hX => ln (eR x42 x43 x44 x45 x46 x47 x48 x49 x50 x51) isAgg41 sizeOf41 rfl hX) c41 ?_
  obtain ⟨x53, x54, x55, x56, x57, x58, x59, x60, x61, x62, c52, h⟩ := h
  refine pl (v := (.agg (eR x53 x54 x55 x56 x57 x58 x59 x60 x61 x62).toArray)) (fun X => cells X (bk H13) (eR x53 x54 x55 x56 x57 x58 x59 x60 x61 x62) 0) rfl rfl (fun _ hX => ln (eR x53 x54 x55 x56 x57 x58 x59 x60 x61 x62) isAgg41 sizeOf41 rfl hX) c52 ?_
  refine po rfl rfl (HOp.buildSlice' (zs := [(iv 0), (iv 0), (iv 0), (iv 0), (sv bE), (bv false), (sv bE), (iv 0), (sv bE), sN, (iv 0), (iv 0), (iv 0), (iv 0), (sv bE), (bv false), (sv bE), (iv 0), (sv bE), sN]) (cs := [(iv x42), (iv x43), (iv x44), (iv x45), (sv x46), (bv x47), (sv x48), (iv x49), (sv x50), (Sl.v x51), (iv x53), (iv x54), (iv x55), (iv x56), (sv x57), (bv x58), (sv x59), (iv x60), (sv x61), (Sl.v x62)]) runUnderlying35 sizeOf41 zeroValue41 (by decide) (by kernel_rfl) (by kernel_rfl) (by decide)) ?_
  rintro _ H63 ⟨rfl, e64⟩
  replace h := h H63 e64
  obtain ⟨s65, s66, h⟩ := h
  refine ⟨SC_of ⟨nofun, nofun, fun _ => s65, fun _ => s66, trivial⟩, ?_⟩
  refine pv (v := (.agg (eR 5 x34 0 0 bE false bE 0 bE (Sl.mk (some (bk H27)) 2 2)).toArray)) rfl rfl (fun _ => HVal.build' (cs := (eR 5 x34 0 0 bE false bE 0 bE (Sl.mk (some (bk H27)) 2 2))) runUnderlying41 zeroValue41 places41 (by kernel_rfl)) ?_
  obtain ⟨z69, h⟩ := h
  refine pn rfl (HOp.storeN' (l := (eR 5 x34 0 0 bE false bE 0 bE (Sl.mk (some (bk H27)) 2 2))) sizeOf41 rfl rfl rfl z69) ?_
  rintro _ H67 e68
  replace h := h H67 e68
  refine ⟨SC_of ⟨nofun, nofun, nofun, nofun, trivial⟩, ?_⟩
  refine HPlan.done (nt (HW.ret (br (tr ?_))))
  obtain ⟨x70, x71, x72, x73, x74, x75, x76, x77, x78, x79, c80, h⟩ := h
  exact ⟨_, resOf1 rfl (Res1.n (eR x70 x71 x72 x73 x74 x75 x76 x77 x78 x79) isAgg41 sizeOf41 rfl c80), ⟨x70, x71, x72, x73, x74, x75, x76, x77, x78, x79, rfl, h⟩⟩
 have h := hF hb32
 refine ws (wr_ (hv (v := (bv (decide (x31 = 1)))) rfl (HVal.eqlI rfl rfl) (hv (v := (bv (decide (x31 = 1)))) rfl (av rfl) ?_)))
 refine hn (nt ?_)
 obtain ⟨hT, hF⟩ := h
 refine wk (decide (x31 = 1)) rfl (fun hb81 => ?_) (fun hb81 => ?_)
 ·have h := hT hb81
  refine ws (HW.draw mixed [(0, some []), (1, some [10]), (2, some [8, 10]), (3, some []), (4, some []), (5, some [10]), (6, some []), (7, some [8, 10]), (8, none), (9, some []), (10, none)] rfl (by kernel_rfl) (by kernel_rfl) ?_)
  refine pv (v := (pp (bk H))) rfl rfl (fun _ => HVal.fieldAddr0 runUnderlying31 rfl rfl sizeOf3 rfl) ?_
  obtain ⟨x83, c82, h⟩ := h
  refine pl (v := (iv x83)) (fun X => cell X (bk H) = some (iv x83)) rfl rfl (fun _ hX => l1 isAgg3 rfl hX) c82 ?_
  obtain ⟨x85, x86, x87, x88, x89, x90, x91, x92, x93, x94, c84, h⟩ := h
  refine pl (v := (.agg (eR x85 x86 x87 x88 x89 x90 x91 x92 x93 x94).toArray)) (fun X => cells X (bk H13) (eR x85 x86 x87 x88 x89 x90 x91 x92 x93 x94) 0) rfl rfl (fun _ hX => ln (eR x85 x86 x87 x88 x89 x90 x91 x92 x93 x94) isAgg41 sizeOf41 rfl hX) c84 ?_
  refine pv (v := (Sl.v r7)) rfl rfl (fun _ => mv rfl) (pv (v := (pp (Addr.add (bk H) 1))) rfl rfl (fun _ => fa runUnderlying31 rfl rfl sizeOf3 rfl) ?_)
  obtain ⟨x96, c95, h⟩ := h
  refine pl (v := (iv x96)) (fun X => cell X (Addr.add (bk H) 1) = some (iv x96)) rfl rfl (fun _ hX => l1 isAgg3 rfl hX) c95 ?_
  obtain ⟨a97, e98, b99, b100, h⟩ := h
  refine pv (v := (pp (Addr.add a97 (x96.toNat * 10)))) rfl rfl (fun _ => ia runUnderlying35 sizeOf41 (Sl.v_some rfl e98) rfl b99 b100) ?_
  obtain ⟨x102, x103, x104, x105, x106, x107, x108, x109, x110, x111, c101, h⟩ := h
  refine pl (v := (.agg (eR x102 x103 x104 x105 x106 x107 x108 x109 x110 x111).toArray)) (fun X => cells X (Addr.add a97 (x96.toNat * 10)) (eR x102 x103 x104 x105 x106 x107 x108 x109 x110 x111) 0) rfl rfl (fun _ hX => ln (eR x102 x103 x104 x105 x106 x107 x108 x109 x110 x111) isAgg41 sizeOf41 rfl hX) c101 ?_
  refine po rfl rfl (HOp.buildSlice' (zs := [(iv 0), (iv 0), (iv 0), (iv 0), (sv bE), (bv false), (sv bE), (iv 0), (sv bE), sN, (iv 0), (iv 0), (iv 0), (iv 0), (sv bE), (bv false), (sv bE), (iv 0), (sv bE), sN]) (cs := [(iv x85), (iv x86), (iv x87), (iv x88), (sv x89), (bv x90), (sv x91), (iv x92), (sv x93), (Sl.v x94), (iv x102), (iv x103), (iv x104), (iv x105), (sv x106), (bv x107), (sv x108), (iv x109), (sv x110), (Sl.v x111)]) runUnderlying35 sizeOf41 zeroValue41 (by decide) (by kernel_rfl) (by kernel_rfl) (by decide)) ?_
  rintro _ H112 ⟨rfl, e113⟩
  replace h := h H112 e113
  obtain ⟨s114, s115, h⟩ := h
  refine ⟨SC_of ⟨nofun, fun _ => s114, nofun, fun _ => s115, trivial⟩, ?_⟩
  refine pv (v := (.agg (eR 5 x83 0 0 bE false bE 0 bE (Sl.mk (some (bk H27)) 2 2)).toArray)) rfl rfl (fun _ => HVal.build' (cs := (eR 5 x83 0 0 bE false bE 0 bE (Sl.mk (some (bk H27)) 2 2))) runUnderlying41 zeroValue41 places41 (by kernel_rfl)) ?_
  obtain ⟨z118, h⟩ := h
  refine pn rfl (HOp.storeN' (l := (eR 5 x83 0 0 bE false bE 0 bE (Sl.mk (some (bk H27)) 2 2))) sizeOf41 rfl rfl rfl z118) ?_
  rintro _ H116 e117
  replace h := h H116 e117
  refine ⟨SC_of ⟨nofun, nofun, nofun, nofun, trivial⟩, ?_⟩
  refine HPlan.done (nt (HW.ret (br (tr ?_))))
  obtain ⟨x119, x120, x121, x122, x123, x124, x125, x126, x127, x128, c129, h⟩ := h
  exact ⟨_, resOf1 rfl (Res1.n (eR x119 x120 x121 x122 x123 x124 x125 x126 x127 x128) isAgg41 sizeOf41 rfl c129), ⟨x119, x120, x121, x122, x123, x124, x125, x126, x127, x128, rfl, h⟩⟩
 have h := hF hb81
 refine ws (wr_ (hv (v := (bv (decide (x31 = 2)))) rfl (HVal.eqlI rfl rfl) (hv (v := (bv (decide (x31 = 2)))) rfl (av rfl) ?_)))
 refine hn (nt ?_)
 obtain ⟨hT, hF⟩ := h
 refine wk (decide (x31 = 2)) rfl (fun hb130 => ?_) (fun hb130 => ?_)
 ·have h := hT hb130
  refine ws (HW.draw mixed [(0, some []), (1, some [14]), (2, some []), (3, some []), (4, some [14]), (5, some []), (6, some [12, 14]), (7, some []), (8, some []), (9, some [14]), (10, some []), (11, some [12, 14]), (12, none), (13, some []), (14, none)] rfl (by kernel_rfl) (by kernel_rfl) ?_)
  refine pv (v := (pp (bk H))) rfl rfl (fun _ => HVal.fieldAddr0 runUnderlying31 rfl rfl sizeOf3 rfl) ?_
  obtain ⟨x132, c131, h⟩ := h
  refine pl (v := (iv x132)) (fun X => cell X (bk H) = some (iv x132)) rfl rfl (fun _ hX => l1 isAgg3 rfl hX) c131 (pv (v := (Sl.v r7)) rfl rfl (fun _ => mv rfl) ?_)
  refine pv (v := (pp (Addr.add (bk H) 1))) rfl rfl (fun _ => fa runUnderlying31 rfl rfl sizeOf3 rfl) ?_
  obtain ⟨x134, c133, h⟩ := h
  refine pl (v := (iv x134)) (fun X => cell X (Addr.add (bk H) 1) = some (iv x134)) rfl rfl (fun _ hX => l1 isAgg3 rfl hX) c133 ?_
  obtain ⟨a135, e136, b137, b138, h⟩ := h
  refine pv (v := (pp (Addr.add a135 (x134.toNat * 10)))) rfl rfl (fun _ => ia runUnderlying35 sizeOf41 (Sl.v_some rfl e136) rfl b137 b138) ?_
  obtain ⟨x140, x141, x142, x143, x144, x145, x146, x147, x148, x149, c139, h⟩ := h
  refine pl (v := (.agg (eR x140 x141 x142 x143 x144 x145 x146 x147 x148 x149).toArray)) (fun X => cells X (Addr.add a135 (x134.toNat * 10)) (eR x140 x141 x142 x143 x144 x145 x146 x147 x148 x149) 0) rfl rfl (fun _ hX => ln (eR x140 x141 x142 x143 x144 x145 x146 x147 x148 x149) isAgg41 sizeOf41 rfl hX) c139 ?_
  refine pv (v := (Sl.v r7)) rfl rfl (fun _ => mv rfl) (pv (v := (pp (Addr.add (bk H) 2))) rfl rfl (fun _ => fa runUnderlying31 rfl rfl sizeOf3 rfl) ?_)
  obtain ⟨x151, c150, h⟩ := h
  refine pl (v := (iv x151)) (fun X => cell X (Addr.add (bk H) 2) = some (iv x151)) rfl rfl (fun _ hX => l1 isAgg3 rfl hX) c150 ?_
  obtain ⟨a152, e153, b154, b155, h⟩ := h
  refine pv (v := (pp (Addr.add a152 (x151.toNat * 10)))) rfl rfl (fun _ => ia runUnderlying35 sizeOf41 (Sl.v_some rfl e153) rfl b154 b155) ?_
  obtain ⟨x157, x158, x159, x160, x161, x162, x163, x164, x165, x166, c156, h⟩ := h
  refine pl (v := (.agg (eR x157 x158 x159 x160 x161 x162 x163 x164 x165 x166).toArray)) (fun X => cells X (Addr.add a152 (x151.toNat * 10)) (eR x157 x158 x159 x160 x161 x162 x163 x164 x165 x166) 0) rfl rfl (fun _ hX => ln (eR x157 x158 x159 x160 x161 x162 x163 x164 x165 x166) isAgg41 sizeOf41 rfl hX) c156 ?_
  refine po rfl rfl (HOp.buildSlice' (zs := [(iv 0), (iv 0), (iv 0), (iv 0), (sv bE), (bv false), (sv bE), (iv 0), (sv bE), sN, (iv 0), (iv 0), (iv 0), (iv 0), (sv bE), (bv false), (sv bE), (iv 0), (sv bE), sN]) (cs := [(iv x140), (iv x141), (iv x142), (iv x143), (sv x144), (bv x145), (sv x146), (iv x147), (sv x148), (Sl.v x149), (iv x157), (iv x158), (iv x159), (iv x160), (sv x161), (bv x162), (sv x163), (iv x164), (sv x165), (Sl.v x166)]) runUnderlying35 sizeOf41 zeroValue41 (by decide) (by kernel_rfl) (by kernel_rfl) (by decide)) ?_
  rintro _ H167 ⟨rfl, e168⟩
  replace h := h H167 e168
  obtain ⟨s169, s170, s171, h⟩ := h
  refine ⟨SC_of ⟨nofun, fun _ => s169, nofun, fun _ => s170, fun _ => s171, trivial⟩, ?_⟩
  refine pv (v := (.agg (eR 5 x132 0 0 bE false bE 0 bE (Sl.mk (some (bk H27)) 2 2)).toArray)) rfl rfl (fun _ => HVal.build' (cs := (eR 5 x132 0 0 bE false bE 0 bE (Sl.mk (some (bk H27)) 2 2))) runUnderlying41 zeroValue41 places41 (by kernel_rfl)) ?_
  obtain ⟨z174, h⟩ := h
  refine pn rfl (HOp.storeN' (l := (eR 5 x132 0 0 bE false bE 0 bE (Sl.mk (some (bk H27)) 2 2))) sizeOf41 rfl rfl rfl z174) ?_
  rintro _ H172 e173
  replace h := h H172 e173
  refine ⟨SC_of ⟨nofun, nofun, nofun, nofun, nofun, trivial⟩, ?_⟩
  refine HPlan.done (nt (HW.ret (br (tr ?_))))
  obtain ⟨x175, x176, x177, x178, x179, x180, x181, x182, x183, x184, c185, h⟩ := h
  exact ⟨_, resOf1 rfl (Res1.n (eR x175 x176 x177 x178 x179 x180 x181 x182 x183 x184) isAgg41 sizeOf41 rfl c185), ⟨x175, x176, x177, x178, x179, x180, x181, x182, x183, x184, rfl, h⟩⟩
 have h := hF hb130
 refine ws (wr_ (hv (v := (bv (decide (x31 = 3)))) rfl (HVal.eqlI rfl rfl) (hv (v := (bv (decide (x31 = 3)))) rfl (av rfl) ?_)))
 refine hn (nt ?_)
 obtain ⟨hT, hF⟩ := h
 refine wk (decide (x31 = 3)) rfl (fun hb186 => ?_) (fun hb186 => ?_)
 ·have h := hT hb186
  refine ws (wr_ (hv (v := (Sl.v r7)) rfl (mv rfl) (hv (v := (pp (Addr.add (bk H) 1))) rfl (fa runUnderlying31 rfl rfl sizeOf3 rfl) ?_)))
  obtain ⟨x188, c187, h⟩ := h
  refine hv (v := (iv x188)) rfl (l1 isAgg3 rfl c187) ?_
  obtain ⟨a189, e190, b191, b192, h⟩ := h
  refine hv (v := (pp (Addr.add a189 (x188.toNat * 10)))) rfl (ia runUnderlying35 sizeOf41 (Sl.v_some rfl e190) rfl b191 b192) ?_
  obtain ⟨x194, x195, x196, x197, x198, x199, x200, x201, x202, x203, c193, h⟩ := h
  refine hv (v := (.agg (eR x194 x195 x196 x197 x198 x199 x200 x201 x202 x203).toArray)) rfl (ln (eR x194 x195 x196 x197 x198 x199 x200 x201 x202 x203) isAgg41 sizeOf41 rfl c193) ?_
  obtain ⟨z206, h⟩ := h
  refine hq (HOp.storeN' (l := (eR x194 x195 x196 x197 x198 x199 x200 x201 x202 x203)) sizeOf41 rfl rfl rfl z206) ?_
  rintro _ H204 e205
  replace h := h H204 e205
  refine hn (nt (HW.ret (br (tr ?_))))
  obtain ⟨x207, x208, x209, x210, x211, x212, x213, x214, x215, x216, c217, h⟩ := h
  exact ⟨_, resOf1 rfl (Res1.n (eR x207 x208 x209 x210 x211 x212 x213 x214 x215 x216) isAgg41 sizeOf41 rfl c217), ⟨x207, x208, x209, x210, x211, x212, x213, x214, x215, x216, rfl, h⟩⟩
 have h := hF hb186
 refine wp_ (nb (nt (ws (wr_ (hv (v := (Sl.v r7)) rfl (mv rfl) (hv (v := (pp (Addr.add (bk H) 1))) rfl (fa runUnderlying31 rfl rfl sizeOf3 rfl) ?_))))))
 obtain ⟨x219, c218, h⟩ := h
 refine hv (v := (iv x219)) rfl (l1 isAgg3 rfl c218) ?_
 obtain ⟨a220, e221, b222, b223, h⟩ := h
 refine hv (v := (pp (Addr.add a220 (x219.toNat * 10)))) rfl (ia runUnderlying35 sizeOf41 (Sl.v_some rfl e221) rfl b222 b223) ?_
 obtain ⟨x225, x226, x227, x228, x229, x230, x231, x232, x233, x234, c224, h⟩ := h
 refine hv (v := (.agg (eR x225 x226 x227 x228 x229 x230 x231 x232 x233 x234).toArray)) rfl (ln (eR x225 x226 x227 x228 x229 x230 x231 x232 x233 x234) isAgg41 sizeOf41 rfl c224) ?_
 refine ho rfl (HOp.buildSlice' (zs := zR) (cs := (eR x225 x226 x227 x228 x229 x230 x231 x232 x233 x234)) runUnderlying35 sizeOf41 zeroValue41 (by decide) (by kernel_rfl) (by kernel_rfl) (by decide)) ?_
 rintro _ H235 ⟨rfl, e236⟩
 replace h := h H235 e236
 refine hv (v := (.agg (eR 4 2 0 0 bE false bE 0 bE (Sl.mk (some (bk H27)) 1 1)).toArray)) rfl (HVal.build' (cs := (eR 4 2 0 0 bE false bE 0 bE (Sl.mk (some (bk H27)) 1 1))) runUnderlying41 zeroValue41 places41 (by kernel_rfl)) ?_
 obtain ⟨z239, h⟩ := h
 refine hq (HOp.storeN' (l := (eR 4 2 0 0 bE false bE 0 bE (Sl.mk (some (bk H27)) 1 1))) sizeOf41 rfl rfl rfl z239) ?_
 rintro _ H237 e238
 replace h := h H237 e238
 refine hn (nt (HW.ret ?_))
 obtain ⟨x240, x241, x242, x243, x244, x245, x246, x247, x248, x249, c250, h⟩ := h
 exact ⟨_, resOf1 rfl (Res1.n (eR x240 x241 x242 x243 x244 x245 x246 x247 x248 x249) isAgg41 sizeOf41 rfl c250), ⟨x240, x241, x242, x243, x244, x245, x246, x247, x248, x249, rfl, h⟩⟩

def F10_1 (Q : Sl → Hp → Prop) (y108 : Sl) (H_1 : Hp) : Prop :=
Q y108 H_1
def F10_3 (Q : Sl → Hp → Prop) (X2 : Sl → Int → Hp → Prop) (y6 y7 : Sl) (y8 : Int) (y91 : Sl) (H_3 : Hp) : Prop :=
X2 y91 (IntKind.i64.wrap (y8 + 1)) H_3
def F10_4 (Q : Sl → Hp → Prop) (X2 : Sl → Int → Hp → Prop) (y39 y40 y41 : Sl) (y42 : Int) (y43 : Addr) (y54 : Bool) (H_4 : Hp) : Prop :=
(y54 = true → (∃ a56 : Addr, (y41).b = some a56 ∧ (0 : Int) ≤ (IntKind.i64.wrap (((y41).n : Int) - 1)) ∧ (IntKind.i64.wrap (((y41).n : Int) - 1)) < ((y41).n : Int) ∧ (
 ∃ (x61 x62 x63 x64 : Int) (x65 : ByteArray) (x66 : Bool) (x67 : ByteArray) (x68 : Int) (x69 : ByteArray) (x70 : Sl), cells H_4 (Addr.add a56 ((IntKind.i64.wrap (((y41).n : Int) - 1)).toNat * 10)) (eR x61 x62 x63 x64 x65 x66 x67 x68 x69 x70) 0 ∧ (
 ∃ (x72 x73 x74 x75 : Int) (x76 : ByteArray) (x77 : Bool) (x78 : ByteArray) (x79 : Int) (x80 : ByteArray) (x81 : Sl), cells H_4 y43 (eR x72 x73 x74 x75 x76 x77 x78 x79 x80 x81) 0 ∧ (
 ∀ H82 : Hp, H82 = Array.push H_4 (.cells #[(iv x61), (iv x62), (iv x63), (iv x64), (sv x65), (bv x66), (sv x67), (iv x68), (sv x69), (Sl.v x70), (iv x72), (iv x73), (iv x74), (iv x75), (sv x76), (bv x77), (sv x78), (iv x79), (sv x80), (Sl.v x81)] 41) → (
 ∃ a84 : Addr, (y41).b = some a84 ∧ (0 : Int) ≤ (IntKind.i64.wrap (((y41).n : Int) - 1)) ∧ (IntKind.i64.wrap (((y41).n : Int) - 1)) < ((y41).n : Int) ∧ (
 mayw H82 (Addr.add a84 ((IntKind.i64.wrap (((y41).n : Int) - 1)).toNat * 10)) 10 0 ∧ ∀ H88 : Hp, H88 = sets H82 (Addr.add a84 ((IntKind.i64.wrap (((y41).n : Int) - 1)).toNat * 10)) (eR 5 12 0 0 bE false bE 0 bE (Sl.mk (some (bk H_4)) 2 2)) 0 → (
 F10_3 Q X2 y39 y40 y42 y41 H88)))))))) ∧
 (y54 = false → (∃ (x93 x94 x95 x96 : Int) (x97 : ByteArray) (x98 : Bool) (x99 : ByteArray) (x100 : Int) (x101 : ByteArray) (x102 : Sl), cells H_4 y43 (eR x93 x94 x95 x96 x97 x98 x99 x100 x101 x102) 0 ∧ (
 ∀ H103 : Hp, H103 = Array.push H_4 (.cells (eR x93 x94 x95 x96 x97 x98 x99 x100 x101 x102).toArray 41) → (
 AppendF H103 41 10 120 zR.toArray y41 ((Sl.mk (some (bk H_4)) 1 1)).b ((Sl.mk (some (bk H_4)) 1 1)).n (fun (r107 : Sl) (H105 : Hp) => 
 F10_3 Q X2 y39 y40 y42 r107 H105)))))
def F10_L2b (Q : Sl → Hp → Prop) (X2 : Sl → Int → Hp → Prop) (y3 y4 y1 : Sl) (y2 : Int) (H_2 : Hp) : Prop :=
((decide (y2 < ((y3).n : Int))) = true → (∃ a9 : Addr, (y3).b = some a9 ∧ (0 : Int) ≤ y2 ∧ y2 < ((y3).n : Int) ∧ (
 ∃ (x14 x15 x16 x17 x18 : Int) (x19 : ByteArray) (x20 : Bool) (x21 : Int), cells H_2 (Addr.add a9 (y2.toNat * 8)) (mR x14 x15 x16 x17 x18 x19 x20 x21) 0 ∧ (
 F29 x14 x15 x16 x17 x18 x19 x20 x21 H_2 (fun (r24 r25 r26 r27 : Int) (r28 : ByteArray) (r29 : Bool) (r30 : ByteArray) (r31 : Int) (r32 : ByteArray) (r33 : Sl) (H22 : Hp) => 
 ∀ H34 : Hp, H34 = Array.push H22 (.cells zR.toArray 41) → (
 mayw H34 (bk H22) 10 0 ∧ ∀ H36 : Hp, H36 = sets H34 (bk H22) (eR r24 r25 r26 r27 r28 r29 r30 r31 r32 r33) 0 → (
 ((decide ((0 : Int) < ((y1).n : Int))) = true → (((decide (y2 < ((y4).n : Int))) = true → (∃ a48 : Addr, (y4).b = some a48 ∧ (0 : Int) ≤ y2 ∧ y2 < ((y4).n : Int) ∧ (
 ∃ x53 : Bool, cell H36 (Addr.add a48 (y2.toNat * 1)) = some (bv x53) ∧ (
 F10_4 Q X2 y3 y4 y1 y2 (bk H22) x53 H36)))) ∧
 ((decide (y2 < ((y4).n : Int))) = false → (F10_4 Q X2 y3 y4 y1 y2 (bk H22) false H36)))) ∧
 ((decide ((0 : Int) < ((y1).n : Int))) = false → (F10_4 Q X2 y3 y4 y1 y2 (bk H22) false H36))))))))) ∧
 ((decide (y2 < ((y3).n : Int))) = false → (F10_1 Q y1 H_2))
def F10_L2 (Q : Sl → Hp → Prop) (y3 y4 y1 : Sl) (y2 : Int) (H_2 : Hp) : Prop :=
 ∀ X2 : Sl → Int → Hp → Prop, (∀ (y1 : Sl) (y2 : Int) (H_2 : Hp), F10_L2b Q X2 y3 y4 y1 y2 H_2 → X2 y1 y2 H_2) → X2 y1 y2 H_2
def F10 (p0 p1 : Sl) (H : Hp) (Q : Sl → Hp → Prop) : Prop :=
F10_L2 Q p0 p1 Sl.nil 0 H
theorem walk10 {w0 : World} {p0 p1 : Sl} {H : Hp} {Q : Sl → Hp → Prop} (h : F10 p0 p1 H Q) :
  Good prog w0 10 #[(Sl.v p0), (Sl.v p1)] H (fun v H => ∃ (r0 : Sl) , v = (Sl.v r0) ∧ Q r0 H) := by
 unfold F10 at h
 refine Good.enter' (fn := f10) func10 rfl rfl rfl (ws (wr_ (hv (v := sN) rfl (av rfl) (hn (nt (ws (wr_ ?_)))))))
 refine hv (v := sN) rfl (av rfl) (hn (nt (wc (fun ρ H_1 => ∃ (y108 : Sl), Env.Is ρ [(5, (Sl.v y108))] ∧ F10_1 Q y108 H_1) ?_ ?_)))
 ·refine ws (wr_ (hv (v := (iv 0)) rfl (av rfl) (hn (nt (wb (HW.loop' (fun L2 hL2 => ?_)))))))
  obtain ⟨X2, hX2⟩ : ∃ X2 : Sl → Int → Hp → Prop, ∀ (y1 : Sl) (y2 : Int) (H_2 : Hp), X2 y1 y2 H_2 ↔ ∀ ρ, Env.Is ρ [(0, (Sl.v p0)), (1, (Sl.v p1)), (5, (Sl.v y1)), (6, (iv y2))] → L2 ρ H_2 := ⟨_, fun _ _ _ => Iff.rfl⟩
  refine (hX2 _ _ _).1 (h X2 ?_) _ ?_
  rotate_left
  ·exact (isp rfl)
  clear h
  intro y1 y2 H_2 h
  refine (hX2 _ _ _).2 fun ρ hI => ?_
  obtain ⟨ρ0, rfl⟩ := hI.ex
  clear hI; unfold F10_L2b at h; refine hL2 _ _ ?_
  refine ws (ws (wr_ (hv (v := (iv y2)) rfl (mv rfl) (hv (v := (Sl.v p0)) rfl (mv rfl) (hv (v := (iv ((p0).n : Int))) rfl (HVal.len runUnderlying22 rfl) ?_)))))
  refine hv (v := (bv (decide (y2 < ((p0).n : Int))))) rfl (HVal.lss rfl rfl) (hn (nt ?_))
  obtain ⟨hT, hF⟩ := h
  refine wk (decide (y2 < ((p0).n : Int))) rfl (fun hb5 => ?_) (fun hb5 => ?_)
  ·have h := hT hb5
   refine wp_ (nt (wc (fun ρ H_3 => ∃ (y91 : Sl), Env.Is ρ [(0, (Sl.v p0)), (1, (Sl.v p1)), (6, (iv y2)), (5, (Sl.v y91))] ∧ F10_3 Q X2 p0 p1 y2 y91 H_3) ?_ ?_))
   ·refine wb (ws (wr_ (hv (v := (Sl.v p0)) rfl (mv rfl) (hv (v := (iv y2)) rfl (mv rfl) ?_))))
    obtain ⟨a9, e10, b11, b12, h⟩ := h
    refine hv (v := (pp (Addr.add a9 (y2.toNat * 8)))) rfl (ia runUnderlying22 sizeOf31 (Sl.v_some rfl e10) rfl b11 b12) ?_
    obtain ⟨x14, x15, x16, x17, x18, x19, x20, x21, c13, h⟩ := h
    refine hv (v := (.agg (mR x14 x15 x16 x17 x18 x19 x20 x21).toArray)) rfl (ln (mR x14 x15 x16 x17 x18 x19 x20 x21) isAgg31 sizeOf31 rfl c13) ?_
    refine ho rfl (HOp.call' 29 [(.agg (mR x14 x15 x16 x17 x18 x19 x20 x21).toArray)] (cap := []) rfl rfl call29 (walk29 h)) ?_
    rintro _ H22 ⟨r24, r25, r26, r27, r28, r29, r30, r31, r32, r33, rfl, h⟩
    refine ho rfl (HOp.alloc zeroValue41) ?_
    rintro _ H34 ⟨rfl, e35⟩
    replace h := h H34 e35
    obtain ⟨z38, h⟩ := h
    refine hq (HOp.storeN' (l := (eR r24 r25 r26 r27 r28 r29 r30 r31 r32 r33)) sizeOf41 rfl rfl rfl z38) ?_
    rintro _ H36 e37
    replace h := h H36 e37
    refine hn (nt (wc (fun ρ H_4 => ∃ (y54 : Bool), Env.Is ρ [(0, (Sl.v p0)), (1, (Sl.v p1)), (5, (Sl.v y1)), (6, (iv y2)), (7, (pp (bk H22))), (33, (bv y54))] ∧ F10_4 Q X2 p0 p1 y1 y2 (bk H22) y54 H_4) ?_ ?_))
    ·refine wr_ (hv (v := (Sl.v y1)) rfl (mv rfl) (hv (v := (iv ((y1).n : Int))) rfl (HVal.len runUnderlying35 rfl) (hv (v := (bv (decide ((0 : Int) < ((y1).n : Int))))) rfl (HVal.gtr rfl rfl) ?_)))
     refine hv (v := (bv (decide ((0 : Int) < ((y1).n : Int))))) rfl (mv rfl) ?_
     obtain ⟨hT, hF⟩ := h
     rcases Bool.eq_false_or_eq_true (decide ((0 : Int) < ((y1).n : Int))) with hb44 | hb45
     ·have h := hT hb44
      refine hg (v := (iv y2)) rfl rfl rfl rfl (cB hb44) (mv rfl) (hg (v := (Sl.v p1)) rfl rfl rfl rfl (cB hb44) (mv rfl) (hg (v := (iv ((p1).n : Int))) rfl rfl rfl rfl (cB hb44) (HVal.len runUnderlying23 rfl) ?_))
      refine hg (v := (bv (decide (y2 < ((p1).n : Int))))) rfl rfl rfl rfl (cB hb44) (HVal.lss rfl rfl) (hv (v := (bv (decide (y2 < ((p1).n : Int))))) rfl (pt_ rfl hb44 rfl) ?_)
      refine hv (v := (bv (decide (y2 < ((p1).n : Int))))) rfl (mv rfl) ?_
      obtain ⟨hT, hF⟩ := h
      rcases Bool.eq_false_or_eq_true (decide (y2 < ((p1).n : Int))) with hb46 | hb47
      ·have h := hT hb46
       refine hg (v := (Sl.v p1)) rfl rfl rfl rfl (cB hb46) (mv rfl) (hg (v := (iv y2)) rfl rfl rfl rfl (cB hb46) (mv rfl) ?_)
       obtain ⟨a48, e49, b50, b51, h⟩ := h
       refine hg (v := (pp (Addr.add a48 (y2.toNat * 1)))) rfl rfl rfl rfl (cB hb46) (ia runUnderlying23 sizeOf4 (Sl.v_some rfl e49) rfl b50 b51) ?_
       obtain ⟨x53, c52, h⟩ := h
       refine hg (v := (bv x53)) rfl rfl rfl rfl (cB hb46) (l1 isAgg4 rfl c52) (hv (v := (bv x53)) rfl (pt_ rfl hb46 rfl) ?_)
       refine hn (nt ?_)
       exact ⟨x53, (isp rfl), h⟩
      have h := hF hb47
      refine hs_ rfl rfl rfl rfl (cB hb47) (hs_ rfl rfl rfl rfl (cB hb47) (hs_ rfl rfl rfl rfl (cB hb47) (hs_ rfl rfl rfl rfl (cB hb47) ?_)))
      refine hv (v := (bv false)) rfl (pf_ rfl hb47 rfl) (hn (nt ?_))
      exact ⟨false, (isp rfl), h⟩
     have h := hF hb45
     refine hs_ rfl rfl rfl rfl (cB hb45) (hs_ rfl rfl rfl rfl (cB hb45) (hs_ rfl rfl rfl rfl (cB hb45) (hs_ rfl rfl rfl rfl (cB hb45) ?_)))
     refine hv (v := (bv false)) rfl (pf_ rfl hb45 rfl) (hv (v := (bv false)) rfl (mv rfl) (hs_ rfl rfl rfl rfl rfl ?_))
     refine hs_ rfl rfl rfl rfl rfl (hs_ rfl rfl rfl rfl rfl (hs_ rfl rfl rfl rfl rfl (hv (v := (bv false)) rfl (pf_ rfl rfl rfl) ?_)))
     refine hn (nt ?_)
     exact ⟨false, (isp rfl), h⟩
    rintro ρ H_4 ⟨y54, hI, h⟩
    obtain ⟨ρ0, rfl⟩ := hI.ex
    clear hI; unfold F10_4 at h
    obtain ⟨hT, hF⟩ := h
    refine wk y54 rfl (fun hb55 => ?_) (fun hb55 => ?_)
    ·have h := hT hb55
     refine HW.draw mixed [(0, some []), (1, some []), (2, some []), (3, some []), (4, some []), (5, some []), (6, some []), (7, some []), (8, some []), (9, some [11, 14]), (10, some [11, 14]), (11, none), (12, some []), (13, some []), (14, none)] rfl (by kernel_rfl) (by kernel_rfl) ?_
     refine pv (v := (Sl.v y1)) rfl rfl (fun _ => mv rfl) (pv (v := (Sl.v y1)) rfl rfl (fun _ => mv rfl) (pv (v := (iv ((y1).n : Int))) rfl rfl (fun _ => HVal.len runUnderlying35 rfl) ?_))
     refine pv (v := (iv (IntKind.i64.wrap (((y1).n : Int) - 1)))) rfl rfl (fun _ => HVal.sub rfl rfl) (pv (v := (Sl.v y1)) rfl rfl (fun _ => mv rfl) ?_)
     refine pv (v := (Sl.v y1)) rfl rfl (fun _ => mv rfl) (pv (v := (iv ((y1).n : Int))) rfl rfl (fun _ => HVal.len runUnderlying35 rfl) ?_)
     refine pv (v := (iv (IntKind.i64.wrap (((y1).n : Int) - 1)))) rfl rfl (fun _ => HVal.sub rfl rfl) ?_
     obtain ⟨a56, e57, b58, b59, h⟩ := h
     refine pv (v := (pp (Addr.add a56 ((IntKind.i64.wrap (((y1).n : Int) - 1)).toNat * 10)))) rfl rfl (fun _ => ia runUnderlying35 sizeOf41 (Sl.v_some rfl e57) rfl b58 b59) ?_
     obtain ⟨x61, x62, x63, x64, x65, x66, x67, x68, x69, x70, c60, h⟩ := h
     refine pl (v := (.agg (eR x61 x62 x63 x64 x65 x66 x67 x68 x69 x70).toArray)) (fun X => cells X (Addr.add a56 ((IntKind.i64.wrap (((y1).n : Int) - 1)).toNat * 10)) (eR x61 x62 x63 x64 x65 x66 x67 x68 x69 x70) 0) rfl rfl (fun _ hX => ln (eR x61 x62 x63 x64 x65 x66 x67 x68 x69 x70) isAgg41 sizeOf41 rfl hX) c60 ?_
     obtain ⟨x72, x73, x74, x75, x76, x77, x78, x79, x80, x81, c71, h⟩ := h
     refine pl (v := (.agg (eR x72 x73 x74 x75 x76 x77 x78 x79 x80 x81).toArray)) (fun X => cells X (bk H22) (eR x72 x73 x74 x75 x76 x77 x78 x79 x80 x81) 0) rfl rfl (fun _ hX => ln (eR x72 x73 x74 x75 x76 x77 x78 x79 x80 x81) isAgg41 sizeOf41 rfl hX) c71 ?_
     refine po rfl rfl (HOp.buildSlice' (zs := [(iv 0), (iv 0), (iv 0), (iv 0), (sv bE), (bv false), (sv bE), (iv 0), (sv bE), sN, (iv 0), (iv 0), (iv 0), (iv 0), (sv bE), (bv false), (sv bE), (iv 0), (sv bE), sN]) (cs := [(iv x61), (iv x62), (iv x63), (iv x64), (sv x65), (bv x66), (sv x67), (iv x68), (sv x69), (Sl.v x70), (iv x72), (iv x73), (iv x74), (iv x75), (sv x76), (bv x77), (sv x78), (iv x79), (sv x80), (Sl.v x81)]) runUnderlying35 sizeOf41 zeroValue41 (by decide) (by kernel_rfl) (by kernel_rfl) (by decide)) ?_
     rintro _ H82 ⟨rfl, e83⟩
     replace h := h H82 e83
     refine ⟨SC_of ⟨nofun, nofun, trivial⟩, ?_⟩
     refine pv (v := (.agg (eR 5 12 0 0 bE false bE 0 bE (Sl.mk (some (bk H_4)) 2 2)).toArray)) rfl rfl (fun _ => HVal.build' (cs := (eR 5 12 0 0 bE false bE 0 bE (Sl.mk (some (bk H_4)) 2 2))) runUnderlying41 zeroValue41 places41 (by kernel_rfl)) ?_
     obtain ⟨a84, e85, b86, b87, h⟩ := h
     refine pv (v := (pp (Addr.add a84 ((IntKind.i64.wrap (((y1).n : Int) - 1)).toNat * 10)))) rfl rfl (fun _ => ia runUnderlying35 sizeOf41 (Sl.v_some rfl e85) rfl b86 b87) ?_
     obtain ⟨z90, h⟩ := h
     refine pn rfl (HOp.storeN' (l := (eR 5 12 0 0 bE false bE 0 bE (Sl.mk (some (bk H_4)) 2 2))) sizeOf41 rfl rfl rfl z90) ?_
     rintro _ H88 e89
     replace h := h H88 e89
     refine ⟨SC_of ⟨nofun, nofun, trivial⟩, ?_⟩
     refine HPlan.done (nb (nt ?_))
     exact ⟨y1, (isp rfl), h⟩
    have h := hF hb55
    refine wr_ (hv (v := (Sl.v y1)) rfl (mv rfl) ?_)
    obtain ⟨x93, x94, x95, x96, x97, x98, x99, x100, x101, x102, c92, h⟩ := h
    refine hv (v := (.agg (eR x93 x94 x95 x96 x97 x98 x99 x100 x101 x102).toArray)) rfl (ln (eR x93 x94 x95 x96 x97 x98 x99 x100 x101 x102) isAgg41 sizeOf41 rfl c92) ?_
    refine ho rfl (HOp.buildSlice' (zs := zR) (cs := (eR x93 x94 x95 x96 x97 x98 x99 x100 x101 x102)) runUnderlying35 sizeOf41 zeroValue41 (by decide) (by kernel_rfl) (by kernel_rfl) (by decide)) ?_
    rintro _ H103 ⟨rfl, e104⟩
    replace h := h H103 e104
    refine ho rfl (HOp.append (k := 10) (b := 120) runUnderlying35 runUnderlying35 typeInfo41 rfl rfl zeroValue41 rfl rfl h) ?_
    rintro _ H105 ⟨r107, rfl, h⟩
    refine hv (v := (Sl.v r107)) rfl (av rfl) (hn (nb (nt ?_)))
    exact ⟨r107, (isp rfl), h⟩
   rintro ρ H_3 ⟨y91, hI, h⟩
   obtain ⟨ρ0, rfl⟩ := hI.ex
   clear hI; unfold F10_3 at h
   refine wr_ (hv (v := (iv y2)) rfl (mv rfl) (hv (v := (iv (IntKind.i64.wrap (y2 + 1)))) rfl (HVal.add rfl rfl) (hv (v := (iv (IntKind.i64.wrap (y2 + 1)))) rfl (av rfl) ?_)))
   refine hn (nt ?_)
   exact (hX2 _ _ _).1 h _ (isp rfl)
  have h := hF hb5
  refine we (te (te (be (nt ?_))))
  exact ⟨y1, ⟨rfl, trivial⟩, h⟩
 rintro ρ H_1 ⟨y108, hI, h⟩
 obtain ⟨ρ0, rfl⟩ := hI.ex
 clear hI; unfold F10_1 at h
 refine ws (wr_ (hv (v := (Sl.v y108)) rfl (mv rfl) (hv (v := (Sl.v y108)) rfl (av rfl) (hn (nt (HW.ret ?_))))))
 exact ⟨_, resOf1 rfl Res1.t, ⟨y108, rfl, h⟩⟩

def F12_1 (Q : Int → Int → ByteArray → Bool → Bool → Hp → Prop) (y5 : Addr) (H_1 : Hp) : Prop :=
mayw H_1 y5 4 0 ∧ ∀ H58 : Hp, H58 = sets H_1 y5 (vR 0 0 bE false) 0 → (
 ∃ (x61 x62 : Int) (x63 : ByteArray) (x64 : Bool), cells H58 y5 (vR x61 x62 x63 x64) 0 ∧ (
 Q x61 x62 x63 x64 false H58))
def F12_L2b (Q : Int → Int → ByteArray → Bool → Bool → Hp → Prop) (X2 : Int → Hp → Prop) (y7 : Sl) (y8 y9 : Addr) (y6 : Int) (H_2 : Hp) : Prop :=
((decide (y6 < ((y7).n : Int))) = true → (∃ a11 : Addr, (y7).b = some a11 ∧ (0 : Int) ≤ y6 ∧ y6 < ((y7).n : Int) ∧ (
 ∃ (x16 x17 x18 x19 : Int) (x20 : ByteArray) (x21 : Bool) (x22 : ByteArray) (x23 : Int) (x24 : ByteArray) (x25 : Sl), cells H_2 (Addr.add a11 (y6.toNat * 14)) (eR x16 x17 x18 x19 x20 x21 x22 x23 x24 x25) 0 ∧ (
 ∃ (x27 x28 x29 x30 : Int) (x31 : ByteArray) (x32 : Bool) (x33 : ByteArray) (x34 : Int) (x35 : ByteArray) (x36 : Sl), cells H_2 y8 (eR x27 x28 x29 x30 x31 x32 x33 x34 x35 x36) 0 ∧ (
 F30 x16 x17 x18 x19 x20 x21 x22 x23 x24 x25 x27 x28 x29 x30 x31 x32 x33 x34 x35 x36 H_2 (fun (r39 : Bool) (H37 : Hp) => 
 (r39 = true → (∃ a41 : Addr, (y7).b = some a41 ∧ (0 : Int) ≤ y6 ∧ y6 < ((y7).n : Int) ∧ (
 ∃ (x46 x47 : Int) (x48 : ByteArray) (x49 : Bool), cells H37 (Addr.add (Addr.add a41 (y6.toNat * 14)) 10) (vR x46 x47 x48 x49) 0 ∧ (
 mayw H37 y9 4 0 ∧ ∀ H50 : Hp, H50 = sets H37 y9 (vR x46 x47 x48 x49) 0 → (
 ∃ (x53 x54 : Int) (x55 : ByteArray) (x56 : Bool), cells H50 y9 (vR x53 x54 x55 x56) 0 ∧ (
 Q x53 x54 x55 x56 true H50)))))) ∧
 (r39 = false → (X2 (IntKind.i64.wrap (y6 + 1)) H37)))))))) ∧
 ((decide (y6 < ((y7).n : Int))) = false → (F12_1 Q y9 H_2))
def F12_L2 (Q : Int → Int → ByteArray → Bool → Bool → Hp → Prop) (y7 : Sl) (y8 y9 : Addr) (y6 : Int) (H_2 : Hp) : Prop :=
 ∀ X2 : Int → Hp → Prop, (∀ (y6 : Int) (H_2 : Hp), F12_L2b Q X2 y7 y8 y9 y6 H_2 → X2 y6 H_2) → X2 y6 H_2
def F12 (p0 : Sl) (p1_0 p1_1 p1_2 p1_3 : Int) (p1_4 : ByteArray) (p1_5 : Bool) (p1_6 : ByteArray) (p1_7 : Int) (p1_8 : ByteArray) (p1_9 : Sl) (H : Hp) (Q : Int → Int → ByteArray → Bool → Bool → Hp → Prop) : Prop :=
∀ H1 : Hp, H1 = Array.push H (.cells (eR p1_0 p1_1 p1_2 p1_3 p1_4 p1_5 p1_6 p1_7 p1_8 p1_9).toArray 41) → (
 ∀ H3 : Hp, H3 = Array.push H1 (.cells (vR 0 0 bE false).toArray 25) → (
 F12_L2 Q p0 (bk H) (bk H1) 0 H3))
theorem walk12 {w0 : World} {p0 : Sl} {p1_0 p1_1 p1_2 p1_3 : Int} {p1_4 : ByteArray} {p1_5 : Bool} {p1_6 : ByteArray} {p1_7 : Int} {p1_8 : ByteArray} {p1_9 : Sl} {H : Hp} {Q : Int → Int → ByteArray → Bool → Bool → Hp → Prop} (h : F12 p0 p1_0 p1_1 p1_2 p1_3 p1_4 p1_5 p1_6 p1_7 p1_8 p1_9 H Q) :
  Good prog w0 12 #[(Sl.v p0), (.agg (eR p1_0 p1_1 p1_2 p1_3 p1_4 p1_5 p1_6 p1_7 p1_8 p1_9).toArray)] H (fun v H => ∃ (r0 r1 : Int) (r2 : ByteArray) (r3 r4 : Bool) , v = (.tuple #[(.agg (vR r0 r1 r2 r3).toArray), (bv r4)]) ∧ Q r0 r1 r2 r3 r4 H) := by
 unfold F12 at h
 refine Good.enter' (fn := f12) func12 rfl rfl rfl (ws (wr_ (ho rfl (ob (v := (.agg (eR p1_0 p1_1 p1_2 p1_3 p1_4 p1_5 p1_6 p1_7 p1_8 p1_9).toArray)) rfl) ?_)))
 rintro _ H1 ⟨rfl, e2⟩
 replace h := h H1 e2
 refine ho rfl (HOp.alloc zeroValue25) ?_
 rintro _ H3 ⟨rfl, e4⟩
 replace h := h H3 e4
 refine hv (v := (bv false)) rfl (av rfl) (hn (nt (wc (fun ρ H_1 => Env.Is ρ [(4, (pp (bk H1)))] ∧ F12_1 Q (bk H1) H_1) ?_ ?_)))
 ·refine ws (wr_ (hv (v := (iv 0)) rfl (av rfl) (hn (nt (wb (HW.loop' (fun L2 hL2 => ?_)))))))
  obtain ⟨X2, hX2⟩ : ∃ X2 : Int → Hp → Prop, ∀ (y6 : Int) (H_2 : Hp), X2 y6 H_2 ↔ ∀ ρ, Env.Is ρ [(0, (Sl.v p0)), (3, (pp (bk H))), (4, (pp (bk H1))), (6, (iv y6))] → L2 ρ H_2 := ⟨_, fun _ _ => Iff.rfl⟩
  refine (hX2 _ _).1 (h X2 ?_) _ ?_
  rotate_left
  ·exact (isp rfl)
  clear h
  intro y6 H_2 h
  refine (hX2 _ _).2 fun ρ hI => ?_
  obtain ⟨ρ0, rfl⟩ := hI.ex
  clear hI; unfold F12_L2b at h; refine hL2 _ _ ?_
  refine ws (ws (wr_ (hv (v := (iv y6)) rfl (mv rfl) (hv (v := (Sl.v p0)) rfl (mv rfl) (hv (v := (iv ((p0).n : Int))) rfl (HVal.len runUnderlying32 rfl) ?_)))))
  refine hv (v := (bv (decide (y6 < ((p0).n : Int))))) rfl (HVal.lss rfl rfl) (hn (nt ?_))
  obtain ⟨hT, hF⟩ := h
  refine wk (decide (y6 < ((p0).n : Int))) rfl (fun hb10 => ?_) (fun hb10 => ?_)
  ·have h := hT hb10
   refine wp_ (nt (ws (wb (ws (HW.draw mixed [(0, some []), (1, some []), (2, some []), (3, some []), (4, some [6]), (5, some [6]), (6, none), (7, some [])] rfl (by kernel_rfl) (by kernel_rfl) ?_)))))
   refine pv (v := (Sl.v p0)) rfl rfl (fun _ => mv rfl) (pv (v := (iv y6)) rfl rfl (fun _ => mv rfl) ?_)
   obtain ⟨a11, e12, b13, b14, h⟩ := h
   refine pv (v := (pp (Addr.add a11 (y6.toNat * 14)))) rfl rfl (fun _ => ia runUnderlying32 sizeOf51 (Sl.v_some rfl e12) rfl b13 b14) ?_
   refine pv (v := (pp (Addr.add a11 (y6.toNat * 14)))) rfl rfl (fun _ => HVal.fieldAddr0 runUnderlying51 rfl rfl sizeOf41 rfl) ?_
   obtain ⟨x16, x17, x18, x19, x20, x21, x22, x23, x24, x25, c15, h⟩ := h
   refine pl (v := (.agg (eR x16 x17 x18 x19 x20 x21 x22 x23 x24 x25).toArray)) (fun X => cells X (Addr.add a11 (y6.toNat * 14)) (eR x16 x17 x18 x19 x20 x21 x22 x23 x24 x25) 0) rfl rfl (fun _ hX => ln (eR x16 x17 x18 x19 x20 x21 x22 x23 x24 x25) isAgg41 sizeOf41 rfl hX) c15 ?_
   obtain ⟨x27, x28, x29, x30, x31, x32, x33, x34, x35, x36, c26, h⟩ := h
   refine pl (v := (.agg (eR x27 x28 x29 x30 x31 x32 x33 x34 x35 x36).toArray)) (fun X => cells X (bk H) (eR x27 x28 x29 x30 x31 x32 x33 x34 x35 x36) 0) rfl rfl (fun _ hX => ln (eR x27 x28 x29 x30 x31 x32 x33 x34 x35 x36) isAgg41 sizeOf41 rfl hX) c26 ?_
   refine po rfl rfl (HOp.call' 30 [(.agg (eR x16 x17 x18 x19 x20 x21 x22 x23 x24 x25).toArray), (.agg (eR x27 x28 x29 x30 x31 x32 x33 x34 x35 x36).toArray)] (cap := []) rfl rfl call30 (walk30 h)) ?_
   rintro _ H37 ⟨r39, rfl, h⟩
   refine ⟨SC_of ⟨nofun, nofun, trivial⟩, ?_⟩
   refine pv (v := (bv r39)) rfl rfl (fun _ => av rfl) (HPlan.done (nt (ws (wr_ (hv (v := (bv r39)) rfl (mv rfl) ?_)))))
   refine hn (nt ?_)
   obtain ⟨hT, hF⟩ := h
   refine wk r39 rfl (fun hb40 => ?_) (fun hb40 => ?_)
   ·have h := hT hb40
    refine ws (wr_ (hv (v := (Sl.v p0)) rfl (mv rfl) (hv (v := (iv y6)) rfl (mv rfl) ?_)))
    obtain ⟨a41, e42, b43, b44, h⟩ := h
    refine hv (v := (pp (Addr.add a41 (y6.toNat * 14)))) rfl (ia runUnderlying32 sizeOf51 (Sl.v_some rfl e42) rfl b43 b44) ?_
    refine hv (v := (pp (Addr.add (Addr.add a41 (y6.toNat * 14)) 10))) rfl (fa runUnderlying51 rfl rfl sizeOf25 rfl) ?_
    obtain ⟨x46, x47, x48, x49, c45, h⟩ := h
    refine hv (v := (.agg (vR x46 x47 x48 x49).toArray)) rfl (ln (vR x46 x47 x48 x49) isAgg25 sizeOf25 rfl c45) ?_
    obtain ⟨z52, h⟩ := h
    refine hq (HOp.storeN' (l := (vR x46 x47 x48 x49)) sizeOf25 rfl rfl rfl z52) ?_
    rintro _ H50 e51
    replace h := h H50 e51
    refine hv (v := (bv true)) rfl (av rfl) (hn (nt (HW.ret (br (tr (tr (br (tr ?_))))))))
    obtain ⟨x53, x54, x55, x56, c57, h⟩ := h
    exact ⟨_, resOf2 rfl (Res1.n (vR x53 x54 x55 x56) isAgg25 sizeOf25 rfl c57) Res1.t, ⟨x53, x54, x55, x56, true, rfl, h⟩⟩
   have h := hF hb40
   refine wp_ (nb (nt (wr_ (hv (v := (iv y6)) rfl (mv rfl) (hv (v := (iv (IntKind.i64.wrap (y6 + 1)))) rfl (HVal.add rfl rfl) ?_)))))
   refine hv (v := (iv (IntKind.i64.wrap (y6 + 1)))) rfl (av rfl) (hn (nt ?_))
   exact (hX2 _ _).1 h _ (isp rfl)
  have h := hF hb10
  refine we (te (te (be (nt ?_))))
  exact ⟨⟨rfl, trivial⟩, h⟩
 rintro ρ H_1 ⟨hI, h⟩
 obtain ⟨ρ0, rfl⟩ := hI.ex
 clear hI; unfold F12_1 at h
 refine ws (wr_ (hv (v := (.agg (vR 0 0 bE false).toArray)) rfl (HVal.build' (cs := (vR 0 0 bE false)) runUnderlying25 zeroValue25 places25 rfl) ?_))
 obtain ⟨z60, h⟩ := h
 refine hq (HOp.storeN' (l := (vR 0 0 bE false)) sizeOf25 rfl rfl rfl z60) ?_
 rintro _ H58 e59
 replace h := h H58 e59
 refine hv (v := (bv false)) rfl (av rfl) (hn (nt (HW.ret ?_)))
 obtain ⟨x61, x62, x63, x64, c65, h⟩ := h
 exact ⟨_, resOf2 rfl (Res1.n (vR x61 x62 x63 x64) isAgg25 sizeOf25 rfl c65) Res1.t, ⟨x61, x62, x63, x64, false, rfl, h⟩⟩

def F27 (p0 : Int) (p1 p2 p3 p4 : Addr) (H : Hp) (Q : Hp → Prop) : Prop :=
∃ x2 : Sl, cell H p1 = some (Sl.v x2) ∧ (
 ∃ a3 : Addr, (x2).b = some a3 ∧ (0 : Int) ≤ p0 ∧ p0 < ((x2).n : Int) ∧ (
 ∃ x8 : Int, cell H (Addr.add a3 (p0.toNat * 1)) = some (iv x8) ∧ (
 ((decide (x8 = 0)) = true → (∃ x11 : Sl, cell H p1 = some (Sl.v x11) ∧ (
 ∃ a12 : Addr, (x11).b = some a12 ∧ (0 : Int) ≤ p0 ∧ p0 < ((x11).n : Int) ∧ (
 (cell H (Addr.add a12 (p0.toNat * 1))).isSome = true ∧ frz H (Addr.add a12 (p0.toNat * 1)) = false ∧ ∀ H16 : Hp, H16 = setc H (Addr.add a12 (p0.toNat * 1)) (iv 1) → (
 ∃ x21 : Sl, cell H16 p2 = some (Sl.v x21) ∧ (
 ∃ x23 : (Option Addr), cell H16 p3 = some (.pointer x23) ∧ (
 ∃ a24 : Addr, x23 = some a24 ∧ (
 ∃ x27 : Sl, cell H16 a24 = some (Sl.v x27) ∧ (
 ∃ a28 : Addr, (x27).b = some a28 ∧ (0 : Int) ≤ p0 ∧ p0 < ((x27).n : Int) ∧ (
 ∃ (x33 x34 x35 x36 : Int) (x37 : ByteArray) (x38 : Bool) (x39 : ByteArray) (x40 : Int) (x41 : ByteArray) (x42 : Sl), cells H16 (Addr.add a28 (p0.toNat * 10)) (eR x33 x34 x35 x36 x37 x38 x39 x40 x41 x42) 0 ∧ (
 ∃ x44 : Sl, cell H16 p4 = some (Sl.v x44) ∧ (
 ∃ a45 : Addr, (x44).b = some a45 ∧ (0 : Int) ≤ p0 ∧ p0 < ((x44).n : Int) ∧ (
 ∃ (x50 x51 : Int) (x52 : ByteArray) (x53 : Bool), cells H16 (Addr.add a45 (p0.toNat * 4)) (vR x50 x51 x52 x53) 0 ∧ (
 F28 x33 x34 x35 x36 x37 x38 x39 x40 x41 x42 H16 (fun (r56 r57 r58 r59 : Int) (r60 : ByteArray) (r61 : Bool) (r62 : ByteArray) (r63 : Int) (r64 : ByteArray) (r65 : Sl) (H54 : Hp) => 
 cells H54 (Addr.add a45 (p0.toNat * 4)) (vR x50 x51 x52 x53) 0 ∧ cell H54 p4 = some (Sl.v x44) ∧ cell H54 a24 = some (Sl.v x27) ∧ cell H54 p3 = some (.pointer x23) ∧ cell H54 p2 = some (Sl.v x21) ∧ (
 ∀ H71 : Hp, H71 = Array.push H54 (.cells #[(iv r56), (iv r57), (iv r58), (iv r59), (sv r60), (bv r61), (sv r62), (iv r63), (sv r64), (Sl.v r65), (iv x50), (iv x51), (sv x52), (bv x53)] 51) → (
 cells H71 (Addr.add a45 (p0.toNat * 4)) (vR x50 x51 x52 x53) 0 ∧ cell H71 p4 = some (Sl.v x44) ∧ cell H71 a24 = some (Sl.v x27) ∧ cell H71 p3 = some (.pointer x23) ∧ cell H71 p2 = some (Sl.v x21) ∧ (
 AppendF H71 51 14 160 #[(iv 0), (iv 0), (iv 0), (iv 0), (sv bE), (bv false), (sv bE), (iv 0), (sv bE), sN, (iv 0), (iv 0), (sv bE), (bv false)] x21 ((Sl.mk (some (bk H54)) 1 1)).b ((Sl.mk (some (bk H54)) 1 1)).n (fun (r80 : Sl) (H78 : Hp) => 
 cells H78 (Addr.add a45 (p0.toNat * 4)) (vR x50 x51 x52 x53) 0 ∧ cell H78 p4 = some (Sl.v x44) ∧ cell H78 a24 = some (Sl.v x27) ∧ cell H78 p3 = some (.pointer x23) ∧ (
 (cell H78 p2).isSome = true ∧ frz H78 p2 = false ∧ ∀ H85 : Hp, H85 = setc H78 p2 (Sl.v r80) → (
 Q H85))))))))))))))))))))) ∧
 ((decide (x8 = 0)) = false → (Q H)))))
theorem walk27 {w0 : World} {p0 : Int} {p1 p2 p3 p4 : Addr} {H : Hp} {Q : Hp → Prop} (h : F27 p0 p1 p2 p3 p4 H Q) :
  Good prog w0 27 #[(iv p0), (pp p1), (pp p2), (pp p3), (pp p4)] H (fun v H => v = (.tuple #[]) ∧ Q H) := by
 unfold F27 at h
 refine Good.enter' (fn := f27) func27 rfl rfl rfl (ws (wr_ ?_))
 obtain ⟨x2, c1, h⟩ := h
 refine hv (v := (Sl.v x2)) rfl (l1 isAgg47 rfl c1) (hv (v := (iv p0)) rfl (mv rfl) ?_)
 obtain ⟨a3, e4, b5, b6, h⟩ := h
 refine hv (v := (pp (Addr.add a3 (p0.toNat * 1)))) rfl (ia runUnderlying47 sizeOf3 (Sl.v_some rfl e4) rfl b5 b6) ?_
 obtain ⟨x8, c7, h⟩ := h
 refine hv (v := (iv x8)) rfl (l1 isAgg3 rfl c7) (hv (v := (bv (decide (x8 = 0)))) rfl (HVal.eqlI rfl rfl) (hn (nt ?_)))
 obtain ⟨hT, hF⟩ := h
 refine wk (decide (x8 = 0)) rfl (fun hb9 => ?_) (fun hb9 => ?_)
 ·have h := hT hb9
  refine ws (wr_ ?_)
  obtain ⟨x11, c10, h⟩ := h
  refine hv (v := (Sl.v x11)) rfl (l1 isAgg47 rfl c10) (hv (v := (iv p0)) rfl (mv rfl) ?_)
  obtain ⟨a12, e13, b14, b15, h⟩ := h
  refine hv (v := (pp (Addr.add a12 (p0.toNat * 1)))) rfl (ia runUnderlying47 sizeOf3 (Sl.v_some rfl e13) rfl b14 b15) ?_
  obtain ⟨z18, z19, h⟩ := h
  refine hq (HOp.store1 sizeOf3 rfl rfl rfl z18 z19) ?_
  rintro _ H16 e17
  replace h := h H16 e17
  refine hn (nt (HW.draw mixed [(0, some [16, 17]), (1, some [17]), (2, some []), (3, some []), (4, some [17]), (5, some []), (6, some []), (7, some [8, 17]), (9, some []), (10, some [17]), (11, some []), (12, some []), (13, some [17]), (8, none), (14, some []), (15, none), (16, none), (17, none)] rfl (by kernel_rfl) (by kernel_rfl) ?_))
  obtain ⟨x21, c20, h⟩ := h
  refine pl (v := (Sl.v x21)) (fun X => cell X p2 = some (Sl.v x21)) rfl rfl (fun _ hX => l1 isAgg32 rfl hX) c20 ?_
  obtain ⟨x23, c22, h⟩ := h
  refine pl (v := (.pointer x23)) (fun X => cell X p3 = some (.pointer x23)) rfl rfl (fun _ hX => l1 isAgg60 rfl hX) c22 ?_
  obtain ⟨a24, e25, h⟩ := h
  refine pv (v := (pp a24)) rfl rfl (fun _ => HVal.nilCheck (congrArg Value.pointer e25)) (pv (v := (pp a24)) rfl rfl (fun _ => HVal.fieldAddr0 runUnderlying66 rfl rfl sizeOf35 rfl) ?_)
  obtain ⟨x27, c26, h⟩ := h
  refine pl (v := (Sl.v x27)) (fun X => cell X a24 = some (Sl.v x27)) rfl rfl (fun _ hX => l1 isAgg35 rfl hX) c26 (pv (v := (iv p0)) rfl rfl (fun _ => mv rfl) ?_)
  obtain ⟨a28, e29, b30, b31, h⟩ := h
  refine pv (v := (pp (Addr.add a28 (p0.toNat * 10)))) rfl rfl (fun _ => ia runUnderlying35 sizeOf41 (Sl.v_some rfl e29) rfl b30 b31) ?_
  obtain ⟨x33, x34, x35, x36, x37, x38, x39, x40, x41, x42, c32, h⟩ := h
  refine pl (v := (.agg (eR x33 x34 x35 x36 x37 x38 x39 x40 x41 x42).toArray)) (fun X => cells X (Addr.add a28 (p0.toNat * 10)) (eR x33 x34 x35 x36 x37 x38 x39 x40 x41 x42) 0) rfl rfl (fun _ hX => ln (eR x33 x34 x35 x36 x37 x38 x39 x40 x41 x42) isAgg41 sizeOf41 rfl hX) c32 ?_
  refine pv (v := (pp p4)) rfl rfl (fun _ => HVal.fieldAddr0 runUnderlying74 rfl rfl sizeOf71 rfl) ?_
  obtain ⟨x44, c43, h⟩ := h
  refine pl (v := (Sl.v x44)) (fun X => cell X p4 = some (Sl.v x44)) rfl rfl (fun _ hX => l1 isAgg71 rfl hX) c43 (pv (v := (iv p0)) rfl rfl (fun _ => mv rfl) ?_)
  obtain ⟨a45, e46, b47, b48, h⟩ := h
  refine pv (v := (pp (Addr.add a45 (p0.toNat * 4)))) rfl rfl (fun _ => ia runUnderlying71 sizeOf25 (Sl.v_some rfl e46) rfl b47 b48) ?_
  obtain ⟨x50, x51, x52, x53, c49, h⟩ := h
  refine pl (v := (.agg (vR x50 x51 x52 x53).toArray)) (fun X => cells X (Addr.add a45 (p0.toNat * 4)) (vR x50 x51 x52 x53) 0) rfl rfl (fun _ hX => ln (vR x50 x51 x52 x53) isAgg25 sizeOf25 rfl hX) c49 ?_
  refine po rfl rfl (HOp.call' 28 [(.agg (eR x33 x34 x35 x36 x37 x38 x39 x40 x41 x42).toArray)] (cap := []) rfl rfl call28 (walk28 h)) ?_
  rintro _ H54 ⟨r56, r57, r58, r59, r60, r61, r62, r63, r64, r65, rfl, h⟩
  obtain ⟨s66, s67, s68, s69, s70, h⟩ := h
  refine ⟨SC_of ⟨fun _ => s66, fun _ => s67, nofun, fun _ => s68, fun _ => s69, fun _ => s70, trivial⟩, ?_⟩
  refine pv (v := (.agg #[(iv r56), (iv r57), (iv r58), (iv r59), (sv r60), (bv r61), (sv r62), (iv r63), (sv r64), (Sl.v r65), (iv x50), (iv x51), (sv x52), (bv x53)])) rfl rfl (fun _ => HVal.build' (cs := [(iv r56), (iv r57), (iv r58), (iv r59), (sv r60), (bv r61), (sv r62), (iv r63), (sv r64), (Sl.v r65), (iv x50), (iv x51), (sv x52), (bv x53)]) runUnderlying51 zeroValue51 places51 (by kernel_rfl)) ?_
  refine po rfl rfl (HOp.buildSlice' (zs := [(iv 0), (iv 0), (iv 0), (iv 0), (sv bE), (bv false), (sv bE), (iv 0), (sv bE), sN, (iv 0), (iv 0), (sv bE), (bv false)]) (cs := [(iv r56), (iv r57), (iv r58), (iv r59), (sv r60), (bv r61), (sv r62), (iv r63), (sv r64), (Sl.v r65), (iv x50), (iv x51), (sv x52), (bv x53)]) runUnderlying32 sizeOf51 zeroValue51 (by decide) (by kernel_rfl) (by kernel_rfl) (by decide)) ?_
  rintro _ H71 ⟨rfl, e72⟩
  replace h := h H71 e72
  obtain ⟨s73, s74, s75, s76, s77, h⟩ := h
  refine ⟨SC_of ⟨fun _ => s73, fun _ => s74, nofun, fun _ => s75, fun _ => s76, fun _ => s77, trivial⟩, ?_⟩
  refine po rfl rfl (HOp.append (k := 14) (b := 160) runUnderlying32 runUnderlying32 typeInfo51 rfl rfl zeroValue51 rfl rfl h) ?_
  rintro _ H78 ⟨r80, rfl, h⟩
  obtain ⟨s81, s82, s83, s84, h⟩ := h
  refine ⟨SC_of ⟨fun _ => s81, fun _ => s82, nofun, fun _ => s83, fun _ => s84, nofun, trivial⟩, ?_⟩
  obtain ⟨z87, z88, h⟩ := h
  refine pn rfl (HOp.store1 sizeOf32 rfl rfl rfl z87 z88) ?_
  rintro _ H85 e86
  replace h := h H85 e86
  refine ⟨SC_of ⟨nofun, nofun, nofun, nofun, nofun, nofun, trivial⟩, ?_⟩
  refine HPlan.done ?_
  exact ⟨_, resOf0 rfl , ⟨rfl, h⟩⟩
 have h := hF hb9
 refine wp_ ?_
 exact ⟨_, resOf0 rfl , ⟨rfl, h⟩⟩

def F9_3 (Q : Sl → Bool → Hp → Prop) (y87 : Addr) (H_3 : Hp) : Prop :=
∃ x135 : Sl, cell H_3 y87 = some (Sl.v x135) ∧ (
 Q x135 true H_3)
def F9_5 (Q : Sl → Bool → Hp → Prop) (X4 : Int → Hp → Prop) (y97 y98 y99 y100 y101 : Addr) (y102 : Sl) (y103 y104 : Int) (H_5 : Hp) : Prop :=
X4 (IntKind.i64.wrap (y104 + 1)) H_5
def F9_L4b (Q : Sl → Bool → Hp → Prop) (X4 : Int → Hp → Prop) (y89 y90 y91 y92 y93 : Addr) (y94 : Sl) (y95 y88 : Int) (H_4 : Hp) : Prop :=
((decide (y88 < y95)) = true → (∃ a105 : Addr, (y94).b = some a105 ∧ (0 : Int) ≤ y88 ∧ y88 < ((y94).n : Int) ∧ (
 ∃ (x110 x111 x112 : Int) (x113 : Bool) (x114 x115 : Int) (x116 : ByteArray) (x117 : Bool), cells H_4 (Addr.add a105 (y88.toNat * 8)) (lR x110 x111 x112 x113 x114 x115 x116 x117) 0 ∧ (
 ∀ H118 : Hp, H118 = Array.push H_4 (.cells (lR 0 0 0 false 0 0 bE false).toArray 80) → (
 mayw H118 (bk H_4) 8 0 ∧ ∀ H120 : Hp, H120 = sets H118 (bk H_4) (lR x110 x111 x112 x113 x114 x115 x116 x117) 0 → (
 ∃ x124 : Int, cell H120 (Addr.add (bk H_4) 1) = some (iv x124) ∧ (
 F27 x124 y90 y91 y92 y93 H120 (fun (H125 : Hp) => 
 ∃ x128 : Bool, cell H125 (Addr.add (bk H_4) 3) = some (bv x128) ∧ (
 (x128 = true → (∃ x131 : Int, cell H125 (Addr.add (bk H_4) 2) = some (iv x131) ∧ (
 F27 x131 y90 y91 y92 y93 H125 (fun (H132 : Hp) => 
 F9_5 Q X4 y89 y90 y91 y92 y93 y94 y95 y88 H132)))) ∧
 (x128 = false → (F9_5 Q X4 y89 y90 y91 y92 y93 y94 y95 y88 H125))))))))))) ∧
 ((decide (y88 < y95)) = false → (F9_3 Q y89 H_4))
def F9_L4 (Q : Sl → Bool → Hp → Prop) (y89 y90 y91 y92 y93 : Addr) (y94 : Sl) (y95 y88 : Int) (H_4 : Hp) : Prop :=
 ∀ X4 : Int → Hp → Prop, (∀ (y88 : Int) (H_4 : Hp), F9_L4b Q X4 y89 y90 y91 y92 y93 y94 y95 y88 H_4 → X4 y88 H_4) → X4 y88 H_4
def F9_1 (Q : Sl → Bool → Hp → Prop) (y16 : Addr) (y53 : Sl) (H_1 : Hp) : Prop :=
∃ x55 : (Option Addr), cell H_1 y16 = some (.pointer x55) ∧ (
 F26 x55 y53 H_1 (fun (r58 : Sl) (r59 : (Option Addr)) (r60 : Bool) (H56 : Hp) => 
 ∀ H61 : Hp, H61 = Array.push H56 (.cells #[sN, (.pointer none)] 74) → (
 mayw H61 (bk H56) 2 0 ∧ ∀ H63 : Hp, H63 = sets H61 (bk H56) [(Sl.v r58), (.pointer r59)] 0 → (
 ((!r60) = true → (Q Sl.nil false H63)) ∧
 ((!r60) = false → (∃ x68 : (Option Addr), cell H63 y16 = some (.pointer x68) ∧ (
 ∃ a69 : Addr, x68 = some a69 ∧ (
 ∃ x72 : Sl, cell H63 a69 = some (Sl.v x72) ∧ (
 (0 : Int) ≤ ((x72).n : Int) ∧ ((x72).n : Int) ≤ ((x72).n : Int) ∧ (8 : Nat) * ((x72).n : Int) ≤ 140737488355328 ∧ ((x72).n : Int) ≤ 9223372036854775807 ∧ ∀ H73 : Hp, H73 = Array.push H63 (.cells (made #[(iv 0)] ((x72).n : Int).toNat) 3) → (
 ∀ H79 : Hp, H79 = Array.push H73 (.cells #[sN] 47) → (
 (cell H79 (bk H73)).isSome = true ∧ frz H79 (bk H73) = false ∧ ∀ H81 : Hp, H81 = setc H79 (bk H73) (Sl.v (Sl.mk (some (bk H63)) ((x72).n : Int).toNat ((x72).n : Int).toNat)) → (
 ∀ H85 : Hp, H85 = Array.push H81 (.cells #[sN] 32) → (
 F9_L4 Q (bk H81) (bk H73) (bk H81) y16 (bk H56) y53 ((y53).n : Int) 0 H85)))))))))))))
def F9_L2b (Q : Sl → Bool → Hp → Prop) (X2 : Sl → Int → Hp → Prop) (y25 : Addr) (y26 : Sl) (y27 : Int) (y23 : Sl) (y24 : Int) (H_2 : Hp) : Prop :=
((decide (y24 < y27)) = true → (∃ a29 : Addr, (y26).b = some a29 ∧ (0 : Int) ≤ y24 ∧ y24 < ((y26).n : Int) ∧ (
 ∃ (x34 : Sl) (x35 : Bool), cells H_2 (Addr.add a29 (y24.toNat * 2)) [(Sl.v x34), (bv x35)] 0 ∧ (
 ∀ H36 : Hp, H36 = Array.push H_2 (.cells #[sN, (bv false)] 68) → (
 mayw H36 (bk H_2) 2 0 ∧ ∀ H38 : Hp, H38 = sets H36 (bk H_2) [(Sl.v x34), (bv x35)] 0 → (
 ∃ x42 : (Option Addr), cell H38 y25 = some (.pointer x42) ∧ (
 ∃ (x44 : Sl) (x45 : Bool), cells H38 (bk H_2) [(Sl.v x44), (bv x45)] 0 ∧ (
 F25 x42 x44 x45 H38 (fun (r48 : Sl) (r49 : Bool) (H46 : Hp) => 
 AppendF H46 80 8 72 (lR 0 0 0 false 0 0 bE false).toArray y23 (r48).b (r48).n (fun (r52 : Sl) (H50 : Hp) => 
 X2 r52 (IntKind.i64.wrap (y24 + 1)) H50)))))))))) ∧
 ((decide (y24 < y27)) = false → (F9_1 Q y25 y23 H_2))
def F9_L2 (Q : Sl → Bool → Hp → Prop) (y25 : Addr) (y26 : Sl) (y27 : Int) (y23 : Sl) (y24 : Int) (H_2 : Hp) : Prop :=
 ∀ X2 : Sl → Int → Hp → Prop, (∀ (y23 : Sl) (y24 : Int) (H_2 : Hp), F9_L2b Q X2 y25 y26 y27 y23 y24 H_2 → X2 y23 y24 H_2) → X2 y23 y24 H_2
def F9 (p0 : Sl) (H : Hp) (Q : Sl → Bool → Hp → Prop) : Prop :=
F23 p0 H (fun (r3 : (Option Addr)) (H1 : Hp) => 
 ∀ H4 : Hp, H4 = Array.push H1 (.cells #[(.pointer none)] 60) → (
 (cell H4 (bk H1)).isSome = true ∧ frz H4 (bk H1) = false ∧ ∀ H6 : Hp, H6 = setc H4 (bk H1) (.pointer r3) → (
 ∃ x11 : (Option Addr), cell H6 (bk H1) = some (.pointer x11) ∧ (
 F24 x11 H6 (fun (r14 : Bool) (H12 : Hp) => 
 (r14 = true → (Q Sl.nil false H12)) ∧
 (r14 = false → (∃ x18 : (Option Addr), cell H12 (bk H1) = some (.pointer x18) ∧ (
 ∃ a19 : Addr, x18 = some a19 ∧ (
 ∃ x22 : Sl, cell H12 (Addr.add a19 1) = some (Sl.v x22) ∧ (
 F9_L2 Q (bk H1) x22 ((x22).n : Int) Sl.nil 0 H12))))))))))
theorem walk9 {w0 : World} {p0 : Sl} {H : Hp} {Q : Sl → Bool → Hp → Prop} (h : F9 p0 H Q) :
  Good prog w0 9 #[(Sl.v p0)] H (fun v H => ∃ (r0 : Sl) (r1 : Bool) , v = (.tuple #[(Sl.v r0), (bv r1)]) ∧ Q r0 r1 H) := by
 unfold F9 at h
 refine Good.enter' (fn := f9) func9 rfl rfl rfl (ws (wr_ (hv (v := sN) rfl (av rfl) (hv (v := (bv false)) rfl (av rfl) ?_))))
 refine hn (nt (ws (wr_ (hv (v := (Sl.v p0)) rfl (mv rfl) (ho rfl (HOp.call' 23 [(Sl.v p0)] (cap := []) rfl rfl call23 (walk23 h)) ?_)))))
 rintro _ H1 ⟨r3, rfl, h⟩
 refine ho rfl (HOp.alloc zeroValue60) ?_
 rintro _ H4 ⟨rfl, e5⟩
 replace h := h H4 e5
 obtain ⟨z8, z9, h⟩ := h
 refine hq (HOp.store1 sizeOf60 rfl rfl rfl z8 z9) ?_
 rintro _ H6 e7
 replace h := h H6 e7
 refine hn (nt (ws (ws (wr_ ?_))))
 obtain ⟨x11, c10, h⟩ := h
 refine hv (v := (.pointer x11)) rfl (l1 isAgg60 rfl c10) (ho rfl (HOp.call' 24 [(.pointer x11)] (cap := []) rfl rfl call24 (walk24 h)) ?_)
 rintro _ H12 ⟨r14, rfl, h⟩
 refine hn (nt ?_)
 obtain ⟨hT, hF⟩ := h
 refine wk r14 rfl (fun hb15 => ?_) (fun hb15 => ?_)
 ·have h := hT hb15
  refine ws (wr_ (hv (v := sN) rfl (av rfl) (hv (v := (bv false)) rfl (av rfl) (hn (nt (HW.ret (tr ?_)))))))
  exact ⟨_, resOf2 rfl Res1.t Res1.t, ⟨Sl.nil, false, rfl, h⟩⟩
 have h := hF hb15
 refine wp_ (nt (ws (wr_ (hv (v := sN) rfl (av rfl) (hn (nt (wc (fun ρ H_1 => ∃ (y53 : Sl), Env.Is ρ [(4, (pp (bk H1))), (5, (Sl.v y53))] ∧ F9_1 Q (bk H1) y53 H_1) ?_ ?_)))))))
 ·refine ws (wr_ ?_)
  obtain ⟨x18, c17, h⟩ := h
  refine hv (v := (.pointer x18)) rfl (l1 isAgg60 rfl c17) ?_
  obtain ⟨a19, e20, h⟩ := h
  refine hv (v := (pp a19)) rfl (HVal.nilCheck (congrArg Value.pointer e20)) (hv (v := (pp (Addr.add a19 1))) rfl (fa runUnderlying66 rfl rfl sizeOf63 rfl) ?_)
  obtain ⟨x22, c21, h⟩ := h
  refine hv (v := (Sl.v x22)) rfl (l1 isAgg63 rfl c21) (hv (v := (iv ((x22).n : Int))) rfl (HVal.len runUnderlying63 rfl) (hv (v := (iv 0)) rfl (mv rfl) ?_))
  refine hn (nt (wb (HW.loop' (fun L2 hL2 => ?_))))
  obtain ⟨X2, hX2⟩ : ∃ X2 : Sl → Int → Hp → Prop, ∀ (y23 : Sl) (y24 : Int) (H_2 : Hp), X2 y23 y24 H_2 ↔ ∀ ρ, Env.Is ρ [(4, (pp (bk H1))), (24, (Sl.v x22)), (25, (iv ((x22).n : Int))), (5, (Sl.v y23)), (26, (iv y24))] → L2 ρ H_2 := ⟨_, fun _ _ _ => Iff.rfl⟩
  refine (hX2 _ _ _).1 (h X2 ?_) _ ?_
  rotate_left
  ·exact (isp rfl)
  clear h
  intro y23 y24 H_2 h
  refine (hX2 _ _ _).2 fun ρ hI => ?_
  obtain ⟨ρ0, rfl⟩ := hI.ex
  clear hI; unfold F9_L2b at h; refine hL2 _ _ ?_
  refine ws (wr_ (hv (v := (bv (decide (y24 < ((x22).n : Int))))) rfl (HVal.lss rfl rfl) (hn (nt (ws ?_)))))
  obtain ⟨hT, hF⟩ := h
  refine wk (decide (y24 < ((x22).n : Int))) rfl (fun hb28 => ?_) (fun hb28 => ?_)
  ·have h := hT hb28
   refine wp_ (nt (ws (wb (ws (wr_ ?_)))))
   obtain ⟨a29, e30, b31, b32, h⟩ := h
   refine hv (v := (pp (Addr.add a29 (y24.toNat * 2)))) rfl (ia runUnderlying63 sizeOf68 (Sl.v_some rfl e30) rfl b31 b32) ?_
   obtain ⟨x34, x35, c33, h⟩ := h
   refine hv (v := (.agg #[(Sl.v x34), (bv x35)])) rfl (ln [(Sl.v x34), (bv x35)] isAgg68 sizeOf68 rfl c33) (ho rfl (HOp.alloc zeroValue68) ?_)
   rintro _ H36 ⟨rfl, e37⟩
   replace h := h H36 e37
   obtain ⟨z40, h⟩ := h
   refine hq (HOp.storeN' (l := [(Sl.v x34), (bv x35)]) sizeOf68 rfl rfl rfl z40) ?_
   rintro _ H38 e39
   replace h := h H38 e39
   refine hn (nt (ws (wr_ ?_)))
   obtain ⟨x42, c41, h⟩ := h
   refine hv (v := (.pointer x42)) rfl (l1 isAgg60 rfl c41) ?_
   obtain ⟨x44, x45, c43, h⟩ := h
   refine hv (v := (.agg #[(Sl.v x44), (bv x45)])) rfl (ln [(Sl.v x44), (bv x45)] isAgg68 sizeOf68 rfl c43) (ho rfl (HOp.call' 25 [(.pointer x42), (.agg #[(Sl.v x44), (bv x45)])] (cap := []) rfl rfl call25 (walk25 h)) ?_)
   rintro _ H46 ⟨r48, r49, rfl, h⟩
   refine hv (v := (.tuple #[(Sl.v r48), (bv r49)])) rfl (mv rfl) (hv (v := (Sl.v r48)) rfl (HVal.extract rfl rfl) (hv (v := (bv r49)) rfl (HVal.extract rfl rfl) ?_))
   refine hv (v := (Sl.v r48)) rfl (av rfl) (hv (v := (bv r49)) rfl (av rfl) (hn (nt (wr_ (hv (v := (Sl.v y23)) rfl (mv rfl) ?_)))))
   refine hv (v := (Sl.v r48)) rfl (mv rfl) (ho rfl (HOp.append (k := 8) (b := 72) runUnderlying62 runUnderlying62 typeInfo80 rfl rfl zeroValue80 rfl rfl h) ?_)
   rintro _ H50 ⟨r52, rfl, h⟩
   refine hv (v := (Sl.v r52)) rfl (av rfl) (hn (nb (nt (wr_ (hv (v := (iv (IntKind.i64.wrap (y24 + 1)))) rfl (HVal.add rfl rfl) ?_)))))
   refine hv (v := (iv (IntKind.i64.wrap (y24 + 1)))) rfl (mv rfl) (hn (nt ?_))
   exact (hX2 _ _ _).1 h _ (isp rfl)
  have h := hF hb28
  refine we (te (te (be (nt ?_))))
  exact ⟨y23, (isp rfl), h⟩
 rintro ρ H_1 ⟨y53, hI, h⟩
 obtain ⟨ρ0, rfl⟩ := hI.ex
 clear hI; unfold F9_1 at h
 refine ws (wr_ ?_)
 obtain ⟨x55, c54, h⟩ := h
 refine hv (v := (.pointer x55)) rfl (l1 isAgg60 rfl c54) (hv (v := (Sl.v y53)) rfl (mv rfl) (ho rfl (HOp.call' 26 [(.pointer x55), (Sl.v y53)] (cap := []) rfl rfl call26 (walk26 h)) ?_))
 rintro _ H56 ⟨r58, r59, r60, rfl, h⟩
 refine hv (v := (.tuple #[(.agg #[(Sl.v r58), (.pointer r59)]), (bv r60)])) rfl (mv rfl) (hv (v := (.agg #[(Sl.v r58), (.pointer r59)])) rfl (HVal.extract rfl rfl) ?_)
 refine hv (v := (bv r60)) rfl (HVal.extract rfl rfl) (ho rfl (HOp.alloc zeroValue74) ?_)
 rintro _ H61 ⟨rfl, e62⟩
 replace h := h H61 e62
 obtain ⟨z65, h⟩ := h
 refine hq (HOp.storeN' (l := [(Sl.v r58), (.pointer r59)]) sizeOf74 rfl rfl rfl z65) ?_
 rintro _ H63 e64
 replace h := h H63 e64
 refine hv (v := (bv r60)) rfl (av rfl) (hn (nt (ws (ws (wr_ (hv (v := (bv r60)) rfl (mv rfl) (hv (v := (bv (!r60))) rfl (HVal.not rfl) ?_)))))))
 refine hn (nt ?_)
 obtain ⟨hT, hF⟩ := h
 refine wk (!r60) rfl (fun hb66 => ?_) (fun hb66 => ?_)
 ·have h := hT hb66
  refine ws (wr_ (hv (v := sN) rfl (av rfl) (hv (v := (bv false)) rfl (av rfl) (hn (nt (HW.ret (tr ?_)))))))
  exact ⟨_, resOf2 rfl Res1.t Res1.t, ⟨Sl.nil, false, rfl, h⟩⟩
 have h := hF hb66
 refine wp_ (nt (ws (wr_ ?_)))
 obtain ⟨x68, c67, h⟩ := h
 refine hv (v := (.pointer x68)) rfl (l1 isAgg60 rfl c67) ?_
 obtain ⟨a69, e70, h⟩ := h
 refine hv (v := (pp a69)) rfl (HVal.nilCheck (congrArg Value.pointer e70)) (hv (v := (pp a69)) rfl (HVal.fieldAddr0 runUnderlying66 rfl rfl sizeOf35 rfl) ?_)
 obtain ⟨x72, c71, h⟩ := h
 refine hv (v := (Sl.v x72)) rfl (l1 isAgg35 rfl c71) (hv (v := (iv ((x72).n : Int))) rfl (HVal.len runUnderlying35 rfl) ?_)
 obtain ⟨z75, z76, z77, z78, h⟩ := h
 refine ho rfl (HOp.makeSlice' (b := 8) runUnderlying47 typeInfo3 rfl zeroValue3 sizeOf3 rfl rfl z75 z76 z77 z78) ?_
 rintro _ H73 ⟨rfl, e74⟩
 replace h := h H73 e74
 refine ho rfl (HOp.alloc zeroValue47) ?_
 rintro _ H79 ⟨rfl, e80⟩
 replace h := h H79 e80
 obtain ⟨z83, z84, h⟩ := h
 refine hq (HOp.store1 sizeOf47 rfl rfl rfl z83 z84) ?_
 rintro _ H81 e82
 replace h := h H81 e82
 refine hn (nt (ws (wr_ (ho rfl (HOp.alloc zeroValue32) ?_))))
 rintro _ H85 ⟨rfl, e86⟩
 replace h := h H85 e86
 refine hn (nt (ws (wr_ (hv (v := (.func (.func 27) #[] #[(pp (bk H73)), (pp (bk H81)), (pp (bk H1)), (pp (bk H56))])) rfl (HVal.makeFuncL rfl) ?_))))
 refine hv (v := (.func (.func 27) #[] #[(pp (bk H73)), (pp (bk H81)), (pp (bk H1)), (pp (bk H56))])) rfl (av rfl) ?_
 refine hn (nt (wc (fun ρ H_3 => Env.Is ρ [(13, (pp (bk H81)))] ∧ F9_3 Q (bk H81) H_3) ?_ ?_))
 ·refine ws (wr_ (hv (v := (Sl.v y53)) rfl (mv rfl) (hv (v := (iv ((y53).n : Int))) rfl (HVal.len runUnderlying62 rfl) ?_)))
  refine hv (v := (iv 0)) rfl (mv rfl) (hn (nt (wb (HW.loop' (fun L4 hL4 => ?_)))))
  obtain ⟨X4, hX4⟩ : ∃ X4 : Int → Hp → Prop, ∀ (y88 : Int) (H_4 : Hp), X4 y88 H_4 ↔ ∀ ρ, Env.Is ρ [(13, (pp (bk H81))), (14, (.func (.func 27) #[] #[(pp (bk H73)), (pp (bk H81)), (pp (bk H1)), (pp (bk H56))])), (55, (Sl.v y53)), (56, (iv ((y53).n : Int))), (57, (iv y88))] → L4 ρ H_4 := ⟨_, fun _ _ => Iff.rfl⟩
  refine (hX4 _ _).1 (h X4 ?_) _ ?_
  rotate_left
  ·exact (isp rfl)
  clear h
  intro y88 H_4 h
  refine (hX4 _ _).2 fun ρ hI => ?_
  obtain ⟨ρ0, rfl⟩ := hI.ex
  clear hI; unfold F9_L4b at h; refine hL4 _ _ ?_
  refine ws (wr_ (hv (v := (bv (decide (y88 < ((y53).n : Int))))) rfl (HVal.lss rfl rfl) (hn (nt (ws ?_)))))
  obtain ⟨hT, hF⟩ := h
  refine wk (decide (y88 < ((y53).n : Int))) rfl (fun hb96 => ?_) (fun hb96 => ?_)
  ·have h := hT hb96
   refine wp_ (nt (wc (fun ρ H_5 => Env.Is ρ [(13, (pp (bk H81))), (14, (.func (.func 27) #[] #[(pp (bk H73)), (pp (bk H81)), (pp (bk H1)), (pp (bk H56))])), (55, (Sl.v y53)), (56, (iv ((y53).n : Int))), (57, (iv y88))] ∧ F9_5 Q X4 (bk H81) (bk H73) (bk H81) (bk H1) (bk H56) y53 ((y53).n : Int) y88 H_5) ?_ ?_))
   ·refine wb (ws (wr_ ?_))
    obtain ⟨a105, e106, b107, b108, h⟩ := h
    refine hv (v := (pp (Addr.add a105 (y88.toNat * 8)))) rfl (ia runUnderlying62 sizeOf80 (Sl.v_some rfl e106) rfl b107 b108) ?_
    obtain ⟨x110, x111, x112, x113, x114, x115, x116, x117, c109, h⟩ := h
    refine hv (v := (.agg (lR x110 x111 x112 x113 x114 x115 x116 x117).toArray)) rfl (ln (lR x110 x111 x112 x113 x114 x115 x116 x117) isAgg80 sizeOf80 rfl c109) ?_
    refine ho rfl (HOp.alloc zeroValue80) ?_
    rintro _ H118 ⟨rfl, e119⟩
    replace h := h H118 e119
    obtain ⟨z122, h⟩ := h
    refine hq (HOp.storeN' (l := (lR x110 x111 x112 x113 x114 x115 x116 x117)) sizeOf80 rfl rfl rfl z122) ?_
    rintro _ H120 e121
    replace h := h H120 e121
    refine hn (nt (ws (wr_ (hv (v := (.func (.func 27) #[] #[(pp (bk H73)), (pp (bk H81)), (pp (bk H1)), (pp (bk H56))])) rfl (mv rfl) ?_))))
    refine hv (v := (pp (Addr.add (bk H_4) 1))) rfl (fa runUnderlying80 rfl rfl sizeOf3 rfl) ?_
    obtain ⟨x124, c123, h⟩ := h
    refine hv (v := (iv x124)) rfl (l1 isAgg3 rfl c123) (ho rfl (HOp.call' 27 [(iv x124), (pp (bk H73)), (pp (bk H81)), (pp (bk H1)), (pp (bk H56))] (cap := [(pp (bk H73)), (pp (bk H81)), (pp (bk H1)), (pp (bk H56))]) rfl rfl call27 (walk27 h)) ?_)
    rintro _ H125 ⟨rfl, h⟩
    refine hn (nt (ws (wr_ (hv (v := (pp (Addr.add (bk H_4) 3))) rfl (fa runUnderlying80 rfl rfl sizeOf4 rfl) ?_))))
    obtain ⟨x128, c127, h⟩ := h
    refine hv (v := (bv x128)) rfl (l1 isAgg4 rfl c127) (hn (nt ?_))
    obtain ⟨hT, hF⟩ := h
    refine wk x128 rfl (fun hb129 => ?_) (fun hb129 => ?_)
    ·have h := hT hb129
     refine wr_ (hv (v := (.func (.func 27) #[] #[(pp (bk H73)), (pp (bk H81)), (pp (bk H1)), (pp (bk H56))])) rfl (mv rfl) ?_)
     refine hv (v := (pp (Addr.add (bk H_4) 2))) rfl (fa runUnderlying80 rfl rfl sizeOf3 rfl) ?_
     obtain ⟨x131, c130, h⟩ := h
     refine hv (v := (iv x131)) rfl (l1 isAgg3 rfl c130) (ho rfl (HOp.call' 27 [(iv x131), (pp (bk H73)), (pp (bk H81)), (pp (bk H1)), (pp (bk H56))] (cap := [(pp (bk H73)), (pp (bk H81)), (pp (bk H1)), (pp (bk H56))]) rfl rfl call27 (walk27 h)) ?_)
     rintro _ H132 ⟨rfl, h⟩
     refine hn (nb (nt ?_))
     exact ⟨(isp rfl), h⟩
    have h := hF hb129
    refine wp_ (nb (nt ?_))
    exact ⟨(isp rfl), h⟩
   rintro ρ H_5 ⟨hI, h⟩
   obtain ⟨ρ0, rfl⟩ := hI.ex
   clear hI; unfold F9_5 at h
   refine wr_ (hv (v := (iv (IntKind.i64.wrap (y88 + 1)))) rfl (HVal.add rfl rfl) (hv (v := (iv (IntKind.i64.wrap (y88 + 1)))) rfl (mv rfl) ?_))
   refine hn (nt ?_)
   exact (hX4 _ _).1 h _ (isp rfl)
  have h := hF hb96
  refine we (te (te (be (nt ?_))))
  exact ⟨⟨rfl, trivial⟩, h⟩
 rintro ρ H_3 ⟨hI, h⟩
 obtain ⟨ρ0, rfl⟩ := hI.ex
 clear hI; unfold F9_3 at h
 refine ws (wr_ ?_)
 obtain ⟨x135, c134, h⟩ := h
 refine hv (v := (Sl.v x135)) rfl (l1 isAgg32 rfl c134) (hv (v := (Sl.v x135)) rfl (av rfl) (hv (v := (bv true)) rfl (av rfl) ?_))
 refine hn (nt (HW.ret ?_))
 exact ⟨_, resOf2 rfl Res1.t Res1.t, ⟨x135, true, rfl, h⟩⟩

def F6_5 (Q : Bool → Hp → Prop) (y299 y300 y301 : Addr) (y304 : Bool) (H_5 : Hp) : Prop :=
(y304 = true → (Q false H_5)) ∧
 (y304 = false → (∃ (x326 x327 x328 x329 : Int) (x330 : ByteArray) (x331 : Bool) (x332 : ByteArray) (x333 : Int) (x334 : ByteArray) (x335 : Sl), cells H_5 y299 (eR x326 x327 x328 x329 x330 x331 x332 x333 x334 x335) 0 ∧ (
 ∃ (x337 x338 x339 x340 : Int) (x341 : ByteArray) (x342 : Bool) (x343 : ByteArray) (x344 : Int) (x345 : ByteArray) (x346 : Sl), cells H_5 y301 (eR x337 x338 x339 x340 x341 x342 x343 x344 x345 x346) 0 ∧ (
 ∀ H347 : Hp, H347 = Array.push H_5 (.cells #[(iv x326), (iv x327), (iv x328), (iv x329), (sv x330), (bv x331), (sv x332), (iv x333), (sv x334), (Sl.v x335), (iv x337), (iv x338), (iv x339), (iv x340), (sv x341), (bv x342), (sv x343), (iv x344), (sv x345), (Sl.v x346)] 41) → (
 F9 (Sl.mk (some (bk H_5)) 2 2) H347 (fun (r351 : Sl) (r352 : Bool) (H349 : Hp) => 
 ∃ (x354 x355 x356 x357 : Int) (x358 : ByteArray) (x359 : Bool) (x360 : ByteArray) (x361 : Int) (x362 : ByteArray) (x363 : Sl), cells H349 y299 (eR x354 x355 x356 x357 x358 x359 x360 x361 x362 x363) 0 ∧ (
 ∃ (x365 x366 x367 x368 : Int) (x369 : ByteArray) (x370 : Bool) (x371 : ByteArray) (x372 : Int) (x373 : ByteArray) (x374 : Sl), cells H349 y300 (eR x365 x366 x367 x368 x369 x370 x371 x372 x373 x374) 0 ∧ (
 ∀ H375 : Hp, H375 = Array.push H349 (.cells #[(iv x354), (iv x355), (iv x356), (iv x357), (sv x358), (bv x359), (sv x360), (iv x361), (sv x362), (Sl.v x363), (iv x365), (iv x366), (iv x367), (iv x368), (sv x369), (bv x370), (sv x371), (iv x372), (sv x373), (Sl.v x374)] 41) → (
 F16 (Sl.mk (some (bk H349)) 2 2) H375 (fun (r379 : Sl) (H377 : Hp) => 
 ∃ (x381 x382 x383 x384 : Int) (x385 : ByteArray) (x386 : Bool) (x387 : ByteArray) (x388 : Int) (x389 : ByteArray) (x390 : Sl), cells H377 y299 (eR x381 x382 x383 x384 x385 x386 x387 x388 x389 x390) 0 ∧ (
 F17 x381 x382 x383 x384 x385 x386 x387 x388 x389 x390 H377 (fun (r393 : Bool) (H391 : Hp) => 
 ((!r352) = true → ((r393 = true → (((decide (((r379).n : Int) = 1)) = true → (∃ a400 : Addr, (r379).b = some a400 ∧ (0 : Int) ≤ 0 ∧ (0 : Int) < ((r379).n : Int) ∧ (
 ∃ x405 : Int, cell H391 (Addr.add a400 ((0 : Int).toNat * 1)) = some (iv x405) ∧ (
 Q (decide (x405 = 1)) H391)))) ∧
 ((decide (((r379).n : Int) = 1)) = false → (Q false H391)))) ∧
 (r393 = false → (Q false H391)))) ∧
 ((!r352) = false → (Q false H391))))))))))))))
def F6_4 (Q : Bool → Hp → Prop) (y207 y208 y209 y241 : Addr) (H_4 : Hp) : Prop :=
∃ (x272 x273 x274 x275 : Int) (x276 : ByteArray) (x277 : Bool) (x278 : ByteArray) (x279 : Int) (x280 : ByteArray) (x281 : Sl), cells H_4 y207 (eR x272 x273 x274 x275 x276 x277 x278 x279 x280 x281) 0 ∧ (
 ∃ (x283 x284 x285 x286 : Int) (x287 : ByteArray) (x288 : Bool) (x289 : ByteArray) (x290 : Int) (x291 : ByteArray) (x292 : Sl), cells H_4 y208 (eR x283 x284 x285 x286 x287 x288 x289 x290 x291 x292) 0 ∧ (
 ∀ H293 : Hp, H293 = Array.push H_4 (.cells #[(iv x272), (iv x273), (iv x274), (iv x275), (sv x276), (bv x277), (sv x278), (iv x279), (sv x280), (Sl.v x281), (iv x283), (iv x284), (iv x285), (iv x286), (sv x287), (bv x288), (sv x289), (iv x290), (sv x291), (Sl.v x292)] 41) → (
 F9 (Sl.mk (some (bk H_4)) 2 2) H293 (fun (r297 : Sl) (r298 : Bool) (H295 : Hp) => 
 ((!r298) = true → (F6_5 Q y207 y209 y241 true H295)) ∧
 ((!r298) = false → (((decide (((r297).n : Int) ≠ 1)) = true → (F6_5 Q y207 y209 y241 true H295)) ∧
 ((decide (((r297).n : Int) ≠ 1)) = false → (∃ a307 : Addr, (r297).b = some a307 ∧ (0 : Int) ≤ 0 ∧ (0 : Int) < ((r297).n : Int) ∧ (
 ∃ (x312 x313 : Int) (x314 : ByteArray) (x315 : Bool), cells H295 (Addr.add (Addr.add a307 ((0 : Int).toNat * 14)) 10) (vR x312 x313 x314 x315) 0 ∧ (
 ((!(decide (x312 = 1) && (decide (x313 = 4) && (seq x314 bE && (x315 == false))))) = true → (F6_5 Q y207 y209 y241 true H295)) ∧
 ((!(decide (x312 = 1) && (decide (x313 = 4) && (seq x314 bE && (x315 == false))))) = false → (∃ a318 : Addr, (r297).b = some a318 ∧ (0 : Int) ≤ 0 ∧ (0 : Int) < ((r297).n : Int) ∧ (
 ∃ x323 : ByteArray, cell H295 (Addr.add (Addr.add a318 ((0 : Int).toNat * 14)) 6) = some (sv x323) ∧ (
 F6_5 Q y207 y209 y241 (!(seq x323 S_a)) H295))))))))))))))
def F6_3 (Q : Bool → Hp → Prop) (y143 y144 y145 y177 : Addr) (H_3 : Hp) : Prop :=
∃ (x211 x212 x213 x214 : Int) (x215 : ByteArray) (x216 : Bool) (x217 : ByteArray) (x218 : Int) (x219 : ByteArray) (x220 : Sl), cells H_3 y143 (eR x211 x212 x213 x214 x215 x216 x217 x218 x219 x220) 0 ∧ (
 (F19 4 H_3 (fun (r223 r224 r225 r226 : Int) (r227 : ByteArray) (r228 : Bool) (r229 : ByteArray) (r230 : Int) (r231 : ByteArray) (r232 : Sl) (H221 : Hp) => 
 cells H221 y143 (eR x211 x212 x213 x214 x215 x216 x217 x218 x219 x220) 0 ∧ (
 (∀ H234 : Hp, H234 = Array.push H221 (.cells #[(iv x211), (iv x212), (iv x213), (iv x214), (sv x215), (bv x216), (sv x217), (iv x218), (sv x219), (Sl.v x220), (iv r223), (iv r224), (iv r225), (iv r226), (sv r227), (bv r228), (sv r229), (iv r230), (sv r231), (Sl.v r232)] 41) → (
 ∀ H236 : Hp, H236 = Array.push H234 (.cells zR.toArray 41) → (
 mayw H236 (bk H234) 10 0 ∧ ∀ H238 : Hp, H238 = sets H236 (bk H234) (eR 5 8 0 0 bE false bE 0 bE (Sl.mk (some (bk H221)) 2 2)) 0 → (
 F6_4 Q y144 y145 y177 (bk H234) H238)))) ∧
 (∀ H242 : Hp, H242 = Array.push H221 (.cells zR.toArray 41) → (
 cells H242 y143 (eR x211 x212 x213 x214 x215 x216 x217 x218 x219 x220) 0 ∧ (
 ∀ H245 : Hp, H245 = Array.push H242 (.cells #[(iv x211), (iv x212), (iv x213), (iv x214), (sv x215), (bv x216), (sv x217), (iv x218), (sv x219), (Sl.v x220), (iv r223), (iv r224), (iv r225), (iv r226), (sv r227), (bv r228), (sv r229), (iv r230), (sv r231), (Sl.v r232)] 41) → (
 mayw H245 (bk H221) 10 0 ∧ ∀ H247 : Hp, H247 = sets H245 (bk H221) (eR 5 8 0 0 bE false bE 0 bE (Sl.mk (some (bk H242)) 2 2)) 0 → (
 F6_4 Q y144 y145 y177 (bk H221) H247)))))))) ∧
 (∀ H250 : Hp, H250 = Array.push H_3 (.cells zR.toArray 41) → (
 cells H250 y143 (eR x211 x212 x213 x214 x215 x216 x217 x218 x219 x220) 0 ∧ (
 F19 4 H250 (fun (r255 r256 r257 r258 : Int) (r259 : ByteArray) (r260 : Bool) (r261 : ByteArray) (r262 : Int) (r263 : ByteArray) (r264 : Sl) (H253 : Hp) => 
 cells H253 y143 (eR x211 x212 x213 x214 x215 x216 x217 x218 x219 x220) 0 ∧ (
 ∀ H266 : Hp, H266 = Array.push H253 (.cells #[(iv x211), (iv x212), (iv x213), (iv x214), (sv x215), (bv x216), (sv x217), (iv x218), (sv x219), (Sl.v x220), (iv r255), (iv r256), (iv r257), (iv r258), (sv r259), (bv r260), (sv r261), (iv r262), (sv r263), (Sl.v r264)] 41) → (
 mayw H266 (bk H_3) 10 0 ∧ ∀ H268 : Hp, H268 = sets H266 (bk H_3) (eR 5 8 0 0 bE false bE 0 bE (Sl.mk (some (bk H253)) 2 2)) 0 → (
 F6_4 Q y144 y145 y177 (bk H_3) H268))))))))
def F6_2 (Q : Bool → Hp → Prop) (y80 y81 y113 : Addr) (H_2 : Hp) : Prop :=
∃ (x147 x148 x149 x150 : Int) (x151 : ByteArray) (x152 : Bool) (x153 : ByteArray) (x154 : Int) (x155 : ByteArray) (x156 : Sl), cells H_2 y80 (eR x147 x148 x149 x150 x151 x152 x153 x154 x155 x156) 0 ∧ (
 (F19 2 H_2 (fun (r159 r160 r161 r162 : Int) (r163 : ByteArray) (r164 : Bool) (r165 : ByteArray) (r166 : Int) (r167 : ByteArray) (r168 : Sl) (H157 : Hp) => 
 cells H157 y80 (eR x147 x148 x149 x150 x151 x152 x153 x154 x155 x156) 0 ∧ (
 (∀ H170 : Hp, H170 = Array.push H157 (.cells #[(iv x147), (iv x148), (iv x149), (iv x150), (sv x151), (bv x152), (sv x153), (iv x154), (sv x155), (Sl.v x156), (iv r159), (iv r160), (iv r161), (iv r162), (sv r163), (bv r164), (sv r165), (iv r166), (sv r167), (Sl.v r168)] 41) → (
 ∀ H172 : Hp, H172 = Array.push H170 (.cells zR.toArray 41) → (
 mayw H172 (bk H170) 10 0 ∧ ∀ H174 : Hp, H174 = sets H172 (bk H170) (eR 5 10 0 0 bE false bE 0 bE (Sl.mk (some (bk H157)) 2 2)) 0 → (
 F6_3 Q y80 y81 y113 (bk H170) H174)))) ∧
 (∀ H178 : Hp, H178 = Array.push H157 (.cells zR.toArray 41) → (
 cells H178 y80 (eR x147 x148 x149 x150 x151 x152 x153 x154 x155 x156) 0 ∧ (
 ∀ H181 : Hp, H181 = Array.push H178 (.cells #[(iv x147), (iv x148), (iv x149), (iv x150), (sv x151), (bv x152), (sv x153), (iv x154), (sv x155), (Sl.v x156), (iv r159), (iv r160), (iv r161), (iv r162), (sv r163), (bv r164), (sv r165), (iv r166), (sv r167), (Sl.v r168)] 41) → (
 mayw H181 (bk H157) 10 0 ∧ ∀ H183 : Hp, H183 = sets H181 (bk H157) (eR 5 10 0 0 bE false bE 0 bE (Sl.mk (some (bk H178)) 2 2)) 0 → (
 F6_3 Q y80 y81 y113 (bk H157) H183)))))))) ∧
 (∀ H186 : Hp, H186 = Array.push H_2 (.cells zR.toArray 41) → (
 cells H186 y80 (eR x147 x148 x149 x150 x151 x152 x153 x154 x155 x156) 0 ∧ (
 F19 2 H186 (fun (r191 r192 r193 r194 : Int) (r195 : ByteArray) (r196 : Bool) (r197 : ByteArray) (r198 : Int) (r199 : ByteArray) (r200 : Sl) (H189 : Hp) => 
 cells H189 y80 (eR x147 x148 x149 x150 x151 x152 x153 x154 x155 x156) 0 ∧ (
 ∀ H202 : Hp, H202 = Array.push H189 (.cells #[(iv x147), (iv x148), (iv x149), (iv x150), (sv x151), (bv x152), (sv x153), (iv x154), (sv x155), (Sl.v x156), (iv r191), (iv r192), (iv r193), (iv r194), (sv r195), (bv r196), (sv r197), (iv r198), (sv r199), (Sl.v r200)] 41) → (
 mayw H202 (bk H_2) 10 0 ∧ ∀ H204 : Hp, H204 = sets H202 (bk H_2) (eR 5 10 0 0 bE false bE 0 bE (Sl.mk (some (bk H189)) 2 2)) 0 → (
 F6_3 Q y80 y81 y113 (bk H_2) H204))))))))
def F6_1 (Q : Bool → Hp → Prop) (y18 y50 : Addr) (H_1 : Hp) : Prop :=
∃ (x83 x84 x85 x86 : Int) (x87 : ByteArray) (x88 : Bool) (x89 : ByteArray) (x90 : Int) (x91 : ByteArray) (x92 : Sl), cells H_1 y18 (eR x83 x84 x85 x86 x87 x88 x89 x90 x91 x92) 0 ∧ (
 (F19 9 H_1 (fun (r95 r96 r97 r98 : Int) (r99 : ByteArray) (r100 : Bool) (r101 : ByteArray) (r102 : Int) (r103 : ByteArray) (r104 : Sl) (H93 : Hp) => 
 cells H93 y18 (eR x83 x84 x85 x86 x87 x88 x89 x90 x91 x92) 0 ∧ (
 (∀ H106 : Hp, H106 = Array.push H93 (.cells #[(iv x83), (iv x84), (iv x85), (iv x86), (sv x87), (bv x88), (sv x89), (iv x90), (sv x91), (Sl.v x92), (iv r95), (iv r96), (iv r97), (iv r98), (sv r99), (bv r100), (sv r101), (iv r102), (sv r103), (Sl.v r104)] 41) → (
 ∀ H108 : Hp, H108 = Array.push H106 (.cells zR.toArray 41) → (
 mayw H108 (bk H106) 10 0 ∧ ∀ H110 : Hp, H110 = sets H108 (bk H106) (eR 5 8 0 0 bE false bE 0 bE (Sl.mk (some (bk H93)) 2 2)) 0 → (
 F6_2 Q y18 y50 (bk H106) H110)))) ∧
 (∀ H114 : Hp, H114 = Array.push H93 (.cells zR.toArray 41) → (
 cells H114 y18 (eR x83 x84 x85 x86 x87 x88 x89 x90 x91 x92) 0 ∧ (
 ∀ H117 : Hp, H117 = Array.push H114 (.cells #[(iv x83), (iv x84), (iv x85), (iv x86), (sv x87), (bv x88), (sv x89), (iv x90), (sv x91), (Sl.v x92), (iv r95), (iv r96), (iv r97), (iv r98), (sv r99), (bv r100), (sv r101), (iv r102), (sv r103), (Sl.v r104)] 41) → (
 mayw H117 (bk H93) 10 0 ∧ ∀ H119 : Hp, H119 = sets H117 (bk H93) (eR 5 8 0 0 bE false bE 0 bE (Sl.mk (some (bk H114)) 2 2)) 0 → (
 F6_2 Q y18 y50 (bk H93) H119)))))))) ∧
 (∀ H122 : Hp, H122 = Array.push H_1 (.cells zR.toArray 41) → (
 cells H122 y18 (eR x83 x84 x85 x86 x87 x88 x89 x90 x91 x92) 0 ∧ (
 F19 9 H122 (fun (r127 r128 r129 r130 : Int) (r131 : ByteArray) (r132 : Bool) (r133 : ByteArray) (r134 : Int) (r135 : ByteArray) (r136 : Sl) (H125 : Hp) => 
 cells H125 y18 (eR x83 x84 x85 x86 x87 x88 x89 x90 x91 x92) 0 ∧ (
 ∀ H138 : Hp, H138 = Array.push H125 (.cells #[(iv x83), (iv x84), (iv x85), (iv x86), (sv x87), (bv x88), (sv x89), (iv x90), (sv x91), (Sl.v x92), (iv r127), (iv r128), (iv r129), (iv r130), (sv r131), (bv r132), (sv r133), (iv r134), (sv r135), (Sl.v r136)] 41) → (
 mayw H138 (bk H_1) 10 0 ∧ ∀ H140 : Hp, H140 = sets H138 (bk H_1) (eR 5 8 0 0 bE false bE 0 bE (Sl.mk (some (bk H125)) 2 2)) 0 → (
 F6_2 Q y18 y50 (bk H_1) H140))))))))
def F6 (H : Hp) (Q : Bool → Hp → Prop) : Prop :=
F18 S_a S_x H (fun (r3 r4 r5 r6 : Int) (r7 : ByteArray) (r8 : Bool) (r9 : ByteArray) (r10 : Int) (r11 : ByteArray) (r12 : Sl) (H1 : Hp) => 
 ∀ H13 : Hp, H13 = Array.push H1 (.cells zR.toArray 41) → (
 mayw H13 (bk H1) 10 0 ∧ ∀ H15 : Hp, H15 = sets H13 (bk H1) (eR r3 r4 r5 r6 r7 r8 r9 r10 r11 r12) 0 → (
 ∃ (x20 x21 x22 x23 : Int) (x24 : ByteArray) (x25 : Bool) (x26 : ByteArray) (x27 : Int) (x28 : ByteArray) (x29 : Sl), cells H15 (bk H1) (eR x20 x21 x22 x23 x24 x25 x26 x27 x28 x29) 0 ∧ (
 (F19 3 H15 (fun (r32 r33 r34 r35 : Int) (r36 : ByteArray) (r37 : Bool) (r38 : ByteArray) (r39 : Int) (r40 : ByteArray) (r41 : Sl) (H30 : Hp) => 
 cells H30 (bk H1) (eR x20 x21 x22 x23 x24 x25 x26 x27 x28 x29) 0 ∧ (
 (∀ H43 : Hp, H43 = Array.push H30 (.cells #[(iv x20), (iv x21), (iv x22), (iv x23), (sv x24), (bv x25), (sv x26), (iv x27), (sv x28), (Sl.v x29), (iv r32), (iv r33), (iv r34), (iv r35), (sv r36), (bv r37), (sv r38), (iv r39), (sv r40), (Sl.v r41)] 41) → (
 ∀ H45 : Hp, H45 = Array.push H43 (.cells zR.toArray 41) → (
 mayw H45 (bk H43) 10 0 ∧ ∀ H47 : Hp, H47 = sets H45 (bk H43) (eR 5 10 0 0 bE false bE 0 bE (Sl.mk (some (bk H30)) 2 2)) 0 → (
 F6_1 Q (bk H1) (bk H43) H47)))) ∧
 (∀ H51 : Hp, H51 = Array.push H30 (.cells zR.toArray 41) → (
 cells H51 (bk H1) (eR x20 x21 x22 x23 x24 x25 x26 x27 x28 x29) 0 ∧ (
 ∀ H54 : Hp, H54 = Array.push H51 (.cells #[(iv x20), (iv x21), (iv x22), (iv x23), (sv x24), (bv x25), (sv x26), (iv x27), (sv x28), (Sl.v x29), (iv r32), (iv r33), (iv r34), (iv r35), (sv r36), (bv r37), (sv r38), (iv r39), (sv r40), (Sl.v r41)] 41) → (
 mayw H54 (bk H30) 10 0 ∧ ∀ H56 : Hp, H56 = sets H54 (bk H30) (eR 5 10 0 0 bE false bE 0 bE (Sl.mk (some (bk H51)) 2 2)) 0 → (
 F6_1 Q (bk H1) (bk H30) H56)))))))) ∧
 (∀ H59 : Hp, H59 = Array.push H15 (.cells zR.toArray 41) → (
 cells H59 (bk H1) (eR x20 x21 x22 x23 x24 x25 x26 x27 x28 x29) 0 ∧ (
 F19 3 H59 (fun (r64 r65 r66 r67 : Int) (r68 : ByteArray) (r69 : Bool) (r70 : ByteArray) (r71 : Int) (r72 : ByteArray) (r73 : Sl) (H62 : Hp) => 
 cells H62 (bk H1) (eR x20 x21 x22 x23 x24 x25 x26 x27 x28 x29) 0 ∧ (
 ∀ H75 : Hp, H75 = Array.push H62 (.cells #[(iv x20), (iv x21), (iv x22), (iv x23), (sv x24), (bv x25), (sv x26), (iv x27), (sv x28), (Sl.v x29), (iv r64), (iv r65), (iv r66), (iv r67), (sv r68), (bv r69), (sv r70), (iv r71), (sv r72), (Sl.v r73)] 41) → (
 mayw H75 (bk H15) 10 0 ∧ ∀ H77 : Hp, H77 = sets H75 (bk H15) (eR 5 10 0 0 bE false bE 0 bE (Sl.mk (some (bk H62)) 2 2)) 0 → (
 F6_1 Q (bk H1) (bk H15) H77)))))))))))
theorem walk6 {w0 : World} {H : Hp} {Q : Bool → Hp → Prop} (h : F6 H Q) :
  Good prog w0 6 #[] H (fun v H => ∃ (r0 : Bool) , v = (bv r0) ∧ Q r0 H) := by
 unfold F6 at h
 refine Good.enter' (fn := f6) func6 rfl rfl rfl (ws (wr_ (hv (v := (bv false)) rfl (av rfl) (hn (nt (ws ?_))))))
 refine wr_ (ho rfl (HOp.call' 18 [(sv S_a), (sv S_x)] (cap := []) rfl rfl call18 (walk18 h)) ?_)
 rintro _ H1 ⟨r3, r4, r5, r6, r7, r8, r9, r10, r11, r12, rfl, h⟩
 refine ho rfl (HOp.alloc zeroValue41) ?_
 rintro _ H13 ⟨rfl, e14⟩
 replace h := h H13 e14
 obtain ⟨z17, h⟩ := h
 refine hq (HOp.storeN' (l := (eR r3 r4 r5 r6 r7 r8 r9 r10 r11 r12)) sizeOf41 rfl rfl rfl z17) ?_
 rintro _ H15 e16
 replace h := h H15 e16
 refine hn (nt (wc (fun ρ H_1 => ∃ (y50 : Addr), Env.Is ρ [(1, (pp (bk H1))), (2, (pp y50))] ∧ F6_1 Q (bk H1) y50 H_1) ?_ ?_))
 ·refine HW.draw mixed [(0, some [2, 5]), (6, none), (6, none), (6, none), (6, none), (6, none)] rfl (by kernel_rfl) (by kernel_rfl) ?_
  obtain ⟨x20, x21, x22, x23, x24, x25, x26, x27, x28, x29, c19, h⟩ := h
  refine pl (v := (.agg (eR x20 x21 x22 x23 x24 x25 x26 x27 x28 x29).toArray)) (fun X => cells X (bk H1) (eR x20 x21 x22 x23 x24 x25 x26 x27 x28 x29) 0) rfl rfl (fun _ hX => ln (eR x20 x21 x22 x23 x24 x25 x26 x27 x28 x29) isAgg41 sizeOf41 rfl hX) c19 ?_
  obtain ⟨hB1, hB4⟩ := h
  refine HPlan.fork2 (i := 1) (j := 4) (by kernel_rfl) ?_ ?_
  ·have h := hB1
   clear hB1 hB4
   refine HBr.ops' [(6, none), (6, none), (6, none), (6, none)] rfl (by kernel_rfl) (by kernel_rfl) rfl rfl rfl (HOp.call' 19 [(iv 3)] (cap := []) rfl rfl call19 (walk19 h)) ?_
   rintro _ H30 ⟨r32, r33, r34, r35, r36, r37, r38, r39, r40, r41, rfl, h⟩
   obtain ⟨s42, h⟩ := h
   refine ⟨SC_of ⟨fun _ => s42, trivial⟩, ?_⟩
   obtain ⟨hB2, hB4⟩ := h
   refine HPlan.fork2 (i := 2) (j := 4) (by kernel_rfl) ?_ ?_
   ·have h := hB2
    clear hB2 hB4
    refine HBr.ops' [(3, some []), (4, none), (5, none)] rfl (by kernel_rfl) (by kernel_rfl) rfl rfl rfl (HOp.buildSlice' (zs := [(iv 0), (iv 0), (iv 0), (iv 0), (sv bE), (bv false), (sv bE), (iv 0), (sv bE), sN, (iv 0), (iv 0), (iv 0), (iv 0), (sv bE), (bv false), (sv bE), (iv 0), (sv bE), sN]) (cs := [(iv x20), (iv x21), (iv x22), (iv x23), (sv x24), (bv x25), (sv x26), (iv x27), (sv x28), (Sl.v x29), (iv r32), (iv r33), (iv r34), (iv r35), (sv r36), (bv r37), (sv r38), (iv r39), (sv r40), (Sl.v r41)]) runUnderlying35 sizeOf41 zeroValue41 (by decide) (by kernel_rfl) (by kernel_rfl) (by decide)) ?_
    rintro _ H43 ⟨rfl, e44⟩
    replace h := h H43 e44
    refine ⟨SC_of ⟨nofun, trivial⟩, ?_⟩
    refine pv (v := (.agg (eR 5 10 0 0 bE false bE 0 bE (Sl.mk (some (bk H30)) 2 2)).toArray)) rfl rfl (fun _ => HVal.build' (cs := (eR 5 10 0 0 bE false bE 0 bE (Sl.mk (some (bk H30)) 2 2))) runUnderlying41 zeroValue41 places41 (by kernel_rfl)) ?_
    refine po rfl rfl (HOp.alloc zeroValue41) ?_
    rintro _ H45 ⟨rfl, e46⟩
    replace h := h H45 e46
    refine ⟨SC_of ⟨nofun, trivial⟩, ?_⟩
    obtain ⟨z49, h⟩ := h
    refine pn rfl (HOp.storeN' (l := (eR 5 10 0 0 bE false bE 0 bE (Sl.mk (some (bk H30)) 2 2))) sizeOf41 rfl rfl rfl z49) ?_
    rintro _ H47 e48
    replace h := h H47 e48
    refine ⟨SC_of ⟨nofun, trivial⟩, ?_⟩
    refine HPlan.done (nt ?_)
    exact ⟨(bk H43), (isp rfl), h⟩
   have h := hB4
   clear hB2 hB4
   refine HBr.ops' [(2, none), (3, some []), (5, none)] rfl (by kernel_rfl) (by kernel_rfl) rfl rfl rfl (HOp.alloc zeroValue41) ?_
   rintro _ H51 ⟨rfl, e52⟩
   replace h := h H51 e52
   obtain ⟨s53, h⟩ := h
   refine ⟨SC_of ⟨fun _ => s53, trivial⟩, ?_⟩
   refine po rfl rfl (HOp.buildSlice' (zs := [(iv 0), (iv 0), (iv 0), (iv 0), (sv bE), (bv false), (sv bE), (iv 0), (sv bE), sN, (iv 0), (iv 0), (iv 0), (iv 0), (sv bE), (bv false), (sv bE), (iv 0), (sv bE), sN]) (cs := [(iv x20), (iv x21), (iv x22), (iv x23), (sv x24), (bv x25), (sv x26), (iv x27), (sv x28), (Sl.v x29), (iv r32), (iv r33), (iv r34), (iv r35), (sv r36), (bv r37), (sv r38), (iv r39), (sv r40), (Sl.v r41)]) runUnderlying35 sizeOf41 zeroValue41 (by decide) (by kernel_rfl) (by kernel_rfl) (by decide)) ?_
   rintro _ H54 ⟨rfl, e55⟩
   replace h := h H54 e55
   refine ⟨SC_of ⟨nofun, trivial⟩, ?_⟩
   refine pv (v := (.agg (eR 5 10 0 0 bE false bE 0 bE (Sl.mk (some (bk H51)) 2 2)).toArray)) rfl rfl (fun _ => HVal.build' (cs := (eR 5 10 0 0 bE false bE 0 bE (Sl.mk (some (bk H51)) 2 2))) runUnderlying41 zeroValue41 places41 (by kernel_rfl)) ?_
   obtain ⟨z58, h⟩ := h
   refine pn rfl (HOp.storeN' (l := (eR 5 10 0 0 bE false bE 0 bE (Sl.mk (some (bk H51)) 2 2))) sizeOf41 rfl rfl rfl z58) ?_
   rintro _ H56 e57
   replace h := h H56 e57
   refine ⟨SC_of ⟨nofun, trivial⟩, ?_⟩
   refine HPlan.done (nt ?_)
   exact ⟨(bk H30), (isp rfl), h⟩
  have h := hB4
  clear hB1 hB4
  refine HBr.ops' [(1, none), (2, none), (3, some []), (5, none)] rfl (by kernel_rfl) (by kernel_rfl) rfl rfl rfl (HOp.alloc zeroValue41) ?_
  rintro _ H59 ⟨rfl, e60⟩
  replace h := h H59 e60
  obtain ⟨s61, h⟩ := h
  refine ⟨SC_of ⟨fun _ => s61, trivial⟩, ?_⟩
  refine po rfl rfl (HOp.call' 19 [(iv 3)] (cap := []) rfl rfl call19 (walk19 h)) ?_
  rintro _ H62 ⟨r64, r65, r66, r67, r68, r69, r70, r71, r72, r73, rfl, h⟩
  obtain ⟨s74, h⟩ := h
  refine ⟨SC_of ⟨fun _ => s74, trivial⟩, ?_⟩
  refine po rfl rfl (HOp.buildSlice' (zs := [(iv 0), (iv 0), (iv 0), (iv 0), (sv bE), (bv false), (sv bE), (iv 0), (sv bE), sN, (iv 0), (iv 0), (iv 0), (iv 0), (sv bE), (bv false), (sv bE), (iv 0), (sv bE), sN]) (cs := [(iv x20), (iv x21), (iv x22), (iv x23), (sv x24), (bv x25), (sv x26), (iv x27), (sv x28), (Sl.v x29), (iv r64), (iv r65), (iv r66), (iv r67), (sv r68), (bv r69), (sv r70), (iv r71), (sv r72), (Sl.v r73)]) runUnderlying35 sizeOf41 zeroValue41 (by decide) (by kernel_rfl) (by kernel_rfl) (by decide)) ?_
  rintro _ H75 ⟨rfl, e76⟩
  replace h := h H75 e76
  refine ⟨SC_of ⟨nofun, trivial⟩, ?_⟩
  refine pv (v := (.agg (eR 5 10 0 0 bE false bE 0 bE (Sl.mk (some (bk H62)) 2 2)).toArray)) rfl rfl (fun _ => HVal.build' (cs := (eR 5 10 0 0 bE false bE 0 bE (Sl.mk (some (bk H62)) 2 2))) runUnderlying41 zeroValue41 places41 (by kernel_rfl)) ?_
  obtain ⟨z79, h⟩ := h
  refine pn rfl (HOp.storeN' (l := (eR 5 10 0 0 bE false bE 0 bE (Sl.mk (some (bk H62)) 2 2))) sizeOf41 rfl rfl rfl z79) ?_
  rintro _ H77 e78
  replace h := h H77 e78
  refine ⟨SC_of ⟨nofun, trivial⟩, ?_⟩
  refine HPlan.done (nt ?_)
  exact ⟨(bk H15), (isp rfl), h⟩
 rintro ρ H_1 ⟨y50, hI, h⟩
 obtain ⟨ρ0, rfl⟩ := hI.ex
 clear hI; unfold F6_1 at h
 refine wc (fun ρ H_2 => ∃ (y113 : Addr), Env.Is ρ [(1, (pp (bk H1))), (2, (pp y50)), (3, (pp y113))] ∧ F6_2 Q (bk H1) y50 y113 H_2) ?_ ?_
 ·refine HW.draw mixed [(0, some [2, 5]), (6, none), (6, none), (6, none), (6, none), (6, none)] rfl (by kernel_rfl) (by kernel_rfl) ?_
  obtain ⟨x83, x84, x85, x86, x87, x88, x89, x90, x91, x92, c82, h⟩ := h
  refine pl (v := (.agg (eR x83 x84 x85 x86 x87 x88 x89 x90 x91 x92).toArray)) (fun X => cells X (bk H1) (eR x83 x84 x85 x86 x87 x88 x89 x90 x91 x92) 0) rfl rfl (fun _ hX => ln (eR x83 x84 x85 x86 x87 x88 x89 x90 x91 x92) isAgg41 sizeOf41 rfl hX) c82 ?_
  obtain ⟨hB1, hB4⟩ := h
  refine HPlan.fork2 (i := 1) (j := 4) (by kernel_rfl) ?_ ?_
  ·have h := hB1
   clear hB1 hB4
   refine HBr.ops' [(6, none), (6, none), (6, none), (6, none)] rfl (by kernel_rfl) (by kernel_rfl) rfl rfl rfl (HOp.call' 19 [(iv 9)] (cap := []) rfl rfl call19 (walk19 h)) ?_
   rintro _ H93 ⟨r95, r96, r97, r98, r99, r100, r101, r102, r103, r104, rfl, h⟩
   obtain ⟨s105, h⟩ := h
   refine ⟨SC_of ⟨fun _ => s105, trivial⟩, ?_⟩
   obtain ⟨hB2, hB4⟩ := h
   refine HPlan.fork2 (i := 2) (j := 4) (by kernel_rfl) ?_ ?_
   ·have h := hB2
    clear hB2 hB4
    refine HBr.ops' [(3, some []), (4, none), (5, none)] rfl (by kernel_rfl) (by kernel_rfl) rfl rfl rfl (HOp.buildSlice' (zs := [(iv 0), (iv 0), (iv 0), (iv 0), (sv bE), (bv false), (sv bE), (iv 0), (sv bE), sN, (iv 0), (iv 0), (iv 0), (iv 0), (sv bE), (bv false), (sv bE), (iv 0), (sv bE), sN]) (cs := [(iv x83), (iv x84), (iv x85), (iv x86), (sv x87), (bv x88), (sv x89), (iv x90), (sv x91), (Sl.v x92), (iv r95), (iv r96), (iv r97), (iv r98), (sv r99), (bv r100), (sv r101), (iv r102), (sv r103), (Sl.v r104)]) runUnderlying35 sizeOf41 zeroValue41 (by decide) (by kernel_rfl) (by kernel_rfl) (by decide)) ?_
    rintro _ H106 ⟨rfl, e107⟩
    replace h := h H106 e107
    refine ⟨SC_of ⟨nofun, trivial⟩, ?_⟩
    refine pv (v := (.agg (eR 5 8 0 0 bE false bE 0 bE (Sl.mk (some (bk H93)) 2 2)).toArray)) rfl rfl (fun _ => HVal.build' (cs := (eR 5 8 0 0 bE false bE 0 bE (Sl.mk (some (bk H93)) 2 2))) runUnderlying41 zeroValue41 places41 (by kernel_rfl)) ?_
    refine po rfl rfl (HOp.alloc zeroValue41) ?_
    rintro _ H108 ⟨rfl, e109⟩
    replace h := h H108 e109
    refine ⟨SC_of ⟨nofun, trivial⟩, ?_⟩
    obtain ⟨z112, h⟩ := h
    refine pn rfl (HOp.storeN' (l := (eR 5 8 0 0 bE false bE 0 bE (Sl.mk (some (bk H93)) 2 2))) sizeOf41 rfl rfl rfl z112) ?_
    rintro _ H110 e111
    replace h := h H110 e111
    refine ⟨SC_of ⟨nofun, trivial⟩, ?_⟩
    refine HPlan.done (nt ?_)
    exact ⟨(bk H106), (isp rfl), h⟩
   have h := hB4
   clear hB2 hB4
   refine HBr.ops' [(2, none), (3, some []), (5, none)] rfl (by kernel_rfl) (by kernel_rfl) rfl rfl rfl (HOp.alloc zeroValue41) ?_
   rintro _ H114 ⟨rfl, e115⟩
   replace h := h H114 e115
   obtain ⟨s116, h⟩ := h
   refine ⟨SC_of ⟨fun _ => s116, trivial⟩, ?_⟩
   refine po rfl rfl (HOp.buildSlice' (zs := [(iv 0), (iv 0), (iv 0), (iv 0), (sv bE), (bv false), (sv bE), (iv 0), (sv bE), sN, (iv 0), (iv 0), (iv 0), (iv 0), (sv bE), (bv false), (sv bE), (iv 0), (sv bE), sN]) (cs := [(iv x83), (iv x84), (iv x85), (iv x86), (sv x87), (bv x88), (sv x89), (iv x90), (sv x91), (Sl.v x92), (iv r95), (iv r96), (iv r97), (iv r98), (sv r99), (bv r100), (sv r101), (iv r102), (sv r103), (Sl.v r104)]) runUnderlying35 sizeOf41 zeroValue41 (by decide) (by kernel_rfl) (by kernel_rfl) (by decide)) ?_
   rintro _ H117 ⟨rfl, e118⟩
   replace h := h H117 e118
   refine ⟨SC_of ⟨nofun, trivial⟩, ?_⟩
   refine pv (v := (.agg (eR 5 8 0 0 bE false bE 0 bE (Sl.mk (some (bk H114)) 2 2)).toArray)) rfl rfl (fun _ => HVal.build' (cs := (eR 5 8 0 0 bE false bE 0 bE (Sl.mk (some (bk H114)) 2 2))) runUnderlying41 zeroValue41 places41 (by kernel_rfl)) ?_
   obtain ⟨z121, h⟩ := h
   refine pn rfl (HOp.storeN' (l := (eR 5 8 0 0 bE false bE 0 bE (Sl.mk (some (bk H114)) 2 2))) sizeOf41 rfl rfl rfl z121) ?_
   rintro _ H119 e120
   replace h := h H119 e120
   refine ⟨SC_of ⟨nofun, trivial⟩, ?_⟩
   refine HPlan.done (nt ?_)
   exact ⟨(bk H93), (isp rfl), h⟩
  have h := hB4
  clear hB1 hB4
  refine HBr.ops' [(1, none), (2, none), (3, some []), (5, none)] rfl (by kernel_rfl) (by kernel_rfl) rfl rfl rfl (HOp.alloc zeroValue41) ?_
  rintro _ H122 ⟨rfl, e123⟩
  replace h := h H122 e123
  obtain ⟨s124, h⟩ := h
  refine ⟨SC_of ⟨fun _ => s124, trivial⟩, ?_⟩
  refine po rfl rfl (HOp.call' 19 [(iv 9)] (cap := []) rfl rfl call19 (walk19 h)) ?_
  rintro _ H125 ⟨r127, r128, r129, r130, r131, r132, r133, r134, r135, r136, rfl, h⟩
  obtain ⟨s137, h⟩ := h
  refine ⟨SC_of ⟨fun _ => s137, trivial⟩, ?_⟩
  refine po rfl rfl (HOp.buildSlice' (zs := [(iv 0), (iv 0), (iv 0), (iv 0), (sv bE), (bv false), (sv bE), (iv 0), (sv bE), sN, (iv 0), (iv 0), (iv 0), (iv 0), (sv bE), (bv false), (sv bE), (iv 0), (sv bE), sN]) (cs := [(iv x83), (iv x84), (iv x85), (iv x86), (sv x87), (bv x88), (sv x89), (iv x90), (sv x91), (Sl.v x92), (iv r127), (iv r128), (iv r129), (iv r130), (sv r131), (bv r132), (sv r133), (iv r134), (sv r135), (Sl.v r136)]) runUnderlying35 sizeOf41 zeroValue41 (by decide) (by kernel_rfl) (by kernel_rfl) (by decide)) ?_
  rintro _ H138 ⟨rfl, e139⟩
  replace h := h H138 e139
  refine ⟨SC_of ⟨nofun, trivial⟩, ?_⟩
  refine pv (v := (.agg (eR 5 8 0 0 bE false bE 0 bE (Sl.mk (some (bk H125)) 2 2)).toArray)) rfl rfl (fun _ => HVal.build' (cs := (eR 5 8 0 0 bE false bE 0 bE (Sl.mk (some (bk H125)) 2 2))) runUnderlying41 zeroValue41 places41 (by kernel_rfl)) ?_
  obtain ⟨z142, h⟩ := h
  refine pn rfl (HOp.storeN' (l := (eR 5 8 0 0 bE false bE 0 bE (Sl.mk (some (bk H125)) 2 2))) sizeOf41 rfl rfl rfl z142) ?_
  rintro _ H140 e141
  replace h := h H140 e141
  refine ⟨SC_of ⟨nofun, trivial⟩, ?_⟩
  refine HPlan.done (nt ?_)
  exact ⟨(bk H_1), (isp rfl), h⟩
 rintro ρ H_2 ⟨y113, hI, h⟩
 obtain ⟨ρ0, rfl⟩ := hI.ex
 clear hI; unfold F6_2 at h
 refine wc (fun ρ H_3 => ∃ (y177 : Addr), Env.Is ρ [(1, (pp (bk H1))), (2, (pp y50)), (3, (pp y113)), (4, (pp y177))] ∧ F6_3 Q (bk H1) y50 y113 y177 H_3) ?_ ?_
 ·refine HW.draw mixed [(0, some [2, 5]), (6, none), (6, none), (6, none), (6, none), (6, none)] rfl (by kernel_rfl) (by kernel_rfl) ?_
  obtain ⟨x147, x148, x149, x150, x151, x152, x153, x154, x155, x156, c146, h⟩ := h
  refine pl (v := (.agg (eR x147 x148 x149 x150 x151 x152 x153 x154 x155 x156).toArray)) (fun X => cells X (bk H1) (eR x147 x148 x149 x150 x151 x152 x153 x154 x155 x156) 0) rfl rfl (fun _ hX => ln (eR x147 x148 x149 x150 x151 x152 x153 x154 x155 x156) isAgg41 sizeOf41 rfl hX) c146 ?_
  obtain ⟨hB1, hB4⟩ := h
  refine HPlan.fork2 (i := 1) (j := 4) (by kernel_rfl) ?_ ?_
  ·have h := hB1
   clear hB1 hB4
   refine HBr.ops' [(6, none), (6, none), (6, none), (6, none)] rfl (by kernel_rfl) (by kernel_rfl) rfl rfl rfl (HOp.call' 19 [(iv 2)] (cap := []) rfl rfl call19 (walk19 h)) ?_
   rintro _ H157 ⟨r159, r160, r161, r162, r163, r164, r165, r166, r167, r168, rfl, h⟩
   obtain ⟨s169, h⟩ := h
   refine ⟨SC_of ⟨fun _ => s169, trivial⟩, ?_⟩
   obtain ⟨hB2, hB4⟩ := h
   refine HPlan.fork2 (i := 2) (j := 4) (by kernel_rfl) ?_ ?_
   ·have h := hB2
    clear hB2 hB4
    refine HBr.ops' [(3, some []), (4, none), (5, none)] rfl (by kernel_rfl) (by kernel_rfl) rfl rfl rfl (HOp.buildSlice' (zs := [(iv 0), (iv 0), (iv 0), (iv 0), (sv bE), (bv false), (sv bE), (iv 0), (sv bE), sN, (iv 0), (iv 0), (iv 0), (iv 0), (sv bE), (bv false), (sv bE), (iv 0), (sv bE), sN]) (cs := [(iv x147), (iv x148), (iv x149), (iv x150), (sv x151), (bv x152), (sv x153), (iv x154), (sv x155), (Sl.v x156), (iv r159), (iv r160), (iv r161), (iv r162), (sv r163), (bv r164), (sv r165), (iv r166), (sv r167), (Sl.v r168)]) runUnderlying35 sizeOf41 zeroValue41 (by decide) (by kernel_rfl) (by kernel_rfl) (by decide)) ?_
    rintro _ H170 ⟨rfl, e171⟩
    replace h := h H170 e171
    refine ⟨SC_of ⟨nofun, trivial⟩, ?_⟩
    refine pv (v := (.agg (eR 5 10 0 0 bE false bE 0 bE (Sl.mk (some (bk H157)) 2 2)).toArray)) rfl rfl (fun _ => HVal.build' (cs := (eR 5 10 0 0 bE false bE 0 bE (Sl.mk (some (bk H157)) 2 2))) runUnderlying41 zeroValue41 places41 (by kernel_rfl)) ?_
    refine po rfl rfl (HOp.alloc zeroValue41) ?_
    rintro _ H172 ⟨rfl, e173⟩
    replace h := h H172 e173
    refine ⟨SC_of ⟨nofun, trivial⟩, ?_⟩
    obtain ⟨z176, h⟩ := h
    refine pn rfl (HOp.storeN' (l := (eR 5 10 0 0 bE false bE 0 bE (Sl.mk (some (bk H157)) 2 2))) sizeOf41 rfl rfl rfl z176) ?_
    rintro _ H174 e175
    replace h := h H174 e175
    refine ⟨SC_of ⟨nofun, trivial⟩, ?_⟩
    refine HPlan.done (nt ?_)
    exact ⟨(bk H170), (isp rfl), h⟩
   have h := hB4
   clear hB2 hB4
   refine HBr.ops' [(2, none), (3, some []), (5, none)] rfl (by kernel_rfl) (by kernel_rfl) rfl rfl rfl (HOp.alloc zeroValue41) ?_
   rintro _ H178 ⟨rfl, e179⟩
   replace h := h H178 e179
   obtain ⟨s180, h⟩ := h
   refine ⟨SC_of ⟨fun _ => s180, trivial⟩, ?_⟩
   refine po rfl rfl (HOp.buildSlice' (zs := [(iv 0), (iv 0), (iv 0), (iv 0), (sv bE), (bv false), (sv bE), (iv 0), (sv bE), sN, (iv 0), (iv 0), (iv 0), (iv 0), (sv bE), (bv false), (sv bE), (iv 0), (sv bE), sN]) (cs := [(iv x147), (iv x148), (iv x149), (iv x150), (sv x151), (bv x152), (sv x153), (iv x154), (sv x155), (Sl.v x156), (iv r159), (iv r160), (iv r161), (iv r162), (sv r163), (bv r164), (sv r165), (iv r166), (sv r167), (Sl.v r168)]) runUnderlying35 sizeOf41 zeroValue41 (by decide) (by kernel_rfl) (by kernel_rfl) (by decide)) ?_
   rintro _ H181 ⟨rfl, e182⟩
   replace h := h H181 e182
   refine ⟨SC_of ⟨nofun, trivial⟩, ?_⟩
   refine pv (v := (.agg (eR 5 10 0 0 bE false bE 0 bE (Sl.mk (some (bk H178)) 2 2)).toArray)) rfl rfl (fun _ => HVal.build' (cs := (eR 5 10 0 0 bE false bE 0 bE (Sl.mk (some (bk H178)) 2 2))) runUnderlying41 zeroValue41 places41 (by kernel_rfl)) ?_
   obtain ⟨z185, h⟩ := h
   refine pn rfl (HOp.storeN' (l := (eR 5 10 0 0 bE false bE 0 bE (Sl.mk (some (bk H178)) 2 2))) sizeOf41 rfl rfl rfl z185) ?_
   rintro _ H183 e184
   replace h := h H183 e184
   refine ⟨SC_of ⟨nofun, trivial⟩, ?_⟩
   refine HPlan.done (nt ?_)
   exact ⟨(bk H157), (isp rfl), h⟩
  have h := hB4
  clear hB1 hB4
  refine HBr.ops' [(1, none), (2, none), (3, some []), (5, none)] rfl (by kernel_rfl) (by kernel_rfl) rfl rfl rfl (HOp.alloc zeroValue41) ?_
  rintro _ H186 ⟨rfl, e187⟩
  replace h := h H186 e187
  obtain ⟨s188, h⟩ := h
  refine ⟨SC_of ⟨fun _ => s188, trivial⟩, ?_⟩
  refine po rfl rfl (HOp.call' 19 [(iv 2)] (cap := []) rfl rfl call19 (walk19 h)) ?_
  rintro _ H189 ⟨r191, r192, r193, r194, r195, r196, r197, r198, r199, r200, rfl, h⟩
  obtain ⟨s201, h⟩ := h
  refine ⟨SC_of ⟨fun _ => s201, trivial⟩, ?_⟩
  refine po rfl rfl (HOp.buildSlice' (zs := [(iv 0), (iv 0), (iv 0), (iv 0), (sv bE), (bv false), (sv bE), (iv 0), (sv bE), sN, (iv 0), (iv 0), (iv 0), (iv 0), (sv bE), (bv false), (sv bE), (iv 0), (sv bE), sN]) (cs := [(iv x147), (iv x148), (iv x149), (iv x150), (sv x151), (bv x152), (sv x153), (iv x154), (sv x155), (Sl.v x156), (iv r191), (iv r192), (iv r193), (iv r194), (sv r195), (bv r196), (sv r197), (iv r198), (sv r199), (Sl.v r200)]) runUnderlying35 sizeOf41 zeroValue41 (by decide) (by kernel_rfl) (by kernel_rfl) (by decide)) ?_
  rintro _ H202 ⟨rfl, e203⟩
  replace h := h H202 e203
  refine ⟨SC_of ⟨nofun, trivial⟩, ?_⟩
  refine pv (v := (.agg (eR 5 10 0 0 bE false bE 0 bE (Sl.mk (some (bk H189)) 2 2)).toArray)) rfl rfl (fun _ => HVal.build' (cs := (eR 5 10 0 0 bE false bE 0 bE (Sl.mk (some (bk H189)) 2 2))) runUnderlying41 zeroValue41 places41 (by kernel_rfl)) ?_
  obtain ⟨z206, h⟩ := h
  refine pn rfl (HOp.storeN' (l := (eR 5 10 0 0 bE false bE 0 bE (Sl.mk (some (bk H189)) 2 2))) sizeOf41 rfl rfl rfl z206) ?_
  rintro _ H204 e205
  replace h := h H204 e205
  refine ⟨SC_of ⟨nofun, trivial⟩, ?_⟩
  refine HPlan.done (nt ?_)
  exact ⟨(bk H_2), (isp rfl), h⟩
 rintro ρ H_3 ⟨y177, hI, h⟩
 obtain ⟨ρ0, rfl⟩ := hI.ex
 clear hI; unfold F6_3 at h
 refine wc (fun ρ H_4 => ∃ (y241 : Addr), Env.Is ρ [(2, (pp y50)), (3, (pp y113)), (4, (pp y177)), (5, (pp y241))] ∧ F6_4 Q y50 y113 y177 y241 H_4) ?_ ?_
 ·refine HW.draw mixed [(0, some [2, 5]), (6, none), (6, none), (6, none), (6, none), (6, none)] rfl (by kernel_rfl) (by kernel_rfl) ?_
  obtain ⟨x211, x212, x213, x214, x215, x216, x217, x218, x219, x220, c210, h⟩ := h
  refine pl (v := (.agg (eR x211 x212 x213 x214 x215 x216 x217 x218 x219 x220).toArray)) (fun X => cells X (bk H1) (eR x211 x212 x213 x214 x215 x216 x217 x218 x219 x220) 0) rfl rfl (fun _ hX => ln (eR x211 x212 x213 x214 x215 x216 x217 x218 x219 x220) isAgg41 sizeOf41 rfl hX) c210 ?_
  obtain ⟨hB1, hB4⟩ := h
  refine HPlan.fork2 (i := 1) (j := 4) (by kernel_rfl) ?_ ?_
  ·have h := hB1
   clear hB1 hB4
   refine HBr.ops' [(6, none), (6, none), (6, none), (6, none)] rfl (by kernel_rfl) (by kernel_rfl) rfl rfl rfl (HOp.call' 19 [(iv 4)] (cap := []) rfl rfl call19 (walk19 h)) ?_
   rintro _ H221 ⟨r223, r224, r225, r226, r227, r228, r229, r230, r231, r232, rfl, h⟩
   obtain ⟨s233, h⟩ := h
   refine ⟨SC_of ⟨fun _ => s233, trivial⟩, ?_⟩
   obtain ⟨hB2, hB4⟩ := h
   refine HPlan.fork2 (i := 2) (j := 4) (by kernel_rfl) ?_ ?_
   ·have h := hB2
    clear hB2 hB4
    refine HBr.ops' [(3, some []), (4, none), (5, none)] rfl (by kernel_rfl) (by kernel_rfl) rfl rfl rfl (HOp.buildSlice' (zs := [(iv 0), (iv 0), (iv 0), (iv 0), (sv bE), (bv false), (sv bE), (iv 0), (sv bE), sN, (iv 0), (iv 0), (iv 0), (iv 0), (sv bE), (bv false), (sv bE), (iv 0), (sv bE), sN]) (cs := [(iv x211), (iv x212), (iv x213), (iv x214), (sv x215), (bv x216), (sv x217), (iv x218), (sv x219), (Sl.v x220), (iv r223), (iv r224), (iv r225), (iv r226), (sv r227), (bv r228), (sv r229), (iv r230), (sv r231), (Sl.v r232)]) runUnderlying35 sizeOf41 zeroValue41 (by decide) (by kernel_rfl) (by kernel_rfl) (by decide)) ?_
    rintro _ H234 ⟨rfl, e235⟩
    replace h := h H234 e235
    refine ⟨SC_of ⟨nofun, trivial⟩, ?_⟩
    refine pv (v := (.agg (eR 5 8 0 0 bE false bE 0 bE (Sl.mk (some (bk H221)) 2 2)).toArray)) rfl rfl (fun _ => HVal.build' (cs := (eR 5 8 0 0 bE false bE 0 bE (Sl.mk (some (bk H221)) 2 2))) runUnderlying41 zeroValue41 places41 (by kernel_rfl)) ?_
    refine po rfl rfl (HOp.alloc zeroValue41) ?_
    rintro _ H236 ⟨rfl, e237⟩
    replace h := h H236 e237
    refine ⟨SC_of ⟨nofun, trivial⟩, ?_⟩
    obtain ⟨z240, h⟩ := h
    refine pn rfl (HOp.storeN' (l := (eR 5 8 0 0 bE false bE 0 bE (Sl.mk (some (bk H221)) 2 2))) sizeOf41 rfl rfl rfl z240) ?_
    rintro _ H238 e239
    replace h := h H238 e239
    refine ⟨SC_of ⟨nofun, trivial⟩, ?_⟩
    refine HPlan.done (nt ?_)
    exact ⟨(bk H234), (isp rfl), h⟩
   have h := hB4
   clear hB2 hB4
   refine HBr.ops' [(2, none), (3, some []), (5, none)] rfl (by kernel_rfl) (by kernel_rfl) rfl rfl rfl (HOp.alloc zeroValue41) ?_
   rintro _ H242 ⟨rfl, e243⟩
   replace h := h H242 e243
   obtain ⟨s244, h⟩ := h
   refine ⟨SC_of ⟨fun _ => s244, trivial⟩, ?_⟩
   refine po rfl rfl (HOp.buildSlice' (zs := [(iv 0), (iv 0), (iv 0), (iv 0), (sv bE), (bv false), (sv bE), (iv 0), (sv bE), sN, (iv 0), (iv 0), (iv 0), (iv 0), (sv bE), (bv false), (sv bE), (iv 0), (sv bE), sN]) (cs := [(iv x211), (iv x212), (iv x213), (iv x214), (sv x215), (bv x216), (sv x217), (iv x218), (sv x219), (Sl.v x220), (iv r223), (iv r224), (iv r225), (iv r226), (sv r227), (bv r228), (sv r229), (iv r230), (sv r231), (Sl.v r232)]) runUnderlying35 sizeOf41 zeroValue41 (by decide) (by kernel_rfl) (by kernel_rfl) (by decide)) ?_
   rintro _ H245 ⟨rfl, e246⟩
   replace h := h H245 e246
   refine ⟨SC_of ⟨nofun, trivial⟩, ?_⟩
   refine pv (v := (.agg (eR 5 8 0 0 bE false bE 0 bE (Sl.mk (some (bk H242)) 2 2)).toArray)) rfl rfl (fun _ => HVal.build' (cs := (eR 5 8 0 0 bE false bE 0 bE (Sl.mk (some (bk H242)) 2 2))) runUnderlying41 zeroValue41 places41 (by kernel_rfl)) ?_
   obtain ⟨z249, h⟩ := h
   refine pn rfl (HOp.storeN' (l := (eR 5 8 0 0 bE false bE 0 bE (Sl.mk (some (bk H242)) 2 2))) sizeOf41 rfl rfl rfl z249) ?_
   rintro _ H247 e248
   replace h := h H247 e248
   refine ⟨SC_of ⟨nofun, trivial⟩, ?_⟩
   refine HPlan.done (nt ?_)
   exact ⟨(bk H221), (isp rfl), h⟩
  have h := hB4
  clear hB1 hB4
  refine HBr.ops' [(1, none), (2, none), (3, some []), (5, none)] rfl (by kernel_rfl) (by kernel_rfl) rfl rfl rfl (HOp.alloc zeroValue41) ?_
  rintro _ H250 ⟨rfl, e251⟩
  replace h := h H250 e251
  obtain ⟨s252, h⟩ := h
  refine ⟨SC_of ⟨fun _ => s252, trivial⟩, ?_⟩
  refine po rfl rfl (HOp.call' 19 [(iv 4)] (cap := []) rfl rfl call19 (walk19 h)) ?_
  rintro _ H253 ⟨r255, r256, r257, r258, r259, r260, r261, r262, r263, r264, rfl, h⟩
  obtain ⟨s265, h⟩ := h
  refine ⟨SC_of ⟨fun _ => s265, trivial⟩, ?_⟩
  refine po rfl rfl (HOp.buildSlice' (zs := [(iv 0), (iv 0), (iv 0), (iv 0), (sv bE), (bv false), (sv bE), (iv 0), (sv bE), sN, (iv 0), (iv 0), (iv 0), (iv 0), (sv bE), (bv false), (sv bE), (iv 0), (sv bE), sN]) (cs := [(iv x211), (iv x212), (iv x213), (iv x214), (sv x215), (bv x216), (sv x217), (iv x218), (sv x219), (Sl.v x220), (iv r255), (iv r256), (iv r257), (iv r258), (sv r259), (bv r260), (sv r261), (iv r262), (sv r263), (Sl.v r264)]) runUnderlying35 sizeOf41 zeroValue41 (by decide) (by kernel_rfl) (by kernel_rfl) (by decide)) ?_
  rintro _ H266 ⟨rfl, e267⟩
  replace h := h H266 e267
  refine ⟨SC_of ⟨nofun, trivial⟩, ?_⟩
  refine pv (v := (.agg (eR 5 8 0 0 bE false bE 0 bE (Sl.mk (some (bk H253)) 2 2)).toArray)) rfl rfl (fun _ => HVal.build' (cs := (eR 5 8 0 0 bE false bE 0 bE (Sl.mk (some (bk H253)) 2 2))) runUnderlying41 zeroValue41 places41 (by kernel_rfl)) ?_
  obtain ⟨z270, h⟩ := h
  refine pn rfl (HOp.storeN' (l := (eR 5 8 0 0 bE false bE 0 bE (Sl.mk (some (bk H253)) 2 2))) sizeOf41 rfl rfl rfl z270) ?_
  rintro _ H268 e269
  replace h := h H268 e269
  refine ⟨SC_of ⟨nofun, trivial⟩, ?_⟩
  refine HPlan.done (nt ?_)
  exact ⟨(bk H_3), (isp rfl), h⟩
 rintro ρ H_4 ⟨y241, hI, h⟩
 obtain ⟨ρ0, rfl⟩ := hI.ex
 clear hI; unfold F6_4 at h
 refine ws (wr_ ?_)
 obtain ⟨x272, x273, x274, x275, x276, x277, x278, x279, x280, x281, c271, h⟩ := h
 refine hv (v := (.agg (eR x272 x273 x274 x275 x276 x277 x278 x279 x280 x281).toArray)) rfl (ln (eR x272 x273 x274 x275 x276 x277 x278 x279 x280 x281) isAgg41 sizeOf41 rfl c271) ?_
 obtain ⟨x283, x284, x285, x286, x287, x288, x289, x290, x291, x292, c282, h⟩ := h
 refine hv (v := (.agg (eR x283 x284 x285 x286 x287 x288 x289 x290 x291 x292).toArray)) rfl (ln (eR x283 x284 x285 x286 x287 x288 x289 x290 x291 x292) isAgg41 sizeOf41 rfl c282) ?_
 refine ho rfl (HOp.buildSlice' (zs := [(iv 0), (iv 0), (iv 0), (iv 0), (sv bE), (bv false), (sv bE), (iv 0), (sv bE), sN, (iv 0), (iv 0), (iv 0), (iv 0), (sv bE), (bv false), (sv bE), (iv 0), (sv bE), sN]) (cs := [(iv x272), (iv x273), (iv x274), (iv x275), (sv x276), (bv x277), (sv x278), (iv x279), (sv x280), (Sl.v x281), (iv x283), (iv x284), (iv x285), (iv x286), (sv x287), (bv x288), (sv x289), (iv x290), (sv x291), (Sl.v x292)]) runUnderlying35 sizeOf41 zeroValue41 (by decide) (by kernel_rfl) (by kernel_rfl) (by decide)) ?_
 rintro _ H293 ⟨rfl, e294⟩
 replace h := h H293 e294
 refine ho rfl (HOp.call' 9 [(Sl.v (Sl.mk (some (bk H_4)) 2 2))] (cap := []) rfl rfl call9 (walk9 h)) ?_
 rintro _ H295 ⟨r297, r298, rfl, h⟩
 refine hv (v := (.tuple #[(Sl.v r297), (bv r298)])) rfl (mv rfl) (hv (v := (Sl.v r297)) rfl (HVal.extract rfl rfl) (hv (v := (bv r298)) rfl (HVal.extract rfl rfl) ?_))
 refine hv (v := (Sl.v r297)) rfl (av rfl) (hv (v := (bv r298)) rfl (av rfl) (hn (nt (ws (wc (fun ρ H_5 => ∃ (y304 : Bool), Env.Is ρ [(2, (pp y50)), (4, (pp y177)), (5, (pp y241)), (58, (bv y304))] ∧ F6_5 Q y50 y177 y241 y304 H_5) ?_ ?_)))))
 ·refine wr_ (hv (v := (bv r298)) rfl (mv rfl) (hv (v := (bv (!r298))) rfl (HVal.not rfl) (hv (v := (bv (!r298))) rfl (mv rfl) ?_)))
  obtain ⟨hT, hF⟩ := h
  rcases Bool.eq_false_or_eq_true (!r298) with hb302 | hb303
  ·have h := hT hb302
   refine hs_ rfl rfl rfl rfl (cB hb302) (hs_ rfl rfl rfl rfl (cB hb302) (hs_ rfl rfl rfl rfl (cB hb302) (hv (v := (bv true)) rfl (pt_ rfl hb302 rfl) ?_)))
   refine hv (v := (bv true)) rfl (mv rfl) (hs_ rfl rfl rfl rfl rfl (hs_ rfl rfl rfl rfl rfl (hs_ rfl rfl rfl rfl rfl ?_)))
   refine hs_ rfl rfl rfl rfl rfl (hs_ rfl rfl rfl rfl rfl (hs_ rfl rfl rfl rfl rfl (hv (v := (bv true)) rfl (pt_ rfl rfl rfl) ?_)))
   refine hv (v := (bv true)) rfl (mv rfl) (hs_ rfl rfl rfl rfl rfl (hs_ rfl rfl rfl rfl rfl (hs_ rfl rfl rfl rfl rfl ?_)))
   refine hs_ rfl rfl rfl rfl rfl (hs_ rfl rfl rfl rfl rfl (hs_ rfl rfl rfl rfl rfl (hv (v := (bv true)) rfl (pt_ rfl rfl rfl) ?_)))
   refine hn (nt ?_)
   exact ⟨true, (isp rfl), h⟩
  have h := hF hb303
  refine hg (v := (Sl.v r297)) rfl rfl rfl rfl (cB hb303) (mv rfl) (hg (v := (iv ((r297).n : Int))) rfl rfl rfl rfl (cB hb303) (HVal.len runUnderlying32 rfl) ?_)
  refine hg (v := (bv (decide (((r297).n : Int) ≠ 1)))) rfl rfl rfl rfl (cB hb303) (HVal.neqI rfl rfl) (hv (v := (bv (decide (((r297).n : Int) ≠ 1)))) rfl (pf_ rfl hb303 rfl) ?_)
  refine hv (v := (bv (decide (((r297).n : Int) ≠ 1)))) rfl (mv rfl) ?_
  obtain ⟨hT, hF⟩ := h
  rcases Bool.eq_false_or_eq_true (decide (((r297).n : Int) ≠ 1)) with hb305 | hb306
  ·have h := hT hb305
   refine hs_ rfl rfl rfl rfl (cB hb305) (hs_ rfl rfl rfl rfl (cB hb305) (hs_ rfl rfl rfl rfl (cB hb305) (hs_ rfl rfl rfl rfl (cB hb305) ?_)))
   refine hs_ rfl rfl rfl rfl (cB hb305) (hs_ rfl rfl rfl rfl (cB hb305) (hv (v := (bv true)) rfl (pt_ rfl hb305 rfl) (hv (v := (bv true)) rfl (mv rfl) ?_)))
   refine hs_ rfl rfl rfl rfl rfl (hs_ rfl rfl rfl rfl rfl (hs_ rfl rfl rfl rfl rfl (hs_ rfl rfl rfl rfl rfl (hs_ rfl rfl rfl rfl rfl ?_))))
   refine hs_ rfl rfl rfl rfl rfl (hv (v := (bv true)) rfl (pt_ rfl rfl rfl) (hn (nt ?_)))
   exact ⟨true, (isp rfl), h⟩
  have h := hF hb306
  refine hg (v := (Sl.v r297)) rfl rfl rfl rfl (cB hb306) (mv rfl) ?_
  obtain ⟨a307, e308, b309, b310, h⟩ := h
  refine hg (v := (pp (Addr.add a307 ((0 : Int).toNat * 14)))) rfl rfl rfl rfl (cB hb306) (ia runUnderlying32 sizeOf51 (Sl.v_some rfl e308) rfl b309 b310) ?_
  refine hg (v := (pp (Addr.add (Addr.add a307 ((0 : Int).toNat * 14)) 10))) rfl rfl rfl rfl (cB hb306) (fa runUnderlying51 rfl rfl sizeOf25 rfl) ?_
  obtain ⟨x312, x313, x314, x315, c311, h⟩ := h
  refine hg (v := (.agg (vR x312 x313 x314 x315).toArray)) rfl rfl rfl rfl (cB hb306) (ln (vR x312 x313 x314 x315) isAgg25 sizeOf25 rfl c311) ?_
  refine hg (v := (.agg (vR 1 4 bE false).toArray)) rfl rfl rfl rfl (cB hb306) (HVal.build' (cs := (vR 1 4 bE false)) runUnderlying25 zeroValue25 places25 rfl) ?_
  refine hg (v := (bv (!(decide (x312 = 1) && (decide (x313 = 4) && (seq x314 bE && (x315 == false))))))) rfl rfl rfl rfl (cB hb306) (eqs25_neq rfl rfl) ?_
  refine hv (v := (bv (!(decide (x312 = 1) && (decide (x313 = 4) && (seq x314 bE && (x315 == false))))))) rfl (pf_ rfl hb306 rfl) (hv (v := (bv (!(decide (x312 = 1) && (decide (x313 = 4) && (seq x314 bE && (x315 == false))))))) rfl (mv rfl) ?_)
  obtain ⟨hT, hF⟩ := h
  rcases Bool.eq_false_or_eq_true (!(decide (x312 = 1) && (decide (x313 = 4) && (seq x314 bE && (x315 == false))))) with hb316 | hb317
  ·have h := hT hb316
   refine hs_ rfl rfl rfl rfl (cB hb316) (hs_ rfl rfl rfl rfl (cB hb316) (hs_ rfl rfl rfl rfl (cB hb316) (hs_ rfl rfl rfl rfl (cB hb316) ?_)))
   refine hs_ rfl rfl rfl rfl (cB hb316) (hs_ rfl rfl rfl rfl (cB hb316) (hv (v := (bv true)) rfl (pt_ rfl hb316 rfl) (hn (nt ?_))))
   exact ⟨true, (isp rfl), h⟩
  have h := hF hb317
  refine hg (v := (Sl.v r297)) rfl rfl rfl rfl (cB hb317) (mv rfl) ?_
  obtain ⟨a318, e319, b320, b321, h⟩ := h
  refine hg (v := (pp (Addr.add a318 ((0 : Int).toNat * 14)))) rfl rfl rfl rfl (cB hb317) (ia runUnderlying32 sizeOf51 (Sl.v_some rfl e319) rfl b320 b321) ?_
  refine hg (v := (pp (Addr.add a318 ((0 : Int).toNat * 14)))) rfl rfl rfl rfl (cB hb317) (HVal.fieldAddr0 runUnderlying51 rfl rfl sizeOf41 rfl) ?_
  refine hg (v := (pp (Addr.add (Addr.add a318 ((0 : Int).toNat * 14)) 6))) rfl rfl rfl rfl (cB hb317) (fa runUnderlying41 rfl rfl sizeOf9 rfl) ?_
  obtain ⟨x323, c322, h⟩ := h
  refine hg (v := (sv x323)) rfl rfl rfl rfl (cB hb317) (l1 isAgg9 rfl c322) (hg (v := (bv (!(seq x323 S_a)))) rfl rfl rfl rfl (cB hb317) (HVal.neqS rfl rfl) ?_)
  refine hv (v := (bv (!(seq x323 S_a)))) rfl (pf_ rfl hb317 rfl) (hn (nt ?_))
  exact ⟨(!(seq x323 S_a)), (isp rfl), h⟩
 rintro ρ H_5 ⟨y304, hI, h⟩
 obtain ⟨ρ0, rfl⟩ := hI.ex
 clear hI; unfold F6_5 at h
 obtain ⟨hT, hF⟩ := h
 refine wk y304 rfl (fun hb324 => ?_) (fun hb324 => ?_)
 ·have h := hT hb324
  refine ws (wr_ (hv (v := (bv false)) rfl (av rfl) (hn (nt (HW.ret (tr ?_))))))
  exact ⟨_, resOf1 rfl Res1.t, ⟨false, rfl, h⟩⟩
 have h := hF hb324
 refine wp_ (nt (ws (wr_ ?_)))
 obtain ⟨x326, x327, x328, x329, x330, x331, x332, x333, x334, x335, c325, h⟩ := h
 refine hv (v := (.agg (eR x326 x327 x328 x329 x330 x331 x332 x333 x334 x335).toArray)) rfl (ln (eR x326 x327 x328 x329 x330 x331 x332 x333 x334 x335) isAgg41 sizeOf41 rfl c325) ?_
 obtain ⟨x337, x338, x339, x340, x341, x342, x343, x344, x345, x346, c336, h⟩ := h
 refine hv (v := (.agg (eR x337 x338 x339 x340 x341 x342 x343 x344 x345 x346).toArray)) rfl (ln (eR x337 x338 x339 x340 x341 x342 x343 x344 x345 x346) isAgg41 sizeOf41 rfl c336) ?_
 refine ho rfl (HOp.buildSlice' (zs := [(iv 0), (iv 0), (iv 0), (iv 0), (sv bE), (bv false), (sv bE), (iv 0), (sv bE), sN, (iv 0), (iv 0), (iv 0), (iv 0), (sv bE), (bv false), (sv bE), (iv 0), (sv bE), sN]) (cs := [(iv x326), (iv x327), (iv x328), (iv x329), (sv x330), (bv x331), (sv x332), (iv x333), (sv x334), (Sl.v x335), (iv x337), (iv x338), (iv x339), (iv x340), (sv x341), (bv x342), (sv x343), (iv x344), (sv x345), (Sl.v x346)]) runUnderlying35 sizeOf41 zeroValue41 (by decide) (by kernel_rfl) (by kernel_rfl) (by decide)) ?_
 rintro _ H347 ⟨rfl, e348⟩
 replace h := h H347 e348
 refine ho rfl (HOp.call' 9 [(Sl.v (Sl.mk (some (bk H_5)) 2 2))] (cap := []) rfl rfl call9 (walk9 h)) ?_
 rintro _ H349 ⟨r351, r352, rfl, h⟩
 refine hv (v := (.tuple #[(Sl.v r351), (bv r352)])) rfl (mv rfl) (hv (v := (Sl.v r351)) rfl (HVal.extract rfl rfl) (hv (v := (bv r352)) rfl (HVal.extract rfl rfl) ?_))
 refine hv (v := (Sl.v r351)) rfl (av rfl) (hv (v := (bv r352)) rfl (av rfl) (hn (nt (ws (wr_ ?_)))))
 obtain ⟨x354, x355, x356, x357, x358, x359, x360, x361, x362, x363, c353, h⟩ := h
 refine hv (v := (.agg (eR x354 x355 x356 x357 x358 x359 x360 x361 x362 x363).toArray)) rfl (ln (eR x354 x355 x356 x357 x358 x359 x360 x361 x362 x363) isAgg41 sizeOf41 rfl c353) ?_
 obtain ⟨x365, x366, x367, x368, x369, x370, x371, x372, x373, x374, c364, h⟩ := h
 refine hv (v := (.agg (eR x365 x366 x367 x368 x369 x370 x371 x372 x373 x374).toArray)) rfl (ln (eR x365 x366 x367 x368 x369 x370 x371 x372 x373 x374) isAgg41 sizeOf41 rfl c364) ?_
 refine ho rfl (HOp.buildSlice' (zs := [(iv 0), (iv 0), (iv 0), (iv 0), (sv bE), (bv false), (sv bE), (iv 0), (sv bE), sN, (iv 0), (iv 0), (iv 0), (iv 0), (sv bE), (bv false), (sv bE), (iv 0), (sv bE), sN]) (cs := [(iv x354), (iv x355), (iv x356), (iv x357), (sv x358), (bv x359), (sv x360), (iv x361), (sv x362), (Sl.v x363), (iv x365), (iv x366), (iv x367), (iv x368), (sv x369), (bv x370), (sv x371), (iv x372), (sv x373), (Sl.v x374)]) runUnderlying35 sizeOf41 zeroValue41 (by decide) (by kernel_rfl) (by kernel_rfl) (by decide)) ?_
 rintro _ H375 ⟨rfl, e376⟩
 replace h := h H375 e376
 refine ho rfl (HOp.call' 16 [(Sl.v (Sl.mk (some (bk H349)) 2 2))] (cap := []) rfl rfl call16 (walk16 h)) ?_
 rintro _ H377 ⟨r379, rfl, h⟩
 refine hv (v := (Sl.v r379)) rfl (av rfl) (hn (nt (ws (wr_ ?_))))
 obtain ⟨x381, x382, x383, x384, x385, x386, x387, x388, x389, x390, c380, h⟩ := h
 refine hv (v := (.agg (eR x381 x382 x383 x384 x385 x386 x387 x388 x389 x390).toArray)) rfl (ln (eR x381 x382 x383 x384 x385 x386 x387 x388 x389 x390) isAgg41 sizeOf41 rfl c380) ?_
 refine ho rfl (HOp.call' 17 [(.agg (eR x381 x382 x383 x384 x385 x386 x387 x388 x389 x390).toArray)] (cap := []) rfl rfl call17 (walk17 h)) ?_
 rintro _ H391 ⟨r393, rfl, h⟩
 refine hv (v := (bv r393)) rfl (av rfl) (hn (nt (ws (wr_ (hv (v := (bv r352)) rfl (mv rfl) (hv (v := (bv (!r352))) rfl (HVal.not rfl) ?_))))))
 refine hv (v := (bv (!r352))) rfl (mv rfl) ?_
 obtain ⟨hT, hF⟩ := h
 rcases Bool.eq_false_or_eq_true (!r352) with hb394 | hb395
 ·have h := hT hb394
  refine hg (v := (bv r393)) rfl rfl rfl rfl (cB hb394) (mv rfl) (hv (v := (bv r393)) rfl (pt_ rfl hb394 rfl) (hv (v := (bv r393)) rfl (mv rfl) ?_))
  obtain ⟨hT, hF⟩ := h
  rcases Bool.eq_false_or_eq_true r393 with hb396 | hb397
  ·have h := hT hb396
   refine hg (v := (Sl.v r379)) rfl rfl rfl rfl (cB hb396) (mv rfl) (hg (v := (iv ((r379).n : Int))) rfl rfl rfl rfl (cB hb396) (HVal.len runUnderlying47 rfl) ?_)
   refine hg (v := (bv (decide (((r379).n : Int) = 1)))) rfl rfl rfl rfl (cB hb396) (HVal.eqlI rfl rfl) (hv (v := (bv (decide (((r379).n : Int) = 1)))) rfl (pt_ rfl hb396 rfl) ?_)
   refine hv (v := (bv (decide (((r379).n : Int) = 1)))) rfl (mv rfl) ?_
   obtain ⟨hT, hF⟩ := h
   rcases Bool.eq_false_or_eq_true (decide (((r379).n : Int) = 1)) with hb398 | hb399
   ·have h := hT hb398
    refine hg (v := (Sl.v r379)) rfl rfl rfl rfl (cB hb398) (mv rfl) ?_
    obtain ⟨a400, e401, b402, b403, h⟩ := h
    refine hg (v := (pp (Addr.add a400 ((0 : Int).toNat * 1)))) rfl rfl rfl rfl (cB hb398) (ia runUnderlying47 sizeOf3 (Sl.v_some rfl e401) rfl b402 b403) ?_
    obtain ⟨x405, c404, h⟩ := h
    refine hg (v := (iv x405)) rfl rfl rfl rfl (cB hb398) (l1 isAgg3 rfl c404) (hg (v := (bv (decide (x405 = 1)))) rfl rfl rfl rfl (cB hb398) (HVal.eqlI rfl rfl) ?_)
    refine hv (v := (bv (decide (x405 = 1)))) rfl (pt_ rfl hb398 rfl) (hv (v := (bv (decide (x405 = 1)))) rfl (av rfl) (hn (nt ?_)))
    refine HW.ret ?_
    exact ⟨_, resOf1 rfl Res1.t, ⟨(decide (x405 = 1)), rfl, h⟩⟩
   have h := hF hb399
   refine hs_ rfl rfl rfl rfl (cB hb399) (hs_ rfl rfl rfl rfl (cB hb399) (hs_ rfl rfl rfl rfl (cB hb399) (hs_ rfl rfl rfl rfl (cB hb399) ?_)))
   refine hv (v := (bv false)) rfl (pf_ rfl hb399 rfl) (hv (v := (bv false)) rfl (av rfl) (hn (nt (HW.ret ?_))))
   exact ⟨_, resOf1 rfl Res1.t, ⟨false, rfl, h⟩⟩
  have h := hF hb397
  refine hs_ rfl rfl rfl rfl (cB hb397) (hs_ rfl rfl rfl rfl (cB hb397) (hs_ rfl rfl rfl rfl (cB hb397) (hv (v := (bv false)) rfl (pf_ rfl hb397 rfl) ?_)))
  refine hv (v := (bv false)) rfl (mv rfl) (hs_ rfl rfl rfl rfl rfl (hs_ rfl rfl rfl rfl rfl (hs_ rfl rfl rfl rfl rfl ?_)))
  refine hs_ rfl rfl rfl rfl rfl (hv (v := (bv false)) rfl (pf_ rfl rfl rfl) (hv (v := (bv false)) rfl (av rfl) (hn (nt ?_))))
  refine HW.ret ?_
  exact ⟨_, resOf1 rfl Res1.t, ⟨false, rfl, h⟩⟩
 have h := hF hb395
 refine hs_ rfl rfl rfl rfl (cB hb395) (hv (v := (bv false)) rfl (pf_ rfl hb395 rfl) (hv (v := (bv false)) rfl (mv rfl) ?_))
 refine hs_ rfl rfl rfl rfl rfl (hs_ rfl rfl rfl rfl rfl (hs_ rfl rfl rfl rfl rfl (hv (v := (bv false)) rfl (pf_ rfl rfl rfl) ?_)))
 refine hv (v := (bv false)) rfl (mv rfl) (hs_ rfl rfl rfl rfl rfl (hs_ rfl rfl rfl rfl rfl (hs_ rfl rfl rfl rfl rfl ?_)))
 refine hs_ rfl rfl rfl rfl rfl (hv (v := (bv false)) rfl (pf_ rfl rfl rfl) (hv (v := (bv false)) rfl (av rfl) (hn (nt ?_))))
 refine HW.ret ?_
 exact ⟨_, resOf1 rfl Res1.t, ⟨false, rfl, h⟩⟩

end Go.Hw
