/- The walk of tree.Equal, for expressions without kids: printed (wip/tools/wlib26.py). -/
import Derived.Test.YtkdjcmfmflljlaaDoorWAux
set_option linter.unusedVariables false
set_option linter.unusedSimpArgs false
set_option maxRecDepth 100000
set_option maxHeartbeats 4000000
namespace Go.Hw
open Go Go.Proofs Tryd
def F30z (p0_0 p0_1 p0_2 p0_3 : Int) (p0_4 : ByteArray) (p0_5 : Bool) (p0_6 : ByteArray) (p0_7 : Int) (p0_8 : ByteArray) (p0_9 : Sl) (p1_0 p1_1 p1_2 p1_3 : Int) (p1_4 : ByteArray) (p1_5 : Bool) (p1_6 : ByteArray) (p1_7 : Int) (p1_8 : ByteArray) (p1_9 : Sl) (H : Hp) (Q : Bool → Hp → Prop) : Prop := False
theorem walk30z {w0 : World} {p0_0 p0_1 p0_2 p0_3 : Int} {p0_4 : ByteArray} {p0_5 : Bool} {p0_6 : ByteArray} {p0_7 : Int} {p0_8 : ByteArray} {p0_9 : Sl} {p1_0 p1_1 p1_2 p1_3 : Int} {p1_4 : ByteArray} {p1_5 : Bool} {p1_6 : ByteArray} {p1_7 : Int} {p1_8 : ByteArray} {p1_9 : Sl} {H : Hp} {Q : Bool → Hp → Prop} (h : F30z p0_0 p0_1 p0_2 p0_3 p0_4 p0_5 p0_6 p0_7 p0_8 p0_9 p1_0 p1_1 p1_2 p1_3 p1_4 p1_5 p1_6 p1_7 p1_8 p1_9 H Q) :
  Good prog w0 30 #[(.agg (eR p0_0 p0_1 p0_2 p0_3 p0_4 p0_5 p0_6 p0_7 p0_8 p0_9).toArray), (.agg (eR p1_0 p1_1 p1_2 p1_3 p1_4 p1_5 p1_6 p1_7 p1_8 p1_9).toArray)] H (fun v H => ∃ (r0 : Bool) , v = (bv r0) ∧ Q r0 H) := by
 exact h.elim
def F51_30_L1b (Q : Bool → Hp → Prop) (X1 : Int → Hp → Prop) (y3 y4 : Sl) (y5 y2 : Int) (H_1 : Hp) : Prop :=
((decide (y2 < y5)) = true → (∃ a7 : Addr, (y4).b = some a7 ∧ (0 : Int) ≤ y2 ∧ y2 < ((y4).n : Int) ∧ (
 ∃ (x12 x13 x14 x15 : Int) (x16 : ByteArray) (x17 : Bool) (x18 : ByteArray) (x19 : Int) (x20 : ByteArray) (x21 : Sl), cells H_1 (Addr.add a7 (y2.toNat * 10)) (eR x12 x13 x14 x15 x16 x17 x18 x19 x20 x21) 0 ∧ (
 ∀ H22 : Hp, H22 = Array.push H_1 (.cells zR.toArray 41) → (
 mayw H22 (bk H_1) 10 0 ∧ ∀ H24 : Hp, H24 = sets H22 (bk H_1) (eR x12 x13 x14 x15 x16 x17 x18 x19 x20 x21) 0 → (
 ∃ a27 : Addr, (y3).b = some a27 ∧ (0 : Int) ≤ y2 ∧ y2 < ((y3).n : Int) ∧ (
 ∃ (x32 x33 x34 x35 : Int) (x36 : ByteArray) (x37 : Bool) (x38 : ByteArray) (x39 : Int) (x40 : ByteArray) (x41 : Sl), cells H24 (Addr.add a27 (y2.toNat * 10)) (eR x32 x33 x34 x35 x36 x37 x38 x39 x40 x41) 0 ∧ (
 ∀ H42 : Hp, H42 = Array.push H24 (.cells zR.toArray 41) → (
 mayw H42 (bk H24) 10 0 ∧ ∀ H44 : Hp, H44 = sets H42 (bk H24) (eR x32 x33 x34 x35 x36 x37 x38 x39 x40 x41) 0 → (
 ∃ (x48 x49 x50 x51 : Int) (x52 : ByteArray) (x53 : Bool) (x54 : ByteArray) (x55 : Int) (x56 : ByteArray) (x57 : Sl), cells H44 (bk H_1) (eR x48 x49 x50 x51 x52 x53 x54 x55 x56 x57) 0 ∧ (
 ∃ (x59 x60 x61 x62 : Int) (x63 : ByteArray) (x64 : Bool) (x65 : ByteArray) (x66 : Int) (x67 : ByteArray) (x68 : Sl), cells H44 (bk H24) (eR x59 x60 x61 x62 x63 x64 x65 x66 x67 x68) 0 ∧ (
 F30z x48 x49 x50 x51 x52 x53 x54 x55 x56 x57 x59 x60 x61 x62 x63 x64 x65 x66 x67 x68 H44 (fun (r71 : Bool) (H69 : Hp) => 
 ((!r71) = true → (Q false H69)) ∧
 ((!r71) = false → (X1 (IntKind.i64.wrap (y2 + 1)) H69))))))))))))))) ∧
 ((decide (y2 < y5)) = false → (Q true H_1))
def F51_30_L1 (Q : Bool → Hp → Prop) (y3 y4 : Sl) (y5 y2 : Int) (H_1 : Hp) : Prop :=
 ∀ X1 : Int → Hp → Prop, (∀ (y2 : Int) (H_1 : Hp), F51_30_L1b Q X1 y3 y4 y5 y2 H_1 → X1 y2 H_1) → X1 y2 H_1
def F51_30 (p0 p1 : Sl) (H : Hp) (Q : Bool → Hp → Prop) : Prop :=
((decide (((p0).n : Int) ≠ ((p1).n : Int))) = true → (Q false H)) ∧
 ((decide (((p0).n : Int) ≠ ((p1).n : Int))) = false → (F51_30_L1 Q p1 p0 ((p0).n : Int) 0 H))
theorem walk51_30 {w0 : World} {p0 p1 : Sl} {H : Hp} {Q : Bool → Hp → Prop} (h : F51_30 p0 p1 H Q) :
  Good prog w0 51 #[(Sl.v p0), (Sl.v p1), (.func (.func 30) #[] #[])] H (fun v H => ∃ (r0 : Bool) , v = (bv r0) ∧ Q r0 H) := by
 unfold F51_30 at h
 refine Good.enter' (fn := f51) func51 rfl rfl rfl (ws (wr_ (hv (v := (bv false)) rfl (av rfl) (hn (nt (ws ?_))))))
 refine ws (wr_ (hv (v := (Sl.v p0)) rfl (mv rfl) (hv (v := (iv ((p0).n : Int))) rfl (HVal.len runUnderlying35 rfl) ?_)))
 refine hv (v := (Sl.v p1)) rfl (mv rfl) (hv (v := (iv ((p1).n : Int))) rfl (HVal.len runUnderlying35 rfl) (hv (v := (bv (decide (((p0).n : Int) ≠ ((p1).n : Int))))) rfl (HVal.neqI rfl rfl) ?_))
 refine hn (nt ?_)
 obtain ⟨hT, hF⟩ := h
 refine wk (decide (((p0).n : Int) ≠ ((p1).n : Int))) rfl (fun hb1 => ?_) (fun hb1 => ?_)
 ·have h := hT hb1
  refine ws (wr_ (hv (v := (bv false)) rfl (av rfl) (hn (nt (HW.ret (tr ?_))))))
  exact ⟨_, resOf1 rfl Res1.t, ⟨false, rfl, h⟩⟩
 have h := hF hb1
 refine wp_ (nt (ws (ws (wr_ (hv (v := (Sl.v p0)) rfl (mv rfl) (hv (v := (iv ((p0).n : Int))) rfl (HVal.len runUnderlying35 rfl) ?_))))))
 refine hv (v := (iv 0)) rfl (mv rfl) (hn (nt (wb (HW.loop' (fun L1 hL1 => ?_)))))
 obtain ⟨X1, hX1⟩ : ∃ X1 : Int → Hp → Prop, ∀ (y2 : Int) (H_1 : Hp), X1 y2 H_1 ↔ ∀ ρ, Env.Is ρ [(1, (Sl.v p1)), (2, (.func (.func 30) #[] #[])), (15, (Sl.v p0)), (16, (iv ((p0).n : Int))), (17, (iv y2))] → L1 ρ H_1 := ⟨_, fun _ _ => Iff.rfl⟩
 refine (hX1 _ _).1 (h X1 ?_) _ ?_
 rotate_left
 ·exact (isp rfl)
 clear h
 intro y2 H_1 h
 refine (hX1 _ _).2 fun ρ hI => ?_
 obtain ⟨ρ0, rfl⟩ := hI.ex
 clear hI; unfold F51_30_L1b at h; refine hL1 _ _ ?_
 refine ws (wr_ (hv (v := (bv (decide (y2 < ((p0).n : Int))))) rfl (HVal.lss rfl rfl) (hn (nt (ws ?_)))))
 obtain ⟨hT, hF⟩ := h
 refine wk (decide (y2 < ((p0).n : Int))) rfl (fun hb6 => ?_) (fun hb6 => ?_)
 ·have h := hT hb6
  refine wp_ (nt (ws (wb (ws (wr_ (hv (v := (iv y2)) rfl (mv rfl) ?_))))))
  obtain ⟨a7, e8, b9, b10, h⟩ := h
  refine hv (v := (pp (Addr.add a7 (y2.toNat * 10)))) rfl (ia runUnderlying35 sizeOf41 (Sl.v_some rfl e8) rfl b9 b10) ?_
  obtain ⟨x12, x13, x14, x15, x16, x17, x18, x19, x20, x21, c11, h⟩ := h
  refine hv (v := (.agg (eR x12 x13 x14 x15 x16 x17 x18 x19 x20 x21).toArray)) rfl (ln (eR x12 x13 x14 x15 x16 x17 x18 x19 x20 x21) isAgg41 sizeOf41 rfl c11) ?_
  refine ho rfl (HOp.alloc zeroValue41) ?_
  rintro _ H22 ⟨rfl, e23⟩
  replace h := h H22 e23
  refine hv (v := (iv y2)) rfl (av rfl) ?_
  obtain ⟨z26, h⟩ := h
  refine hq (HOp.storeN' (l := (eR x12 x13 x14 x15 x16 x17 x18 x19 x20 x21)) sizeOf41 rfl rfl rfl z26) ?_
  rintro _ H24 e25
  replace h := h H24 e25
  refine hn (nt (ws (wr_ (hv (v := (Sl.v p1)) rfl (mv rfl) (hv (v := (iv y2)) rfl (mv rfl) ?_)))))
  obtain ⟨a27, e28, b29, b30, h⟩ := h
  refine hv (v := (pp (Addr.add a27 (y2.toNat * 10)))) rfl (ia runUnderlying35 sizeOf41 (Sl.v_some rfl e28) rfl b29 b30) ?_
  obtain ⟨x32, x33, x34, x35, x36, x37, x38, x39, x40, x41, c31, h⟩ := h
  refine hv (v := (.agg (eR x32 x33 x34 x35 x36 x37 x38 x39 x40 x41).toArray)) rfl (ln (eR x32 x33 x34 x35 x36 x37 x38 x39 x40 x41) isAgg41 sizeOf41 rfl c31) ?_
  refine ho rfl (HOp.alloc zeroValue41) ?_
  rintro _ H42 ⟨rfl, e43⟩
  replace h := h H42 e43
  obtain ⟨z46, h⟩ := h
  refine hq (HOp.storeN' (l := (eR x32 x33 x34 x35 x36 x37 x38 x39 x40 x41)) sizeOf41 rfl rfl rfl z46) ?_
  rintro _ H44 e45
  replace h := h H44 e45
  refine hn (nt (ws (wr_ (hv (v := (.func (.func 30) #[] #[])) rfl (mv rfl) ?_))))
  obtain ⟨x48, x49, x50, x51, x52, x53, x54, x55, x56, x57, c47, h⟩ := h
  refine hv (v := (.agg (eR x48 x49 x50 x51 x52 x53 x54 x55 x56 x57).toArray)) rfl (ln (eR x48 x49 x50 x51 x52 x53 x54 x55 x56 x57) isAgg41 sizeOf41 rfl c47) ?_
  obtain ⟨x59, x60, x61, x62, x63, x64, x65, x66, x67, x68, c58, h⟩ := h
  refine hv (v := (.agg (eR x59 x60 x61 x62 x63 x64 x65 x66 x67 x68).toArray)) rfl (ln (eR x59 x60 x61 x62 x63 x64 x65 x66 x67 x68) isAgg41 sizeOf41 rfl c58) ?_
  refine ho rfl (HOp.call' 30 [(.agg (eR x48 x49 x50 x51 x52 x53 x54 x55 x56 x57).toArray), (.agg (eR x59 x60 x61 x62 x63 x64 x65 x66 x67 x68).toArray)] (cap := []) rfl rfl call30 (walk30z h)) ?_
  rintro _ H69 ⟨r71, rfl, h⟩
  refine hv (v := (bv (!r71))) rfl (HVal.not rfl) (hn (nt ?_))
  obtain ⟨hT, hF⟩ := h
  refine wk (!r71) rfl (fun hb72 => ?_) (fun hb72 => ?_)
  ·have h := hT hb72
   refine ws (wr_ (hv (v := (bv false)) rfl (av rfl) (hn (nt (HW.ret (br (tr (tr (br (tr ?_))))))))))
   exact ⟨_, resOf1 rfl Res1.t, ⟨false, rfl, h⟩⟩
  have h := hF hb72
  refine wp_ (nb (nt (wr_ (hv (v := (iv (IntKind.i64.wrap (y2 + 1)))) rfl (HVal.add rfl rfl) (hv (v := (iv (IntKind.i64.wrap (y2 + 1)))) rfl (mv rfl) ?_)))))
  refine hn (nt ?_)
  exact (hX1 _ _).1 h _ (isp rfl)
 have h := hF hb6
 refine we (te (te (be (nt (ws (wr_ (hv (v := (bv true)) rfl (av rfl) (hn (nt (HW.ret ?_))))))))))
 exact ⟨_, resOf1 rfl Res1.t, ⟨true, rfl, h⟩⟩
def F30 (p0_0 p0_1 p0_2 p0_3 : Int) (p0_4 : ByteArray) (p0_5 : Bool) (p0_6 : ByteArray) (p0_7 : Int) (p0_8 : ByteArray) (p0_9 : Sl) (p1_0 p1_1 p1_2 p1_3 : Int) (p1_4 : ByteArray) (p1_5 : Bool) (p1_6 : ByteArray) (p1_7 : Int) (p1_8 : ByteArray) (p1_9 : Sl) (H : Hp) (Q : Bool → Hp → Prop) : Prop :=
∀ H1 : Hp, H1 = Array.push H (.cells (eR p0_0 p0_1 p0_2 p0_3 p0_4 p0_5 p0_6 p0_7 p0_8 p0_9).toArray 41) → (
 ∀ H3 : Hp, H3 = Array.push H1 (.cells (eR p1_0 p1_1 p1_2 p1_3 p1_4 p1_5 p1_6 p1_7 p1_8 p1_9).toArray 41) → (
 ∃ x6 : Int, cell H3 (bk H) = some (iv x6) ∧ (
 ∃ x8 : Int, cell H3 (bk H1) = some (iv x8) ∧ (
 ((decide (x6 = x8)) = true → (∃ x12 : Int, cell H3 (Addr.add (bk H) 1) = some (iv x12) ∧ (
 ∃ x14 : Int, cell H3 (Addr.add (bk H1) 1) = some (iv x14) ∧ (
 ((decide (x12 = x14)) = true → (∃ (x18 x19 : Int) (x20 : ByteArray) (x21 : Bool), cells H3 (Addr.add (bk H) 2) (vR x18 x19 x20 x21) 0 ∧ (
 ∃ (x23 x24 : Int) (x25 : ByteArray) (x26 : Bool), cells H3 (Addr.add (bk H1) 2) (vR x23 x24 x25 x26) 0 ∧ (
 ((decide (x18 = x23) && (decide (x19 = x24) && (seq x20 x25 && (x21 == x26)))) = true → (∃ x30 : ByteArray, cell H3 (Addr.add (bk H) 6) = some (sv x30) ∧ (
 ∃ x32 : ByteArray, cell H3 (Addr.add (bk H1) 6) = some (sv x32) ∧ (
 ((seq x30 x32) = true → (∃ x36 : Int, cell H3 (Addr.add (bk H) 7) = some (iv x36) ∧ (
 ∃ x38 : Int, cell H3 (Addr.add (bk H1) 7) = some (iv x38) ∧ (
 ((decide (x36 = x38)) = true → (∃ x42 : ByteArray, cell H3 (Addr.add (bk H) 8) = some (sv x42) ∧ (
 ∃ x44 : ByteArray, cell H3 (Addr.add (bk H1) 8) = some (sv x44) ∧ (
 ((seq x42 x44) = true → (∃ x48 : Sl, cell H3 (Addr.add (bk H) 9) = some (Sl.v x48) ∧ (
 ∃ x50 : Sl, cell H3 (Addr.add (bk H1) 9) = some (Sl.v x50) ∧ (
 F51_30 x48 x50 H3 (fun (r53 : Bool) (H51 : Hp) => 
 Q r53 H51))))) ∧
 ((seq x42 x44) = false → (Q false H3)))))) ∧
 ((decide (x36 = x38)) = false → (Q false H3)))))) ∧
 ((seq x30 x32) = false → (Q false H3)))))) ∧
 ((decide (x18 = x23) && (decide (x19 = x24) && (seq x20 x25 && (x21 == x26)))) = false → (Q false H3)))))) ∧
 ((decide (x12 = x14)) = false → (Q false H3)))))) ∧
 ((decide (x6 = x8)) = false → (Q false H3))))))
theorem walk30 {w0 : World} {p0_0 p0_1 p0_2 p0_3 : Int} {p0_4 : ByteArray} {p0_5 : Bool} {p0_6 : ByteArray} {p0_7 : Int} {p0_8 : ByteArray} {p0_9 : Sl} {p1_0 p1_1 p1_2 p1_3 : Int} {p1_4 : ByteArray} {p1_5 : Bool} {p1_6 : ByteArray} {p1_7 : Int} {p1_8 : ByteArray} {p1_9 : Sl} {H : Hp} {Q : Bool → Hp → Prop} (h : F30 p0_0 p0_1 p0_2 p0_3 p0_4 p0_5 p0_6 p0_7 p0_8 p0_9 p1_0 p1_1 p1_2 p1_3 p1_4 p1_5 p1_6 p1_7 p1_8 p1_9 H Q) :
  Good prog w0 30 #[(.agg (eR p0_0 p0_1 p0_2 p0_3 p0_4 p0_5 p0_6 p0_7 p0_8 p0_9).toArray), (.agg (eR p1_0 p1_1 p1_2 p1_3 p1_4 p1_5 p1_6 p1_7 p1_8 p1_9).toArray)] H (fun v H => ∃ (r0 : Bool) , v = (bv r0) ∧ Q r0 H) := by
 unfold F30 at h
 refine Good.enter' (fn := f30) func30 rfl rfl rfl (ws (wr_ (ho rfl (ob (v := (.agg (eR p0_0 p0_1 p0_2 p0_3 p0_4 p0_5 p0_6 p0_7 p0_8 p0_9).toArray)) rfl) ?_)))
 rintro _ H1 ⟨rfl, e2⟩
 replace h := h H1 e2
 refine ho rfl (ob (v := (.agg (eR p1_0 p1_1 p1_2 p1_3 p1_4 p1_5 p1_6 p1_7 p1_8 p1_9).toArray)) rfl) ?_
 rintro _ H3 ⟨rfl, e4⟩
 replace h := h H3 e4
 refine hv (v := (bv false)) rfl (av rfl) (hn (nt (ws (wr_ (hv (v := (pp (bk H))) rfl (HVal.fieldAddr0 runUnderlying41 rfl rfl sizeOf3 rfl) ?_)))))
 obtain ⟨x6, c5, h⟩ := h
 refine hv (v := (iv x6)) rfl (l1 isAgg3 rfl c5) (hv (v := (pp (bk H1))) rfl (HVal.fieldAddr0 runUnderlying41 rfl rfl sizeOf3 rfl) ?_)
 obtain ⟨x8, c7, h⟩ := h
 refine hv (v := (iv x8)) rfl (l1 isAgg3 rfl c7) (hv (v := (bv (decide (x6 = x8)))) rfl (HVal.eqlI rfl rfl) (hv (v := (bv (decide (x6 = x8)))) rfl (mv rfl) ?_))
 obtain ⟨hT, hF⟩ := h
 rcases Bool.eq_false_or_eq_true (decide (x6 = x8)) with hb9 | hb10
 ·have h := hT hb9
  refine hg (v := (pp (Addr.add (bk H) 1))) rfl rfl rfl rfl (cB hb9) (fa runUnderlying41 rfl rfl sizeOf3 rfl) ?_
  obtain ⟨x12, c11, h⟩ := h
  refine hg (v := (iv x12)) rfl rfl rfl rfl (cB hb9) (l1 isAgg3 rfl c11) (hg (v := (pp (Addr.add (bk H1) 1))) rfl rfl rfl rfl (cB hb9) (fa runUnderlying41 rfl rfl sizeOf3 rfl) ?_)
  obtain ⟨x14, c13, h⟩ := h
  refine hg (v := (iv x14)) rfl rfl rfl rfl (cB hb9) (l1 isAgg3 rfl c13) (hg (v := (bv (decide (x12 = x14)))) rfl rfl rfl rfl (cB hb9) (HVal.eqlI rfl rfl) ?_)
  refine hv (v := (bv (decide (x12 = x14)))) rfl (pt_ rfl hb9 rfl) (hv (v := (bv (decide (x12 = x14)))) rfl (mv rfl) ?_)
  obtain ⟨hT, hF⟩ := h
  rcases Bool.eq_false_or_eq_true (decide (x12 = x14)) with hb15 | hb16
  ·have h := hT hb15
   refine hg (v := (pp (Addr.add (bk H) 2))) rfl rfl rfl rfl (cB hb15) (fa runUnderlying41 rfl rfl sizeOf25 rfl) ?_
   obtain ⟨x18, x19, x20, x21, c17, h⟩ := h
   refine hg (v := (.agg (vR x18 x19 x20 x21).toArray)) rfl rfl rfl rfl (cB hb15) (ln (vR x18 x19 x20 x21) isAgg25 sizeOf25 rfl c17) ?_
   refine hg (v := (pp (Addr.add (bk H1) 2))) rfl rfl rfl rfl (cB hb15) (fa runUnderlying41 rfl rfl sizeOf25 rfl) ?_
   obtain ⟨x23, x24, x25, x26, c22, h⟩ := h
   refine hg (v := (.agg (vR x23 x24 x25 x26).toArray)) rfl rfl rfl rfl (cB hb15) (ln (vR x23 x24 x25 x26) isAgg25 sizeOf25 rfl c22) ?_
   refine hg (v := (bv (decide (x18 = x23) && (decide (x19 = x24) && (seq x20 x25 && (x21 == x26)))))) rfl rfl rfl rfl (cB hb15) (eqs25_eql rfl rfl) ?_
   refine hv (v := (bv (decide (x18 = x23) && (decide (x19 = x24) && (seq x20 x25 && (x21 == x26)))))) rfl (pt_ rfl hb15 rfl) (hv (v := (bv (decide (x18 = x23) && (decide (x19 = x24) && (seq x20 x25 && (x21 == x26)))))) rfl (mv rfl) ?_)
   obtain ⟨hT, hF⟩ := h
   rcases Bool.eq_false_or_eq_true (decide (x18 = x23) && (decide (x19 = x24) && (seq x20 x25 && (x21 == x26)))) with hb27 | hb28
   ·have h := hT hb27
    refine hg (v := (pp (Addr.add (bk H) 6))) rfl rfl rfl rfl (cB hb27) (fa runUnderlying41 rfl rfl sizeOf9 rfl) ?_
    obtain ⟨x30, c29, h⟩ := h
    refine hg (v := (sv x30)) rfl rfl rfl rfl (cB hb27) (l1 isAgg9 rfl c29) (hg (v := (pp (Addr.add (bk H1) 6))) rfl rfl rfl rfl (cB hb27) (fa runUnderlying41 rfl rfl sizeOf9 rfl) ?_)
    obtain ⟨x32, c31, h⟩ := h
    refine hg (v := (sv x32)) rfl rfl rfl rfl (cB hb27) (l1 isAgg9 rfl c31) (hg (v := (bv (seq x30 x32))) rfl rfl rfl rfl (cB hb27) (HVal.eqlS rfl rfl) ?_)
    refine hv (v := (bv (seq x30 x32))) rfl (pt_ rfl hb27 rfl) (hv (v := (bv (seq x30 x32))) rfl (mv rfl) ?_)
    obtain ⟨hT, hF⟩ := h
    rcases Bool.eq_false_or_eq_true (seq x30 x32) with hb33 | hb34
    ·have h := hT hb33
     refine hg (v := (pp (Addr.add (bk H) 7))) rfl rfl rfl rfl (cB hb33) (fa runUnderlying41 rfl rfl sizeOf3 rfl) ?_
     obtain ⟨x36, c35, h⟩ := h
     refine hg (v := (iv x36)) rfl rfl rfl rfl (cB hb33) (l1 isAgg3 rfl c35) (hg (v := (pp (Addr.add (bk H1) 7))) rfl rfl rfl rfl (cB hb33) (fa runUnderlying41 rfl rfl sizeOf3 rfl) ?_)
     obtain ⟨x38, c37, h⟩ := h
     refine hg (v := (iv x38)) rfl rfl rfl rfl (cB hb33) (l1 isAgg3 rfl c37) (hg (v := (bv (decide (x36 = x38)))) rfl rfl rfl rfl (cB hb33) (HVal.eqlI rfl rfl) ?_)
     refine hv (v := (bv (decide (x36 = x38)))) rfl (pt_ rfl hb33 rfl) (hv (v := (bv (decide (x36 = x38)))) rfl (mv rfl) ?_)
     obtain ⟨hT, hF⟩ := h
     rcases Bool.eq_false_or_eq_true (decide (x36 = x38)) with hb39 | hb40
     ·have h := hT hb39
      refine hg (v := (pp (Addr.add (bk H) 8))) rfl rfl rfl rfl (cB hb39) (fa runUnderlying41 rfl rfl sizeOf9 rfl) ?_
      obtain ⟨x42, c41, h⟩ := h
      refine hg (v := (sv x42)) rfl rfl rfl rfl (cB hb39) (l1 isAgg9 rfl c41) (hg (v := (pp (Addr.add (bk H1) 8))) rfl rfl rfl rfl (cB hb39) (fa runUnderlying41 rfl rfl sizeOf9 rfl) ?_)
      obtain ⟨x44, c43, h⟩ := h
      refine hg (v := (sv x44)) rfl rfl rfl rfl (cB hb39) (l1 isAgg9 rfl c43) (hg (v := (bv (seq x42 x44))) rfl rfl rfl rfl (cB hb39) (HVal.eqlS rfl rfl) ?_)
      refine hv (v := (bv (seq x42 x44))) rfl (pt_ rfl hb39 rfl) (hv (v := (bv (seq x42 x44))) rfl (mv rfl) ?_)
      obtain ⟨hT, hF⟩ := h
      rcases Bool.eq_false_or_eq_true (seq x42 x44) with hb45 | hb46
      ·have h := hT hb45
       refine hg (v := (pp (Addr.add (bk H) 9))) rfl rfl rfl rfl (cB hb45) (fa runUnderlying41 rfl rfl sizeOf35 rfl) ?_
       obtain ⟨x48, c47, h⟩ := h
       refine hg (v := (Sl.v x48)) rfl rfl rfl rfl (cB hb45) (l1 isAgg35 rfl c47) (hg (v := (pp (Addr.add (bk H1) 9))) rfl rfl rfl rfl (cB hb45) (fa runUnderlying41 rfl rfl sizeOf35 rfl) ?_)
       obtain ⟨x50, c49, h⟩ := h
       refine hg (v := (Sl.v x50)) rfl rfl rfl rfl (cB hb45) (l1 isAgg35 rfl c49) (HList.gops rfl rfl rfl rfl (cB hb45) (HOp.call' 51 [(Sl.v x48), (Sl.v x50), (.func (.func 30) #[] #[])] (cap := []) rfl rfl call51 (walk51_30 h)) ?_)
       rintro _ H51 ⟨r53, rfl, h⟩
       refine hv (v := (bv r53)) rfl (pt_ rfl hb45 rfl) (hv (v := (bv r53)) rfl (av rfl) (hn (nt (HW.ret ?_))))
       exact ⟨_, resOf1 rfl Res1.t, ⟨r53, rfl, h⟩⟩
      have h := hF hb46
      refine hs_ rfl rfl rfl rfl (cB hb46) (hs_ rfl rfl rfl rfl (cB hb46) (hs_ rfl rfl rfl rfl (cB hb46) (hs_ rfl rfl rfl rfl (cB hb46) ?_)))
      refine hs_ rfl rfl rfl rfl (cB hb46) (hv (v := (bv false)) rfl (pf_ rfl hb46 rfl) (hv (v := (bv false)) rfl (av rfl) ?_))
      refine hn (nt (HW.ret ?_))
      exact ⟨_, resOf1 rfl Res1.t, ⟨false, rfl, h⟩⟩
     have h := hF hb40
     refine hs_ rfl rfl rfl rfl (cB hb40) (hs_ rfl rfl rfl rfl (cB hb40) (hs_ rfl rfl rfl rfl (cB hb40) (hs_ rfl rfl rfl rfl (cB hb40) ?_)))
     refine hs_ rfl rfl rfl rfl (cB hb40) (hv (v := (bv false)) rfl (pf_ rfl hb40 rfl) (hv (v := (bv false)) rfl (mv rfl) ?_))
     refine hs_ rfl rfl rfl rfl rfl (hs_ rfl rfl rfl rfl rfl (hs_ rfl rfl rfl rfl rfl (hs_ rfl rfl rfl rfl rfl (hs_ rfl rfl rfl rfl rfl ?_))))
     refine hv (v := (bv false)) rfl (pf_ rfl rfl rfl) (hv (v := (bv false)) rfl (av rfl) (hn (nt (HW.ret ?_))))
     exact ⟨_, resOf1 rfl Res1.t, ⟨false, rfl, h⟩⟩
    have h := hF hb34
    refine hs_ rfl rfl rfl rfl (cB hb34) (hs_ rfl rfl rfl rfl (cB hb34) (hs_ rfl rfl rfl rfl (cB hb34) (hs_ rfl rfl rfl rfl (cB hb34) ?_)))
    refine hs_ rfl rfl rfl rfl (cB hb34) (hv (v := (bv false)) rfl (pf_ rfl hb34 rfl) (hv (v := (bv false)) rfl (mv rfl) ?_))
    refine hs_ rfl rfl rfl rfl rfl (hs_ rfl rfl rfl rfl rfl (hs_ rfl rfl rfl rfl rfl (hs_ rfl rfl rfl rfl rfl (hs_ rfl rfl rfl rfl rfl ?_))))
    refine hv (v := (bv false)) rfl (pf_ rfl rfl rfl) (hv (v := (bv false)) rfl (mv rfl) (hs_ rfl rfl rfl rfl rfl (hs_ rfl rfl rfl rfl rfl ?_)))
    refine hs_ rfl rfl rfl rfl rfl (hs_ rfl rfl rfl rfl rfl (hs_ rfl rfl rfl rfl rfl (hv (v := (bv false)) rfl (pf_ rfl rfl rfl) ?_)))
    refine hv (v := (bv false)) rfl (av rfl) (hn (nt (HW.ret ?_)))
    exact ⟨_, resOf1 rfl Res1.t, ⟨false, rfl, h⟩⟩
   have h := hF hb28
   refine hs_ rfl rfl rfl rfl (cB hb28) (hs_ rfl rfl rfl rfl (cB hb28) (hs_ rfl rfl rfl rfl (cB hb28) (hs_ rfl rfl rfl rfl (cB hb28) ?_)))
   refine hs_ rfl rfl rfl rfl (cB hb28) (hv (v := (bv false)) rfl (pf_ rfl hb28 rfl) (hv (v := (bv false)) rfl (mv rfl) ?_))
   refine hs_ rfl rfl rfl rfl rfl (hs_ rfl rfl rfl rfl rfl (hs_ rfl rfl rfl rfl rfl (hs_ rfl rfl rfl rfl rfl (hs_ rfl rfl rfl rfl rfl ?_))))
   refine hv (v := (bv false)) rfl (pf_ rfl rfl rfl) (hv (v := (bv false)) rfl (mv rfl) (hs_ rfl rfl rfl rfl rfl (hs_ rfl rfl rfl rfl rfl ?_)))
   refine hs_ rfl rfl rfl rfl rfl (hs_ rfl rfl rfl rfl rfl (hs_ rfl rfl rfl rfl rfl (hv (v := (bv false)) rfl (pf_ rfl rfl rfl) ?_)))
   refine hv (v := (bv false)) rfl (mv rfl) (hs_ rfl rfl rfl rfl rfl (hs_ rfl rfl rfl rfl rfl (hs_ rfl rfl rfl rfl rfl ?_)))
   refine hs_ rfl rfl rfl rfl rfl (hs_ rfl rfl rfl rfl rfl (hv (v := (bv false)) rfl (pf_ rfl rfl rfl) (hv (v := (bv false)) rfl (av rfl) ?_)))
   refine hn (nt (HW.ret ?_))
   exact ⟨_, resOf1 rfl Res1.t, ⟨false, rfl, h⟩⟩
  have h := hF hb16
  refine hs_ rfl rfl rfl rfl (cB hb16) (hs_ rfl rfl rfl rfl (cB hb16) (hs_ rfl rfl rfl rfl (cB hb16) (hs_ rfl rfl rfl rfl (cB hb16) ?_)))
  refine hs_ rfl rfl rfl rfl (cB hb16) (hv (v := (bv false)) rfl (pf_ rfl hb16 rfl) (hv (v := (bv false)) rfl (mv rfl) ?_))
  refine hs_ rfl rfl rfl rfl rfl (hs_ rfl rfl rfl rfl rfl (hs_ rfl rfl rfl rfl rfl (hs_ rfl rfl rfl rfl rfl (hs_ rfl rfl rfl rfl rfl ?_))))
  refine hv (v := (bv false)) rfl (pf_ rfl rfl rfl) (hv (v := (bv false)) rfl (mv rfl) (hs_ rfl rfl rfl rfl rfl (hs_ rfl rfl rfl rfl rfl ?_)))
  refine hs_ rfl rfl rfl rfl rfl (hs_ rfl rfl rfl rfl rfl (hs_ rfl rfl rfl rfl rfl (hv (v := (bv false)) rfl (pf_ rfl rfl rfl) ?_)))
  refine hv (v := (bv false)) rfl (mv rfl) (hs_ rfl rfl rfl rfl rfl (hs_ rfl rfl rfl rfl rfl (hs_ rfl rfl rfl rfl rfl ?_)))
  refine hs_ rfl rfl rfl rfl rfl (hs_ rfl rfl rfl rfl rfl (hv (v := (bv false)) rfl (pf_ rfl rfl rfl) (hv (v := (bv false)) rfl (mv rfl) ?_)))
  refine hs_ rfl rfl rfl rfl rfl (hs_ rfl rfl rfl rfl rfl (hs_ rfl rfl rfl rfl rfl (hs_ rfl rfl rfl rfl rfl (hs_ rfl rfl rfl rfl rfl ?_))))
  refine hv (v := (bv false)) rfl (pf_ rfl rfl rfl) (hv (v := (bv false)) rfl (av rfl) (hn (nt (HW.ret ?_))))
  exact ⟨_, resOf1 rfl Res1.t, ⟨false, rfl, h⟩⟩
 have h := hF hb10
 refine hs_ rfl rfl rfl rfl (cB hb10) (hs_ rfl rfl rfl rfl (cB hb10) (hs_ rfl rfl rfl rfl (cB hb10) (hs_ rfl rfl rfl rfl (cB hb10) ?_)))
 refine hs_ rfl rfl rfl rfl (cB hb10) (hv (v := (bv false)) rfl (pf_ rfl hb10 rfl) (hv (v := (bv false)) rfl (mv rfl) ?_))
 refine hs_ rfl rfl rfl rfl rfl (hs_ rfl rfl rfl rfl rfl (hs_ rfl rfl rfl rfl rfl (hs_ rfl rfl rfl rfl rfl (hs_ rfl rfl rfl rfl rfl ?_))))
 refine hv (v := (bv false)) rfl (pf_ rfl rfl rfl) (hv (v := (bv false)) rfl (mv rfl) (hs_ rfl rfl rfl rfl rfl (hs_ rfl rfl rfl rfl rfl ?_)))
 refine hs_ rfl rfl rfl rfl rfl (hs_ rfl rfl rfl rfl rfl (hs_ rfl rfl rfl rfl rfl (hv (v := (bv false)) rfl (pf_ rfl rfl rfl) ?_)))
 refine hv (v := (bv false)) rfl (mv rfl) (hs_ rfl rfl rfl rfl rfl (hs_ rfl rfl rfl rfl rfl (hs_ rfl rfl rfl rfl rfl ?_)))
 refine hs_ rfl rfl rfl rfl rfl (hs_ rfl rfl rfl rfl rfl (hv (v := (bv false)) rfl (pf_ rfl rfl rfl) (hv (v := (bv false)) rfl (mv rfl) ?_)))
 refine hs_ rfl rfl rfl rfl rfl (hs_ rfl rfl rfl rfl rfl (hs_ rfl rfl rfl rfl rfl (hs_ rfl rfl rfl rfl rfl (hs_ rfl rfl rfl rfl rfl ?_))))
 refine hv (v := (bv false)) rfl (pf_ rfl rfl rfl) (hv (v := (bv false)) rfl (mv rfl) (hs_ rfl rfl rfl rfl rfl (hs_ rfl rfl rfl rfl rfl ?_)))
 refine hs_ rfl rfl rfl rfl rfl (hs_ rfl rfl rfl rfl rfl (hs_ rfl rfl rfl rfl rfl (hv (v := (bv false)) rfl (pf_ rfl rfl rfl) ?_)))
 refine hv (v := (bv false)) rfl (av rfl) (hn (nt (HW.ret ?_)))
 exact ⟨_, resOf1 rfl Res1.t, ⟨false, rfl, h⟩⟩

end Go.Hw
