/- The walks of this seat, printed by a program of this session (wip/tools/gen.py): of each function what it does to the heap, and that it does so. -/
import Derived.Test.YtbhfkpdalilhcaaDoorHwZ
import Derived.Test.YtbhfkpdalilhcaaDoorProg
import Derived.Test.YtbhfkpdalilhcaaDoorWAux
import Derived.Test.YtbhfkpdalilhcaaDoorWLib
set_option linter.unusedVariables false
set_option linter.unusedSimpArgs false
set_option maxRecDepth 100000
set_option maxHeartbeats 4000000
namespace Go.Hw
open Go Go.Proofs Tryd
def F32 (p0 : Int) (H : Hp) (Q : Bool → Hp → Prop) : Prop :=
((decide ((97 : Int) ≤ p0)) = true → (((decide (p0 ≤ 122)) = true → (Q true H)) ∧
 ((decide (p0 ≤ 122)) = false → (((decide ((65 : Int) ≤ p0)) = true → (((decide (p0 ≤ 90)) = true → (Q true H)) ∧
 ((decide (p0 ≤ 90)) = false → (Q (decide (p0 = 95)) H)))) ∧
 ((decide ((65 : Int) ≤ p0)) = false → (Q (decide (p0 = 95)) H)))))) ∧
 ((decide ((97 : Int) ≤ p0)) = false → (((decide ((65 : Int) ≤ p0)) = true → (((decide (p0 ≤ 90)) = true → (Q true H)) ∧
 ((decide (p0 ≤ 90)) = false → (Q (decide (p0 = 95)) H)))) ∧
 ((decide ((65 : Int) ≤ p0)) = false → (Q (decide (p0 = 95)) H))))
theorem walk32 {w0 : World} {p0 : Int} {H : Hp} {Q : Bool → Hp → Prop} (h : F32 p0 H Q) :
  Good prog w0 32 #[(.int .u8 p0)] H (fun v H => ∃ (r0 : Bool) , v = (bv r0) ∧ Q r0 H) := by
 unfold F32 at h
 refine Good.enter' (fn := f32) func32 rfl rfl rfl (ws (wr_ (hv (v := (bv false)) rfl (av rfl) (hn (nt (ws ?_))))))
 refine wr_ (hv (v := (.int .u8 p0)) rfl (mv rfl) (hv (v := (bv (decide ((97 : Int) ≤ p0)))) rfl (HVal.geq rfl rfl) (hv (v := (bv (decide ((97 : Int) ≤ p0)))) rfl (mv rfl) ?_)))
 obtain ⟨hT, hF⟩ := h
 rcases Bool.eq_false_or_eq_true (decide ((97 : Int) ≤ p0)) with hb1 | hb2
 ·have h := hT hb1
  refine hg (v := (.int .u8 p0)) rfl rfl rfl rfl (cB hb1) (mv rfl) (hg (v := (bv (decide (p0 ≤ 122)))) rfl rfl rfl rfl (cB hb1) (HVal.leq rfl rfl) ?_)
  refine hv (v := (bv (decide (p0 ≤ 122)))) rfl (pt_ rfl hb1 rfl) (hv (v := (bv (decide (p0 ≤ 122)))) rfl (mv rfl) ?_)
  obtain ⟨hT, hF⟩ := h
  rcases Bool.eq_false_or_eq_true (decide (p0 ≤ 122)) with hb3 | hb4
  ·have h := hT hb3
   refine hs_ rfl rfl rfl rfl (cB hb3) (hs_ rfl rfl rfl rfl (cB hb3) (hs_ rfl rfl rfl rfl (cB hb3) (HList.uskips rfl rfl rfl rfl rfl ?_)))
   refine HList.uskips rfl rfl rfl rfl rfl (hs_ rfl rfl rfl rfl (cB hb3) (hv (v := (bv true)) rfl (pt_ rfl hb3 rfl) (hv (v := (bv true)) rfl (mv rfl) ?_)))
   refine hs_ rfl rfl rfl rfl rfl (hs_ rfl rfl rfl rfl rfl (hv (v := (bv true)) rfl (pt_ rfl rfl rfl) (hv (v := (bv true)) rfl (av rfl) ?_)))
   refine hn (nt (HW.ret ?_))
   exact ⟨_, resOf1 rfl Res1.t, ⟨true, rfl, h⟩⟩
  have h := hF hb4
  refine hg (v := (.int .u8 p0)) rfl rfl rfl rfl (cB hb4) (mv rfl) (hg (v := (bv (decide ((65 : Int) ≤ p0)))) rfl rfl rfl rfl (cB hb4) (HVal.geq rfl rfl) ?_)
  refine hg (v := (bv (decide ((65 : Int) ≤ p0)))) rfl rfl rfl rfl (cB hb4) (mv rfl) ?_
  obtain ⟨hT, hF⟩ := h
  rcases Bool.eq_false_or_eq_true (decide ((65 : Int) ≤ p0)) with hb5 | hb6
  ·have h := hT hb5
   refine hg (v := (.int .u8 p0)) rfl rfl rfl rfl (cB hb5) (mv rfl) (hg (v := (bv (decide (p0 ≤ 90)))) rfl rfl rfl rfl (cB hb5) (HVal.leq rfl rfl) ?_)
   refine hg (v := (bv (decide (p0 ≤ 90)))) rfl rfl rfl rfl (cB hb4) (pt_ rfl hb5 rfl) (hv (v := (bv (decide (p0 ≤ 90)))) rfl (pf_ rfl hb4 rfl) ?_)
   refine hv (v := (bv (decide (p0 ≤ 90)))) rfl (mv rfl) ?_
   obtain ⟨hT, hF⟩ := h
   rcases Bool.eq_false_or_eq_true (decide (p0 ≤ 90)) with hb7 | hb8
   ·have h := hT hb7
    refine hs_ rfl rfl rfl rfl (cB hb7) (hs_ rfl rfl rfl rfl (cB hb7) (hv (v := (bv true)) rfl (pt_ rfl hb7 rfl) (hv (v := (bv true)) rfl (av rfl) ?_)))
    refine hn (nt (HW.ret ?_))
    exact ⟨_, resOf1 rfl Res1.t, ⟨true, rfl, h⟩⟩
   have h := hF hb8
   refine hg (v := (.int .u8 p0)) rfl rfl rfl rfl (cB hb8) (mv rfl) (hg (v := (bv (decide (p0 = 95)))) rfl rfl rfl rfl (cB hb8) (HVal.eqlI rfl rfl) ?_)
   refine hv (v := (bv (decide (p0 = 95)))) rfl (pf_ rfl hb8 rfl) (hv (v := (bv (decide (p0 = 95)))) rfl (av rfl) (hn (nt ?_)))
   refine HW.ret ?_
   exact ⟨_, resOf1 rfl Res1.t, ⟨(decide (p0 = 95)), rfl, h⟩⟩
  have h := hF hb6
  refine hs_ rfl rfl rfl rfl (cB hb6) (hs_ rfl rfl rfl rfl (cB hb6) (hg (v := (bv false)) rfl rfl rfl rfl (cB hb4) (pf_ rfl hb6 rfl) ?_))
  refine hv (v := (bv false)) rfl (pf_ rfl hb4 rfl) (hv (v := (bv false)) rfl (mv rfl) (hg (v := (.int .u8 p0)) rfl rfl rfl rfl rfl (mv rfl) ?_))
  refine hg (v := (bv (decide (p0 = 95)))) rfl rfl rfl rfl rfl (HVal.eqlI rfl rfl) (hv (v := (bv (decide (p0 = 95)))) rfl (pf_ rfl rfl rfl) ?_)
  refine hv (v := (bv (decide (p0 = 95)))) rfl (av rfl) (hn (nt (HW.ret ?_)))
  exact ⟨_, resOf1 rfl Res1.t, ⟨(decide (p0 = 95)), rfl, h⟩⟩
 have h := hF hb2
 refine hs_ rfl rfl rfl rfl (cB hb2) (hs_ rfl rfl rfl rfl (cB hb2) (hv (v := (bv false)) rfl (pf_ rfl hb2 rfl) (hv (v := (bv false)) rfl (mv rfl) ?_)))
 refine hg (v := (.int .u8 p0)) rfl rfl rfl rfl rfl (mv rfl) (hg (v := (bv (decide ((65 : Int) ≤ p0)))) rfl rfl rfl rfl rfl (HVal.geq rfl rfl) ?_)
 refine hg (v := (bv (decide ((65 : Int) ≤ p0)))) rfl rfl rfl rfl rfl (mv rfl) ?_
 obtain ⟨hT, hF⟩ := h
 rcases Bool.eq_false_or_eq_true (decide ((65 : Int) ≤ p0)) with hb9 | hb10
 ·have h := hT hb9
  refine hg (v := (.int .u8 p0)) rfl rfl rfl rfl (cB hb9) (mv rfl) (hg (v := (bv (decide (p0 ≤ 90)))) rfl rfl rfl rfl (cB hb9) (HVal.leq rfl rfl) ?_)
  refine hg (v := (bv (decide (p0 ≤ 90)))) rfl rfl rfl rfl rfl (pt_ rfl hb9 rfl) (hv (v := (bv (decide (p0 ≤ 90)))) rfl (pf_ rfl rfl rfl) ?_)
  refine hv (v := (bv (decide (p0 ≤ 90)))) rfl (mv rfl) ?_
  obtain ⟨hT, hF⟩ := h
  rcases Bool.eq_false_or_eq_true (decide (p0 ≤ 90)) with hb11 | hb12
  ·have h := hT hb11
   refine hs_ rfl rfl rfl rfl (cB hb11) (hs_ rfl rfl rfl rfl (cB hb11) (hv (v := (bv true)) rfl (pt_ rfl hb11 rfl) (hv (v := (bv true)) rfl (av rfl) ?_)))
   refine hn (nt (HW.ret ?_))
   exact ⟨_, resOf1 rfl Res1.t, ⟨true, rfl, h⟩⟩
  have h := hF hb12
  refine hg (v := (.int .u8 p0)) rfl rfl rfl rfl (cB hb12) (mv rfl) (hg (v := (bv (decide (p0 = 95)))) rfl rfl rfl rfl (cB hb12) (HVal.eqlI rfl rfl) ?_)
  refine hv (v := (bv (decide (p0 = 95)))) rfl (pf_ rfl hb12 rfl) (hv (v := (bv (decide (p0 = 95)))) rfl (av rfl) (hn (nt ?_)))
  refine HW.ret ?_
  exact ⟨_, resOf1 rfl Res1.t, ⟨(decide (p0 = 95)), rfl, h⟩⟩
 have h := hF hb10
 refine hs_ rfl rfl rfl rfl (cB hb10) (hs_ rfl rfl rfl rfl (cB hb10) (hg (v := (bv false)) rfl rfl rfl rfl rfl (pf_ rfl hb10 rfl) ?_))
 refine hv (v := (bv false)) rfl (pf_ rfl rfl rfl) (hv (v := (bv false)) rfl (mv rfl) (hg (v := (.int .u8 p0)) rfl rfl rfl rfl rfl (mv rfl) ?_))
 refine hg (v := (bv (decide (p0 = 95)))) rfl rfl rfl rfl rfl (HVal.eqlI rfl rfl) (hv (v := (bv (decide (p0 = 95)))) rfl (pf_ rfl rfl rfl) ?_)
 refine hv (v := (bv (decide (p0 = 95)))) rfl (av rfl) (hn (nt (HW.ret ?_)))
 exact ⟨_, resOf1 rfl Res1.t, ⟨(decide (p0 = 95)), rfl, h⟩⟩

def F33 (p0 : Int) (H : Hp) (Q : Bool → Hp → Prop) : Prop :=
F32 p0 H (fun (r3 : Bool) (H1 : Hp) => 
 (r3 = true → (Q true H1)) ∧
 (r3 = false → (((decide ((48 : Int) ≤ p0)) = true → (Q (decide (p0 ≤ 57)) H1)) ∧
 ((decide ((48 : Int) ≤ p0)) = false → (Q false H1)))))
theorem walk33 {w0 : World} {p0 : Int} {H : Hp} {Q : Bool → Hp → Prop} (h : F33 p0 H Q) :
  Good prog w0 33 #[(.int .u8 p0)] H (fun v H => ∃ (r0 : Bool) , v = (bv r0) ∧ Q r0 H) := by
 unfold F33 at h
 refine Good.enter' (fn := f33) func33 rfl rfl rfl (ws (wr_ (hv (v := (bv false)) rfl (av rfl) (hn (nt (ws ?_))))))
 refine wr_ (hv (v := (.int .u8 p0)) rfl (mv rfl) (ho rfl (HOp.call' 32 [(.int .u8 p0)] (cap := []) rfl rfl call32 (walk32 h)) ?_))
 rintro _ H1 ⟨r3, rfl, h⟩
 refine hv (v := (bv r3)) rfl (mv rfl) ?_
 obtain ⟨hT, hF⟩ := h
 rcases Bool.eq_false_or_eq_true r3 with hb4 | hb5
 ·have h := hT hb4
  refine hs_ rfl rfl rfl rfl (cB hb4) (hs_ rfl rfl rfl rfl (cB hb4) (hs_ rfl rfl rfl rfl (cB hb4) (HList.uskips rfl rfl rfl rfl rfl ?_)))
  refine HList.uskips rfl rfl rfl rfl rfl (hs_ rfl rfl rfl rfl (cB hb4) (hv (v := (bv true)) rfl (pt_ rfl hb4 rfl) (hv (v := (bv true)) rfl (av rfl) ?_)))
  refine hn (nt (HW.ret ?_))
  exact ⟨_, resOf1 rfl Res1.t, ⟨true, rfl, h⟩⟩
 have h := hF hb5
 refine hg (v := (.int .u8 p0)) rfl rfl rfl rfl (cB hb5) (mv rfl) (hg (v := (bv (decide ((48 : Int) ≤ p0)))) rfl rfl rfl rfl (cB hb5) (HVal.geq rfl rfl) ?_)
 refine hg (v := (bv (decide ((48 : Int) ≤ p0)))) rfl rfl rfl rfl (cB hb5) (mv rfl) ?_
 obtain ⟨hT, hF⟩ := h
 rcases Bool.eq_false_or_eq_true (decide ((48 : Int) ≤ p0)) with hb6 | hb7
 ·have h := hT hb6
  refine hg (v := (.int .u8 p0)) rfl rfl rfl rfl (cB hb6) (mv rfl) (hg (v := (bv (decide (p0 ≤ 57)))) rfl rfl rfl rfl (cB hb6) (HVal.leq rfl rfl) ?_)
  refine hg (v := (bv (decide (p0 ≤ 57)))) rfl rfl rfl rfl (cB hb5) (pt_ rfl hb6 rfl) (hv (v := (bv (decide (p0 ≤ 57)))) rfl (pf_ rfl hb5 rfl) ?_)
  refine hv (v := (bv (decide (p0 ≤ 57)))) rfl (av rfl) (hn (nt (HW.ret ?_)))
  exact ⟨_, resOf1 rfl Res1.t, ⟨(decide (p0 ≤ 57)), rfl, h⟩⟩
 have h := hF hb7
 refine hs_ rfl rfl rfl rfl (cB hb7) (hs_ rfl rfl rfl rfl (cB hb7) (hg (v := (bv false)) rfl rfl rfl rfl (cB hb5) (pf_ rfl hb7 rfl) ?_))
 refine hv (v := (bv false)) rfl (pf_ rfl hb5 rfl) (hv (v := (bv false)) rfl (av rfl) (hn (nt (HW.ret ?_))))
 exact ⟨_, resOf1 rfl Res1.t, ⟨false, rfl, h⟩⟩

def F17_L4b (Q : Bool → Hp → Prop) (X4 : Int → Hp → Prop) (y42 y43 y44 y45 y46 y47 y48 y49 y50 y51 y52 y53 y54 y55 y56 y57 y58 : ByteArray) (y41 : Int) (H_4 : Hp) : Prop :=
((decide (y41 < 16)) = true → ((0 : Int) ≤ y41 ∧ y41 < (16 : Int) ∧ ∃ y60 : ByteArray, ([y43, y44, y45, y46, y47, y48, y49, y50, y51, y52, y53, y54, y55, y56, y57, y58] : List ByteArray)[y41.toNat]? = some y60 ∧ (
 ((seq y42 y60) = true → (Q false H_4)) ∧
 ((seq y42 y60) = false → (X4 (IntKind.i64.wrap (y41 + 1)) H_4))))) ∧
 ((decide (y41 < 16)) = false → (Q true H_4))
def F17_L4 (Q : Bool → Hp → Prop) (y42 y43 y44 y45 y46 y47 y48 y49 y50 y51 y52 y53 y54 y55 y56 y57 y58 : ByteArray) (y41 : Int) (H_4 : Hp) : Prop :=
 ∀ X4 : Int → Hp → Prop, (∀ (y41 : Int) (H_4 : Hp), F17_L4b Q X4 y42 y43 y44 y45 y46 y47 y48 y49 y50 y51 y52 y53 y54 y55 y56 y57 y58 y41 H_4 → X4 y41 H_4) → X4 y41 H_4
def F17_2 (Q : Bool → Hp → Prop) (y13 : ByteArray) (H_2 : Hp) : Prop :=
∃ (x25 x26 x27 x28 x29 x30 x31 x32 x33 x34 x35 x36 x37 x38 x39 x40 : ByteArray), cells H_2 ⟨1, 0, none⟩ [(sv x25), (sv x26), (sv x27), (sv x28), (sv x29), (sv x30), (sv x31), (sv x32), (sv x33), (sv x34), (sv x35), (sv x36), (sv x37), (sv x38), (sv x39), (sv x40)] 0 ∧ (
 F17_L4 Q y13 x25 x26 x27 x28 x29 x30 x31 x32 x33 x34 x35 x36 x37 x38 x39 x40 0 H_2)
def F17_L3b (Q : Bool → Hp → Prop) (X3 : Int → Hp → Prop) (y15 : ByteArray) (y16 y14 : Int) (H_3 : Hp) : Prop :=
((decide (y14 < y16)) = true → ((0 : Int) ≤ y14 ∧ y14.toNat < (y15).size ∧ (
 F33 (bt y15 y14.toNat) H_3 (fun (r22 : Bool) (H20 : Hp) => 
 ((!r22) = true → (Q false H20)) ∧
 ((!r22) = false → (X3 (IntKind.i64.wrap (y14 + 1)) H20)))))) ∧
 ((decide (y14 < y16)) = false → (F17_2 Q y15 H_3))
def F17_L3 (Q : Bool → Hp → Prop) (y15 : ByteArray) (y16 y14 : Int) (H_3 : Hp) : Prop :=
 ∀ X3 : Int → Hp → Prop, (∀ (y14 : Int) (H_3 : Hp), F17_L3b Q X3 y15 y16 y14 H_3 → X3 y14 H_3) → X3 y14 H_3
def F17_1 (Q : Bool → Hp → Prop) (y1 : ByteArray) (y4 : Bool) (H_1 : Hp) : Prop :=
(y4 = true → (Q false H_1)) ∧
 (y4 = false → (F17_L3 Q y1 ((y1).size : Int) 0 H_1))
def F17 (p0 : ByteArray) (H : Hp) (Q : Bool → Hp → Prop) : Prop :=
((seq p0 bE) = true → (F17_1 Q p0 true H)) ∧
 ((seq p0 bE) = false → (((decide ((32 : Int) < ((p0).size : Int))) = true → (F17_1 Q p0 true H)) ∧
 ((decide ((32 : Int) < ((p0).size : Int))) = false → ((0 : Int) ≤ 0 ∧ (0 : Int).toNat < (p0).size ∧ (
 F32 (bt p0 (0 : Int).toNat) H (fun (r11 : Bool) (H9 : Hp) => 
 F17_1 Q p0 (!r11) H9))))))
theorem walk17 {w0 : World} {p0 : ByteArray} {H : Hp} {Q : Bool → Hp → Prop} (h : F17 p0 H Q) :
  Good prog w0 17 #[(sv p0)] H (fun v H => ∃ (r0 : Bool) , v = (bv r0) ∧ Q r0 H) := by
 unfold F17 at h
 refine Good.enter' (fn := f17) func17 rfl rfl rfl (ws (wr_ (hv (v := (bv false)) rfl (av rfl) (hn (nt (ws ?_))))))
 refine wc (fun ρ H_1 => ∃ (y4 : Bool), Env.Is ρ [(0, (sv p0)), (18, (bv y4))] ∧ F17_1 Q p0 y4 H_1) ?_ ?_
 ·refine wr_ (hv (v := (sv p0)) rfl (mv rfl) (hv (v := (bv (seq p0 bE))) rfl (HVal.eqlS rfl rfl) (hv (v := (bv (seq p0 bE))) rfl (mv rfl) ?_)))
  obtain ⟨hT, hF⟩ := h
  rcases Bool.eq_false_or_eq_true (seq p0 bE) with hb2 | hb3
  ·have h := hT hb2
   refine hs_ rfl rfl rfl rfl (cB hb2) (hs_ rfl rfl rfl rfl (cB hb2) (hs_ rfl rfl rfl rfl (cB hb2) (hv (v := (bv true)) rfl (pt_ rfl hb2 rfl) ?_)))
   refine hv (v := (bv true)) rfl (mv rfl) (hs_ rfl rfl rfl rfl rfl (hs_ rfl rfl rfl rfl rfl (hs_ rfl rfl rfl rfl rfl ?_)))
   refine hs_ rfl rfl rfl rfl rfl (hv (v := (bv true)) rfl (pt_ rfl rfl rfl) (hn (nt ?_)))
   exact ⟨true, (isp rfl), h⟩
  have h := hF hb3
  refine hg (v := (sv p0)) rfl rfl rfl rfl (cB hb3) (mv rfl) (hg (v := (iv ((p0).size : Int))) rfl rfl rfl rfl (cB hb3) (HVal.lenS runUnderlying9 rfl) ?_)
  refine hg (v := (bv (decide ((32 : Int) < ((p0).size : Int))))) rfl rfl rfl rfl (cB hb3) (HVal.gtr rfl rfl) (hv (v := (bv (decide ((32 : Int) < ((p0).size : Int))))) rfl (pf_ rfl hb3 rfl) ?_)
  refine hv (v := (bv (decide ((32 : Int) < ((p0).size : Int))))) rfl (mv rfl) ?_
  obtain ⟨hT, hF⟩ := h
  rcases Bool.eq_false_or_eq_true (decide ((32 : Int) < ((p0).size : Int))) with hb5 | hb6
  ·have h := hT hb5
   refine hs_ rfl rfl rfl rfl (cB hb5) (hs_ rfl rfl rfl rfl (cB hb5) (hs_ rfl rfl rfl rfl (cB hb5) (hs_ rfl rfl rfl rfl (cB hb5) ?_)))
   refine hv (v := (bv true)) rfl (pt_ rfl hb5 rfl) (hn (nt ?_))
   exact ⟨true, (isp rfl), h⟩
  have h := hF hb6
  refine hg (v := (sv p0)) rfl rfl rfl rfl (cB hb6) (mv rfl) ?_
  obtain ⟨b7, b8, h⟩ := h
  refine hg (v := (.int .u8 (bt p0 (0 : Int).toNat))) rfl rfl rfl rfl (cB hb6) (HVal.indexS' runUnderlying9 rfl rfl b7 b8) (HList.gops rfl rfl rfl rfl (cB hb6) (HOp.call' 32 [(.int .u8 (bt p0 (0 : Int).toNat))] (cap := []) rfl rfl call32 (walk32 h)) ?_)
  rintro _ H9 ⟨r11, rfl, h⟩
  refine hg (v := (bv (!r11))) rfl rfl rfl rfl (cB hb6) (HVal.not rfl) (hv (v := (bv (!r11))) rfl (pf_ rfl hb6 rfl) (hn (nt ?_)))
  exact ⟨(!r11), (isp rfl), h⟩
 rintro ρ H_1 ⟨y4, hI, h⟩
 obtain ⟨ρ0, rfl⟩ := hI.ex
 clear hI; unfold F17_1 at h
 obtain ⟨hT, hF⟩ := h
 refine wk y4 rfl (fun hb12 => ?_) (fun hb12 => ?_)
 ·have h := hT hb12
  refine ws (wr_ (hv (v := (bv false)) rfl (av rfl) (hn (nt (HW.ret (tr ?_))))))
  exact ⟨_, resOf1 rfl Res1.t, ⟨false, rfl, h⟩⟩
 have h := hF hb12
 refine wp_ (nt (wc (fun ρ H_2 => Env.Is ρ [(0, (sv p0))] ∧ F17_2 Q p0 H_2) ?_ ?_))
 ·refine ws (wr_ (hv (v := (sv p0)) rfl (mv rfl) (hv (v := (iv ((p0).size : Int))) rfl (HVal.lenS runUnderlying9 rfl) ?_)))
  refine hv (v := (iv 0)) rfl (mv rfl) (hn (nt (wb (HW.loop' (fun L3 hL3 => ?_)))))
  obtain ⟨X3, hX3⟩ : ∃ X3 : Int → Hp → Prop, ∀ (y14 : Int) (H_3 : Hp), X3 y14 H_3 ↔ ∀ ρ, Env.Is ρ [(0, (sv p0)), (20, (iv ((p0).size : Int))), (21, (iv y14))] → L3 ρ H_3 := ⟨_, fun _ _ => Iff.rfl⟩
  refine (hX3 _ _).1 (h X3 ?_) _ ?_
  rotate_left
  ·exact (isp rfl)
  clear h
  intro y14 H_3 h
  refine (hX3 _ _).2 fun ρ hI => ?_
  obtain ⟨ρ0, rfl⟩ := hI.ex
  clear hI; unfold F17_L3b at h; refine hL3 _ _ ?_
  refine ws (wr_ (hv (v := (bv (decide (y14 < ((p0).size : Int))))) rfl (HVal.lss rfl rfl) (hn (nt (ws ?_)))))
  obtain ⟨hT, hF⟩ := h
  refine wk (decide (y14 < ((p0).size : Int))) rfl (fun hb17 => ?_) (fun hb17 => ?_)
  ·have h := hT hb17
   refine wp_ (nt (ws (wb (ws (wr_ (hv (v := (iv y14)) rfl (mv rfl) (hv (v := (iv y14)) rfl (av rfl) ?_)))))))
   refine hn (nt (ws (wr_ (hv (v := (sv p0)) rfl (mv rfl) (hv (v := (iv y14)) rfl (mv rfl) ?_)))))
   obtain ⟨b18, b19, h⟩ := h
   refine hv (v := (.int .u8 (bt p0 y14.toNat))) rfl (HVal.indexS' runUnderlying9 rfl rfl b18 b19) (ho rfl (HOp.call' 33 [(.int .u8 (bt p0 y14.toNat))] (cap := []) rfl rfl call33 (walk33 h)) ?_)
   rintro _ H20 ⟨r22, rfl, h⟩
   refine hv (v := (bv (!r22))) rfl (HVal.not rfl) (hn (nt ?_))
   obtain ⟨hT, hF⟩ := h
   refine wk (!r22) rfl (fun hb23 => ?_) (fun hb23 => ?_)
   ·have h := hT hb23
    refine ws (wr_ (hv (v := (bv false)) rfl (av rfl) (hn (nt (HW.ret (br (tr (tr (br (tr ?_))))))))))
    exact ⟨_, resOf1 rfl Res1.t, ⟨false, rfl, h⟩⟩
   have h := hF hb23
   refine wp_ (nb (nt (wr_ (hv (v := (iv (IntKind.i64.wrap (y14 + 1)))) rfl (HVal.add rfl rfl) (hv (v := (iv (IntKind.i64.wrap (y14 + 1)))) rfl (mv rfl) ?_)))))
   refine hn (nt ?_)
   exact (hX3 _ _).1 h _ (isp rfl)
  have h := hF hb17
  refine we (te (te (be (nt ?_))))
  exact ⟨⟨rfl, trivial⟩, h⟩
 rintro ρ H_2 ⟨hI, h⟩
 obtain ⟨ρ0, rfl⟩ := hI.ex
 clear hI; unfold F17_2 at h
 refine ws (ws (wr_ ?_))
 obtain ⟨x25, x26, x27, x28, x29, x30, x31, x32, x33, x34, x35, x36, x37, x38, x39, x40, c24, h⟩ := h
 refine hv (v := (.agg #[(sv x25), (sv x26), (sv x27), (sv x28), (sv x29), (sv x30), (sv x31), (sv x32), (sv x33), (sv x34), (sv x35), (sv x36), (sv x37), (sv x38), (sv x39), (sv x40)])) rfl (ln [(sv x25), (sv x26), (sv x27), (sv x28), (sv x29), (sv x30), (sv x31), (sv x32), (sv x33), (sv x34), (sv x35), (sv x36), (sv x37), (sv x38), (sv x39), (sv x40)] isAgg52 sizeOf52 rfl c24) ?_
 refine hv (v := (iv 0)) rfl (mv rfl) (hn (nt (wb (HW.loop' (fun L4 hL4 => ?_)))))
 obtain ⟨X4, hX4⟩ : ∃ X4 : Int → Hp → Prop, ∀ (y41 : Int) (H_4 : Hp), X4 y41 H_4 ↔ ∀ ρ, Env.Is ρ [(0, (sv p0)), (30, (.agg #[(sv x25), (sv x26), (sv x27), (sv x28), (sv x29), (sv x30), (sv x31), (sv x32), (sv x33), (sv x34), (sv x35), (sv x36), (sv x37), (sv x38), (sv x39), (sv x40)])), (31, (iv y41))] → L4 ρ H_4 := ⟨_, fun _ _ => Iff.rfl⟩
 refine (hX4 _ _).1 (h X4 ?_) _ ?_
 rotate_left
 ·exact (isp rfl)
 clear h
 intro y41 H_4 h
 refine (hX4 _ _).2 fun ρ hI => ?_
 obtain ⟨ρ0, rfl⟩ := hI.ex
 clear hI; unfold F17_L4b at h; refine hL4 _ _ ?_
 refine ws (wr_ (hv (v := (bv (decide (y41 < 16)))) rfl (HVal.lss rfl rfl) (hn (nt (ws ?_)))))
 obtain ⟨hT, hF⟩ := h
 refine wk (decide (y41 < 16)) rfl (fun hb59 => ?_) (fun hb59 => ?_)
 ·have h := hT hb59
  refine wp_ (nt (ws (wb (ws (wr_ ?_)))))
  obtain ⟨b61, b62, y60, b63, h⟩ := h
  refine hv (v := (sv y60)) rfl (HVal.indexA Value.string [x25, x26, x27, x28, x29, x30, x31, x32, x33, x34, x35, x36, x37, x38, x39, x40] runUnderlying52 isAgg9 sizeOf9 rfl rfl b61 b62 b63) ?_
  refine hv (v := (sv y60)) rfl (av rfl) (hn (nt (ws (wr_ (hv (v := (sv p0)) rfl (mv rfl) (hv (v := (sv y60)) rfl (mv rfl) ?_))))))
  refine hv (v := (bv (seq p0 y60))) rfl (HVal.eqlS rfl rfl) (hn (nt ?_))
  obtain ⟨hT, hF⟩ := h
  refine wk (seq p0 y60) rfl (fun hb64 => ?_) (fun hb64 => ?_)
  ·have h := hT hb64
   refine ws (wr_ (hv (v := (bv false)) rfl (av rfl) (hn (nt (HW.ret (br (tr (tr (br (tr ?_))))))))))
   exact ⟨_, resOf1 rfl Res1.t, ⟨false, rfl, h⟩⟩
  have h := hF hb64
  refine wp_ (nb (nt (wr_ (hv (v := (iv (IntKind.i64.wrap (y41 + 1)))) rfl (HVal.add rfl rfl) (hv (v := (iv (IntKind.i64.wrap (y41 + 1)))) rfl (mv rfl) ?_)))))
  refine hn (nt ?_)
  exact (hX4 _ _).1 h _ (isp rfl)
 have h := hF hb59
 refine we (te (te (be (nt (ws (wr_ (hv (v := (bv true)) rfl (av rfl) (hn (nt (HW.ret ?_))))))))))
 exact ⟨_, resOf1 rfl Res1.t, ⟨true, rfl, h⟩⟩

def F52 (p0 : ByteArray) (H : Hp) (Q : Bool → Hp → Prop) : Prop :=
F17 p0 H (fun (r3 : Bool) (H1 : Hp) => 
 (r3 = true → (Q (!(seq p0 S_time)) H1)) ∧
 (r3 = false → (Q false H1)))
theorem walk52 {w0 : World} {p0 : ByteArray} {H : Hp} {Q : Bool → Hp → Prop} (h : F52 p0 H Q) :
  Good prog w0 52 #[(sv p0)] H (fun v H => ∃ (r0 : Bool) , v = (bv r0) ∧ Q r0 H) := by
 unfold F52 at h
 refine Good.enter' (fn := f52) func52 rfl rfl rfl (ws (wr_ (hv (v := (bv false)) rfl (av rfl) (hn (nt (ws ?_))))))
 refine wr_ (hv (v := (sv p0)) rfl (mv rfl) (ho rfl (HOp.call' 17 [(sv p0)] (cap := []) rfl rfl call17 (walk17 h)) ?_))
 rintro _ H1 ⟨r3, rfl, h⟩
 refine hv (v := (bv r3)) rfl (mv rfl) ?_
 obtain ⟨hT, hF⟩ := h
 rcases Bool.eq_false_or_eq_true r3 with hb4 | hb5
 ·have h := hT hb4
  refine hg (v := (sv p0)) rfl rfl rfl rfl (cB hb4) (mv rfl) (hg (v := (bv (!(seq p0 S_time)))) rfl rfl rfl rfl (cB hb4) (HVal.neqS rfl rfl) ?_)
  refine hv (v := (bv (!(seq p0 S_time)))) rfl (pt_ rfl hb4 rfl) (hv (v := (bv (!(seq p0 S_time)))) rfl (av rfl) (hn (nt ?_)))
  refine HW.ret ?_
  exact ⟨_, resOf1 rfl Res1.t, ⟨(!(seq p0 S_time)), rfl, h⟩⟩
 have h := hF hb5
 refine hs_ rfl rfl rfl rfl (cB hb5) (hs_ rfl rfl rfl rfl (cB hb5) (hv (v := (bv false)) rfl (pf_ rfl hb5 rfl) (hv (v := (bv false)) rfl (av rfl) ?_)))
 refine hn (nt (HW.ret ?_))
 exact ⟨_, resOf1 rfl Res1.t, ⟨false, rfl, h⟩⟩

def F53 (p0 : Int) (H : Hp) (Q : Bool → Hp → Prop) : Prop :=
((decide ((0 : Int) < p0)) = true → (Q (decide (p0 < 4)) H)) ∧
 ((decide ((0 : Int) < p0)) = false → (Q false H))
theorem walk53 {w0 : World} {p0 : Int} {H : Hp} {Q : Bool → Hp → Prop} (h : F53 p0 H Q) :
  Good prog w0 53 #[(iv p0)] H (fun v H => ∃ (r0 : Bool) , v = (bv r0) ∧ Q r0 H) := by
 unfold F53 at h
 refine Good.enter' (fn := f53) func53 rfl rfl rfl (ws (wr_ (hv (v := (bv false)) rfl (av rfl) (hn (nt (ws ?_))))))
 refine wr_ (hv (v := (iv p0)) rfl (mv rfl) (hv (v := (bv (decide ((0 : Int) < p0)))) rfl (HVal.gtr rfl rfl) (hv (v := (bv (decide ((0 : Int) < p0)))) rfl (mv rfl) ?_)))
 obtain ⟨hT, hF⟩ := h
 rcases Bool.eq_false_or_eq_true (decide ((0 : Int) < p0)) with hb1 | hb2
 ·have h := hT hb1
  refine hg (v := (iv p0)) rfl rfl rfl rfl (cB hb1) (mv rfl) (hg (v := (bv (decide (p0 < 4)))) rfl rfl rfl rfl (cB hb1) (HVal.lss rfl rfl) ?_)
  refine hv (v := (bv (decide (p0 < 4)))) rfl (pt_ rfl hb1 rfl) (hv (v := (bv (decide (p0 < 4)))) rfl (av rfl) (hn (nt ?_)))
  refine HW.ret ?_
  exact ⟨_, resOf1 rfl Res1.t, ⟨(decide (p0 < 4)), rfl, h⟩⟩
 have h := hF hb2
 refine hs_ rfl rfl rfl rfl (cB hb2) (hs_ rfl rfl rfl rfl (cB hb2) (hv (v := (bv false)) rfl (pf_ rfl hb2 rfl) (hv (v := (bv false)) rfl (av rfl) ?_)))
 refine hn (nt (HW.ret ?_))
 exact ⟨_, resOf1 rfl Res1.t, ⟨false, rfl, h⟩⟩

def F80 (p0 : Int) (H : Hp) (Q : Bool → Hp → Prop) : Prop :=
((decide (p0 = 40)) = true → (Q true H)) ∧
 ((decide (p0 = 40)) = false → (((decide (p0 = 41)) = true → (Q true H)) ∧
 ((decide (p0 = 41)) = false → (Q (decide (p0 = 44)) H))))
theorem walk80 {w0 : World} {p0 : Int} {H : Hp} {Q : Bool → Hp → Prop} (h : F80 p0 H Q) :
  Good prog w0 80 #[(.int .u8 p0)] H (fun v H => ∃ (r0 : Bool) , v = (bv r0) ∧ Q r0 H) := by
 unfold F80 at h
 refine Good.enter' (fn := f80) func80 rfl rfl rfl (ws (wr_ (hv (v := (bv false)) rfl (av rfl) (hn (nt (ws ?_))))))
 refine wr_ (hv (v := (.int .u8 p0)) rfl (mv rfl) (hv (v := (bv (decide (p0 = 40)))) rfl (HVal.eqlI rfl rfl) (hv (v := (bv (decide (p0 = 40)))) rfl (mv rfl) ?_)))
 obtain ⟨hT, hF⟩ := h
 rcases Bool.eq_false_or_eq_true (decide (p0 = 40)) with hb1 | hb2
 ·have h := hT hb1
  refine hs_ rfl rfl rfl rfl (cB hb1) (hs_ rfl rfl rfl rfl (cB hb1) (hv (v := (bv true)) rfl (pt_ rfl hb1 rfl) (hv (v := (bv true)) rfl (mv rfl) ?_)))
  refine hs_ rfl rfl rfl rfl rfl (hs_ rfl rfl rfl rfl rfl (hv (v := (bv true)) rfl (pt_ rfl rfl rfl) (hv (v := (bv true)) rfl (av rfl) ?_)))
  refine hn (nt (HW.ret ?_))
  exact ⟨_, resOf1 rfl Res1.t, ⟨true, rfl, h⟩⟩
 have h := hF hb2
 refine hg (v := (.int .u8 p0)) rfl rfl rfl rfl (cB hb2) (mv rfl) (hg (v := (bv (decide (p0 = 41)))) rfl rfl rfl rfl (cB hb2) (HVal.eqlI rfl rfl) ?_)
 refine hv (v := (bv (decide (p0 = 41)))) rfl (pf_ rfl hb2 rfl) (hv (v := (bv (decide (p0 = 41)))) rfl (mv rfl) ?_)
 obtain ⟨hT, hF⟩ := h
 rcases Bool.eq_false_or_eq_true (decide (p0 = 41)) with hb3 | hb4
 ·have h := hT hb3
  refine hs_ rfl rfl rfl rfl (cB hb3) (hs_ rfl rfl rfl rfl (cB hb3) (hv (v := (bv true)) rfl (pt_ rfl hb3 rfl) (hv (v := (bv true)) rfl (av rfl) ?_)))
  refine hn (nt (HW.ret ?_))
  exact ⟨_, resOf1 rfl Res1.t, ⟨true, rfl, h⟩⟩
 have h := hF hb4
 refine hg (v := (.int .u8 p0)) rfl rfl rfl rfl (cB hb4) (mv rfl) (hg (v := (bv (decide (p0 = 44)))) rfl rfl rfl rfl (cB hb4) (HVal.eqlI rfl rfl) ?_)
 refine hv (v := (bv (decide (p0 = 44)))) rfl (pf_ rfl hb4 rfl) (hv (v := (bv (decide (p0 = 44)))) rfl (av rfl) (hn (nt ?_)))
 refine HW.ret ?_
 exact ⟨_, resOf1 rfl Res1.t, ⟨(decide (p0 = 44)), rfl, h⟩⟩

def F60_6 (Q : Hp → Prop) (y109 : (Option Addr)) (H_6 : Hp) : Prop :=
∃ a162 : Addr, y109 = some a162 ∧ (
 ∃ x165 : ByteArray, cell H_6 a162 = some (sv x165) ∧ (
 ∃ a166 : Addr, y109 = some a166 ∧ (
 ∃ x169 : Int, cell H_6 (Addr.add a166 1) = some (iv x169) ∧ (
 ∃ a170 : Addr, y109 = some a170 ∧ (
 ∃ x173 : Int, cell H_6 (Addr.add a170 2) = some (iv x173) ∧ (
 (0 : Int) ≤ x169 ∧ (0 : Int) ≤ x173 ∧ x169.toNat ≤ x173.toNat ∧ x173.toNat ≤ (x165).size ∧ (
 ∃ a178 : Addr, y109 = some a178 ∧ (
 (cell H_6 (Addr.add a178 3)).isSome = true ∧ frz H_6 (Addr.add a178 3) = false ∧ ∀ H180 : Hp, H180 = setc H_6 (Addr.add a178 3) (sv ((x165).extract x169.toNat x173.toNat)) → (
 Q H180)))))))))
def F60_7 (Q : Hp → Prop) (y110 : (Option Addr)) (y150 : Bool) (H_7 : Hp) : Prop :=
(y150 = true → (∃ a152 : Addr, y110 = some a152 ∧ (
 ∃ x155 : Int, cell H_7 (Addr.add a152 2) = some (iv x155) ∧ (
 ∃ a156 : Addr, y110 = some a156 ∧ (
 (cell H_7 (Addr.add a156 2)).isSome = true ∧ frz H_7 (Addr.add a156 2) = false ∧ ∀ H158 : Hp, H158 = setc H_7 (Addr.add a156 2) (iv (IntKind.i64.wrap (x155 + 1))) → (
 F60_6 Q y110 H158)))))) ∧
 (y150 = false → (F60_6 Q y110 H_7))
def F60_4 (Q : Hp → Prop) (y69 : (Option Addr)) (H_4 : Hp) : Prop :=
∃ a111 : Addr, y69 = some a111 ∧ (
 ∃ x114 : Int, cell H_4 (Addr.add a111 2) = some (iv x114) ∧ (
 ∃ a115 : Addr, y69 = some a115 ∧ (
 ∃ x118 : Int, cell H_4 (Addr.add a115 1) = some (iv x118) ∧ (
 ((decide (x114 = x118)) = true → (∃ a121 : Addr, y69 = some a121 ∧ (
 ∃ x124 : Int, cell H_4 (Addr.add a121 1) = some (iv x124) ∧ (
 ∃ a125 : Addr, y69 = some a125 ∧ (
 ∃ x128 : ByteArray, cell H_4 a125 = some (sv x128) ∧ (
 ((decide (x124 < ((x128).size : Int))) = true → (∃ a131 : Addr, y69 = some a131 ∧ (
 ∃ x134 : ByteArray, cell H_4 a131 = some (sv x134) ∧ (
 ∃ a135 : Addr, y69 = some a135 ∧ (
 ∃ x138 : Int, cell H_4 (Addr.add a135 1) = some (iv x138) ∧ (
 (0 : Int) ≤ x138 ∧ x138.toNat < (x134).size ∧ (
 F80 (bt x134 x138.toNat) H_4 (fun (r143 : Bool) (H141 : Hp) => 
 cell H141 (Addr.add a135 1) = some (iv x138) ∧ cell H141 a131 = some (sv x134) ∧ cell H141 a125 = some (sv x128) ∧ cell H141 (Addr.add a121 1) = some (iv x124) ∧ cell H141 (Addr.add a115 1) = some (iv x118) ∧ cell H141 (Addr.add a111 2) = some (iv x114) ∧ (
 F60_7 Q y69 r143 H141))))))))) ∧
 ((decide (x124 < ((x128).size : Int))) = false → (F60_7 Q y69 false H_4)))))))) ∧
 ((decide (x114 = x118)) = false → (F60_7 Q y69 false H_4))))))
def F60_L5b (Q X5 : Hp → Prop) (y70 : (Option Addr)) (H_5 : Hp) : Prop :=
∃ a71 : Addr, y70 = some a71 ∧ (
 ∃ x74 : Int, cell H_5 (Addr.add a71 2) = some (iv x74) ∧ (
 ∃ a75 : Addr, y70 = some a75 ∧ (
 ∃ x78 : ByteArray, cell H_5 a75 = some (sv x78) ∧ (
 ((decide (x74 < ((x78).size : Int))) = true → (∃ a81 : Addr, y70 = some a81 ∧ (
 ∃ x84 : ByteArray, cell H_5 a81 = some (sv x84) ∧ (
 ∃ a85 : Addr, y70 = some a85 ∧ (
 ∃ x88 : Int, cell H_5 (Addr.add a85 2) = some (iv x88) ∧ (
 (0 : Int) ≤ x88 ∧ x88.toNat < (x84).size ∧ (
 F33 (bt x84 x88.toNat) H_5 (fun (r93 : Bool) (H91 : Hp) => 
 cell H91 (Addr.add a85 2) = some (iv x88) ∧ cell H91 a81 = some (sv x84) ∧ cell H91 a75 = some (sv x78) ∧ cell H91 (Addr.add a71 2) = some (iv x74) ∧ (
 (r93 = true → (∃ a99 : Addr, y70 = some a99 ∧ (
 ∃ x102 : Int, cell H91 (Addr.add a99 2) = some (iv x102) ∧ (
 ∃ a103 : Addr, y70 = some a103 ∧ (
 (cell H91 (Addr.add a103 2)).isSome = true ∧ frz H91 (Addr.add a103 2) = false ∧ ∀ H105 : Hp, H105 = setc H91 (Addr.add a103 2) (iv (IntKind.i64.wrap (x102 + 1))) → (
 X5 H105)))))) ∧
 (r93 = false → (F60_4 Q y70 H91))))))))))) ∧
 ((decide (x74 < ((x78).size : Int))) = false → (F60_4 Q y70 H_5))))))
def F60_L5 (Q : Hp → Prop) (y70 : (Option Addr)) (H_5 : Hp) : Prop :=
 ∀ X5 : Hp → Prop, (∀ (H_5 : Hp), F60_L5b Q X5 y70 H_5 → X5 H_5) → X5 H_5
def F60_1 (Q : Hp → Prop) (y11 : (Option Addr)) (H_1 : Hp) : Prop :=
∃ a59 : Addr, y11 = some a59 ∧ (
 ∃ x62 : Int, cell H_1 (Addr.add a59 1) = some (iv x62) ∧ (
 ∃ a63 : Addr, y11 = some a63 ∧ (
 (cell H_1 (Addr.add a63 2)).isSome = true ∧ frz H_1 (Addr.add a63 2) = false ∧ ∀ H65 : Hp, H65 = setc H_1 (Addr.add a63 2) (iv x62) → (
 F60_L5 Q y11 H65))))
def F60_3 (Q X2 : Hp → Prop) (y36 : (Option Addr)) (y37 : Int) (y38 : Addr) (y45 : Bool) (H_3 : Hp) : Prop :=
(y45 = true → (∃ a47 : Addr, y36 = some a47 ∧ (
 ∃ x50 : Int, cell H_3 (Addr.add a47 2) = some (iv x50) ∧ (
 ∃ a51 : Addr, y36 = some a51 ∧ (
 (cell H_3 (Addr.add a51 1)).isSome = true ∧ frz H_3 (Addr.add a51 1) = false ∧ ∀ H53 : Hp, H53 = setc H_3 (Addr.add a51 1) (iv (IntKind.i64.wrap (x50 + y37))) → (
 F60_1 Q y36 H53)))))) ∧
 (y45 = false → (X2 H_3))
def F60_L2b (Q X2 : Hp → Prop) (y27 : (Option Addr)) (y28 : Addr) (H_2 : Hp) : Prop :=
∃ (ss29 : ByteArray) (ps30 : Nat), iterAt H_2 y28 ss29 ps30 ∧ (
 ((decide (ps30 < (ss29).size)) = true → (∀ H34 : Hp, H34 = seto H_2 (y28).block (.stringIter ss29 (ps30 + (Utf8.decode ss29 ps30).2)) → (
 ((decide (((Utf8.decode ss29 ps30).1 : Int) ≠ 32)) = true → (((decide (((Utf8.decode ss29 ps30).1 : Int) ≠ 9)) = true → (((decide (((Utf8.decode ss29 ps30).1 : Int) ≠ 10)) = true → (F60_3 Q X2 y27 (ps30 : Int) y28 (decide (((Utf8.decode ss29 ps30).1 : Int) ≠ 13)) H34)) ∧
 ((decide (((Utf8.decode ss29 ps30).1 : Int) ≠ 10)) = false → (F60_3 Q X2 y27 (ps30 : Int) y28 false H34)))) ∧
 ((decide (((Utf8.decode ss29 ps30).1 : Int) ≠ 9)) = false → (F60_3 Q X2 y27 (ps30 : Int) y28 false H34)))) ∧
 ((decide (((Utf8.decode ss29 ps30).1 : Int) ≠ 32)) = false → (F60_3 Q X2 y27 (ps30 : Int) y28 false H34))))) ∧
 ((decide (ps30 < (ss29).size)) = false → (F60_1 Q y27 H_2)))
def F60_L2 (Q : Hp → Prop) (y27 : (Option Addr)) (y28 : Addr) (H_2 : Hp) : Prop :=
 ∀ X2 : Hp → Prop, (∀ (H_2 : Hp), F60_L2b Q X2 y27 y28 H_2 → X2 H_2) → X2 H_2
def F60 (p0 : (Option Addr)) (H : Hp) (Q : Hp → Prop) : Prop :=
∃ a1 : Addr, p0 = some a1 ∧ (
 ∃ x4 : ByteArray, cell H a1 = some (sv x4) ∧ (
 ∃ a5 : Addr, p0 = some a5 ∧ (
 (cell H (Addr.add a5 1)).isSome = true ∧ frz H (Addr.add a5 1) = false ∧ ∀ H7 : Hp, H7 = setc H (Addr.add a5 1) (iv ((x4).size : Int)) → (
 ∃ a12 : Addr, p0 = some a12 ∧ (
 ∃ x15 : ByteArray, cell H7 a12 = some (sv x15) ∧ (
 ∃ a16 : Addr, p0 = some a16 ∧ (
 ∃ x19 : Int, cell H7 (Addr.add a16 2) = some (iv x19) ∧ (
 (0 : Int) ≤ x19 ∧ x19.toNat ≤ (x15).size ∧ (x15).size ≤ (x15).size ∧ (
 ∀ H23 : Hp, H23 = Array.push H7 (.stringIter ((x15).extract x19.toNat ((x15).size)) 0) → (
 cell H23 (Addr.add a16 2) = some (iv x19) ∧ cell H23 a12 = some (sv x15) ∧ (
 F60_L2 Q p0 (bk H7) H23)))))))))))
theorem walk60 {w0 : World} {p0 : (Option Addr)} {H : Hp} {Q : Hp → Prop} (h : F60 p0 H Q) :
  Good prog w0 60 #[(.pointer p0)] H (fun v H => v = (.tuple #[]) ∧ Q H) := by
 unfold F60 at h
 refine Good.enter' (fn := f60) func60 rfl rfl rfl (ws (wr_ (hv (v := (.pointer p0)) rfl (mv rfl) (hv (v := (.pointer p0)) rfl (mv rfl) ?_))))
 obtain ⟨a1, e2, h⟩ := h
 refine hv (v := (pp a1)) rfl (HVal.nilCheck (congrArg Value.pointer e2)) (hv (v := (pp a1)) rfl (HVal.fieldAddr0 runUnderlying89 rfl rfl sizeOf9 rfl) ?_)
 obtain ⟨x4, c3, h⟩ := h
 refine hv (v := (sv x4)) rfl (l1 isAgg9 rfl c3) (hv (v := (iv ((x4).size : Int))) rfl (HVal.lenS runUnderlying9 rfl) ?_)
 obtain ⟨a5, e6, h⟩ := h
 refine hv (v := (pp a5)) rfl (HVal.nilCheck (congrArg Value.pointer e6)) (hv (v := (pp (Addr.add a5 1))) rfl (fa runUnderlying89 rfl rfl sizeOf3 rfl) ?_)
 obtain ⟨z9, z10, h⟩ := h
 refine hq (HOp.store1 sizeOf3 rfl rfl rfl z9 z10) ?_
 rintro _ H7 e8
 replace h := h H7 e8
 refine hn (nt (wc (fun ρ H_1 => Env.Is ρ [(0, (.pointer p0))] ∧ F60_1 Q p0 H_1) ?_ ?_))
 ·refine ws (HW.draw mixed [(0, some []), (1, some []), (2, some []), (3, some []), (4, some []), (5, some []), (6, some []), (7, some []), (8, some []), (9, none)] rfl (by kernel_rfl) (by kernel_rfl) ?_)
  refine pv (v := (.pointer p0)) rfl rfl (fun _ => mv rfl) ?_
  obtain ⟨a12, e13, h⟩ := h
  refine pv (v := (pp a12)) rfl rfl (fun _ => HVal.nilCheck (congrArg Value.pointer e13)) (pv (v := (pp a12)) rfl rfl (fun _ => HVal.fieldAddr0 runUnderlying89 rfl rfl sizeOf9 rfl) ?_)
  obtain ⟨x15, c14, h⟩ := h
  refine pl (v := (sv x15)) (fun X => cell X a12 = some (sv x15)) rfl rfl (fun _ hX => l1 isAgg9 rfl hX) c14 (pv (v := (.pointer p0)) rfl rfl (fun _ => mv rfl) ?_)
  obtain ⟨a16, e17, h⟩ := h
  refine pv (v := (pp a16)) rfl rfl (fun _ => HVal.nilCheck (congrArg Value.pointer e17)) (pv (v := (pp (Addr.add a16 2))) rfl rfl (fun _ => fa runUnderlying89 rfl rfl sizeOf3 rfl) ?_)
  obtain ⟨x19, c18, h⟩ := h
  refine pl (v := (iv x19)) (fun X => cell X (Addr.add a16 2) = some (iv x19)) rfl rfl (fun _ hX => l1 isAgg3 rfl hX) c18 ?_
  obtain ⟨z20, z21, z22, h⟩ := h
  refine pv (v := (sv ((x15).extract x19.toNat ((x15).size)))) rfl rfl (fun _ => HVal.sliceS _ _ runUnderlying9 rfl ⟨_, _, rfl, z20, rfl⟩ rfl z21 z22) ?_
  refine po rfl rfl (HOp.range runUnderlying9 rfl) ?_
  rintro _ H23 ⟨rfl, e24⟩
  replace h := h H23 e24
  obtain ⟨s25, s26, h⟩ := h
  refine ⟨SC_of ⟨fun _ => s25, fun _ => s26, trivial⟩, ?_⟩
  refine HPlan.done (nt (wb (HW.loop' (fun L2 hL2 => ?_))))
  obtain ⟨X2, hX2⟩ : ∃ X2 : Hp → Prop, ∀ (H_2 : Hp), X2 H_2 ↔ ∀ ρ, Env.Is ρ [(0, (.pointer p0)), (21, (pp (bk H7)))] → L2 ρ H_2 := ⟨_, fun _ => Iff.rfl⟩
  refine (hX2 _).1 (h X2 ?_) _ ?_
  rotate_left
  ·exact (isp rfl)
  clear h
  intro H_2 h
  refine (hX2 _).2 fun ρ hI => ?_
  obtain ⟨ρ0, rfl⟩ := hI.ex
  clear hI; unfold F60_L2b at h; refine hL2 _ _ ?_
  refine ws (wr_ ?_)
  obtain ⟨ss29, ps30, c31, h⟩ := h
  obtain ⟨hT, hF⟩ := h
  rcases Bool.eq_false_or_eq_true (decide (ps30 < (ss29).size)) with hb32 | hb33
  ·have h := hT hb32
   refine ho rfl (HOp.nextT rfl c31 hb32) ?_
   rintro _ H34 ⟨rfl, e35⟩
   replace h := h H34 e35
   refine hv (v := (bv true)) rfl (HVal.extract rfl rfl) (hn (nt (ws (HW.condT true rfl rfl (wp_ (nt (wb (ws (wr_ ?_)))))))))
   refine hv (v := (iv (ps30 : Int))) rfl (HVal.extract rfl rfl) (hv (v := (.int .i32 ((Utf8.decode ss29 ps30).1 : Int))) rfl (HVal.extract rfl rfl) ?_)
   refine hv (v := (iv (ps30 : Int))) rfl (av rfl) (hv (v := (.int .i32 ((Utf8.decode ss29 ps30).1 : Int))) rfl (av rfl) ?_)
   refine hn (nt (wc (fun ρ H_3 => ∃ (y45 : Bool), Env.Is ρ [(0, (.pointer p0)), (2, (iv (ps30 : Int))), (21, (pp (bk H7))), (39, (bv y45))] ∧ F60_3 Q X2 p0 (ps30 : Int) (bk H7) y45 H_3) ?_ ?_))
   ·refine wr_ (hv (v := (.int .i32 ((Utf8.decode ss29 ps30).1 : Int))) rfl (mv rfl) (hv (v := (bv (decide (((Utf8.decode ss29 ps30).1 : Int) ≠ 32)))) rfl (HVal.neqI rfl rfl) ?_))
    refine hv (v := (bv (decide (((Utf8.decode ss29 ps30).1 : Int) ≠ 32)))) rfl (mv rfl) ?_
    obtain ⟨hT, hF⟩ := h
    rcases Bool.eq_false_or_eq_true (decide (((Utf8.decode ss29 ps30).1 : Int) ≠ 32)) with hb39 | hb40
    ·have h := hT hb39
     refine hg (v := (.int .i32 ((Utf8.decode ss29 ps30).1 : Int))) rfl rfl rfl rfl (cB hb39) (mv rfl) (hg (v := (bv (decide (((Utf8.decode ss29 ps30).1 : Int) ≠ 9)))) rfl rfl rfl rfl (cB hb39) (HVal.neqI rfl rfl) ?_)
     refine hv (v := (bv (decide (((Utf8.decode ss29 ps30).1 : Int) ≠ 9)))) rfl (pt_ rfl hb39 rfl) (hv (v := (bv (decide (((Utf8.decode ss29 ps30).1 : Int) ≠ 9)))) rfl (mv rfl) ?_)
     obtain ⟨hT, hF⟩ := h
     rcases Bool.eq_false_or_eq_true (decide (((Utf8.decode ss29 ps30).1 : Int) ≠ 9)) with hb41 | hb42
     ·have h := hT hb41
      refine hg (v := (.int .i32 ((Utf8.decode ss29 ps30).1 : Int))) rfl rfl rfl rfl (cB hb41) (mv rfl) (hg (v := (bv (decide (((Utf8.decode ss29 ps30).1 : Int) ≠ 10)))) rfl rfl rfl rfl (cB hb41) (HVal.neqI rfl rfl) ?_)
      refine hv (v := (bv (decide (((Utf8.decode ss29 ps30).1 : Int) ≠ 10)))) rfl (pt_ rfl hb41 rfl) (hv (v := (bv (decide (((Utf8.decode ss29 ps30).1 : Int) ≠ 10)))) rfl (mv rfl) ?_)
      obtain ⟨hT, hF⟩ := h
      rcases Bool.eq_false_or_eq_true (decide (((Utf8.decode ss29 ps30).1 : Int) ≠ 10)) with hb43 | hb44
      ·have h := hT hb43
       refine hg (v := (.int .i32 ((Utf8.decode ss29 ps30).1 : Int))) rfl rfl rfl rfl (cB hb43) (mv rfl) (hg (v := (bv (decide (((Utf8.decode ss29 ps30).1 : Int) ≠ 13)))) rfl rfl rfl rfl (cB hb43) (HVal.neqI rfl rfl) ?_)
       refine hv (v := (bv (decide (((Utf8.decode ss29 ps30).1 : Int) ≠ 13)))) rfl (pt_ rfl hb43 rfl) (hn (nt ?_))
       exact ⟨(decide (((Utf8.decode ss29 ps30).1 : Int) ≠ 13)), (isp rfl), h⟩
      have h := hF hb44
      refine hs_ rfl rfl rfl rfl (cB hb44) (hs_ rfl rfl rfl rfl (cB hb44) (hv (v := (bv false)) rfl (pf_ rfl hb44 rfl) (hn (nt ?_))))
      exact ⟨false, (isp rfl), h⟩
     have h := hF hb42
     refine hs_ rfl rfl rfl rfl (cB hb42) (hs_ rfl rfl rfl rfl (cB hb42) (hv (v := (bv false)) rfl (pf_ rfl hb42 rfl) (hv (v := (bv false)) rfl (mv rfl) ?_)))
     refine hs_ rfl rfl rfl rfl rfl (hs_ rfl rfl rfl rfl rfl (hv (v := (bv false)) rfl (pf_ rfl rfl rfl) (hn (nt ?_))))
     exact ⟨false, (isp rfl), h⟩
    have h := hF hb40
    refine hs_ rfl rfl rfl rfl (cB hb40) (hs_ rfl rfl rfl rfl (cB hb40) (hv (v := (bv false)) rfl (pf_ rfl hb40 rfl) (hv (v := (bv false)) rfl (mv rfl) ?_)))
    refine hs_ rfl rfl rfl rfl rfl (hs_ rfl rfl rfl rfl rfl (hv (v := (bv false)) rfl (pf_ rfl rfl rfl) (hv (v := (bv false)) rfl (mv rfl) ?_)))
    refine hs_ rfl rfl rfl rfl rfl (hs_ rfl rfl rfl rfl rfl (hv (v := (bv false)) rfl (pf_ rfl rfl rfl) (hn (nt ?_))))
    exact ⟨false, (isp rfl), h⟩
   rintro ρ H_3 ⟨y45, hI, h⟩
   obtain ⟨ρ0, rfl⟩ := hI.ex
   clear hI; unfold F60_3 at h
   obtain ⟨hT, hF⟩ := h
   refine wk y45 rfl (fun hb46 => ?_) (fun hb46 => ?_)
   ·have h := hT hb46
    refine ws (wr_ (hv (v := (.pointer p0)) rfl (mv rfl) (hv (v := (.pointer p0)) rfl (mv rfl) ?_)))
    obtain ⟨a47, e48, h⟩ := h
    refine hv (v := (pp a47)) rfl (HVal.nilCheck (congrArg Value.pointer e48)) (hv (v := (pp (Addr.add a47 2))) rfl (fa runUnderlying89 rfl rfl sizeOf3 rfl) ?_)
    obtain ⟨x50, c49, h⟩ := h
    refine hv (v := (iv x50)) rfl (l1 isAgg3 rfl c49) (hv (v := (iv (ps30 : Int))) rfl (mv rfl) (hv (v := (iv (IntKind.i64.wrap (x50 + (ps30 : Int))))) rfl (HVal.add rfl rfl) ?_))
    obtain ⟨a51, e52, h⟩ := h
    refine hv (v := (pp a51)) rfl (HVal.nilCheck (congrArg Value.pointer e52)) (hv (v := (pp (Addr.add a51 1))) rfl (fa runUnderlying89 rfl rfl sizeOf3 rfl) ?_)
    obtain ⟨z55, z56, h⟩ := h
    refine hq (HOp.store1 sizeOf3 rfl rfl rfl z55 z56) ?_
    rintro _ H53 e54
    replace h := h H53 e54
    refine hn (nt (we (bx rfl (te (be (nt ?_))))))
    exact ⟨⟨rfl, trivial⟩, h⟩
   have h := hF hb46
   refine wp_ (nb (nt ?_))
   exact (hX2 _).1 h _ (isp rfl)
  have h := hF hb33
  refine ho rfl (HOp.nextF rfl c31 hb33) ?_
  rintro _ H57 ⟨rfl, rfl⟩
  refine hv (v := (bv false)) rfl (HVal.extract rfl rfl) (hn (nt (ws (HW.condF false rfl rfl (we (te (te (be (nt ?_)))))))))
  exact ⟨⟨rfl, trivial⟩, h⟩
 rintro ρ H_1 ⟨hI, h⟩
 obtain ⟨ρ0, rfl⟩ := hI.ex
 clear hI; unfold F60_1 at h
 refine ws (wr_ (hv (v := (.pointer p0)) rfl (mv rfl) (hv (v := (.pointer p0)) rfl (mv rfl) ?_)))
 obtain ⟨a59, e60, h⟩ := h
 refine hv (v := (pp a59)) rfl (HVal.nilCheck (congrArg Value.pointer e60)) (hv (v := (pp (Addr.add a59 1))) rfl (fa runUnderlying89 rfl rfl sizeOf3 rfl) ?_)
 obtain ⟨x62, c61, h⟩ := h
 refine hv (v := (iv x62)) rfl (l1 isAgg3 rfl c61) ?_
 obtain ⟨a63, e64, h⟩ := h
 refine hv (v := (pp a63)) rfl (HVal.nilCheck (congrArg Value.pointer e64)) (hv (v := (pp (Addr.add a63 2))) rfl (fa runUnderlying89 rfl rfl sizeOf3 rfl) ?_)
 obtain ⟨z67, z68, h⟩ := h
 refine hq (HOp.store1 sizeOf3 rfl rfl rfl z67 z68) ?_
 rintro _ H65 e66
 replace h := h H65 e66
 refine hn (nt (wc (fun ρ H_4 => Env.Is ρ [(0, (.pointer p0))] ∧ F60_4 Q p0 H_4) ?_ ?_))
 ·refine wb (HW.loop' (fun L5 hL5 => ?_))
  obtain ⟨X5, hX5⟩ : ∃ X5 : Hp → Prop, ∀ (H_5 : Hp), X5 H_5 ↔ ∀ ρ, Env.Is ρ [(0, (.pointer p0))] → L5 ρ H_5 := ⟨_, fun _ => Iff.rfl⟩
  refine (hX5 _).1 (h X5 ?_) _ ?_
  rotate_left
  ·exact ⟨rfl, trivial⟩
  clear h
  intro H_5 h
  refine (hX5 _).2 fun ρ hI => ?_
  obtain ⟨ρ0, rfl⟩ := hI.ex
  clear hI; unfold F60_L5b at h; refine hL5 _ _ ?_
  refine ws (ws (HW.draw mixed [(0, some []), (1, some []), (2, some []), (3, some []), (4, some []), (5, some []), (6, some []), (7, some []), (8, some []), (9, some []), (10, some []), (11, some []), (12, some []), (13, some []), (14, some []), (15, some []), (16, some []), (17, some []), (18, some []), (19, some []), (20, none), (21, some [])] rfl (by kernel_rfl) (by kernel_rfl) ?_))
  refine pv (v := (.pointer p0)) rfl rfl (fun _ => mv rfl) ?_
  obtain ⟨a71, e72, h⟩ := h
  refine pv (v := (pp a71)) rfl rfl (fun _ => HVal.nilCheck (congrArg Value.pointer e72)) (pv (v := (pp (Addr.add a71 2))) rfl rfl (fun _ => fa runUnderlying89 rfl rfl sizeOf3 rfl) ?_)
  obtain ⟨x74, c73, h⟩ := h
  refine pl (v := (iv x74)) (fun X => cell X (Addr.add a71 2) = some (iv x74)) rfl rfl (fun _ hX => l1 isAgg3 rfl hX) c73 (pv (v := (.pointer p0)) rfl rfl (fun _ => mv rfl) ?_)
  obtain ⟨a75, e76, h⟩ := h
  refine pv (v := (pp a75)) rfl rfl (fun _ => HVal.nilCheck (congrArg Value.pointer e76)) (pv (v := (pp a75)) rfl rfl (fun _ => HVal.fieldAddr0 runUnderlying89 rfl rfl sizeOf9 rfl) ?_)
  obtain ⟨x78, c77, h⟩ := h
  refine pl (v := (sv x78)) (fun X => cell X a75 = some (sv x78)) rfl rfl (fun _ hX => l1 isAgg9 rfl hX) c77 (pv (v := (iv ((x78).size : Int))) rfl rfl (fun _ => HVal.lenS runUnderlying9 rfl) ?_)
  refine pv (v := (bv (decide (x74 < ((x78).size : Int))))) rfl rfl (fun _ => HVal.lss rfl rfl) (pv (v := (bv (decide (x74 < ((x78).size : Int))))) rfl rfl (fun _ => mv rfl) ?_)
  obtain ⟨hT, hF⟩ := h
  rcases Bool.eq_false_or_eq_true (decide (x74 < ((x78).size : Int))) with hb79 | hb80
  ·have h := hT hb79
   refine HPlan.gtakev (v := (.pointer p0)) rfl rfl rfl rfl rfl (cB hb79) (fun _ => mv rfl) ?_
   obtain ⟨a81, e82, h⟩ := h
   refine HPlan.gtakev (v := (pp a81)) rfl rfl rfl rfl rfl (cB hb79) (fun _ => HVal.nilCheck (congrArg Value.pointer e82)) (HPlan.gtakev (v := (pp a81)) rfl rfl rfl rfl rfl (cB hb79) (fun _ => HVal.fieldAddr0 runUnderlying89 rfl rfl sizeOf9 rfl) ?_)
   obtain ⟨x84, c83, h⟩ := h
   refine HPlan.gtakel (v := (sv x84)) (fun X => cell X a81 = some (sv x84)) rfl rfl rfl rfl rfl (cB hb79) (fun _ hX => l1 isAgg9 rfl hX) c83 (HPlan.gtakev (v := (.pointer p0)) rfl rfl rfl rfl rfl (cB hb79) (fun _ => mv rfl) ?_)
   obtain ⟨a85, e86, h⟩ := h
   refine HPlan.gtakev (v := (pp a85)) rfl rfl rfl rfl rfl (cB hb79) (fun _ => HVal.nilCheck (congrArg Value.pointer e86)) (HPlan.gtakev (v := (pp (Addr.add a85 2))) rfl rfl rfl rfl rfl (cB hb79) (fun _ => fa runUnderlying89 rfl rfl sizeOf3 rfl) ?_)
   obtain ⟨x88, c87, h⟩ := h
   refine HPlan.gtakel (v := (iv x88)) (fun X => cell X (Addr.add a85 2) = some (iv x88)) rfl rfl rfl rfl rfl (cB hb79) (fun _ hX => l1 isAgg3 rfl hX) c87 ?_
   obtain ⟨b89, b90, h⟩ := h
   refine HPlan.gtakev (v := (.int .u8 (bt x84 x88.toNat))) rfl rfl rfl rfl rfl (cB hb79) (fun _ => HVal.indexS' runUnderlying9 rfl rfl b89 b90) (HPlan.gops rfl rfl rfl rfl rfl (cB hb79) (HOp.call' 33 [(.int .u8 (bt x84 x88.toNat))] (cap := []) rfl rfl call33 (walk33 h)) ?_)
   rintro _ H91 ⟨r93, rfl, h⟩
   obtain ⟨s94, s95, s96, s97, h⟩ := h
   refine ⟨SC_of ⟨fun _ => s94, fun _ => s95, fun _ => s96, fun _ => s97, trivial⟩, ?_⟩
   refine pv (v := (bv r93)) rfl rfl (fun _ => pt_ rfl hb79 rfl) (HPlan.done (nt ?_))
   obtain ⟨hT, hF⟩ := h
   refine wk r93 rfl (fun hb98 => ?_) (fun hb98 => ?_)
   ·have h := hT hb98
    refine wp_ (nt (wb (wr_ (hv (v := (.pointer p0)) rfl (mv rfl) ?_))))
    obtain ⟨a99, e100, h⟩ := h
    refine hv (v := (pp a99)) rfl (HVal.nilCheck (congrArg Value.pointer e100)) (hv (v := (pp (Addr.add a99 2))) rfl (fa runUnderlying89 rfl rfl sizeOf3 rfl) ?_)
    obtain ⟨x102, c101, h⟩ := h
    refine hv (v := (iv x102)) rfl (l1 isAgg3 rfl c101) (hv (v := (iv (IntKind.i64.wrap (x102 + 1)))) rfl (HVal.add rfl rfl) ?_)
    obtain ⟨a103, e104, h⟩ := h
    refine hv (v := (pp a103)) rfl (HVal.nilCheck (congrArg Value.pointer e104)) (hv (v := (pp (Addr.add a103 2))) rfl (fa runUnderlying89 rfl rfl sizeOf3 rfl) ?_)
    obtain ⟨z107, z108, h⟩ := h
    refine hq (HOp.store1 sizeOf3 rfl rfl rfl z107 z108) ?_
    rintro _ H105 e106
    replace h := h H105 e106
    refine hn (nb (nt ?_))
    exact (hX5 _).1 h _ ⟨rfl, trivial⟩
   have h := hF hb98
   refine we (te (te (be (nt ?_))))
   exact ⟨⟨rfl, trivial⟩, h⟩
  have h := hF hb80
  refine pg rfl rfl rfl rfl (cB hb80) (pg rfl rfl rfl rfl (cB hb80) (pg rfl rfl rfl rfl (cB hb80) (pg rfl rfl rfl rfl (cB hb80) ?_)))
  refine pg rfl rfl rfl rfl (cB hb80) (pg rfl rfl rfl rfl (cB hb80) (pg rfl rfl rfl rfl (cB hb80) (pg rfl rfl rfl rfl (cB hb80) ?_)))
  refine pg rfl rfl rfl rfl (cB hb80) (HPlan.opgskip rfl rfl rfl rfl (cB hb80) (pv (v := (bv false)) rfl rfl (fun _ => pf_ rfl hb80 rfl) ?_))
  refine HPlan.done (nt (HW.condF false rfl rfl (we (te (te (be (nt ?_)))))))
  exact ⟨⟨rfl, trivial⟩, h⟩
 rintro ρ H_4 ⟨hI, h⟩
 obtain ⟨ρ0, rfl⟩ := hI.ex
 clear hI; unfold F60_4 at h
 refine wc (fun ρ H_6 => Env.Is ρ [(0, (.pointer p0))] ∧ F60_6 Q p0 H_6) ?_ ?_
 ·refine wc (fun ρ H_7 => ∃ (y150 : Bool), Env.Is ρ [(0, (.pointer p0)), (117, (bv y150))] ∧ F60_7 Q p0 y150 H_7) ?_ ?_
  ·refine HW.draw mixed [(0, some []), (1, some []), (2, some []), (3, some []), (4, some []), (5, some []), (6, some []), (7, some []), (8, some []), (9, some []), (10, some []), (11, some []), (12, some []), (13, some []), (14, some []), (15, some []), (16, some []), (17, some []), (18, some []), (19, some []), (20, some []), (21, some []), (22, some []), (23, some []), (24, some []), (25, some []), (26, some []), (27, some []), (28, some []), (29, some []), (30, some []), (31, none), (32, some [])] rfl (by kernel_rfl) (by kernel_rfl) ?_
   refine pv (v := (.pointer p0)) rfl rfl (fun _ => mv rfl) ?_
   obtain ⟨a111, e112, h⟩ := h
   refine pv (v := (pp a111)) rfl rfl (fun _ => HVal.nilCheck (congrArg Value.pointer e112)) (pv (v := (pp (Addr.add a111 2))) rfl rfl (fun _ => fa runUnderlying89 rfl rfl sizeOf3 rfl) ?_)
   obtain ⟨x114, c113, h⟩ := h
   refine pl (v := (iv x114)) (fun X => cell X (Addr.add a111 2) = some (iv x114)) rfl rfl (fun _ hX => l1 isAgg3 rfl hX) c113 (pv (v := (.pointer p0)) rfl rfl (fun _ => mv rfl) ?_)
   obtain ⟨a115, e116, h⟩ := h
   refine pv (v := (pp a115)) rfl rfl (fun _ => HVal.nilCheck (congrArg Value.pointer e116)) (pv (v := (pp (Addr.add a115 1))) rfl rfl (fun _ => fa runUnderlying89 rfl rfl sizeOf3 rfl) ?_)
   obtain ⟨x118, c117, h⟩ := h
   refine pl (v := (iv x118)) (fun X => cell X (Addr.add a115 1) = some (iv x118)) rfl rfl (fun _ hX => l1 isAgg3 rfl hX) c117 (pv (v := (bv (decide (x114 = x118)))) rfl rfl (fun _ => HVal.eqlI rfl rfl) ?_)
   refine pv (v := (bv (decide (x114 = x118)))) rfl rfl (fun _ => mv rfl) ?_
   obtain ⟨hT, hF⟩ := h
   rcases Bool.eq_false_or_eq_true (decide (x114 = x118)) with hb119 | hb120
   ·have h := hT hb119
    refine HPlan.gtakev (v := (.pointer p0)) rfl rfl rfl rfl rfl (cB hb119) (fun _ => mv rfl) ?_
    obtain ⟨a121, e122, h⟩ := h
    refine HPlan.gtakev (v := (pp a121)) rfl rfl rfl rfl rfl (cB hb119) (fun _ => HVal.nilCheck (congrArg Value.pointer e122)) (HPlan.gtakev (v := (pp (Addr.add a121 1))) rfl rfl rfl rfl rfl (cB hb119) (fun _ => fa runUnderlying89 rfl rfl sizeOf3 rfl) ?_)
    obtain ⟨x124, c123, h⟩ := h
    refine HPlan.gtakel (v := (iv x124)) (fun X => cell X (Addr.add a121 1) = some (iv x124)) rfl rfl rfl rfl rfl (cB hb119) (fun _ hX => l1 isAgg3 rfl hX) c123 ?_
    refine HPlan.gtakev (v := (.pointer p0)) rfl rfl rfl rfl rfl (cB hb119) (fun _ => mv rfl) ?_
    obtain ⟨a125, e126, h⟩ := h
    refine HPlan.gtakev (v := (pp a125)) rfl rfl rfl rfl rfl (cB hb119) (fun _ => HVal.nilCheck (congrArg Value.pointer e126)) (HPlan.gtakev (v := (pp a125)) rfl rfl rfl rfl rfl (cB hb119) (fun _ => HVal.fieldAddr0 runUnderlying89 rfl rfl sizeOf9 rfl) ?_)
    obtain ⟨x128, c127, h⟩ := h
    refine HPlan.gtakel (v := (sv x128)) (fun X => cell X a125 = some (sv x128)) rfl rfl rfl rfl rfl (cB hb119) (fun _ hX => l1 isAgg9 rfl hX) c127 ?_
    refine HPlan.gtakev (v := (iv ((x128).size : Int))) rfl rfl rfl rfl rfl (cB hb119) (fun _ => HVal.lenS runUnderlying9 rfl) (HPlan.gtakev (v := (bv (decide (x124 < ((x128).size : Int))))) rfl rfl rfl rfl rfl (cB hb119) (fun _ => HVal.lss rfl rfl) ?_)
    refine pv (v := (bv (decide (x124 < ((x128).size : Int))))) rfl rfl (fun _ => pt_ rfl hb119 rfl) (pv (v := (bv (decide (x124 < ((x128).size : Int))))) rfl rfl (fun _ => mv rfl) ?_)
    obtain ⟨hT, hF⟩ := h
    rcases Bool.eq_false_or_eq_true (decide (x124 < ((x128).size : Int))) with hb129 | hb130
    ·have h := hT hb129
     refine HPlan.gtakev (v := (.pointer p0)) rfl rfl rfl rfl rfl (cB hb129) (fun _ => mv rfl) ?_
     obtain ⟨a131, e132, h⟩ := h
     refine HPlan.gtakev (v := (pp a131)) rfl rfl rfl rfl rfl (cB hb129) (fun _ => HVal.nilCheck (congrArg Value.pointer e132)) (HPlan.gtakev (v := (pp a131)) rfl rfl rfl rfl rfl (cB hb129) (fun _ => HVal.fieldAddr0 runUnderlying89 rfl rfl sizeOf9 rfl) ?_)
     obtain ⟨x134, c133, h⟩ := h
     refine HPlan.gtakel (v := (sv x134)) (fun X => cell X a131 = some (sv x134)) rfl rfl rfl rfl rfl (cB hb129) (fun _ hX => l1 isAgg9 rfl hX) c133 ?_
     refine HPlan.gtakev (v := (.pointer p0)) rfl rfl rfl rfl rfl (cB hb129) (fun _ => mv rfl) ?_
     obtain ⟨a135, e136, h⟩ := h
     refine HPlan.gtakev (v := (pp a135)) rfl rfl rfl rfl rfl (cB hb129) (fun _ => HVal.nilCheck (congrArg Value.pointer e136)) (HPlan.gtakev (v := (pp (Addr.add a135 1))) rfl rfl rfl rfl rfl (cB hb129) (fun _ => fa runUnderlying89 rfl rfl sizeOf3 rfl) ?_)
     obtain ⟨x138, c137, h⟩ := h
     refine HPlan.gtakel (v := (iv x138)) (fun X => cell X (Addr.add a135 1) = some (iv x138)) rfl rfl rfl rfl rfl (cB hb129) (fun _ hX => l1 isAgg3 rfl hX) c137 ?_
     obtain ⟨b139, b140, h⟩ := h
     refine HPlan.gtakev (v := (.int .u8 (bt x134 x138.toNat))) rfl rfl rfl rfl rfl (cB hb129) (fun _ => HVal.indexS' runUnderlying9 rfl rfl b139 b140) (HPlan.gops rfl rfl rfl rfl rfl (cB hb129) (HOp.call' 80 [(.int .u8 (bt x134 x138.toNat))] (cap := []) rfl rfl call80 (walk80 h)) ?_)
     rintro _ H141 ⟨r143, rfl, h⟩
     obtain ⟨s144, s145, s146, s147, s148, s149, h⟩ := h
     refine ⟨SC_of ⟨fun _ => s144, fun _ => s145, fun _ => s146, fun _ => s147, fun _ => s148, fun _ => s149, trivial⟩, ?_⟩
     refine pv (v := (bv r143)) rfl rfl (fun _ => pt_ rfl hb129 rfl) (HPlan.done (nt ?_))
     exact ⟨r143, (isp rfl), h⟩
    have h := hF hb130
    refine pg rfl rfl rfl rfl (cB hb130) (pg rfl rfl rfl rfl (cB hb130) (pg rfl rfl rfl rfl (cB hb130) (pg rfl rfl rfl rfl (cB hb130) ?_)))
    refine pg rfl rfl rfl rfl (cB hb130) (pg rfl rfl rfl rfl (cB hb130) (pg rfl rfl rfl rfl (cB hb130) (pg rfl rfl rfl rfl (cB hb130) ?_)))
    refine pg rfl rfl rfl rfl (cB hb130) (HPlan.opgskip rfl rfl rfl rfl (cB hb130) (pv (v := (bv false)) rfl rfl (fun _ => pf_ rfl hb130 rfl) ?_))
    refine HPlan.done (nt ?_)
    exact ⟨false, (isp rfl), h⟩
   have h := hF hb120
   refine pg rfl rfl rfl rfl (cB hb120) (pg rfl rfl rfl rfl (cB hb120) (pg rfl rfl rfl rfl (cB hb120) (pg rfl rfl rfl rfl (cB hb120) ?_)))
   refine pg rfl rfl rfl rfl (cB hb120) (pg rfl rfl rfl rfl (cB hb120) (pg rfl rfl rfl rfl (cB hb120) (pg rfl rfl rfl rfl (cB hb120) ?_)))
   refine pg rfl rfl rfl rfl (cB hb120) (pg rfl rfl rfl rfl (cB hb120) (pv (v := (bv false)) rfl rfl (fun _ => pf_ rfl hb120 rfl) ?_))
   refine pv (v := (bv false)) rfl rfl (fun _ => mv rfl) (pg rfl rfl rfl rfl rfl (pg rfl rfl rfl rfl rfl (pg rfl rfl rfl rfl rfl ?_)))
   refine pg rfl rfl rfl rfl rfl (pg rfl rfl rfl rfl rfl (pg rfl rfl rfl rfl rfl (pg rfl rfl rfl rfl rfl ?_)))
   refine pg rfl rfl rfl rfl rfl (pg rfl rfl rfl rfl rfl (HPlan.opgskip rfl rfl rfl rfl rfl (pv (v := (bv false)) rfl rfl (fun _ => pf_ rfl rfl rfl) ?_)))
   refine HPlan.done (nt ?_)
   exact ⟨false, (isp rfl), h⟩
  rintro ρ H_7 ⟨y150, hI, h⟩
  obtain ⟨ρ0, rfl⟩ := hI.ex
  clear hI; unfold F60_7 at h
  obtain ⟨hT, hF⟩ := h
  refine wk y150 rfl (fun hb151 => ?_) (fun hb151 => ?_)
  ·have h := hT hb151
   refine wr_ (hv (v := (.pointer p0)) rfl (mv rfl) ?_)
   obtain ⟨a152, e153, h⟩ := h
   refine hv (v := (pp a152)) rfl (HVal.nilCheck (congrArg Value.pointer e153)) (hv (v := (pp (Addr.add a152 2))) rfl (fa runUnderlying89 rfl rfl sizeOf3 rfl) ?_)
   obtain ⟨x155, c154, h⟩ := h
   refine hv (v := (iv x155)) rfl (l1 isAgg3 rfl c154) (hv (v := (iv (IntKind.i64.wrap (x155 + 1)))) rfl (HVal.add rfl rfl) ?_)
   obtain ⟨a156, e157, h⟩ := h
   refine hv (v := (pp a156)) rfl (HVal.nilCheck (congrArg Value.pointer e157)) (hv (v := (pp (Addr.add a156 2))) rfl (fa runUnderlying89 rfl rfl sizeOf3 rfl) ?_)
   obtain ⟨z160, z161, h⟩ := h
   refine hq (HOp.store1 sizeOf3 rfl rfl rfl z160 z161) ?_
   rintro _ H158 e159
   replace h := h H158 e159
   refine hn (nt ?_)
   exact ⟨⟨rfl, trivial⟩, h⟩
  have h := hF hb151
  refine wp_ (nt ?_)
  exact ⟨⟨rfl, trivial⟩, h⟩
 rintro ρ H_6 ⟨hI, h⟩
 obtain ⟨ρ0, rfl⟩ := hI.ex
 clear hI; unfold F60_6 at h
 refine HW.draw mixed [(0, some []), (1, some []), (2, some []), (3, some []), (4, some [16]), (5, some []), (6, some []), (7, some []), (8, some [16]), (9, some []), (10, some []), (11, some []), (12, some [16]), (13, some []), (14, some []), (15, some []), (16, none)] rfl (by kernel_rfl) (by kernel_rfl) ?_
 refine pv (v := (.pointer p0)) rfl rfl (fun _ => mv rfl) (pv (v := (.pointer p0)) rfl rfl (fun _ => mv rfl) ?_)
 obtain ⟨a162, e163, h⟩ := h
 refine pv (v := (pp a162)) rfl rfl (fun _ => HVal.nilCheck (congrArg Value.pointer e163)) (pv (v := (pp a162)) rfl rfl (fun _ => HVal.fieldAddr0 runUnderlying89 rfl rfl sizeOf9 rfl) ?_)
 obtain ⟨x165, c164, h⟩ := h
 refine pl (v := (sv x165)) (fun X => cell X a162 = some (sv x165)) rfl rfl (fun _ hX => l1 isAgg9 rfl hX) c164 (pv (v := (.pointer p0)) rfl rfl (fun _ => mv rfl) ?_)
 obtain ⟨a166, e167, h⟩ := h
 refine pv (v := (pp a166)) rfl rfl (fun _ => HVal.nilCheck (congrArg Value.pointer e167)) (pv (v := (pp (Addr.add a166 1))) rfl rfl (fun _ => fa runUnderlying89 rfl rfl sizeOf3 rfl) ?_)
 obtain ⟨x169, c168, h⟩ := h
 refine pl (v := (iv x169)) (fun X => cell X (Addr.add a166 1) = some (iv x169)) rfl rfl (fun _ hX => l1 isAgg3 rfl hX) c168 (pv (v := (.pointer p0)) rfl rfl (fun _ => mv rfl) ?_)
 obtain ⟨a170, e171, h⟩ := h
 refine pv (v := (pp a170)) rfl rfl (fun _ => HVal.nilCheck (congrArg Value.pointer e171)) (pv (v := (pp (Addr.add a170 2))) rfl rfl (fun _ => fa runUnderlying89 rfl rfl sizeOf3 rfl) ?_)
 obtain ⟨x173, c172, h⟩ := h
 refine pl (v := (iv x173)) (fun X => cell X (Addr.add a170 2) = some (iv x173)) rfl rfl (fun _ hX => l1 isAgg3 rfl hX) c172 ?_
 obtain ⟨z174, z175, z176, z177, h⟩ := h
 refine pv (v := (sv ((x165).extract x169.toNat x173.toNat))) rfl rfl (fun _ => HVal.sliceS _ _ runUnderlying9 rfl ⟨_, _, rfl, z174, rfl⟩ ⟨_, _, rfl, z175, rfl⟩ z176 z177) ?_
 obtain ⟨a178, e179, h⟩ := h
 refine pv (v := (pp a178)) rfl rfl (fun _ => HVal.nilCheck (congrArg Value.pointer e179)) (pv (v := (pp (Addr.add a178 3))) rfl rfl (fun _ => fa runUnderlying89 rfl rfl sizeOf9 rfl) ?_)
 obtain ⟨z182, z183, h⟩ := h
 refine pn rfl (HOp.store1 sizeOf9 rfl rfl rfl z182 z183) ?_
 rintro _ H180 e181
 replace h := h H180 e181
 refine ⟨SC_of ⟨nofun, nofun, nofun, trivial⟩, ?_⟩
 refine HPlan.done ?_
 exact ⟨_, resOf0 rfl , ⟨rfl, h⟩⟩

def F61 (p0 : (Option Addr)) (p1 : ByteArray) (H : Hp) (Q : Bool → Hp → Prop) : Prop :=
∃ a1 : Addr, p0 = some a1 ∧ (
 ∃ x4 : ByteArray, cell H (Addr.add a1 3) = some (sv x4) ∧ (
 ((!(seq x4 p1)) = true → (Q false H)) ∧
 ((!(seq x4 p1)) = false → (F60 p0 H (fun (H6 : Hp) => 
 Q true H6)))))
theorem walk61 {w0 : World} {p0 : (Option Addr)} {p1 : ByteArray} {H : Hp} {Q : Bool → Hp → Prop} (h : F61 p0 p1 H Q) :
  Good prog w0 61 #[(.pointer p0), (sv p1)] H (fun v H => ∃ (r0 : Bool) , v = (bv r0) ∧ Q r0 H) := by
 unfold F61 at h
 refine Good.enter' (fn := f61) func61 rfl rfl rfl (ws (wr_ (hv (v := (bv false)) rfl (av rfl) (hn (nt (ws ?_))))))
 refine ws (wr_ (hv (v := (.pointer p0)) rfl (mv rfl) ?_))
 obtain ⟨a1, e2, h⟩ := h
 refine hv (v := (pp a1)) rfl (HVal.nilCheck (congrArg Value.pointer e2)) (hv (v := (pp (Addr.add a1 3))) rfl (fa runUnderlying89 rfl rfl sizeOf9 rfl) ?_)
 obtain ⟨x4, c3, h⟩ := h
 refine hv (v := (sv x4)) rfl (l1 isAgg9 rfl c3) (hv (v := (sv p1)) rfl (mv rfl) (hv (v := (bv (!(seq x4 p1)))) rfl (HVal.neqS rfl rfl) ?_))
 refine hn (nt ?_)
 obtain ⟨hT, hF⟩ := h
 refine wk (!(seq x4 p1)) rfl (fun hb5 => ?_) (fun hb5 => ?_)
 ·have h := hT hb5
  refine ws (wr_ (hv (v := (bv false)) rfl (av rfl) (hn (nt (HW.ret (tr ?_))))))
  exact ⟨_, resOf1 rfl Res1.t, ⟨false, rfl, h⟩⟩
 have h := hF hb5
 refine wp_ (nt (ws (wr_ (hv (v := (.pointer p0)) rfl (mv rfl) (ho rfl (HOp.call' 60 [(.pointer p0)] (cap := []) rfl rfl call60 (walk60 h)) ?_)))))
 rintro _ H6 ⟨rfl, h⟩
 refine hn (nt (ws (wr_ (hv (v := (bv true)) rfl (av rfl) (hn (nt (HW.ret ?_)))))))
 exact ⟨_, resOf1 rfl Res1.t, ⟨true, rfl, h⟩⟩

def F62 (p0 : (Option Addr)) (H : Hp) (Q : Bool → Hp → Prop) : Prop :=
∃ a1 : Addr, p0 = some a1 ∧ (
 ∃ x4 : ByteArray, cell H (Addr.add a1 3) = some (sv x4) ∧ (
 ((!(seq x4 bE)) = true → (∃ a7 : Addr, p0 = some a7 ∧ (
 ∃ x10 : ByteArray, cell H (Addr.add a7 3) = some (sv x10) ∧ (
 (0 : Int) ≤ 0 ∧ (0 : Int).toNat < (x10).size ∧ (
 F33 (bt x10 (0 : Int).toNat) H (fun (r15 : Bool) (H13 : Hp) => 
 Q r15 H13)))))) ∧
 ((!(seq x4 bE)) = false → (Q false H))))
theorem walk62 {w0 : World} {p0 : (Option Addr)} {H : Hp} {Q : Bool → Hp → Prop} (h : F62 p0 H Q) :
  Good prog w0 62 #[(.pointer p0)] H (fun v H => ∃ (r0 : Bool) , v = (bv r0) ∧ Q r0 H) := by
 unfold F62 at h
 refine Good.enter' (fn := f62) func62 rfl rfl rfl (ws (wr_ (hv (v := (bv false)) rfl (av rfl) (hn (nt (ws ?_))))))
 refine wr_ (hv (v := (.pointer p0)) rfl (mv rfl) ?_)
 obtain ⟨a1, e2, h⟩ := h
 refine hv (v := (pp a1)) rfl (HVal.nilCheck (congrArg Value.pointer e2)) (hv (v := (pp (Addr.add a1 3))) rfl (fa runUnderlying89 rfl rfl sizeOf9 rfl) ?_)
 obtain ⟨x4, c3, h⟩ := h
 refine hv (v := (sv x4)) rfl (l1 isAgg9 rfl c3) (hv (v := (bv (!(seq x4 bE)))) rfl (HVal.neqS rfl rfl) (hv (v := (bv (!(seq x4 bE)))) rfl (mv rfl) ?_))
 obtain ⟨hT, hF⟩ := h
 rcases Bool.eq_false_or_eq_true (!(seq x4 bE)) with hb5 | hb6
 ·have h := hT hb5
  refine hg (v := (.pointer p0)) rfl rfl rfl rfl (cB hb5) (mv rfl) ?_
  obtain ⟨a7, e8, h⟩ := h
  refine hg (v := (pp a7)) rfl rfl rfl rfl (cB hb5) (HVal.nilCheck (congrArg Value.pointer e8)) (hg (v := (pp (Addr.add a7 3))) rfl rfl rfl rfl (cB hb5) (fa runUnderlying89 rfl rfl sizeOf9 rfl) ?_)
  obtain ⟨x10, c9, h⟩ := h
  refine hg (v := (sv x10)) rfl rfl rfl rfl (cB hb5) (l1 isAgg9 rfl c9) ?_
  obtain ⟨b11, b12, h⟩ := h
  refine hg (v := (.int .u8 (bt x10 (0 : Int).toNat))) rfl rfl rfl rfl (cB hb5) (HVal.indexS' runUnderlying9 rfl rfl b11 b12) (HList.gops rfl rfl rfl rfl (cB hb5) (HOp.call' 33 [(.int .u8 (bt x10 (0 : Int).toNat))] (cap := []) rfl rfl call33 (walk33 h)) ?_)
  rintro _ H13 ⟨r15, rfl, h⟩
  refine hv (v := (bv r15)) rfl (pt_ rfl hb5 rfl) (hv (v := (bv r15)) rfl (av rfl) (hn (nt (HW.ret ?_))))
  exact ⟨_, resOf1 rfl Res1.t, ⟨r15, rfl, h⟩⟩
 have h := hF hb6
 refine hs_ rfl rfl rfl rfl (cB hb6) (hs_ rfl rfl rfl rfl (cB hb6) (hs_ rfl rfl rfl rfl (cB hb6) (hs_ rfl rfl rfl rfl (cB hb6) ?_)))
 refine hs_ rfl rfl rfl rfl (cB hb6) (hs_ rfl rfl rfl rfl (cB hb6) (hv (v := (bv false)) rfl (pf_ rfl hb6 rfl) (hv (v := (bv false)) rfl (av rfl) ?_)))
 refine hn (nt (HW.ret ?_))
 exact ⟨_, resOf1 rfl Res1.t, ⟨false, rfl, h⟩⟩

def F64 (p0 : (Option Addr)) (H : Hp) (Q : Bool → Hp → Prop) : Prop :=
∃ a1 : Addr, p0 = some a1 ∧ (
 ∃ x4 : Int, cell H (Addr.add a1 1) = some (iv x4) ∧ (
 ∃ a5 : Addr, p0 = some a5 ∧ (
 ∃ x8 : ByteArray, cell H a5 = some (sv x8) ∧ (
 Q (decide (x4 = ((x8).size : Int))) H))))
theorem walk64 {w0 : World} {p0 : (Option Addr)} {H : Hp} {Q : Bool → Hp → Prop} (h : F64 p0 H Q) :
  Good prog w0 64 #[(.pointer p0)] H (fun v H => ∃ (r0 : Bool) , v = (bv r0) ∧ Q r0 H) := by
 unfold F64 at h
 refine Good.enter' (fn := f64) func64 rfl rfl rfl (ws (wr_ (hv (v := (bv false)) rfl (av rfl) (hn (nt (ws ?_))))))
 refine HW.draw mixed [(0, some []), (1, some []), (2, some []), (3, some []), (4, some []), (5, some []), (6, some []), (7, some []), (8, some []), (9, some []), (10, some [])] rfl (by kernel_rfl) (by kernel_rfl) ?_
 refine pv (v := (.pointer p0)) rfl rfl (fun _ => mv rfl) ?_
 obtain ⟨a1, e2, h⟩ := h
 refine pv (v := (pp a1)) rfl rfl (fun _ => HVal.nilCheck (congrArg Value.pointer e2)) (pv (v := (pp (Addr.add a1 1))) rfl rfl (fun _ => fa runUnderlying89 rfl rfl sizeOf3 rfl) ?_)
 obtain ⟨x4, c3, h⟩ := h
 refine pl (v := (iv x4)) (fun X => cell X (Addr.add a1 1) = some (iv x4)) rfl rfl (fun _ hX => l1 isAgg3 rfl hX) c3 (pv (v := (.pointer p0)) rfl rfl (fun _ => mv rfl) ?_)
 obtain ⟨a5, e6, h⟩ := h
 refine pv (v := (pp a5)) rfl rfl (fun _ => HVal.nilCheck (congrArg Value.pointer e6)) (pv (v := (pp a5)) rfl rfl (fun _ => HVal.fieldAddr0 runUnderlying89 rfl rfl sizeOf9 rfl) ?_)
 obtain ⟨x8, c7, h⟩ := h
 refine pl (v := (sv x8)) (fun X => cell X a5 = some (sv x8)) rfl rfl (fun _ hX => l1 isAgg9 rfl hX) c7 (pv (v := (iv ((x8).size : Int))) rfl rfl (fun _ => HVal.lenS runUnderlying9 rfl) ?_)
 refine pv (v := (bv (decide (x4 = ((x8).size : Int))))) rfl rfl (fun _ => HVal.eqlI rfl rfl) (pv (v := (bv (decide (x4 = ((x8).size : Int))))) rfl rfl (fun _ => av rfl) ?_)
 refine HPlan.done (nt (HW.ret ?_))
 exact ⟨_, resOf1 rfl Res1.t, ⟨(decide (x4 = ((x8).size : Int))), rfl, h⟩⟩

def F15_L2b (Q : Bool → Hp → Prop) (X2 : Int → Hp → Prop) (y20 y21 : Addr) (y19 : Int) (H_2 : Hp) : Prop :=
∃ x23 : Sl, cell H_2 (Addr.add y20 1) = some (Sl.v x23) ∧ (
 ((decide (y19 < ((x23).n : Int))) = true → (∃ x26 : Sl, cell H_2 (Addr.add y20 1) = some (Sl.v x26) ∧ (
 ∃ a27 : Addr, (x26).b = some a27 ∧ (0 : Int) ≤ y19 ∧ y19 < ((x26).n : Int) ∧ (
 ∃ (x32 : ByteArray) (x33 : Int), cells H_2 (Addr.add a27 (y19.toNat * 2)) [(sv x32), (iv x33)] 0 ∧ (
 ∃ x35 : Sl, cell H_2 (Addr.add y21 1) = some (Sl.v x35) ∧ (
 ∃ a36 : Addr, (x35).b = some a36 ∧ (0 : Int) ≤ y19 ∧ y19 < ((x35).n : Int) ∧ (
 ∃ (x41 : ByteArray) (x42 : Int), cells H_2 (Addr.add a36 (y19.toNat * 2)) [(sv x41), (iv x42)] 0 ∧ (
 ((!(seq x32 x41 && decide (x33 = x42))) = true → (Q false H_2)) ∧
 ((!(seq x32 x41 && decide (x33 = x42))) = false → (X2 (IntKind.i64.wrap (y19 + 1)) H_2)))))))))) ∧
 ((decide (y19 < ((x23).n : Int))) = false → (Q true H_2)))
def F15_L2 (Q : Bool → Hp → Prop) (y20 y21 : Addr) (y19 : Int) (H_2 : Hp) : Prop :=
 ∀ X2 : Int → Hp → Prop, (∀ (y19 : Int) (H_2 : Hp), F15_L2b Q X2 y20 y21 y19 H_2 → X2 y19 H_2) → X2 y19 H_2
def F15_1 (Q : Bool → Hp → Prop) (y5 y6 : Addr) (y13 : Bool) (H_1 : Hp) : Prop :=
(y13 = true → (Q false H_1)) ∧
 (y13 = false → (F15_L2 Q y5 y6 0 H_1))
def F15 (p0_0 : ByteArray) (p0_1 : Sl) (p1_0 : ByteArray) (p1_1 : Sl) (H : Hp) (Q : Bool → Hp → Prop) : Prop :=
∀ H1 : Hp, H1 = Array.push H (.cells #[(sv p0_0), (Sl.v p0_1)] 27) → (
 ∀ H3 : Hp, H3 = Array.push H1 (.cells #[(sv p1_0), (Sl.v p1_1)] 27) → (
 ∃ x8 : ByteArray, cell H3 (bk H) = some (sv x8) ∧ (
 ∃ x10 : ByteArray, cell H3 (bk H1) = some (sv x10) ∧ (
 ((!(seq x8 x10)) = true → (F15_1 Q (bk H) (bk H1) true H3)) ∧
 ((!(seq x8 x10)) = false → (∃ x15 : Sl, cell H3 (Addr.add (bk H) 1) = some (Sl.v x15) ∧ (
 ∃ x17 : Sl, cell H3 (Addr.add (bk H1) 1) = some (Sl.v x17) ∧ (
 F15_1 Q (bk H) (bk H1) (decide (((x15).n : Int) ≠ ((x17).n : Int))) H3))))))))
theorem walk15 {w0 : World} {p0_0 : ByteArray} {p0_1 : Sl} {p1_0 : ByteArray} {p1_1 : Sl} {H : Hp} {Q : Bool → Hp → Prop} (h : F15 p0_0 p0_1 p1_0 p1_1 H Q) :
  Good prog w0 15 #[(.agg #[(sv p0_0), (Sl.v p0_1)]), (.agg #[(sv p1_0), (Sl.v p1_1)])] H (fun v H => ∃ (r0 : Bool) , v = (bv r0) ∧ Q r0 H) := by
 unfold F15 at h
 refine Good.enter' (fn := f15) func15 rfl rfl rfl (ws (wr_ (ho rfl (ob (v := (.agg #[(sv p0_0), (Sl.v p0_1)])) rfl) ?_)))
 rintro _ H1 ⟨rfl, e2⟩
 replace h := h H1 e2
 refine ho rfl (ob (v := (.agg #[(sv p1_0), (Sl.v p1_1)])) rfl) ?_
 rintro _ H3 ⟨rfl, e4⟩
 replace h := h H3 e4
 refine hv (v := (bv false)) rfl (av rfl) (hn (nt (ws (wc (fun ρ H_1 => ∃ (y13 : Bool), Env.Is ρ [(2, (pp (bk H))), (3, (pp (bk H1))), (19, (bv y13))] ∧ F15_1 Q (bk H) (bk H1) y13 H_1) ?_ ?_))))
 ·refine wr_ (hv (v := (pp (bk H))) rfl (HVal.fieldAddr0 runUnderlying27 rfl rfl sizeOf9 rfl) ?_)
  obtain ⟨x8, c7, h⟩ := h
  refine hv (v := (sv x8)) rfl (l1 isAgg9 rfl c7) (hv (v := (pp (bk H1))) rfl (HVal.fieldAddr0 runUnderlying27 rfl rfl sizeOf9 rfl) ?_)
  obtain ⟨x10, c9, h⟩ := h
  refine hv (v := (sv x10)) rfl (l1 isAgg9 rfl c9) (hv (v := (bv (!(seq x8 x10)))) rfl (HVal.neqS rfl rfl) (hv (v := (bv (!(seq x8 x10)))) rfl (mv rfl) ?_))
  obtain ⟨hT, hF⟩ := h
  rcases Bool.eq_false_or_eq_true (!(seq x8 x10)) with hb11 | hb12
  ·have h := hT hb11
   refine hs_ rfl rfl rfl rfl (cB hb11) (hs_ rfl rfl rfl rfl (cB hb11) (hs_ rfl rfl rfl rfl (cB hb11) (hs_ rfl rfl rfl rfl (cB hb11) ?_)))
   refine hs_ rfl rfl rfl rfl (cB hb11) (hs_ rfl rfl rfl rfl (cB hb11) (hs_ rfl rfl rfl rfl (cB hb11) (hv (v := (bv true)) rfl (pt_ rfl hb11 rfl) ?_)))
   refine hn (nt ?_)
   exact ⟨true, (isp rfl), h⟩
  have h := hF hb12
  refine hg (v := (pp (Addr.add (bk H) 1))) rfl rfl rfl rfl (cB hb12) (fa runUnderlying27 rfl rfl sizeOf25 rfl) ?_
  obtain ⟨x15, c14, h⟩ := h
  refine hg (v := (Sl.v x15)) rfl rfl rfl rfl (cB hb12) (l1 isAgg25 rfl c14) (hg (v := (iv ((x15).n : Int))) rfl rfl rfl rfl (cB hb12) (HVal.len runUnderlying25 rfl) ?_)
  refine hg (v := (pp (Addr.add (bk H1) 1))) rfl rfl rfl rfl (cB hb12) (fa runUnderlying27 rfl rfl sizeOf25 rfl) ?_
  obtain ⟨x17, c16, h⟩ := h
  refine hg (v := (Sl.v x17)) rfl rfl rfl rfl (cB hb12) (l1 isAgg25 rfl c16) (hg (v := (iv ((x17).n : Int))) rfl rfl rfl rfl (cB hb12) (HVal.len runUnderlying25 rfl) ?_)
  refine hg (v := (bv (decide (((x15).n : Int) ≠ ((x17).n : Int))))) rfl rfl rfl rfl (cB hb12) (HVal.neqI rfl rfl) (hv (v := (bv (decide (((x15).n : Int) ≠ ((x17).n : Int))))) rfl (pf_ rfl hb12 rfl) ?_)
  refine hn (nt ?_)
  exact ⟨(decide (((x15).n : Int) ≠ ((x17).n : Int))), (isp rfl), h⟩
 rintro ρ H_1 ⟨y13, hI, h⟩
 obtain ⟨ρ0, rfl⟩ := hI.ex
 clear hI; unfold F15_1 at h
 obtain ⟨hT, hF⟩ := h
 refine wk y13 rfl (fun hb18 => ?_) (fun hb18 => ?_)
 ·have h := hT hb18
  refine ws (wr_ (hv (v := (bv false)) rfl (av rfl) (hn (nt (HW.ret (tr ?_))))))
  exact ⟨_, resOf1 rfl Res1.t, ⟨false, rfl, h⟩⟩
 have h := hF hb18
 refine wp_ (nt (ws (ws (wr_ (hv (v := (iv 0)) rfl (av rfl) (hn (nt (wb (HW.loop' (fun L2 hL2 => ?_))))))))))
 obtain ⟨X2, hX2⟩ : ∃ X2 : Int → Hp → Prop, ∀ (y19 : Int) (H_2 : Hp), X2 y19 H_2 ↔ ∀ ρ, Env.Is ρ [(2, (pp (bk H))), (3, (pp (bk H1))), (5, (iv y19))] → L2 ρ H_2 := ⟨_, fun _ _ => Iff.rfl⟩
 refine (hX2 _ _).1 (h X2 ?_) _ ?_
 rotate_left
 ·exact (isp rfl)
 clear h
 intro y19 H_2 h
 refine (hX2 _ _).2 fun ρ hI => ?_
 obtain ⟨ρ0, rfl⟩ := hI.ex
 clear hI; unfold F15_L2b at h; refine hL2 _ _ ?_
 refine ws (ws (wr_ (hv (v := (iv y19)) rfl (mv rfl) (hv (v := (pp (Addr.add (bk H) 1))) rfl (fa runUnderlying27 rfl rfl sizeOf25 rfl) ?_))))
 obtain ⟨x23, c22, h⟩ := h
 refine hv (v := (Sl.v x23)) rfl (l1 isAgg25 rfl c22) (hv (v := (iv ((x23).n : Int))) rfl (HVal.len runUnderlying25 rfl) (hv (v := (bv (decide (y19 < ((x23).n : Int))))) rfl (HVal.lss rfl rfl) ?_))
 refine hn (nt ?_)
 obtain ⟨hT, hF⟩ := h
 refine wk (decide (y19 < ((x23).n : Int))) rfl (fun hb24 => ?_) (fun hb24 => ?_)
 ·have h := hT hb24
  refine wp_ (nt (ws (wb (ws (HW.draw mixed [(0, some []), (1, some []), (2, some []), (3, some []), (4, some []), (5, some []), (6, some []), (7, some []), (8, some []), (9, some []), (10, some [])] rfl (by kernel_rfl) (by kernel_rfl) ?_)))))
  refine pv (v := (pp (Addr.add (bk H) 1))) rfl rfl (fun _ => fa runUnderlying27 rfl rfl sizeOf25 rfl) ?_
  obtain ⟨x26, c25, h⟩ := h
  refine pl (v := (Sl.v x26)) (fun X => cell X (Addr.add (bk H) 1) = some (Sl.v x26)) rfl rfl (fun _ hX => l1 isAgg25 rfl hX) c25 (pv (v := (iv y19)) rfl rfl (fun _ => mv rfl) ?_)
  obtain ⟨a27, e28, b29, b30, h⟩ := h
  refine pv (v := (pp (Addr.add a27 (y19.toNat * 2)))) rfl rfl (fun _ => ia runUnderlying25 sizeOf38 (Sl.v_some rfl e28) rfl b29 b30) ?_
  obtain ⟨x32, x33, c31, h⟩ := h
  refine pl (v := (.agg #[(sv x32), (iv x33)])) (fun X => cells X (Addr.add a27 (y19.toNat * 2)) [(sv x32), (iv x33)] 0) rfl rfl (fun _ hX => ln [(sv x32), (iv x33)] isAgg38 sizeOf38 rfl hX) c31 ?_
  refine pv (v := (pp (Addr.add (bk H1) 1))) rfl rfl (fun _ => fa runUnderlying27 rfl rfl sizeOf25 rfl) ?_
  obtain ⟨x35, c34, h⟩ := h
  refine pl (v := (Sl.v x35)) (fun X => cell X (Addr.add (bk H1) 1) = some (Sl.v x35)) rfl rfl (fun _ hX => l1 isAgg25 rfl hX) c34 (pv (v := (iv y19)) rfl rfl (fun _ => mv rfl) ?_)
  obtain ⟨a36, e37, b38, b39, h⟩ := h
  refine pv (v := (pp (Addr.add a36 (y19.toNat * 2)))) rfl rfl (fun _ => ia runUnderlying25 sizeOf38 (Sl.v_some rfl e37) rfl b38 b39) ?_
  obtain ⟨x41, x42, c40, h⟩ := h
  refine pl (v := (.agg #[(sv x41), (iv x42)])) (fun X => cells X (Addr.add a36 (y19.toNat * 2)) [(sv x41), (iv x42)] 0) rfl rfl (fun _ hX => ln [(sv x41), (iv x42)] isAgg38 sizeOf38 rfl hX) c40 ?_
  refine pv (v := (bv (!(seq x32 x41 && decide (x33 = x42))))) rfl rfl (fun _ => eqs38_neq rfl rfl) (HPlan.done (nt ?_))
  obtain ⟨hT, hF⟩ := h
  refine wk (!(seq x32 x41 && decide (x33 = x42))) rfl (fun hb43 => ?_) (fun hb43 => ?_)
  ·have h := hT hb43
   refine ws (wr_ (hv (v := (bv false)) rfl (av rfl) (hn (nt (HW.ret (br (tr (tr (br (tr ?_))))))))))
   exact ⟨_, resOf1 rfl Res1.t, ⟨false, rfl, h⟩⟩
  have h := hF hb43
  refine wp_ (nb (nt (wr_ (hv (v := (iv y19)) rfl (mv rfl) (hv (v := (iv (IntKind.i64.wrap (y19 + 1)))) rfl (HVal.add rfl rfl) ?_)))))
  refine hv (v := (iv (IntKind.i64.wrap (y19 + 1)))) rfl (av rfl) (hn (nt ?_))
  exact (hX2 _ _).1 h _ (isp rfl)
 have h := hF hb24
 refine we (te (te (be (nt (ws (wr_ (hv (v := (bv true)) rfl (av rfl) (hn (nt (HW.ret ?_))))))))))
 exact ⟨_, resOf1 rfl Res1.t, ⟨true, rfl, h⟩⟩

def F7 (H : Hp) (Q : (Option Addr) → Hp → Prop) : Prop :=
∀ H1 : Hp, H1 = Array.push H (.map #[] 0) → (
 ∀ H3 : Hp, H3 = Array.push H1 (.cells #[(.map (some (Array.size H)))] 72) → (
 Q (some (bk H1)) H3))
theorem walk7 {w0 : World} {H : Hp} {Q : (Option Addr) → Hp → Prop} (h : F7 H Q) :
  Good prog w0 7 #[] H (fun v H => ∃ (r0 : (Option Addr)) , v = (.pointer r0) ∧ Q r0 H) := by
 unfold F7 at h
 refine Good.enter' (fn := f7) func7 rfl rfl rfl (ws (wr_ (hv (v := (.pointer none)) rfl (av rfl) (hn (nt (ws ?_))))))
 refine wr_ (ho rfl (HOp.makeMap) ?_)
 rintro _ H1 ⟨rfl, e2⟩
 replace h := h H1 e2
 refine hv (v := (.agg #[(.map (some (Array.size H)))])) rfl (HVal.build' (cs := [(.map (some (Array.size H)))]) runUnderlying72 zeroValue72 places72 rfl) ?_
 refine ho rfl (ob (v := (.agg #[(.map (some (Array.size H)))])) rfl) ?_
 rintro _ H3 ⟨rfl, e4⟩
 replace h := h H3 e4
 refine hv (v := (pp (bk H1))) rfl (av rfl) (hn (nt (HW.ret ?_)))
 exact ⟨_, resOf1 rfl Res1.t, ⟨(some (bk H1)), rfl, h⟩⟩

def F38 (H : Hp) (Q : (Option Addr) → Hp → Prop) : Prop :=
∀ H1 : Hp, H1 = Array.push H (.cells #[sN] 118) → (
 Q (some (bk H)) H1)
theorem walk38 {w0 : World} {H : Hp} {Q : (Option Addr) → Hp → Prop} (h : F38 H Q) :
  Good prog w0 38 #[] H (fun v H => ∃ (r0 : (Option Addr)) , v = (.pointer r0) ∧ Q r0 H) := by
 unfold F38 at h
 refine Good.enter' (fn := f38) func38 rfl rfl rfl (ws (wr_ (hv (v := (.pointer none)) rfl (av rfl) (hn (nt ?_)))))
 refine ws (wr_ (hv (v := (.agg #[sN])) rfl (HVal.build' (cs := [sN]) runUnderlying118 zeroValue118 places118 rfl) (ho rfl (ob (v := (.agg #[sN])) rfl) ?_)))
 rintro _ H1 ⟨rfl, e2⟩
 replace h := h H1 e2
 refine hv (v := (pp (bk H))) rfl (av rfl) (hn (nt (HW.ret ?_)))
 exact ⟨_, resOf1 rfl Res1.t, ⟨(some (bk H)), rfl, h⟩⟩

def F21 (p0 : (Option Addr)) (H : Hp) (Q : (Option Addr) → Bool → Hp → Prop) : Prop :=
F7 H (fun (r3 : (Option Addr)) (H1 : Hp) => 
 F38 H1 (fun (r6 : (Option Addr)) (H4 : Hp) => 
 ∀ H7 : Hp, H7 = Array.push H4 (.cells #[(.pointer r3), (.pointer r6), (.pointer p0)] 101) → (
 ∃ x10 : (Option Addr), cell H7 (bk H4) = some (.pointer x10) ∧ (
 Q (some (bk H4)) (!x10.isNone) H7))))
theorem walk21 {w0 : World} {p0 : (Option Addr)} {H : Hp} {Q : (Option Addr) → Bool → Hp → Prop} (h : F21 p0 H Q) :
  Good prog w0 21 #[(.pointer p0)] H (fun v H => ∃ (r0 : (Option Addr)) (r1 : Bool) , v = (.tuple #[(.pointer r0), (bv r1)]) ∧ Q r0 r1 H) := by
 unfold F21 at h
 refine Good.enter' (fn := f21) func21 rfl rfl rfl (ws (wr_ (hv (v := (.pointer none)) rfl (av rfl) (hv (v := (bv false)) rfl (av rfl) ?_))))
 refine hn (nt (ws (wr_ (ho rfl (HOp.call' 7 [] (cap := []) rfl rfl call7 (walk7 h)) ?_))))
 rintro _ H1 ⟨r3, rfl, h⟩
 refine ho rfl (HOp.call' 38 [] (cap := []) rfl rfl call38 (walk38 h)) ?_
 rintro _ H4 ⟨r6, rfl, h⟩
 refine hv (v := (.pointer p0)) rfl (mv rfl) (hv (v := (.agg #[(.pointer r3), (.pointer r6), (.pointer p0)])) rfl (HVal.build' (cs := [(.pointer r3), (.pointer r6), (.pointer p0)]) runUnderlying101 zeroValue101 places101 rfl) ?_)
 refine ho rfl (ob (v := (.agg #[(.pointer r3), (.pointer r6), (.pointer p0)])) rfl) ?_
 rintro _ H7 ⟨rfl, e8⟩
 replace h := h H7 e8
 refine hv (v := (pp (bk H4))) rfl (av rfl) (hn (nt (ws (HW.draw mixed [(0, some []), (1, some []), (2, some []), (3, some []), (4, some []), (5, some []), (6, some []), (7, some [])] rfl (by kernel_rfl) (by kernel_rfl) ?_))))
 refine pv (v := (pp (bk H4))) rfl rfl (fun _ => mv rfl) (pv (v := (pp (bk H4))) rfl rfl (fun _ => mv rfl) ?_)
 refine pv (v := (pp (bk H4))) rfl rfl (fun _ => HVal.nilCheck rfl) (pv (v := (pp (bk H4))) rfl rfl (fun _ => HVal.fieldAddr0 runUnderlying101 rfl rfl sizeOf23 rfl) ?_)
 obtain ⟨x10, c9, h⟩ := h
 refine pl (v := (.pointer x10)) (fun X => cell X (bk H4) = some (.pointer x10)) rfl rfl (fun _ hX => l1 isAgg23 rfl hX) c9 (pv (v := (bv (!x10.isNone))) rfl rfl (fun _ => HVal.neqPN underlying23 rfl rfl) ?_)
 refine pv (v := (pp (bk H4))) rfl rfl (fun _ => av rfl) (pv (v := (bv (!x10.isNone))) rfl rfl (fun _ => av rfl) ?_)
 refine HPlan.done (nt (HW.ret ?_))
 exact ⟨_, resOf2 rfl Res1.t Res1.t, ⟨(some (bk H4)), (!x10.isNone), rfl, h⟩⟩

def F25 (p0_0 : ByteArray) (p0_1 : Sl) (H : Hp) (Q : ByteArray → Sl → Hp → Prop) : Prop :=
∀ H1 : Hp, H1 = Array.push H (.cells #[(sv p0_0), (Sl.v p0_1)] 27) → (
 ∀ H3 : Hp, H3 = Array.push H1 (.cells #[(sv bE), sN] 27) → (
 ∃ x6 : Sl, cell H3 (Addr.add (bk H) 1) = some (Sl.v x6) ∧ (
 AppendF H3 38 2 24 #[(sv bE), (iv 0)] Sl.nil (x6).b (x6).n (fun (r9 : Sl) (H7 : Hp) => 
 (cell H7 (Addr.add (bk H) 1)).isSome = true ∧ frz H7 (Addr.add (bk H) 1) = false ∧ ∀ H10 : Hp, H10 = setc H7 (Addr.add (bk H) 1) (Sl.v r9) → (
 ∃ (x15 : ByteArray) (x16 : Sl), cells H10 (bk H) [(sv x15), (Sl.v x16)] 0 ∧ (
 mayw H10 (bk H1) 2 0 ∧ ∀ H17 : Hp, H17 = sets H10 (bk H1) [(sv x15), (Sl.v x16)] 0 → (
 ∃ (x20 : ByteArray) (x21 : Sl), cells H17 (bk H1) [(sv x20), (Sl.v x21)] 0 ∧ (
 Q x20 x21 H17))))))))
theorem walk25 {w0 : World} {p0_0 : ByteArray} {p0_1 : Sl} {H : Hp} {Q : ByteArray → Sl → Hp → Prop} (h : F25 p0_0 p0_1 H Q) :
  Good prog w0 25 #[(.agg #[(sv p0_0), (Sl.v p0_1)])] H (fun v H => ∃ (r0 : ByteArray) (r1 : Sl) , v = (.agg #[(sv r0), (Sl.v r1)]) ∧ Q r0 r1 H) := by
 unfold F25 at h
 refine Good.enter' (fn := f25) func25 rfl rfl rfl (ws (wr_ (ho rfl (ob (v := (.agg #[(sv p0_0), (Sl.v p0_1)])) rfl) ?_)))
 rintro _ H1 ⟨rfl, e2⟩
 replace h := h H1 e2
 refine ho rfl (HOp.alloc zeroValue27) ?_
 rintro _ H3 ⟨rfl, e4⟩
 replace h := h H3 e4
 refine hn (nt (ws (wr_ (hv (v := (pp (Addr.add (bk H) 1))) rfl (fa runUnderlying27 rfl rfl sizeOf25 rfl) ?_))))
 obtain ⟨x6, c5, h⟩ := h
 refine hv (v := (Sl.v x6)) rfl (l1 isAgg25 rfl c5) (ho rfl (HOp.append (k := 2) (b := 24) runUnderlying25 runUnderlying25 typeInfo38 rfl rfl zeroValue38 rfl rfl h) ?_)
 rintro _ H7 ⟨r9, rfl, h⟩
 refine hv (v := (pp (Addr.add (bk H) 1))) rfl (fa runUnderlying27 rfl rfl sizeOf25 rfl) ?_
 obtain ⟨z12, z13, h⟩ := h
 refine hq (HOp.store1 sizeOf25 rfl rfl rfl z12 z13) ?_
 rintro _ H10 e11
 replace h := h H10 e11
 refine hn (nt (ws (wr_ ?_)))
 obtain ⟨x15, x16, c14, h⟩ := h
 refine hv (v := (.agg #[(sv x15), (Sl.v x16)])) rfl (ln [(sv x15), (Sl.v x16)] isAgg27 sizeOf27 rfl c14) ?_
 obtain ⟨z19, h⟩ := h
 refine hq (HOp.storeN' (l := [(sv x15), (Sl.v x16)]) sizeOf27 rfl rfl rfl z19) ?_
 rintro _ H17 e18
 replace h := h H17 e18
 refine hn (nt (HW.ret ?_))
 obtain ⟨x20, x21, c22, h⟩ := h
 exact ⟨_, resOf1 rfl (Res1.n [(sv x20), (Sl.v x21)] isAgg27 sizeOf27 rfl c22), ⟨x20, x21, rfl, h⟩⟩

def F26 (p0 : ByteArray) (H : Hp) (Q : ByteArray → Hp → Prop) : Prop :=
F55 p0 H (fun (r3 : ByteArray) (H1 : Hp) => 
 Q r3 H1)
theorem walk26 {w0 : World} {p0 : ByteArray} {H : Hp} {Q : ByteArray → Hp → Prop} (h : F26 p0 H Q) :
  Good prog w0 26 #[(sv p0)] H (fun v H => ∃ (r0 : ByteArray) , v = (sv r0) ∧ Q r0 H) := by
 unfold F26 at h
 refine Good.enter' (fn := f26) func26 rfl rfl rfl (ws (wr_ (hv (v := (sv bE)) rfl (av rfl) (hn (nt (ws ?_))))))
 refine wr_ (hv (v := (sv p0)) rfl (mv rfl) (ho rfl (HOp.call' 55 [(sv p0)] (cap := []) rfl rfl call55 (walk55 h)) ?_))
 rintro _ H1 ⟨r3, rfl, h⟩
 refine hv (v := (sv r3)) rfl (av rfl) (hn (nt (HW.ret ?_)))
 exact ⟨_, resOf1 rfl Res1.t, ⟨r3, rfl, h⟩⟩

def F56 (p0 : Int) (H : Hp) (Q : Int → Int → ByteArray → Bool → Hp → Prop) : Prop :=
∀ H1 : Hp, H1 = Array.push H (.cells (vR 0 0 bE false).toArray 35) → (
 mayw H1 (bk H) 4 0 ∧ ∀ H3 : Hp, H3 = sets H1 (bk H) (vR 1 p0 bE false) 0 → (
 ∃ (x6 x7 : Int) (x8 : ByteArray) (x9 : Bool), cells H3 (bk H) (vR x6 x7 x8 x9) 0 ∧ (
 Q x6 x7 x8 x9 H3)))
theorem walk56 {w0 : World} {p0 : Int} {H : Hp} {Q : Int → Int → ByteArray → Bool → Hp → Prop} (h : F56 p0 H Q) :
  Good prog w0 56 #[(iv p0)] H (fun v H => ∃ (r0 r1 : Int) (r2 : ByteArray) (r3 : Bool) , v = (.agg (vR r0 r1 r2 r3).toArray) ∧ Q r0 r1 r2 r3 H) := by
 unfold F56 at h
 refine Good.enter' (fn := f56) func56 rfl rfl rfl (ws (wr_ (ho rfl (HOp.alloc zeroValue35) ?_)))
 rintro _ H1 ⟨rfl, e2⟩
 replace h := h H1 e2
 refine hn (nt (ws (wr_ (hv (v := (iv p0)) rfl (mv rfl) (hv (v := (.agg (vR 1 p0 bE false).toArray)) rfl (HVal.build' (cs := (vR 1 p0 bE false)) runUnderlying35 zeroValue35 places35 rfl) ?_)))))
 obtain ⟨z5, h⟩ := h
 refine hq (HOp.storeN' (l := (vR 1 p0 bE false)) sizeOf35 rfl rfl rfl z5) ?_
 rintro _ H3 e4
 replace h := h H3 e4
 refine hn (nt (HW.ret ?_))
 obtain ⟨x6, x7, x8, x9, c10, h⟩ := h
 exact ⟨_, resOf1 rfl (Res1.n (vR x6 x7 x8 x9) isAgg35 sizeOf35 rfl c10), ⟨x6, x7, x8, x9, rfl, h⟩⟩

def F57 (p0 : ByteArray) (H : Hp) (Q : Int → Int → ByteArray → Bool → Hp → Prop) : Prop :=
∀ H1 : Hp, H1 = Array.push H (.cells (vR 0 0 bE false).toArray 35) → (
 mayw H1 (bk H) 4 0 ∧ ∀ H3 : Hp, H3 = sets H1 (bk H) (vR 2 0 p0 false) 0 → (
 ∃ (x6 x7 : Int) (x8 : ByteArray) (x9 : Bool), cells H3 (bk H) (vR x6 x7 x8 x9) 0 ∧ (
 Q x6 x7 x8 x9 H3)))
theorem walk57 {w0 : World} {p0 : ByteArray} {H : Hp} {Q : Int → Int → ByteArray → Bool → Hp → Prop} (h : F57 p0 H Q) :
  Good prog w0 57 #[(sv p0)] H (fun v H => ∃ (r0 r1 : Int) (r2 : ByteArray) (r3 : Bool) , v = (.agg (vR r0 r1 r2 r3).toArray) ∧ Q r0 r1 r2 r3 H) := by
 unfold F57 at h
 refine Good.enter' (fn := f57) func57 rfl rfl rfl (ws (wr_ (ho rfl (HOp.alloc zeroValue35) ?_)))
 rintro _ H1 ⟨rfl, e2⟩
 replace h := h H1 e2
 refine hn (nt (ws (wr_ (hv (v := (sv p0)) rfl (mv rfl) (hv (v := (.agg (vR 2 0 p0 false).toArray)) rfl (HVal.build' (cs := (vR 2 0 p0 false)) runUnderlying35 zeroValue35 places35 rfl) ?_)))))
 obtain ⟨z5, h⟩ := h
 refine hq (HOp.storeN' (l := (vR 2 0 p0 false)) sizeOf35 rfl rfl rfl z5) ?_
 rintro _ H3 e4
 replace h := h H3 e4
 refine hn (nt (HW.ret ?_))
 obtain ⟨x6, x7, x8, x9, c10, h⟩ := h
 exact ⟨_, resOf1 rfl (Res1.n (vR x6 x7 x8 x9) isAgg35 sizeOf35 rfl c10), ⟨x6, x7, x8, x9, rfl, h⟩⟩

def F58 (p0 : Bool) (H : Hp) (Q : Int → Int → ByteArray → Bool → Hp → Prop) : Prop :=
∀ H1 : Hp, H1 = Array.push H (.cells (vR 0 0 bE false).toArray 35) → (
 mayw H1 (bk H) 4 0 ∧ ∀ H3 : Hp, H3 = sets H1 (bk H) (vR 3 0 bE p0) 0 → (
 ∃ (x6 x7 : Int) (x8 : ByteArray) (x9 : Bool), cells H3 (bk H) (vR x6 x7 x8 x9) 0 ∧ (
 Q x6 x7 x8 x9 H3)))
theorem walk58 {w0 : World} {p0 : Bool} {H : Hp} {Q : Int → Int → ByteArray → Bool → Hp → Prop} (h : F58 p0 H Q) :
  Good prog w0 58 #[(bv p0)] H (fun v H => ∃ (r0 r1 : Int) (r2 : ByteArray) (r3 : Bool) , v = (.agg (vR r0 r1 r2 r3).toArray) ∧ Q r0 r1 r2 r3 H) := by
 unfold F58 at h
 refine Good.enter' (fn := f58) func58 rfl rfl rfl (ws (wr_ (ho rfl (HOp.alloc zeroValue35) ?_)))
 rintro _ H1 ⟨rfl, e2⟩
 replace h := h H1 e2
 refine hn (nt (ws (wr_ (hv (v := (bv p0)) rfl (mv rfl) (hv (v := (.agg (vR 3 0 bE p0).toArray)) rfl (HVal.build' (cs := (vR 3 0 bE p0)) runUnderlying35 zeroValue35 places35 rfl) ?_)))))
 obtain ⟨z5, h⟩ := h
 refine hq (HOp.storeN' (l := (vR 3 0 bE p0)) sizeOf35 rfl rfl rfl z5) ?_
 rintro _ H3 e4
 replace h := h H3 e4
 refine hn (nt (HW.ret ?_))
 obtain ⟨x6, x7, x8, x9, c10, h⟩ := h
 exact ⟨_, resOf1 rfl (Res1.n (vR x6 x7 x8 x9) isAgg35 sizeOf35 rfl c10), ⟨x6, x7, x8, x9, rfl, h⟩⟩

def F27 (p0_0 p0_1 : Int) (p0_2 : ByteArray) (p0_3 : Bool) (H : Hp) (Q : Bool → Hp → Prop) : Prop :=
∀ H1 : Hp, H1 = Array.push H (.cells (vR p0_0 p0_1 p0_2 p0_3).toArray 35) → (
 ∃ x4 : Int, cell H1 (bk H) = some (iv x4) ∧ (
 ((decide (x4 = 1)) = true → (∃ (x7 x8 : Int) (x9 : ByteArray) (x10 : Bool), cells H1 (bk H) (vR x7 x8 x9 x10) 0 ∧ (
 ∃ x12 : Int, cell H1 (Addr.add (bk H) 1) = some (iv x12) ∧ (
 F56 x12 H1 (fun (r15 r16 : Int) (r17 : ByteArray) (r18 : Bool) (H13 : Hp) => 
 cells H13 (bk H) (vR x7 x8 x9 x10) 0 ∧ (
 Q (decide (x7 = r15) && (decide (x8 = r16) && (seq x9 r17 && (x10 == r18)))) H13)))))) ∧
 ((decide (x4 = 1)) = false → (((decide (x4 = 2)) = true → (∃ (x22 x23 : Int) (x24 : ByteArray) (x25 : Bool), cells H1 (bk H) (vR x22 x23 x24 x25) 0 ∧ (
 ∃ x27 : ByteArray, cell H1 (Addr.add (bk H) 2) = some (sv x27) ∧ (
 F57 x27 H1 (fun (r30 r31 : Int) (r32 : ByteArray) (r33 : Bool) (H28 : Hp) => 
 cells H28 (bk H) (vR x22 x23 x24 x25) 0 ∧ (
 ((decide (x22 = r30) && (decide (x23 = r31) && (seq x24 r32 && (x25 == r33)))) = true → (∃ x38 : ByteArray, cell H28 (Addr.add (bk H) 2) = some (sv x38) ∧ (
 Q (decide (((x38).size : Int) ≤ 256)) H28))) ∧
 ((decide (x22 = r30) && (decide (x23 = r31) && (seq x24 r32 && (x25 == r33)))) = false → (Q false H28)))))))) ∧
 ((decide (x4 = 2)) = false → (((decide (x4 = 3)) = true → (∃ (x41 x42 : Int) (x43 : ByteArray) (x44 : Bool), cells H1 (bk H) (vR x41 x42 x43 x44) 0 ∧ (
 ∃ x46 : Bool, cell H1 (Addr.add (bk H) 3) = some (bv x46) ∧ (
 F58 x46 H1 (fun (r49 r50 : Int) (r51 : ByteArray) (r52 : Bool) (H47 : Hp) => 
 cells H47 (bk H) (vR x41 x42 x43 x44) 0 ∧ (
 Q (decide (x41 = r49) && (decide (x42 = r50) && (seq x43 r51 && (x44 == r52)))) H47)))))) ∧
 ((decide (x4 = 3)) = false → (Q false H1))))))))
theorem walk27 {w0 : World} {p0_0 p0_1 : Int} {p0_2 : ByteArray} {p0_3 : Bool} {H : Hp} {Q : Bool → Hp → Prop} (h : F27 p0_0 p0_1 p0_2 p0_3 H Q) :
  Good prog w0 27 #[(.agg (vR p0_0 p0_1 p0_2 p0_3).toArray)] H (fun v H => ∃ (r0 : Bool) , v = (bv r0) ∧ Q r0 H) := by
 unfold F27 at h
 refine Good.enter' (fn := f27) func27 rfl rfl rfl (ws (wr_ (ho rfl (ob (v := (.agg (vR p0_0 p0_1 p0_2 p0_3).toArray)) rfl) ?_)))
 rintro _ H1 ⟨rfl, e2⟩
 replace h := h H1 e2
 refine hv (v := (bv false)) rfl (av rfl) (hn (nt (ws (ws (wr_ (hv (v := (pp (bk H))) rfl (HVal.fieldAddr0 runUnderlying35 rfl rfl sizeOf3 rfl) ?_))))))
 obtain ⟨x4, c3, h⟩ := h
 refine hv (v := (iv x4)) rfl (l1 isAgg3 rfl c3) (hn (nt (wb (ws (wr_ (hv (v := (bv (decide (x4 = 1)))) rfl (HVal.eqlI rfl rfl) ?_))))))
 refine hv (v := (bv (decide (x4 = 1)))) rfl (av rfl) (hn (nt ?_))
 obtain ⟨hT, hF⟩ := h
 refine wk (decide (x4 = 1)) rfl (fun hb5 => ?_) (fun hb5 => ?_)
 ·have h := hT hb5
  refine ws (HW.draw mixed [(0, some []), (1, some []), (2, some [3]), (3, none), (4, some []), (5, some [])] rfl (by kernel_rfl) (by kernel_rfl) ?_)
  obtain ⟨x7, x8, x9, x10, c6, h⟩ := h
  refine pl (v := (.agg (vR x7 x8 x9 x10).toArray)) (fun X => cells X (bk H) (vR x7 x8 x9 x10) 0) rfl rfl (fun _ hX => ln (vR x7 x8 x9 x10) isAgg35 sizeOf35 rfl hX) c6 ?_
  refine pv (v := (pp (Addr.add (bk H) 1))) rfl rfl (fun _ => fa runUnderlying35 rfl rfl sizeOf2 rfl) ?_
  obtain ⟨x12, c11, h⟩ := h
  refine pl (v := (iv x12)) (fun X => cell X (Addr.add (bk H) 1) = some (iv x12)) rfl rfl (fun _ hX => l1 isAgg2 rfl hX) c11 (po rfl rfl (HOp.call' 56 [(iv x12)] (cap := []) rfl rfl call56 (walk56 h)) ?_)
  rintro _ H13 ⟨r15, r16, r17, r18, rfl, h⟩
  obtain ⟨s19, h⟩ := h
  refine ⟨SC_of ⟨nofun, fun _ => s19, trivial⟩, ?_⟩
  refine pv (v := (bv (decide (x7 = r15) && (decide (x8 = r16) && (seq x9 r17 && (x10 == r18)))))) rfl rfl (fun _ => eqs35_eql rfl rfl) (pv (v := (bv (decide (x7 = r15) && (decide (x8 = r16) && (seq x9 r17 && (x10 == r18)))))) rfl rfl (fun _ => av rfl) ?_)
  refine HPlan.done (nt (HW.ret (br (tr ?_))))
  exact ⟨_, resOf1 rfl Res1.t, ⟨(decide (x7 = r15) && (decide (x8 = r16) && (seq x9 r17 && (x10 == r18)))), rfl, h⟩⟩
 have h := hF hb5
 refine ws (wr_ (hv (v := (bv (decide (x4 = 2)))) rfl (HVal.eqlI rfl rfl) (hv (v := (bv (decide (x4 = 2)))) rfl (av rfl) ?_)))
 refine hn (nt ?_)
 obtain ⟨hT, hF⟩ := h
 refine wk (decide (x4 = 2)) rfl (fun hb20 => ?_) (fun hb20 => ?_)
 ·have h := hT hb20
  refine ws (HW.draw mixed [(0, some []), (1, some []), (2, some [3]), (3, none), (4, some []), (5, some []), (6, some []), (7, some []), (8, some []), (9, some []), (10, some []), (11, some [])] rfl (by kernel_rfl) (by kernel_rfl) ?_)
  obtain ⟨x22, x23, x24, x25, c21, h⟩ := h
  refine pl (v := (.agg (vR x22 x23 x24 x25).toArray)) (fun X => cells X (bk H) (vR x22 x23 x24 x25) 0) rfl rfl (fun _ hX => ln (vR x22 x23 x24 x25) isAgg35 sizeOf35 rfl hX) c21 ?_
  refine pv (v := (pp (Addr.add (bk H) 2))) rfl rfl (fun _ => fa runUnderlying35 rfl rfl sizeOf9 rfl) ?_
  obtain ⟨x27, c26, h⟩ := h
  refine pl (v := (sv x27)) (fun X => cell X (Addr.add (bk H) 2) = some (sv x27)) rfl rfl (fun _ hX => l1 isAgg9 rfl hX) c26 (po rfl rfl (HOp.call' 57 [(sv x27)] (cap := []) rfl rfl call57 (walk57 h)) ?_)
  rintro _ H28 ⟨r30, r31, r32, r33, rfl, h⟩
  obtain ⟨s34, h⟩ := h
  refine ⟨SC_of ⟨nofun, fun _ => s34, trivial⟩, ?_⟩
  refine pv (v := (bv (decide (x22 = r30) && (decide (x23 = r31) && (seq x24 r32 && (x25 == r33)))))) rfl rfl (fun _ => eqs35_eql rfl rfl) (pv (v := (bv (decide (x22 = r30) && (decide (x23 = r31) && (seq x24 r32 && (x25 == r33)))))) rfl rfl (fun _ => mv rfl) ?_)
  obtain ⟨hT, hF⟩ := h
  rcases Bool.eq_false_or_eq_true (decide (x22 = r30) && (decide (x23 = r31) && (seq x24 r32 && (x25 == r33)))) with hb35 | hb36
  ·have h := hT hb35
   refine HPlan.gtakev (v := (pp (Addr.add (bk H) 2))) rfl rfl rfl rfl rfl (cB hb35) (fun _ => fa runUnderlying35 rfl rfl sizeOf9 rfl) ?_
   obtain ⟨x38, c37, h⟩ := h
   refine HPlan.gtakel (v := (sv x38)) (fun X => cell X (Addr.add (bk H) 2) = some (sv x38)) rfl rfl rfl rfl rfl (cB hb35) (fun _ hX => l1 isAgg9 rfl hX) c37 ?_
   refine HPlan.gtakev (v := (iv ((x38).size : Int))) rfl rfl rfl rfl rfl (cB hb35) (fun _ => HVal.lenS runUnderlying9 rfl) (HPlan.gtakev (v := (bv (decide (((x38).size : Int) ≤ 256)))) rfl rfl rfl rfl rfl (cB hb35) (fun _ => HVal.leq rfl rfl) ?_)
   refine pv (v := (bv (decide (((x38).size : Int) ≤ 256)))) rfl rfl (fun _ => pt_ rfl hb35 rfl) (pv (v := (bv (decide (((x38).size : Int) ≤ 256)))) rfl rfl (fun _ => av rfl) ?_)
   refine HPlan.done (nt (HW.ret (br (tr ?_))))
   exact ⟨_, resOf1 rfl Res1.t, ⟨(decide (((x38).size : Int) ≤ 256)), rfl, h⟩⟩
  have h := hF hb36
  refine pg rfl rfl rfl rfl (cB hb36) (pg rfl rfl rfl rfl (cB hb36) (pg rfl rfl rfl rfl (cB hb36) (pg rfl rfl rfl rfl (cB hb36) ?_)))
  refine pv (v := (bv false)) rfl rfl (fun _ => pf_ rfl hb36 rfl) (pv (v := (bv false)) rfl rfl (fun _ => av rfl) (HPlan.done ?_))
  refine nt (HW.ret (br (tr ?_)))
  exact ⟨_, resOf1 rfl Res1.t, ⟨false, rfl, h⟩⟩
 have h := hF hb20
 refine ws (wr_ (hv (v := (bv (decide (x4 = 3)))) rfl (HVal.eqlI rfl rfl) (hv (v := (bv (decide (x4 = 3)))) rfl (av rfl) ?_)))
 refine hn (nt ?_)
 obtain ⟨hT, hF⟩ := h
 refine wk (decide (x4 = 3)) rfl (fun hb39 => ?_) (fun hb39 => ?_)
 ·have h := hT hb39
  refine ws (HW.draw mixed [(0, some []), (1, some []), (2, some [3]), (3, none), (4, some []), (5, some [])] rfl (by kernel_rfl) (by kernel_rfl) ?_)
  obtain ⟨x41, x42, x43, x44, c40, h⟩ := h
  refine pl (v := (.agg (vR x41 x42 x43 x44).toArray)) (fun X => cells X (bk H) (vR x41 x42 x43 x44) 0) rfl rfl (fun _ hX => ln (vR x41 x42 x43 x44) isAgg35 sizeOf35 rfl hX) c40 ?_
  refine pv (v := (pp (Addr.add (bk H) 3))) rfl rfl (fun _ => fa runUnderlying35 rfl rfl sizeOf4 rfl) ?_
  obtain ⟨x46, c45, h⟩ := h
  refine pl (v := (bv x46)) (fun X => cell X (Addr.add (bk H) 3) = some (bv x46)) rfl rfl (fun _ hX => l1 isAgg4 rfl hX) c45 (po rfl rfl (HOp.call' 58 [(bv x46)] (cap := []) rfl rfl call58 (walk58 h)) ?_)
  rintro _ H47 ⟨r49, r50, r51, r52, rfl, h⟩
  obtain ⟨s53, h⟩ := h
  refine ⟨SC_of ⟨nofun, fun _ => s53, trivial⟩, ?_⟩
  refine pv (v := (bv (decide (x41 = r49) && (decide (x42 = r50) && (seq x43 r51 && (x44 == r52)))))) rfl rfl (fun _ => eqs35_eql rfl rfl) (pv (v := (bv (decide (x41 = r49) && (decide (x42 = r50) && (seq x43 r51 && (x44 == r52)))))) rfl rfl (fun _ => av rfl) ?_)
  refine HPlan.done (nt (HW.ret (br (tr ?_))))
  exact ⟨_, resOf1 rfl Res1.t, ⟨(decide (x41 = r49) && (decide (x42 = r50) && (seq x43 r51 && (x44 == r52)))), rfl, h⟩⟩
 have h := hF hb39
 refine wp_ (nb (nt (ws (wr_ (hv (v := (bv false)) rfl (av rfl) (hn (nt (HW.ret ?_))))))))
 exact ⟨_, resOf1 rfl Res1.t, ⟨false, rfl, h⟩⟩

def F11_L2b (Q X2 : Int → Hp → Prop) (y39 : Addr) (y40 : Sl) (y41 y38 : Int) (H_2 : Hp) : Prop :=
((decide (y38 < y41)) = true → (∃ a43 : Addr, (y40).b = some a43 ∧ (0 : Int) ≤ y38 ∧ y38 < ((y40).n : Int) ∧ (
 ∃ (x48 x49 : Int) (x50 : ByteArray) (x51 : Bool), cells H_2 (Addr.add a43 (y38.toNat * 4)) (vR x48 x49 x50 x51) 0 ∧ (
 ∀ H52 : Hp, H52 = Array.push H_2 (.cells (vR 0 0 bE false).toArray 35) → (
 mayw H52 (bk H_2) 4 0 ∧ ∀ H54 : Hp, H54 = sets H52 (bk H_2) (vR x48 x49 x50 x51) 0 → (
 ∃ x58 : Int, cell H54 (bk H_2) = some (iv x58) ∧ (
 ∃ x60 : Sl, cell H54 (Addr.add y39 1) = some (Sl.v x60) ∧ (
 ∃ a61 : Addr, (x60).b = some a61 ∧ (0 : Int) ≤ y38 ∧ y38 < ((x60).n : Int) ∧ (
 ∃ x66 : Int, cell H54 (Addr.add (Addr.add a61 (y38.toNat * 2)) 1) = some (iv x66) ∧ (
 ((decide (x58 ≠ x66)) = true → (Q 10 H54)) ∧
 ((decide (x58 ≠ x66)) = false → (∃ (x69 x70 : Int) (x71 : ByteArray) (x72 : Bool), cells H54 (bk H_2) (vR x69 x70 x71 x72) 0 ∧ (
 F27 x69 x70 x71 x72 H54 (fun (r75 : Bool) (H73 : Hp) => 
 ((!r75) = true → (Q 12 H73)) ∧
 ((!r75) = false → (X2 (IntKind.i64.wrap (y38 + 1)) H73)))))))))))))))) ∧
 ((decide (y38 < y41)) = false → (Q 0 H_2))
def F11_L2 (Q : Int → Hp → Prop) (y39 : Addr) (y40 : Sl) (y41 y38 : Int) (H_2 : Hp) : Prop :=
 ∀ X2 : Int → Hp → Prop, (∀ (y38 : Int) (H_2 : Hp), F11_L2b Q X2 y39 y40 y41 y38 H_2 → X2 y38 H_2) → X2 y38 H_2
def F11_1 (Q : Int → Hp → Prop) (y21 y22 : Addr) (y27 : Bool) (H_1 : Hp) : Prop :=
(y27 = true → (Q 23 H_1)) ∧
 (y27 = false → (∃ x32 : Sl, cell H_1 (Addr.add y21 2) = some (Sl.v x32) ∧ (
 ∃ x34 : Sl, cell H_1 (Addr.add y22 1) = some (Sl.v x34) ∧ (
 ((decide (((x32).n : Int) ≠ ((x34).n : Int))) = true → (Q 22 H_1)) ∧
 ((decide (((x32).n : Int) ≠ ((x34).n : Int))) = false → (∃ x37 : Sl, cell H_1 (Addr.add y21 2) = some (Sl.v x37) ∧ (
 F11_L2 Q y22 x37 ((x37).n : Int) 0 H_1)))))))
def F11 (p0 : (Option Addr)) (p1_0 : ByteArray) (p1_1 : Int) (p1_2 : Sl) (H : Hp) (Q : Int → Hp → Prop) : Prop :=
∀ H1 : Hp, H1 = Array.push H (.cells (tR p1_0 p1_1 p1_2).toArray 33) → (
 ∃ a3 : Addr, p0 = some a3 ∧ (
 ∃ x6 : (Option Nat), cell H1 a3 = some (.map x6) ∧ (
 ∃ x8 : ByteArray, cell H1 (bk H) = some (sv x8) ∧ (
 ∃ (L9 : ML ByteArray (ByteArray × Sl)) (c10 : Nat), MapK mk9 mv27 Always H1 x6 L9 c10 x8 ∧ (
 ∀ H12 : Hp, H12 = Array.push H1 (.cells #[(sv bE), sN] 27) → (
 MapK mk9 mv27 Always H12 x6 L9 c10 x8 ∧ cell H12 (bk H) = some (sv x8) ∧ cell H12 a3 = some (.map x6) ∧ (
 mayw H12 (bk H1) 2 0 ∧ ∀ H17 : Hp, H17 = sets H12 (bk H1) [(sv ((mget L9 x8).getD (bE, Sl.nil)).1), (Sl.v ((mget L9 x8).getD (bE, Sl.nil)).2)] 0 → (
 ((!((mget L9 x8).isSome)) = true → (Q 21 H17)) ∧
 ((!((mget L9 x8).isSome)) = false → (∃ x24 : Int, cell H17 (Addr.add (bk H) 1) = some (iv x24) ∧ (
 ((decide (x24 < 0)) = true → (F11_1 Q (bk H) (bk H1) true H17)) ∧
 ((decide (x24 < 0)) = false → (∃ x29 : Int, cell H17 (Addr.add (bk H) 1) = some (iv x29) ∧ (
 F11_1 Q (bk H) (bk H1) (decide ((4611686018427387904 : Int) < x29)) H17))))))))))))))
theorem walk11 {w0 : World} {p0 : (Option Addr)} {p1_0 : ByteArray} {p1_1 : Int} {p1_2 : Sl} {H : Hp} {Q : Int → Hp → Prop} (h : F11 p0 p1_0 p1_1 p1_2 H Q) :
  Good prog w0 11 #[(.pointer p0), (.agg (tR p1_0 p1_1 p1_2).toArray)] H (fun v H => ∃ (r0 : Int) , v = (iv r0) ∧ Q r0 H) := by
 unfold F11 at h
 refine Good.enter' (fn := f11) func11 rfl rfl rfl (ws (wr_ (ho rfl (ob (v := (.agg (tR p1_0 p1_1 p1_2).toArray)) rfl) ?_)))
 rintro _ H1 ⟨rfl, e2⟩
 replace h := h H1 e2
 refine hv (v := (iv 0)) rfl (av rfl) (hn (nt (ws (HW.draw mixed [(0, some []), (1, some []), (2, some []), (3, some [11]), (4, some []), (5, some [11]), (6, some [11]), (7, some []), (8, some []), (9, some []), (10, none), (11, none), (12, some [])] rfl (by kernel_rfl) (by kernel_rfl) ?_))))
 refine pv (v := (.pointer p0)) rfl rfl (fun _ => mv rfl) ?_
 obtain ⟨a3, e4, h⟩ := h
 refine pv (v := (pp a3)) rfl rfl (fun _ => HVal.nilCheck (congrArg Value.pointer e4)) (pv (v := (pp a3)) rfl rfl (fun _ => HVal.fieldAddr0 runUnderlying72 rfl rfl sizeOf70 rfl) ?_)
 obtain ⟨x6, c5, h⟩ := h
 refine pl (v := (.map x6)) (fun X => cell X a3 = some (.map x6)) rfl rfl (fun _ hX => l1 isAgg70 rfl hX) c5 (pv (v := (pp (bk H))) rfl rfl (fun _ => HVal.fieldAddr0 runUnderlying33 rfl rfl sizeOf9 rfl) ?_)
 obtain ⟨x8, c7, h⟩ := h
 refine pl (v := (sv x8)) (fun X => cell X (bk H) = some (sv x8)) rfl rfl (fun _ hX => l1 isAgg9 rfl hX) c7 ?_
 obtain ⟨L9, c10, c11, h⟩ := h
 refine pl (v := (.tuple #[(.agg #[(sv ((mget L9 x8).getD (bE, Sl.nil)).1), (Sl.v ((mget L9 x8).getD (bE, Sl.nil)).2)]), (bv ((mget L9 x8).isSome))])) (fun X => MapK mk9 mv27 Always X x6 L9 c10 x8) rfl rfl (fun _ hX => HVal.lookupOk (f := mk9) (g := mv27) (k := x8) (z := (bE, Sl.nil)) runUnderlying70 mkk9 zeroValue27 rfl rfl hX) c11 ?_
 refine pv (v := (.tuple #[(.agg #[(sv ((mget L9 x8).getD (bE, Sl.nil)).1), (Sl.v ((mget L9 x8).getD (bE, Sl.nil)).2)]), (bv ((mget L9 x8).isSome))])) rfl rfl (fun _ => mv rfl) ?_
 refine pv (v := (.agg #[(sv ((mget L9 x8).getD (bE, Sl.nil)).1), (Sl.v ((mget L9 x8).getD (bE, Sl.nil)).2)])) rfl rfl (fun _ => HVal.extract rfl rfl) ?_
 refine pv (v := (bv ((mget L9 x8).isSome))) rfl rfl (fun _ => HVal.extract rfl rfl) (po rfl rfl (HOp.alloc zeroValue27) ?_)
 rintro _ H12 ⟨rfl, e13⟩
 replace h := h H12 e13
 obtain ⟨s14, s15, s16, h⟩ := h
 refine ⟨SC_of ⟨fun _ => s14, fun _ => s15, fun _ => s16, trivial⟩, ?_⟩
 obtain ⟨z19, h⟩ := h
 refine pn rfl (HOp.storeN' (l := [(sv ((mget L9 x8).getD (bE, Sl.nil)).1), (Sl.v ((mget L9 x8).getD (bE, Sl.nil)).2)]) sizeOf27 rfl rfl rfl z19) ?_
 rintro _ H17 e18
 replace h := h H17 e18
 refine ⟨SC_of ⟨nofun, nofun, nofun, trivial⟩, ?_⟩
 refine pv (v := (bv ((mget L9 x8).isSome))) rfl rfl (fun _ => av rfl) (HPlan.done (nt (ws (wb (ws (wr_ (hv (v := (bv ((mget L9 x8).isSome))) rfl (mv rfl) ?_)))))))
 refine hv (v := (bv (!((mget L9 x8).isSome)))) rfl (HVal.not rfl) (hv (v := (bv (!((mget L9 x8).isSome)))) rfl (av rfl) (hn (nt ?_)))
 obtain ⟨hT, hF⟩ := h
 refine wk (!((mget L9 x8).isSome)) rfl (fun hb20 => ?_) (fun hb20 => ?_)
 ·have h := hT hb20
  refine ws (wr_ (hv (v := (iv 21)) rfl (av rfl) (hn (nt (HW.ret (br (tr ?_)))))))
  exact ⟨_, resOf1 rfl Res1.t, ⟨21, rfl, h⟩⟩
 have h := hF hb20
 refine wc (fun ρ H_1 => ∃ (y27 : Bool), Env.Is ρ [(3, (pp (bk H))), (5, (pp (bk H1))), (22, (bv y27))] ∧ F11_1 Q (bk H) (bk H1) y27 H_1) ?_ ?_
 ·refine wr_ (hv (v := (pp (Addr.add (bk H) 1))) rfl (fa runUnderlying33 rfl rfl sizeOf2 rfl) ?_)
  obtain ⟨x24, c23, h⟩ := h
  refine hv (v := (iv x24)) rfl (l1 isAgg2 rfl c23) (hv (v := (bv (decide (x24 < 0)))) rfl (HVal.lss rfl rfl) (hv (v := (bv (decide (x24 < 0)))) rfl (mv rfl) ?_))
  obtain ⟨hT, hF⟩ := h
  rcases Bool.eq_false_or_eq_true (decide (x24 < 0)) with hb25 | hb26
  ·have h := hT hb25
   refine hs_ rfl rfl rfl rfl (cB hb25) (hs_ rfl rfl rfl rfl (cB hb25) (hs_ rfl rfl rfl rfl (cB hb25) (hv (v := (bv true)) rfl (pt_ rfl hb25 rfl) ?_)))
   refine hv (v := (bv true)) rfl (av rfl) (hn (nt ?_))
   exact ⟨true, (isp rfl), h⟩
  have h := hF hb26
  refine hg (v := (pp (Addr.add (bk H) 1))) rfl rfl rfl rfl (cB hb26) (fa runUnderlying33 rfl rfl sizeOf2 rfl) ?_
  obtain ⟨x29, c28, h⟩ := h
  refine hg (v := (iv x29)) rfl rfl rfl rfl (cB hb26) (l1 isAgg2 rfl c28) (hg (v := (bv (decide ((4611686018427387904 : Int) < x29)))) rfl rfl rfl rfl (cB hb26) (HVal.gtr rfl rfl) ?_)
  refine hv (v := (bv (decide ((4611686018427387904 : Int) < x29)))) rfl (pf_ rfl hb26 rfl) (hv (v := (bv (decide ((4611686018427387904 : Int) < x29)))) rfl (av rfl) ?_)
  refine hn (nt ?_)
  exact ⟨(decide ((4611686018427387904 : Int) < x29)), (isp rfl), h⟩
 rintro ρ H_1 ⟨y27, hI, h⟩
 obtain ⟨ρ0, rfl⟩ := hI.ex
 clear hI; unfold F11_1 at h
 obtain ⟨hT, hF⟩ := h
 refine wk y27 rfl (fun hb30 => ?_) (fun hb30 => ?_)
 ·have h := hT hb30
  refine ws (wr_ (hv (v := (iv 23)) rfl (av rfl) (hn (nt (HW.ret (br (tr ?_)))))))
  exact ⟨_, resOf1 rfl Res1.t, ⟨23, rfl, h⟩⟩
 have h := hF hb30
 refine ws (wr_ (hv (v := (pp (Addr.add (bk H) 2))) rfl (fa runUnderlying33 rfl rfl sizeOf31 rfl) ?_))
 obtain ⟨x32, c31, h⟩ := h
 refine hv (v := (Sl.v x32)) rfl (l1 isAgg31 rfl c31) (hv (v := (iv ((x32).n : Int))) rfl (HVal.len runUnderlying31 rfl) (hv (v := (pp (Addr.add (bk H1) 1))) rfl (fa runUnderlying27 rfl rfl sizeOf25 rfl) ?_))
 obtain ⟨x34, c33, h⟩ := h
 refine hv (v := (Sl.v x34)) rfl (l1 isAgg25 rfl c33) (hv (v := (iv ((x34).n : Int))) rfl (HVal.len runUnderlying25 rfl) (hv (v := (bv (decide (((x32).n : Int) ≠ ((x34).n : Int))))) rfl (HVal.neqI rfl rfl) ?_))
 refine hv (v := (bv (decide (((x32).n : Int) ≠ ((x34).n : Int))))) rfl (av rfl) (hn (nt ?_))
 obtain ⟨hT, hF⟩ := h
 refine wk (decide (((x32).n : Int) ≠ ((x34).n : Int))) rfl (fun hb35 => ?_) (fun hb35 => ?_)
 ·have h := hT hb35
  refine ws (wr_ (hv (v := (iv 22)) rfl (av rfl) (hn (nt (HW.ret (br (tr ?_)))))))
  exact ⟨_, resOf1 rfl Res1.t, ⟨22, rfl, h⟩⟩
 have h := hF hb35
 refine wp_ (nb (nt (ws (ws (wr_ (hv (v := (pp (Addr.add (bk H) 2))) rfl (fa runUnderlying33 rfl rfl sizeOf31 rfl) ?_))))))
 obtain ⟨x37, c36, h⟩ := h
 refine hv (v := (Sl.v x37)) rfl (l1 isAgg31 rfl c36) (hv (v := (iv ((x37).n : Int))) rfl (HVal.len runUnderlying31 rfl) (hv (v := (iv 0)) rfl (mv rfl) ?_))
 refine hn (nt (wb (HW.loop' (fun L2 hL2 => ?_))))
 obtain ⟨X2, hX2⟩ : ∃ X2 : Int → Hp → Prop, ∀ (y38 : Int) (H_2 : Hp), X2 y38 H_2 ↔ ∀ ρ, Env.Is ρ [(5, (pp (bk H1))), (40, (Sl.v x37)), (41, (iv ((x37).n : Int))), (42, (iv y38))] → L2 ρ H_2 := ⟨_, fun _ _ => Iff.rfl⟩
 refine (hX2 _ _).1 (h X2 ?_) _ ?_
 rotate_left
 ·exact (isp rfl)
 clear h
 intro y38 H_2 h
 refine (hX2 _ _).2 fun ρ hI => ?_
 obtain ⟨ρ0, rfl⟩ := hI.ex
 clear hI; unfold F11_L2b at h; refine hL2 _ _ ?_
 refine ws (wr_ (hv (v := (bv (decide (y38 < ((x37).n : Int))))) rfl (HVal.lss rfl rfl) (hn (nt (ws ?_)))))
 obtain ⟨hT, hF⟩ := h
 refine wk (decide (y38 < ((x37).n : Int))) rfl (fun hb42 => ?_) (fun hb42 => ?_)
 ·have h := hT hb42
  refine wp_ (nt (ws (wb (ws (wr_ (hv (v := (iv y38)) rfl (mv rfl) ?_))))))
  obtain ⟨a43, e44, b45, b46, h⟩ := h
  refine hv (v := (pp (Addr.add a43 (y38.toNat * 4)))) rfl (ia runUnderlying31 sizeOf35 (Sl.v_some rfl e44) rfl b45 b46) ?_
  obtain ⟨x48, x49, x50, x51, c47, h⟩ := h
  refine hv (v := (.agg (vR x48 x49 x50 x51).toArray)) rfl (ln (vR x48 x49 x50 x51) isAgg35 sizeOf35 rfl c47) (ho rfl (HOp.alloc zeroValue35) ?_)
  rintro _ H52 ⟨rfl, e53⟩
  replace h := h H52 e53
  refine hv (v := (iv y38)) rfl (av rfl) ?_
  obtain ⟨z56, h⟩ := h
  refine hq (HOp.storeN' (l := (vR x48 x49 x50 x51)) sizeOf35 rfl rfl rfl z56) ?_
  rintro _ H54 e55
  replace h := h H54 e55
  refine hn (nt (ws (ws (HW.draw mixed [(0, some []), (1, some []), (2, some []), (3, some []), (4, some []), (5, some []), (6, some []), (7, some []), (8, some [])] rfl (by kernel_rfl) (by kernel_rfl) ?_))))
  refine pv (v := (pp (bk H_2))) rfl rfl (fun _ => HVal.fieldAddr0 runUnderlying35 rfl rfl sizeOf3 rfl) ?_
  obtain ⟨x58, c57, h⟩ := h
  refine pl (v := (iv x58)) (fun X => cell X (bk H_2) = some (iv x58)) rfl rfl (fun _ hX => l1 isAgg3 rfl hX) c57 (pv (v := (pp (Addr.add (bk H1) 1))) rfl rfl (fun _ => fa runUnderlying27 rfl rfl sizeOf25 rfl) ?_)
  obtain ⟨x60, c59, h⟩ := h
  refine pl (v := (Sl.v x60)) (fun X => cell X (Addr.add (bk H1) 1) = some (Sl.v x60)) rfl rfl (fun _ hX => l1 isAgg25 rfl hX) c59 (pv (v := (iv y38)) rfl rfl (fun _ => mv rfl) ?_)
  obtain ⟨a61, e62, b63, b64, h⟩ := h
  refine pv (v := (pp (Addr.add a61 (y38.toNat * 2)))) rfl rfl (fun _ => ia runUnderlying25 sizeOf38 (Sl.v_some rfl e62) rfl b63 b64) ?_
  refine pv (v := (pp (Addr.add (Addr.add a61 (y38.toNat * 2)) 1))) rfl rfl (fun _ => fa runUnderlying38 rfl rfl sizeOf3 rfl) ?_
  obtain ⟨x66, c65, h⟩ := h
  refine pl (v := (iv x66)) (fun X => cell X (Addr.add (Addr.add a61 (y38.toNat * 2)) 1) = some (iv x66)) rfl rfl (fun _ hX => l1 isAgg3 rfl hX) c65 ?_
  refine pv (v := (bv (decide (x58 ≠ x66)))) rfl rfl (fun _ => HVal.neqI rfl rfl) (HPlan.done (nt ?_))
  obtain ⟨hT, hF⟩ := h
  refine wk (decide (x58 ≠ x66)) rfl (fun hb67 => ?_) (fun hb67 => ?_)
  ·have h := hT hb67
   refine ws (wr_ (hv (v := (iv 10)) rfl (av rfl) (hn (nt (HW.ret (tr (br (tr (tr (br (tr ?_)))))))))))
   exact ⟨_, resOf1 rfl Res1.t, ⟨10, rfl, h⟩⟩
  have h := hF hb67
  refine wp_ (nt (ws (wr_ ?_)))
  obtain ⟨x69, x70, x71, x72, c68, h⟩ := h
  refine hv (v := (.agg (vR x69 x70 x71 x72).toArray)) rfl (ln (vR x69 x70 x71 x72) isAgg35 sizeOf35 rfl c68) (ho rfl (HOp.call' 27 [(.agg (vR x69 x70 x71 x72).toArray)] (cap := []) rfl rfl call27 (walk27 h)) ?_)
  rintro _ H73 ⟨r75, rfl, h⟩
  refine hv (v := (bv (!r75))) rfl (HVal.not rfl) (hn (nt ?_))
  obtain ⟨hT, hF⟩ := h
  refine wk (!r75) rfl (fun hb76 => ?_) (fun hb76 => ?_)
  ·have h := hT hb76
   refine ws (wr_ (hv (v := (iv 12)) rfl (av rfl) (hn (nt (HW.ret (br (tr (tr (br (tr ?_))))))))))
   exact ⟨_, resOf1 rfl Res1.t, ⟨12, rfl, h⟩⟩
  have h := hF hb76
  refine wp_ (nb (nt (wr_ (hv (v := (iv (IntKind.i64.wrap (y38 + 1)))) rfl (HVal.add rfl rfl) (hv (v := (iv (IntKind.i64.wrap (y38 + 1)))) rfl (mv rfl) ?_)))))
  refine hn (nt ?_)
  exact (hX2 _ _).1 h _ (isp rfl)
 have h := hF hb42
 refine we (te (te (be (nt (ws (wr_ (hv (v := (iv 0)) rfl (av rfl) (hn (nt (HW.ret ?_))))))))))
 exact ⟨_, resOf1 rfl Res1.t, ⟨0, rfl, h⟩⟩

def F35 (p0_0 : ByteArray) (p0_1 : Sl) (p1_0 : ByteArray) (p1_1 : Sl) (H : Hp) (Q : Int → Hp → Prop) : Prop :=
∀ H1 : Hp, H1 = Array.push H (.cells #[(sv p0_0), (Sl.v p0_1)] 27) → (
 ∀ H3 : Hp, H3 = Array.push H1 (.cells #[(sv p1_0), (Sl.v p1_1)] 27) → (
 ∃ x6 : ByteArray, cell H3 (bk H) = some (sv x6) ∧ (
 ∃ x8 : ByteArray, cell H3 (bk H1) = some (sv x8) ∧ (
 F36 x6 x8 H3 (fun (r11 : Int) (H9 : Hp) => 
 Q r11 H9)))))
theorem walk35 {w0 : World} {p0_0 : ByteArray} {p0_1 : Sl} {p1_0 : ByteArray} {p1_1 : Sl} {H : Hp} {Q : Int → Hp → Prop} (h : F35 p0_0 p0_1 p1_0 p1_1 H Q) :
  Good prog w0 35 #[(.agg #[(sv p0_0), (Sl.v p0_1)]), (.agg #[(sv p1_0), (Sl.v p1_1)])] H (fun v H => ∃ (r0 : Int) , v = (iv r0) ∧ Q r0 H) := by
 unfold F35 at h
 refine Good.enter' (fn := f35) func35 rfl rfl rfl (ws (wr_ (ho rfl (ob (v := (.agg #[(sv p0_0), (Sl.v p0_1)])) rfl) ?_)))
 rintro _ H1 ⟨rfl, e2⟩
 replace h := h H1 e2
 refine ho rfl (ob (v := (.agg #[(sv p1_0), (Sl.v p1_1)])) rfl) ?_
 rintro _ H3 ⟨rfl, e4⟩
 replace h := h H3 e4
 refine hv (v := (iv 0)) rfl (av rfl) (hn (nt (ws (wr_ (hv (v := (pp (bk H))) rfl (HVal.fieldAddr0 runUnderlying27 rfl rfl sizeOf9 rfl) ?_)))))
 obtain ⟨x6, c5, h⟩ := h
 refine hv (v := (sv x6)) rfl (l1 isAgg9 rfl c5) (hv (v := (pp (bk H1))) rfl (HVal.fieldAddr0 runUnderlying27 rfl rfl sizeOf9 rfl) ?_)
 obtain ⟨x8, c7, h⟩ := h
 refine hv (v := (sv x8)) rfl (l1 isAgg9 rfl c7) (ho rfl (HOp.call' 36 [(sv x6), (sv x8)] (cap := []) rfl rfl call36 (walk36 h)) ?_)
 rintro _ H9 ⟨r11, rfl, h⟩
 refine hv (v := (iv r11)) rfl (av rfl) (hn (nt (HW.ret ?_)))
 exact ⟨_, resOf1 rfl Res1.t, ⟨r11, rfl, h⟩⟩

def F18_1 (Q : Sl → Hp → Prop) (y31 : Sl) (H_1 : Hp) : Prop :=
F34_35 y31 H_1 (fun (H49 : Hp) => 
 Q y31 H49)
def F18_L2b (Q X2 : Sl → Hp → Prop) (y11 : Addr) (y10 : Sl) (H_2 : Hp) : Prop :=
∃ (m12 : Option Nat) (si13 : Nat) (se14 : List Nat) (la15 : Nat) (L16 : ML ByteArray (ByteArray × Sl)) (c17 : Nat), mIter H_2 y11 m12 si13 se14 la15 ∧ mapAt mk9 mv27 H_2 m12 L16 c17 ∧ MapWf L16 c17 ∧ (∀ e ∈ L16, e.2.2 < si13) ∧ si13 ≤ la15 ∧
 ((∀ e ∈ L16, e.2.2 ∈ se14) → (F18_1 Q y10 H_2)) ∧
 (∀ en23 ∈ L16, en23.2.2 ∉ se14 → ∀ H26 : Hp, H26 = seto H_2 y11.block (.mapIter m12 si13 (se14 ++ [en23.2.2]).toArray c17) → (∀ H32 : Hp, H32 = Array.push H26 (.cells #[(sv bE), sN] 27) → (
 mayw H32 (bk H26) 2 0 ∧ ∀ H34 : Hp, H34 = sets H32 (bk H26) [(sv en23.2.1.1), (Sl.v en23.2.1.2)] 0 → (
 ∃ (x38 : ByteArray) (x39 : Sl), cells H34 (bk H26) [(sv x38), (Sl.v x39)] 0 ∧ (
 F25 x38 x39 H34 (fun (r42 : ByteArray) (r43 : Sl) (H40 : Hp) => 
 ∀ H44 : Hp, H44 = Array.push H40 (.cells #[(sv r42), (Sl.v r43)] 27) → (
 AppendF H44 27 2 40 #[(sv bE), sN] y10 ((Sl.mk (some (bk H40)) 1 1)).b ((Sl.mk (some (bk H40)) 1 1)).n (fun (r48 : Sl) (H46 : Hp) => 
 X2 r48 H46))))))))
def F18_L2 (Q : Sl → Hp → Prop) (y11 : Addr) (y10 : Sl) (H_2 : Hp) : Prop :=
 ∀ X2 : Sl → Hp → Prop, (∀ (y10 : Sl) (H_2 : Hp), F18_L2b Q X2 y11 y10 H_2 → X2 y10 H_2) → X2 y10 H_2
def F18 (p0 : (Option Addr)) (H : Hp) (Q : Sl → Hp → Prop) : Prop :=
∃ a1 : Addr, p0 = some a1 ∧ (
 ∃ x4 : (Option Nat), cell H a1 = some (.map x4) ∧ (
 ∃ (L7 : ML ByteArray (ByteArray × Sl)) (c8 : Nat), mapAt mk9 mv27 H x4 L7 c8 ∧ ∀ H5 : Hp, H5 = Array.push H (.mapIter x4 (clk x4 c8) #[] (clk x4 c8)) → (
 F18_L2 Q (bk H) Sl.nil H5)))
theorem walk18 {w0 : World} {p0 : (Option Addr)} {H : Hp} {Q : Sl → Hp → Prop} (h : F18 p0 H Q) :
  Good prog w0 18 #[(.pointer p0)] H (fun v H => ∃ (r0 : Sl) , v = (Sl.v r0) ∧ Q r0 H) := by
 unfold F18 at h
 refine Good.enter' (fn := f18) func18 rfl rfl rfl (ws (wr_ (hv (v := sN) rfl (av rfl) (hn (nt (ws (wr_ ?_)))))))
 refine hv (v := sN) rfl (av rfl) (hn (nt (wc (fun ρ H_1 => ∃ (y31 : Sl), Env.Is ρ [(3, (Sl.v y31))] ∧ F18_1 Q y31 H_1) ?_ ?_)))
 ·refine ws (wr_ (hv (v := (.pointer p0)) rfl (mv rfl) ?_))
  obtain ⟨a1, e2, h⟩ := h
  refine hv (v := (pp a1)) rfl (HVal.nilCheck (congrArg Value.pointer e2)) (hv (v := (pp a1)) rfl (HVal.fieldAddr0 runUnderlying72 rfl rfl sizeOf70 rfl) ?_)
  obtain ⟨x4, c3, h⟩ := h
  refine hv (v := (.map x4)) rfl (l1 isAgg70 rfl c3) ?_
  obtain ⟨L7, c8, c9, h⟩ := h
  refine ho rfl (HOp.rangeM (f := mk9) (g := mv27) runUnderlying70 rfl c9) ?_
  rintro _ H5 ⟨rfl, e6⟩
  replace h := h H5 e6
  refine hn (nt (wb (HW.loop' (fun L2 hL2 => ?_))))
  obtain ⟨X2, hX2⟩ : ∃ X2 : Sl → Hp → Prop, ∀ (y10 : Sl) (H_2 : Hp), X2 y10 H_2 ↔ ∀ ρ, Env.Is ρ [(10, (pp (bk H))), (3, (Sl.v y10))] → L2 ρ H_2 := ⟨_, fun _ _ => Iff.rfl⟩
  refine (hX2 _ _).1 (h X2 ?_) _ ?_
  rotate_left
  ·exact (isp rfl)
  clear h
  intro y10 H_2 h
  refine (hX2 _ _).2 fun ρ hI => ?_
  obtain ⟨ρ0, rfl⟩ := hI.ex
  clear hI; unfold F18_L2b at h; refine hL2 _ _ ?_
  refine ws (wr_ ?_)
  obtain ⟨m12, si13, se14, la15, L16, c17, c18, c19, c20, c21, c22, hF, hT⟩ := h
  refine ho rfl (HOp.nextM (f := mk9) (g := mv27) rfl c18 c19 c21 c22) ?_
  rintro _ H26 (⟨rfl, rfl, c30⟩ | ⟨en23, c24, c25, rfl, e27⟩)
  ·have h := hF c30
   refine hv (v := (bv false)) rfl (HVal.extract rfl rfl) (hn (nt (ws (HW.condF false rfl rfl (we (te (te (be (nt ?_)))))))))
   exact ⟨y10, ⟨rfl, trivial⟩, h⟩
  have h := hT en23 c24 c25 H26 e27
  obtain ⟨c28, c29⟩ := nextM_after c18 c19 c24 e27
  refine hv (v := (bv true)) rfl (HVal.extract rfl rfl) (hn (nt (ws (HW.condT true rfl rfl (wp_ (nt (wb (ws (wr_ ?_)))))))))
  refine hv (v := (.tuple #[(sv en23.1), (.agg #[(sv en23.2.1.1), (Sl.v en23.2.1.2)])])) rfl (HVal.entry (f := mk9) (g := mv27) rfl c28 c29 c24 c20.1) ?_
  refine hv (v := (.agg #[(sv en23.2.1.1), (Sl.v en23.2.1.2)])) rfl (HVal.extract rfl rfl) (ho rfl (HOp.alloc zeroValue27) ?_)
  rintro _ H32 ⟨rfl, e33⟩
  replace h := h H32 e33
  obtain ⟨z36, h⟩ := h
  refine hq (HOp.storeN' (l := [(sv en23.2.1.1), (Sl.v en23.2.1.2)]) sizeOf27 rfl rfl rfl z36) ?_
  rintro _ H34 e35
  replace h := h H34 e35
  refine hn (nt (wr_ (hv (v := (Sl.v y10)) rfl (mv rfl) ?_)))
  obtain ⟨x38, x39, c37, h⟩ := h
  refine hv (v := (.agg #[(sv x38), (Sl.v x39)])) rfl (ln [(sv x38), (Sl.v x39)] isAgg27 sizeOf27 rfl c37) (ho rfl (HOp.call' 25 [(.agg #[(sv x38), (Sl.v x39)])] (cap := []) rfl rfl call25 (walk25 h)) ?_)
  rintro _ H40 ⟨r42, r43, rfl, h⟩
  refine ho rfl (HOp.buildSlice' (zs := [(sv bE), sN]) (cs := [(sv r42), (Sl.v r43)]) runUnderlying54 sizeOf27 zeroValue27 (by decide) (by kernel_rfl) rfl (by decide)) ?_
  rintro _ H44 ⟨rfl, e45⟩
  replace h := h H44 e45
  refine ho rfl (HOp.append (k := 2) (b := 40) runUnderlying54 runUnderlying54 typeInfo27 rfl rfl zeroValue27 rfl rfl h) ?_
  rintro _ H46 ⟨r48, rfl, h⟩
  refine hv (v := (Sl.v r48)) rfl (av rfl) (hn (nb (nt ?_)))
  exact (hX2 _ _).1 h _ (isp rfl)
 rintro ρ H_1 ⟨y31, hI, h⟩
 obtain ⟨ρ0, rfl⟩ := hI.ex
 clear hI; unfold F18_1 at h
 refine ws (wr_ (hv (v := (Sl.v y31)) rfl (mv rfl) (ho rfl (HOp.call' 34 [(Sl.v y31), (.func (.func 35) #[] #[])] (cap := []) rfl rfl call34 (walk34_35 h)) ?_)))
 rintro _ H49 ⟨rfl, h⟩
 refine hn (nt (ws (wr_ (hv (v := (Sl.v y31)) rfl (mv rfl) (hv (v := (Sl.v y31)) rfl (av rfl) (hn (nt ?_)))))))
 refine HW.ret ?_
 exact ⟨_, resOf1 rfl Res1.t, ⟨y31, rfl, h⟩⟩

def F39_2 (Q : ByteArray → Sl → Hp → Prop) (y44 : (Option Addr)) (y45 y46 : Addr) (y47 : Int) (y48 : Sl) (H_2 : Hp) : Prop :=
∃ a63 : Addr, y44 = some a63 ∧ (
 (cell H_2 a63).isSome = true ∧ frz H_2 a63 = false ∧ ∀ H65 : Hp, H65 = setc H_2 a63 (Sl.v y48) → (
 (0 : Int) ≤ y47 ∧ 0 ≤ y47.toNat ∧ y47.toNat ≤ (y48).c ∧ (y48).c ≤ (y48).c ∧ (
 (cell H65 (Addr.add y45 1)).isSome = true ∧ frz H65 (Addr.add y45 1) = false ∧ ∀ H73 : Hp, H73 = setc H65 (Addr.add y45 1) (Sl.v (Sl.cut y48 2 0 y47.toNat ((y48).c))) → (
 ∃ (x78 : ByteArray) (x79 : Sl), cells H73 y45 [(sv x78), (Sl.v x79)] 0 ∧ (
 mayw H73 y46 2 0 ∧ ∀ H80 : Hp, H80 = sets H73 y46 [(sv x78), (Sl.v x79)] 0 → (
 ∃ (x83 : ByteArray) (x84 : Sl), cells H80 y46 [(sv x83), (Sl.v x84)] 0 ∧ (
 Q x83 x84 H80)))))))
def F39_L3b (Q : ByteArray → Sl → Hp → Prop) (X3 : Int → Hp → Prop) (y50 : (Option Addr)) (y51 y52 : Addr) (y53 : Int) (y54 : Sl) (y49 : Int) (H_3 : Hp) : Prop :=
((decide (y49 < ((y54).n : Int))) = true → (∃ a56 : Addr, (y54).b = some a56 ∧ (0 : Int) ≤ y49 ∧ y49 < ((y54).n : Int) ∧ (
 mayw H_3 (Addr.add a56 (y49.toNat * 2)) 2 0 ∧ ∀ H60 : Hp, H60 = sets H_3 (Addr.add a56 (y49.toNat * 2)) [(sv bE), (iv (IntKind.i64.wrap (77 + y49)))] 0 → (
 X3 (IntKind.i64.wrap (y49 + 1)) H60)))) ∧
 ((decide (y49 < ((y54).n : Int))) = false → (F39_2 Q y50 y51 y52 y53 y54 H_3))
def F39_L3 (Q : ByteArray → Sl → Hp → Prop) (y50 : (Option Addr)) (y51 y52 : Addr) (y53 : Int) (y54 : Sl) (y49 : Int) (H_3 : Hp) : Prop :=
 ∀ X3 : Int → Hp → Prop, (∀ (y49 : Int) (H_3 : Hp), F39_L3b Q X3 y50 y51 y52 y53 y54 y49 H_3 → X3 y49 H_3) → X3 y49 H_3
def F39_1 (Q : ByteArray → Sl → Hp → Prop) (y7 : (Option Addr)) (y8 y9 : Addr) (y10 : Int) (H_1 : Hp) : Prop :=
∃ a22 : Addr, y7 = some a22 ∧ (
 ∃ x25 : Sl, cell H_1 a22 = some (Sl.v x25) ∧ (
 0 ≤ (0 : Int).toNat ∧ (0 : Int).toNat ≤ (x25).c ∧ (x25).c ≤ (x25).c ∧ (
 ∃ x30 : Sl, cell H_1 (Addr.add y8 1) = some (Sl.v x30) ∧ (
 AppendF H_1 38 2 24 #[(sv bE), (iv 0)] (Sl.cut x25 2 0 ((0 : Int).toNat) ((x25).c)) (x30).b (x30).n (fun (r33 : Sl) (H31 : Hp) => 
 cell H31 a22 = some (Sl.v x25) ∧ (
 ∀ H35 : Hp, H35 = Array.push H31 (.cells #[(sv bE), (iv 0), (sv bE), (iv 0)] 38) → (
 AppendF H35 38 2 24 #[(sv bE), (iv 0)] r33 ((Sl.mk (some (bk H31)) 2 2)).b ((Sl.mk (some (bk H31)) 2 2)).n (fun (r39 : Sl) (H37 : Hp) => 
 (0 : Int) ≤ ((r39).c : Int) ∧ 0 ≤ ((r39).c : Int).toNat ∧ ((r39).c : Int).toNat ≤ (r39).c ∧ (r39).c ≤ (r39).c ∧ (
 F39_L3 Q y7 y8 y9 y10 (Sl.cut r39 2 0 (((r39).c : Int).toNat) ((r39).c)) y10 H37)))))))))
def F39 (p0 : (Option Addr)) (p1_0 : ByteArray) (p1_1 : Sl) (H : Hp) (Q : ByteArray → Sl → Hp → Prop) : Prop :=
∀ H1 : Hp, H1 = Array.push H (.cells #[(sv p1_0), (Sl.v p1_1)] 27) → (
 ∀ H3 : Hp, H3 = Array.push H1 (.cells #[(sv bE), sN] 27) → (
 ∃ x6 : Sl, cell H3 (Addr.add (bk H) 1) = some (Sl.v x6) ∧ (
 ∃ a11 : Addr, p0 = some a11 ∧ (
 ∃ x14 : Sl, cell H3 a11 = some (Sl.v x14) ∧ (
 ((decide ((IntKind.i64.wrap (((x6).n : Int) + 70000)) < ((x14).c : Int))) = true → (∃ a16 : Addr, p0 = some a16 ∧ (
 (cell H3 a16).isSome = true ∧ frz H3 a16 = false ∧ ∀ H18 : Hp, H18 = setc H3 a16 sN → (
 F39_1 Q p0 (bk H) (bk H1) ((x6).n : Int) H18)))) ∧
 ((decide ((IntKind.i64.wrap (((x6).n : Int) + 70000)) < ((x14).c : Int))) = false → (F39_1 Q p0 (bk H) (bk H1) ((x6).n : Int) H3)))))))
theorem walk39 {w0 : World} {p0 : (Option Addr)} {p1_0 : ByteArray} {p1_1 : Sl} {H : Hp} {Q : ByteArray → Sl → Hp → Prop} (h : F39 p0 p1_0 p1_1 H Q) :
  Good prog w0 39 #[(.pointer p0), (.agg #[(sv p1_0), (Sl.v p1_1)])] H (fun v H => ∃ (r0 : ByteArray) (r1 : Sl) , v = (.agg #[(sv r0), (Sl.v r1)]) ∧ Q r0 r1 H) := by
 unfold F39 at h
 refine Good.enter' (fn := f39) func39 rfl rfl rfl (ws (wr_ (ho rfl (ob (v := (.agg #[(sv p1_0), (Sl.v p1_1)])) rfl) ?_)))
 rintro _ H1 ⟨rfl, e2⟩
 replace h := h H1 e2
 refine ho rfl (HOp.alloc zeroValue27) ?_
 rintro _ H3 ⟨rfl, e4⟩
 replace h := h H3 e4
 refine hn (nt (ws (wr_ (hv (v := (pp (Addr.add (bk H) 1))) rfl (fa runUnderlying27 rfl rfl sizeOf25 rfl) ?_))))
 obtain ⟨x6, c5, h⟩ := h
 refine hv (v := (Sl.v x6)) rfl (l1 isAgg25 rfl c5) (hv (v := (iv ((x6).n : Int))) rfl (HVal.len runUnderlying25 rfl) (hv (v := (iv ((x6).n : Int))) rfl (av rfl) ?_))
 refine hn (nt (wc (fun ρ H_1 => Env.Is ρ [(0, (.pointer p0)), (3, (pp (bk H))), (4, (pp (bk H1))), (5, (iv ((x6).n : Int)))] ∧ F39_1 Q p0 (bk H) (bk H1) ((x6).n : Int) H_1) ?_ ?_))
 ·refine ws (wr_ (hv (v := (.pointer p0)) rfl (mv rfl) ?_))
  obtain ⟨a11, e12, h⟩ := h
  refine hv (v := (pp a11)) rfl (HVal.nilCheck (congrArg Value.pointer e12)) (hv (v := (pp a11)) rfl (HVal.fieldAddr0 runUnderlying60 rfl rfl sizeOf25 rfl) ?_)
  obtain ⟨x14, c13, h⟩ := h
  refine hv (v := (Sl.v x14)) rfl (l1 isAgg25 rfl c13) (hv (v := (iv ((x14).c : Int))) rfl (HVal.cap runUnderlying25 rfl) (hv (v := (iv ((x6).n : Int))) rfl (mv rfl) ?_))
  refine hv (v := (iv (IntKind.i64.wrap (((x6).n : Int) + 70000)))) rfl (HVal.add rfl rfl) (hv (v := (bv (decide ((IntKind.i64.wrap (((x6).n : Int) + 70000)) < ((x14).c : Int))))) rfl (HVal.gtr rfl rfl) ?_)
  refine hn (nt ?_)
  obtain ⟨hT, hF⟩ := h
  refine wk (decide ((IntKind.i64.wrap (((x6).n : Int) + 70000)) < ((x14).c : Int))) rfl (fun hb15 => ?_) (fun hb15 => ?_)
  ·have h := hT hb15
   refine wr_ (hv (v := (.pointer p0)) rfl (mv rfl) ?_)
   obtain ⟨a16, e17, h⟩ := h
   refine hv (v := (pp a16)) rfl (HVal.nilCheck (congrArg Value.pointer e17)) (hv (v := (pp a16)) rfl (HVal.fieldAddr0 runUnderlying60 rfl rfl sizeOf25 rfl) ?_)
   obtain ⟨z20, z21, h⟩ := h
   refine hq (HOp.store1 sizeOf25 rfl rfl rfl z20 z21) ?_
   rintro _ H18 e19
   replace h := h H18 e19
   refine hn (nt ?_)
   exact ⟨(isp rfl), h⟩
  have h := hF hb15
  refine wp_ (nt ?_)
  exact ⟨(isp rfl), h⟩
 rintro ρ H_1 ⟨hI, h⟩
 obtain ⟨ρ0, rfl⟩ := hI.ex
 clear hI; unfold F39_1 at h
 refine ws (HW.draw mixed [(0, some []), (1, some []), (2, some []), (3, some []), (4, some []), (5, some []), (6, some [7]), (7, none), (8, some [])] rfl (by kernel_rfl) (by kernel_rfl) ?_)
 refine pv (v := (.pointer p0)) rfl rfl (fun _ => mv rfl) ?_
 obtain ⟨a22, e23, h⟩ := h
 refine pv (v := (pp a22)) rfl rfl (fun _ => HVal.nilCheck (congrArg Value.pointer e23)) (pv (v := (pp a22)) rfl rfl (fun _ => HVal.fieldAddr0 runUnderlying60 rfl rfl sizeOf25 rfl) ?_)
 obtain ⟨x25, c24, h⟩ := h
 refine pl (v := (Sl.v x25)) (fun X => cell X a22 = some (Sl.v x25)) rfl rfl (fun _ hX => l1 isAgg25 rfl hX) c24 ?_
 obtain ⟨z26, z27, z28, h⟩ := h
 refine pv (v := (Sl.v (Sl.cut x25 2 0 ((0 : Int).toNat) ((x25).c)))) rfl rfl (fun _ => HVal.slice _ _ _ runUnderlying25 sizeOf38 rfl rfl ⟨_, _, rfl, by decide, rfl⟩ rfl (by decide) z26 z27 z28) ?_
 refine pv (v := (pp (Addr.add (bk H) 1))) rfl rfl (fun _ => fa runUnderlying27 rfl rfl sizeOf25 rfl) ?_
 obtain ⟨x30, c29, h⟩ := h
 refine pl (v := (Sl.v x30)) (fun X => cell X (Addr.add (bk H) 1) = some (Sl.v x30)) rfl rfl (fun _ hX => l1 isAgg25 rfl hX) c29 (po rfl rfl (HOp.append (k := 2) (b := 24) runUnderlying25 runUnderlying25 typeInfo38 rfl rfl zeroValue38 rfl rfl h) ?_)
 rintro _ H31 ⟨r33, rfl, h⟩
 obtain ⟨s34, h⟩ := h
 refine ⟨SC_of ⟨nofun, fun _ => s34, trivial⟩, ?_⟩
 refine pv (v := (Sl.v r33)) rfl rfl (fun _ => av rfl) (HPlan.done (nt (ws (wr_ (hv (v := (Sl.v r33)) rfl (mv rfl) ?_)))))
 refine hv (v := (.agg #[(sv bE), (iv 0)])) rfl (HVal.build' (cs := [(sv bE), (iv 0)]) runUnderlying38 zeroValue38 places38 rfl) (hv (v := (.agg #[(sv bE), (iv 0)])) rfl (HVal.build' (cs := [(sv bE), (iv 0)]) runUnderlying38 zeroValue38 places38 rfl) ?_)
 refine ho rfl (HOp.buildSlice' (zs := [(sv bE), (iv 0), (sv bE), (iv 0)]) (cs := [(sv bE), (iv 0), (sv bE), (iv 0)]) runUnderlying25 sizeOf38 zeroValue38 (by decide) (by kernel_rfl) rfl (by decide)) ?_
 rintro _ H35 ⟨rfl, e36⟩
 replace h := h H35 e36
 refine ho rfl (HOp.append (k := 2) (b := 24) runUnderlying25 runUnderlying25 typeInfo38 rfl rfl zeroValue38 rfl rfl h) ?_
 rintro _ H37 ⟨r39, rfl, h⟩
 refine hv (v := (Sl.v r39)) rfl (av rfl) (hn (nt (ws (wr_ (hv (v := (Sl.v r39)) rfl (mv rfl) (hv (v := (Sl.v r39)) rfl (mv rfl) ?_))))))
 refine hv (v := (iv ((r39).c : Int))) rfl (HVal.cap runUnderlying25 rfl) ?_
 obtain ⟨z40, z41, z42, z43, h⟩ := h
 refine hv (v := (Sl.v (Sl.cut r39 2 0 (((r39).c : Int).toNat) ((r39).c)))) rfl (HVal.slice _ _ _ runUnderlying25 sizeOf38 rfl rfl ⟨_, _, rfl, z40, rfl⟩ rfl (by decide) z41 z42 z43) ?_
 refine hv (v := (Sl.v (Sl.cut r39 2 0 (((r39).c : Int).toNat) ((r39).c)))) rfl (av rfl) (hn (nt (wc (fun ρ H_2 => Env.Is ρ [(0, (.pointer p0)), (3, (pp (bk H))), (4, (pp (bk H1))), (5, (iv ((x6).n : Int))), (6, (Sl.v (Sl.cut r39 2 0 (((r39).c : Int).toNat) ((r39).c))))] ∧ F39_2 Q p0 (bk H) (bk H1) ((x6).n : Int) (Sl.cut r39 2 0 (((r39).c : Int).toNat) ((r39).c)) H_2) ?_ ?_)))
 ·refine ws (wr_ (hv (v := (iv ((x6).n : Int))) rfl (mv rfl) (hv (v := (iv ((x6).n : Int))) rfl (av rfl) (hn (nt ?_)))))
  refine wb (HW.loop' (fun L3 hL3 => ?_))
  obtain ⟨X3, hX3⟩ : ∃ X3 : Int → Hp → Prop, ∀ (y49 : Int) (H_3 : Hp), X3 y49 H_3 ↔ ∀ ρ, Env.Is ρ [(0, (.pointer p0)), (3, (pp (bk H))), (4, (pp (bk H1))), (5, (iv ((x6).n : Int))), (6, (Sl.v (Sl.cut r39 2 0 (((r39).c : Int).toNat) ((r39).c)))), (7, (iv y49))] → L3 ρ H_3 := ⟨_, fun _ _ => Iff.rfl⟩
  refine (hX3 _ _).1 (h X3 ?_) _ ?_
  rotate_left
  ·exact (isp rfl)
  clear h
  intro y49 H_3 h
  refine (hX3 _ _).2 fun ρ hI => ?_
  obtain ⟨ρ0, rfl⟩ := hI.ex
  clear hI; unfold F39_L3b at h; refine hL3 _ _ ?_
  refine ws (ws (wr_ (hv (v := (iv y49)) rfl (mv rfl) (hv (v := (Sl.v (Sl.cut r39 2 0 (((r39).c : Int).toNat) ((r39).c)))) rfl (mv rfl) ?_))))
  refine hv (v := (iv (((Sl.cut r39 2 0 (((r39).c : Int).toNat) ((r39).c))).n : Int))) rfl (HVal.len runUnderlying25 rfl) (hv (v := (bv (decide (y49 < (((Sl.cut r39 2 0 (((r39).c : Int).toNat) ((r39).c))).n : Int))))) rfl (HVal.lss rfl rfl) ?_)
  refine hn (nt ?_)
  obtain ⟨hT, hF⟩ := h
  refine wk (decide (y49 < (((Sl.cut r39 2 0 (((r39).c : Int).toNat) ((r39).c))).n : Int))) rfl (fun hb55 => ?_) (fun hb55 => ?_)
  ·have h := hT hb55
   refine wp_ (nt (ws (wb (wr_ (hv (v := (Sl.v (Sl.cut r39 2 0 (((r39).c : Int).toNat) ((r39).c)))) rfl (mv rfl) (hv (v := (iv y49)) rfl (mv rfl) ?_))))))
   refine hv (v := (iv y49)) rfl (mv rfl) (hv (v := (iv (IntKind.i64.wrap (77 + y49)))) rfl (HVal.add rfl rfl) (hv (v := (.agg #[(sv bE), (iv (IntKind.i64.wrap (77 + y49)))])) rfl (HVal.build' (cs := [(sv bE), (iv (IntKind.i64.wrap (77 + y49)))]) runUnderlying38 zeroValue38 places38 rfl) ?_))
   obtain ⟨a56, e57, b58, b59, h⟩ := h
   refine hv (v := (pp (Addr.add a56 (y49.toNat * 2)))) rfl (ia runUnderlying25 sizeOf38 (Sl.v_some rfl e57) rfl b58 b59) ?_
   obtain ⟨z62, h⟩ := h
   refine hq (HOp.storeN' (l := [(sv bE), (iv (IntKind.i64.wrap (77 + y49)))]) sizeOf38 rfl rfl rfl z62) ?_
   rintro _ H60 e61
   replace h := h H60 e61
   refine hn (nb (nt (wr_ (hv (v := (iv y49)) rfl (mv rfl) (hv (v := (iv (IntKind.i64.wrap (y49 + 1)))) rfl (HVal.add rfl rfl) ?_)))))
   refine hv (v := (iv (IntKind.i64.wrap (y49 + 1)))) rfl (av rfl) (hn (nt ?_))
   exact (hX3 _ _).1 h _ (isp rfl)
  have h := hF hb55
  refine we (te (te (be (nt ?_))))
  exact ⟨(isp rfl), h⟩
 rintro ρ H_2 ⟨hI, h⟩
 obtain ⟨ρ0, rfl⟩ := hI.ex
 clear hI; unfold F39_2 at h
 refine ws (wr_ (hv (v := (.pointer p0)) rfl (mv rfl) (hv (v := (Sl.v (Sl.cut r39 2 0 (((r39).c : Int).toNat) ((r39).c)))) rfl (mv rfl) ?_)))
 obtain ⟨a63, e64, h⟩ := h
 refine hv (v := (pp a63)) rfl (HVal.nilCheck (congrArg Value.pointer e64)) (hv (v := (pp a63)) rfl (HVal.fieldAddr0 runUnderlying60 rfl rfl sizeOf25 rfl) ?_)
 obtain ⟨z67, z68, h⟩ := h
 refine hq (HOp.store1 sizeOf25 rfl rfl rfl z67 z68) ?_
 rintro _ H65 e66
 replace h := h H65 e66
 refine hn (nt (ws (wr_ (hv (v := (Sl.v (Sl.cut r39 2 0 (((r39).c : Int).toNat) ((r39).c)))) rfl (mv rfl) (hv (v := (iv ((x6).n : Int))) rfl (mv rfl) ?_)))))
 obtain ⟨z69, z70, z71, z72, h⟩ := h
 refine hv (v := (Sl.v (Sl.cut (Sl.cut r39 2 0 (((r39).c : Int).toNat) ((r39).c)) 2 0 ((x6).n : Int).toNat (((Sl.cut r39 2 0 (((r39).c : Int).toNat) ((r39).c))).c)))) rfl (HVal.slice _ _ _ runUnderlying25 sizeOf38 rfl rfl ⟨_, _, rfl, z69, rfl⟩ rfl (by decide) z70 z71 z72) ?_
 refine hv (v := (pp (Addr.add (bk H) 1))) rfl (fa runUnderlying27 rfl rfl sizeOf25 rfl) ?_
 obtain ⟨z75, z76, h⟩ := h
 refine hq (HOp.store1 sizeOf25 rfl rfl rfl z75 z76) ?_
 rintro _ H73 e74
 replace h := h H73 e74
 refine hn (nt (ws (wr_ ?_)))
 obtain ⟨x78, x79, c77, h⟩ := h
 refine hv (v := (.agg #[(sv x78), (Sl.v x79)])) rfl (ln [(sv x78), (Sl.v x79)] isAgg27 sizeOf27 rfl c77) ?_
 obtain ⟨z82, h⟩ := h
 refine hq (HOp.storeN' (l := [(sv x78), (Sl.v x79)]) sizeOf27 rfl rfl rfl z82) ?_
 rintro _ H80 e81
 replace h := h H80 e81
 refine hn (nt (HW.ret ?_))
 obtain ⟨x83, x84, c85, h⟩ := h
 exact ⟨_, resOf1 rfl (Res1.n [(sv x83), (Sl.v x84)] isAgg27 sizeOf27 rfl c85), ⟨x83, x84, rfl, h⟩⟩

def F72 (p0 : Int) (H : Hp) (Q : Bool → Hp → Prop) : Prop :=
((decide ((48 : Int) ≤ p0)) = true → (Q (decide (p0 ≤ 57)) H)) ∧
 ((decide ((48 : Int) ≤ p0)) = false → (Q false H))
theorem walk72 {w0 : World} {p0 : Int} {H : Hp} {Q : Bool → Hp → Prop} (h : F72 p0 H Q) :
  Good prog w0 72 #[(.int .u8 p0)] H (fun v H => ∃ (r0 : Bool) , v = (bv r0) ∧ Q r0 H) := by
 unfold F72 at h
 refine Good.enter' (fn := f72) func72 rfl rfl rfl (ws (wr_ (hv (v := (bv false)) rfl (av rfl) (hn (nt (ws ?_))))))
 refine wr_ (hv (v := (.int .u8 p0)) rfl (mv rfl) (hv (v := (bv (decide ((48 : Int) ≤ p0)))) rfl (HVal.geq rfl rfl) (hv (v := (bv (decide ((48 : Int) ≤ p0)))) rfl (mv rfl) ?_)))
 obtain ⟨hT, hF⟩ := h
 rcases Bool.eq_false_or_eq_true (decide ((48 : Int) ≤ p0)) with hb1 | hb2
 ·have h := hT hb1
  refine hg (v := (.int .u8 p0)) rfl rfl rfl rfl (cB hb1) (mv rfl) (hg (v := (bv (decide (p0 ≤ 57)))) rfl rfl rfl rfl (cB hb1) (HVal.leq rfl rfl) ?_)
  refine hv (v := (bv (decide (p0 ≤ 57)))) rfl (pt_ rfl hb1 rfl) (hv (v := (bv (decide (p0 ≤ 57)))) rfl (av rfl) (hn (nt ?_)))
  refine HW.ret ?_
  exact ⟨_, resOf1 rfl Res1.t, ⟨(decide (p0 ≤ 57)), rfl, h⟩⟩
 have h := hF hb2
 refine hs_ rfl rfl rfl rfl (cB hb2) (hs_ rfl rfl rfl rfl (cB hb2) (hv (v := (bv false)) rfl (pf_ rfl hb2 rfl) (hv (v := (bv false)) rfl (av rfl) ?_)))
 refine hn (nt (HW.ret ?_))
 exact ⟨_, resOf1 rfl Res1.t, ⟨false, rfl, h⟩⟩

def F73_L1b (Q : Bool → Hp → Prop) (X1 : Int → Hp → Prop) (y4 : ByteArray) (y5 : Sl) (y3 : Int) (H_1 : Hp) : Prop :=
((decide (y3 < ((y5).n : Int))) = true → (∃ a7 : Addr, (y5).b = some a7 ∧ (0 : Int) ≤ y3 ∧ y3 < ((y5).n : Int) ∧ (
 ∃ x12 : ByteArray, cell H_1 (Addr.add a7 (y3.toNat * 1)) = some (sv x12) ∧ (
 ((seq x12 y4) = true → (Q true H_1)) ∧
 ((seq x12 y4) = false → (X1 (IntKind.i64.wrap (y3 + 1)) H_1)))))) ∧
 ((decide (y3 < ((y5).n : Int))) = false → (Q false H_1))
def F73_L1 (Q : Bool → Hp → Prop) (y4 : ByteArray) (y5 : Sl) (y3 : Int) (H_1 : Hp) : Prop :=
 ∀ X1 : Int → Hp → Prop, (∀ (y3 : Int) (H_1 : Hp), F73_L1b Q X1 y4 y5 y3 H_1 → X1 y3 H_1) → X1 y3 H_1
def F73 (p0 : ByteArray) (H : Hp) (Q : Bool → Hp → Prop) : Prop :=
∀ H1 : Hp, H1 = Array.push H (.cells #[(sv S_PATTERN), (sv S_SEQ), (sv S_PARTITION), (sv S_BY), (sv S_WHERE), (sv S_WITHIN), (sv S_RETURN), (sv S_AND), (sv S_OR), (sv S_NOT), (sv S_TRUE), (sv S_FALSE), (sv S_TYPE), (sv S_INT), (sv S_STR), (sv S_BOOL)] 9) → (
 F73_L1 Q p0 (Sl.mk (some (bk H)) 16 16) 0 H1)
theorem walk73 {w0 : World} {p0 : ByteArray} {H : Hp} {Q : Bool → Hp → Prop} (h : F73 p0 H Q) :
  Good prog w0 73 #[(sv p0)] H (fun v H => ∃ (r0 : Bool) , v = (bv r0) ∧ Q r0 H) := by
 unfold F73 at h
 refine Good.enter' (fn := f73) func73 rfl rfl rfl (ws (wr_ (hv (v := (bv false)) rfl (av rfl) (hn (nt (ws ?_))))))
 refine wr_ (ho rfl (HOp.buildSlice' (zs := [(sv bE), (sv bE), (sv bE), (sv bE), (sv bE), (sv bE), (sv bE), (sv bE), (sv bE), (sv bE), (sv bE), (sv bE), (sv bE), (sv bE), (sv bE), (sv bE)]) (cs := [(sv S_PATTERN), (sv S_SEQ), (sv S_PARTITION), (sv S_BY), (sv S_WHERE), (sv S_WITHIN), (sv S_RETURN), (sv S_AND), (sv S_OR), (sv S_NOT), (sv S_TRUE), (sv S_FALSE), (sv S_TYPE), (sv S_INT), (sv S_STR), (sv S_BOOL)]) runUnderlying42 sizeOf9 zeroValue9 (by decide) (by kernel_rfl) (by kernel_rfl) (by decide)) ?_)
 rintro _ H1 ⟨rfl, e2⟩
 replace h := h H1 e2
 refine hv (v := (Sl.v (Sl.mk (some (bk H)) 16 16))) rfl (av rfl) (hn (nt (ws (ws (wr_ (hv (v := (iv 0)) rfl (av rfl) ?_))))))
 refine hn (nt (wb (HW.loop' (fun L1 hL1 => ?_))))
 obtain ⟨X1, hX1⟩ : ∃ X1 : Int → Hp → Prop, ∀ (y3 : Int) (H_1 : Hp), X1 y3 H_1 ↔ ∀ ρ, Env.Is ρ [(0, (sv p0)), (3, (Sl.v (Sl.mk (some (bk H)) 16 16))), (4, (iv y3))] → L1 ρ H_1 := ⟨_, fun _ _ => Iff.rfl⟩
 refine (hX1 _ _).1 (h X1 ?_) _ ?_
 rotate_left
 ·exact (isp rfl)
 clear h
 intro y3 H_1 h
 refine (hX1 _ _).2 fun ρ hI => ?_
 obtain ⟨ρ0, rfl⟩ := hI.ex
 clear hI; unfold F73_L1b at h; refine hL1 _ _ ?_
 refine ws (ws (wr_ (hv (v := (iv y3)) rfl (mv rfl) (hv (v := (Sl.v (Sl.mk (some (bk H)) 16 16))) rfl (mv rfl) ?_))))
 refine hv (v := (iv (((Sl.mk (some (bk H)) 16 16)).n : Int))) rfl (HVal.len runUnderlying42 rfl) (hv (v := (bv (decide (y3 < (((Sl.mk (some (bk H)) 16 16)).n : Int))))) rfl (HVal.lss rfl rfl) ?_)
 refine hn (nt ?_)
 obtain ⟨hT, hF⟩ := h
 refine wk (decide (y3 < (((Sl.mk (some (bk H)) 16 16)).n : Int))) rfl (fun hb6 => ?_) (fun hb6 => ?_)
 ·have h := hT hb6
  refine wp_ (nt (ws (wb (ws (wr_ (hv (v := (Sl.v (Sl.mk (some (bk H)) 16 16))) rfl (mv rfl) (hv (v := (iv y3)) rfl (mv rfl) ?_)))))))
  obtain ⟨a7, e8, b9, b10, h⟩ := h
  refine hv (v := (pp (Addr.add a7 (y3.toNat * 1)))) rfl (ia runUnderlying42 sizeOf9 (Sl.v_some rfl e8) rfl b9 b10) ?_
  obtain ⟨x12, c11, h⟩ := h
  refine hv (v := (sv x12)) rfl (l1 isAgg9 rfl c11) (hv (v := (sv p0)) rfl (mv rfl) (hv (v := (bv (seq x12 p0))) rfl (HVal.eqlS rfl rfl) ?_))
  refine hn (nt ?_)
  obtain ⟨hT, hF⟩ := h
  refine wk (seq x12 p0) rfl (fun hb13 => ?_) (fun hb13 => ?_)
  ·have h := hT hb13
   refine ws (wr_ (hv (v := (bv true)) rfl (av rfl) (hn (nt (HW.ret (br (tr (tr (br (tr ?_))))))))))
   exact ⟨_, resOf1 rfl Res1.t, ⟨true, rfl, h⟩⟩
  have h := hF hb13
  refine wp_ (nb (nt (wr_ (hv (v := (iv y3)) rfl (mv rfl) (hv (v := (iv (IntKind.i64.wrap (y3 + 1)))) rfl (HVal.add rfl rfl) ?_)))))
  refine hv (v := (iv (IntKind.i64.wrap (y3 + 1)))) rfl (av rfl) (hn (nt ?_))
  exact (hX1 _ _).1 h _ (isp rfl)
 have h := hF hb6
 refine we (te (te (be (nt (ws (wr_ (hv (v := (bv false)) rfl (av rfl) (hn (nt (HW.ret ?_))))))))))
 exact ⟨_, resOf1 rfl Res1.t, ⟨false, rfl, h⟩⟩

def F74 (p0 : Int) (H : Hp) (Q : Bool → Hp → Prop) : Prop :=
((decide ((97 : Int) ≤ p0)) = true → (((decide (p0 ≤ 122)) = true → (Q true H)) ∧
 ((decide (p0 ≤ 122)) = false → (((decide ((65 : Int) ≤ p0)) = true → (((decide (p0 ≤ 90)) = true → (Q true H)) ∧
 ((decide (p0 ≤ 90)) = false → (((decide (p0 = 95)) = true → (Q true H)) ∧
 ((decide (p0 = 95)) = false → (F72 p0 H (fun (r13 : Bool) (H11 : Hp) => 
 Q r13 H11))))))) ∧
 ((decide ((65 : Int) ≤ p0)) = false → (((decide (p0 = 95)) = true → (Q true H)) ∧
 ((decide (p0 = 95)) = false → (F72 p0 H (fun (r18 : Bool) (H16 : Hp) => 
 Q r18 H16))))))))) ∧
 ((decide ((97 : Int) ≤ p0)) = false → (((decide ((65 : Int) ≤ p0)) = true → (((decide (p0 ≤ 90)) = true → (Q true H)) ∧
 ((decide (p0 ≤ 90)) = false → (((decide (p0 = 95)) = true → (Q true H)) ∧
 ((decide (p0 = 95)) = false → (F72 p0 H (fun (r27 : Bool) (H25 : Hp) => 
 Q r27 H25))))))) ∧
 ((decide ((65 : Int) ≤ p0)) = false → (((decide (p0 = 95)) = true → (Q true H)) ∧
 ((decide (p0 = 95)) = false → (F72 p0 H (fun (r32 : Bool) (H30 : Hp) => 
 Q r32 H30)))))))
theorem walk74 {w0 : World} {p0 : Int} {H : Hp} {Q : Bool → Hp → Prop} (h : F74 p0 H Q) :
  Good prog w0 74 #[(.int .u8 p0)] H (fun v H => ∃ (r0 : Bool) , v = (bv r0) ∧ Q r0 H) := by
 unfold F74 at h
 refine Good.enter' (fn := f74) func74 rfl rfl rfl (ws (wr_ (hv (v := (bv false)) rfl (av rfl) (hn (nt (ws ?_))))))
 refine wr_ (hv (v := (.int .u8 p0)) rfl (mv rfl) (hv (v := (bv (decide ((97 : Int) ≤ p0)))) rfl (HVal.geq rfl rfl) (hv (v := (bv (decide ((97 : Int) ≤ p0)))) rfl (mv rfl) ?_)))
 obtain ⟨hT, hF⟩ := h
 rcases Bool.eq_false_or_eq_true (decide ((97 : Int) ≤ p0)) with hb1 | hb2
 ·have h := hT hb1
  refine hg (v := (.int .u8 p0)) rfl rfl rfl rfl (cB hb1) (mv rfl) (hg (v := (bv (decide (p0 ≤ 122)))) rfl rfl rfl rfl (cB hb1) (HVal.leq rfl rfl) ?_)
  refine hv (v := (bv (decide (p0 ≤ 122)))) rfl (pt_ rfl hb1 rfl) (hv (v := (bv (decide (p0 ≤ 122)))) rfl (mv rfl) ?_)
  obtain ⟨hT, hF⟩ := h
  rcases Bool.eq_false_or_eq_true (decide (p0 ≤ 122)) with hb3 | hb4
  ·have h := hT hb3
   refine hs_ rfl rfl rfl rfl (cB hb3) (hs_ rfl rfl rfl rfl (cB hb3) (hs_ rfl rfl rfl rfl (cB hb3) (HList.uskips rfl rfl rfl rfl rfl ?_)))
   refine HList.uskips rfl rfl rfl rfl rfl (hs_ rfl rfl rfl rfl (cB hb3) (hv (v := (bv true)) rfl (pt_ rfl hb3 rfl) (hv (v := (bv true)) rfl (mv rfl) ?_)))
   refine hs_ rfl rfl rfl rfl rfl (hs_ rfl rfl rfl rfl rfl (hv (v := (bv true)) rfl (pt_ rfl rfl rfl) (hv (v := (bv true)) rfl (mv rfl) ?_)))
   refine hs_ rfl rfl rfl rfl rfl (hs_ rfl rfl rfl rfl rfl (hv (v := (bv true)) rfl (pt_ rfl rfl rfl) (hv (v := (bv true)) rfl (av rfl) ?_)))
   refine hn (nt (HW.ret ?_))
   exact ⟨_, resOf1 rfl Res1.t, ⟨true, rfl, h⟩⟩
  have h := hF hb4
  refine hg (v := (.int .u8 p0)) rfl rfl rfl rfl (cB hb4) (mv rfl) (hg (v := (bv (decide ((65 : Int) ≤ p0)))) rfl rfl rfl rfl (cB hb4) (HVal.geq rfl rfl) ?_)
  refine hg (v := (bv (decide ((65 : Int) ≤ p0)))) rfl rfl rfl rfl (cB hb4) (mv rfl) ?_
  obtain ⟨hT, hF⟩ := h
  rcases Bool.eq_false_or_eq_true (decide ((65 : Int) ≤ p0)) with hb5 | hb6
  ·have h := hT hb5
   refine hg (v := (.int .u8 p0)) rfl rfl rfl rfl (cB hb5) (mv rfl) (hg (v := (bv (decide (p0 ≤ 90)))) rfl rfl rfl rfl (cB hb5) (HVal.leq rfl rfl) ?_)
   refine hg (v := (bv (decide (p0 ≤ 90)))) rfl rfl rfl rfl (cB hb4) (pt_ rfl hb5 rfl) (hv (v := (bv (decide (p0 ≤ 90)))) rfl (pf_ rfl hb4 rfl) ?_)
   refine hv (v := (bv (decide (p0 ≤ 90)))) rfl (mv rfl) ?_
   obtain ⟨hT, hF⟩ := h
   rcases Bool.eq_false_or_eq_true (decide (p0 ≤ 90)) with hb7 | hb8
   ·have h := hT hb7
    refine hs_ rfl rfl rfl rfl (cB hb7) (hs_ rfl rfl rfl rfl (cB hb7) (hv (v := (bv true)) rfl (pt_ rfl hb7 rfl) (hv (v := (bv true)) rfl (mv rfl) ?_)))
    refine hs_ rfl rfl rfl rfl rfl (hs_ rfl rfl rfl rfl rfl (hv (v := (bv true)) rfl (pt_ rfl rfl rfl) (hv (v := (bv true)) rfl (av rfl) ?_)))
    refine hn (nt (HW.ret ?_))
    exact ⟨_, resOf1 rfl Res1.t, ⟨true, rfl, h⟩⟩
   have h := hF hb8
   refine hg (v := (.int .u8 p0)) rfl rfl rfl rfl (cB hb8) (mv rfl) (hg (v := (bv (decide (p0 = 95)))) rfl rfl rfl rfl (cB hb8) (HVal.eqlI rfl rfl) ?_)
   refine hv (v := (bv (decide (p0 = 95)))) rfl (pf_ rfl hb8 rfl) (hv (v := (bv (decide (p0 = 95)))) rfl (mv rfl) ?_)
   obtain ⟨hT, hF⟩ := h
   rcases Bool.eq_false_or_eq_true (decide (p0 = 95)) with hb9 | hb10
   ·have h := hT hb9
    refine hs_ rfl rfl rfl rfl (cB hb9) (hs_ rfl rfl rfl rfl (cB hb9) (hv (v := (bv true)) rfl (pt_ rfl hb9 rfl) (hv (v := (bv true)) rfl (av rfl) ?_)))
    refine hn (nt (HW.ret ?_))
    exact ⟨_, resOf1 rfl Res1.t, ⟨true, rfl, h⟩⟩
   have h := hF hb10
   refine hg (v := (.int .u8 p0)) rfl rfl rfl rfl (cB hb10) (mv rfl) (HList.gops rfl rfl rfl rfl (cB hb10) (HOp.call' 72 [(.int .u8 p0)] (cap := []) rfl rfl call72 (walk72 h)) ?_)
   rintro _ H11 ⟨r13, rfl, h⟩
   refine hv (v := (bv r13)) rfl (pf_ rfl hb10 rfl) (hv (v := (bv r13)) rfl (av rfl) (hn (nt (HW.ret ?_))))
   exact ⟨_, resOf1 rfl Res1.t, ⟨r13, rfl, h⟩⟩
  have h := hF hb6
  refine hs_ rfl rfl rfl rfl (cB hb6) (hs_ rfl rfl rfl rfl (cB hb6) (hg (v := (bv false)) rfl rfl rfl rfl (cB hb4) (pf_ rfl hb6 rfl) ?_))
  refine hv (v := (bv false)) rfl (pf_ rfl hb4 rfl) (hv (v := (bv false)) rfl (mv rfl) (hg (v := (.int .u8 p0)) rfl rfl rfl rfl rfl (mv rfl) ?_))
  refine hg (v := (bv (decide (p0 = 95)))) rfl rfl rfl rfl rfl (HVal.eqlI rfl rfl) (hv (v := (bv (decide (p0 = 95)))) rfl (pf_ rfl rfl rfl) ?_)
  refine hv (v := (bv (decide (p0 = 95)))) rfl (mv rfl) ?_
  obtain ⟨hT, hF⟩ := h
  rcases Bool.eq_false_or_eq_true (decide (p0 = 95)) with hb14 | hb15
  ·have h := hT hb14
   refine hs_ rfl rfl rfl rfl (cB hb14) (hs_ rfl rfl rfl rfl (cB hb14) (hv (v := (bv true)) rfl (pt_ rfl hb14 rfl) (hv (v := (bv true)) rfl (av rfl) ?_)))
   refine hn (nt (HW.ret ?_))
   exact ⟨_, resOf1 rfl Res1.t, ⟨true, rfl, h⟩⟩
  have h := hF hb15
  refine hg (v := (.int .u8 p0)) rfl rfl rfl rfl (cB hb15) (mv rfl) (HList.gops rfl rfl rfl rfl (cB hb15) (HOp.call' 72 [(.int .u8 p0)] (cap := []) rfl rfl call72 (walk72 h)) ?_)
  rintro _ H16 ⟨r18, rfl, h⟩
  refine hv (v := (bv r18)) rfl (pf_ rfl hb15 rfl) (hv (v := (bv r18)) rfl (av rfl) (hn (nt (HW.ret ?_))))
  exact ⟨_, resOf1 rfl Res1.t, ⟨r18, rfl, h⟩⟩
 have h := hF hb2
 refine hs_ rfl rfl rfl rfl (cB hb2) (hs_ rfl rfl rfl rfl (cB hb2) (hv (v := (bv false)) rfl (pf_ rfl hb2 rfl) (hv (v := (bv false)) rfl (mv rfl) ?_)))
 refine hg (v := (.int .u8 p0)) rfl rfl rfl rfl rfl (mv rfl) (hg (v := (bv (decide ((65 : Int) ≤ p0)))) rfl rfl rfl rfl rfl (HVal.geq rfl rfl) ?_)
 refine hg (v := (bv (decide ((65 : Int) ≤ p0)))) rfl rfl rfl rfl rfl (mv rfl) ?_
 obtain ⟨hT, hF⟩ := h
 rcases Bool.eq_false_or_eq_true (decide ((65 : Int) ≤ p0)) with hb19 | hb20
 ·have h := hT hb19
  refine hg (v := (.int .u8 p0)) rfl rfl rfl rfl (cB hb19) (mv rfl) (hg (v := (bv (decide (p0 ≤ 90)))) rfl rfl rfl rfl (cB hb19) (HVal.leq rfl rfl) ?_)
  refine hg (v := (bv (decide (p0 ≤ 90)))) rfl rfl rfl rfl rfl (pt_ rfl hb19 rfl) (hv (v := (bv (decide (p0 ≤ 90)))) rfl (pf_ rfl rfl rfl) ?_)
  refine hv (v := (bv (decide (p0 ≤ 90)))) rfl (mv rfl) ?_
  obtain ⟨hT, hF⟩ := h
  rcases Bool.eq_false_or_eq_true (decide (p0 ≤ 90)) with hb21 | hb22
  ·have h := hT hb21
   refine hs_ rfl rfl rfl rfl (cB hb21) (hs_ rfl rfl rfl rfl (cB hb21) (hv (v := (bv true)) rfl (pt_ rfl hb21 rfl) (hv (v := (bv true)) rfl (mv rfl) ?_)))
   refine hs_ rfl rfl rfl rfl rfl (hs_ rfl rfl rfl rfl rfl (hv (v := (bv true)) rfl (pt_ rfl rfl rfl) (hv (v := (bv true)) rfl (av rfl) ?_)))
   refine hn (nt (HW.ret ?_))
   exact ⟨_, resOf1 rfl Res1.t, ⟨true, rfl, h⟩⟩
  have h := hF hb22
  refine hg (v := (.int .u8 p0)) rfl rfl rfl rfl (cB hb22) (mv rfl) (hg (v := (bv (decide (p0 = 95)))) rfl rfl rfl rfl (cB hb22) (HVal.eqlI rfl rfl) ?_)
  refine hv (v := (bv (decide (p0 = 95)))) rfl (pf_ rfl hb22 rfl) (hv (v := (bv (decide (p0 = 95)))) rfl (mv rfl) ?_)
  obtain ⟨hT, hF⟩ := h
  rcases Bool.eq_false_or_eq_true (decide (p0 = 95)) with hb23 | hb24
  ·have h := hT hb23
   refine hs_ rfl rfl rfl rfl (cB hb23) (hs_ rfl rfl rfl rfl (cB hb23) (hv (v := (bv true)) rfl (pt_ rfl hb23 rfl) (hv (v := (bv true)) rfl (av rfl) ?_)))
   refine hn (nt (HW.ret ?_))
   exact ⟨_, resOf1 rfl Res1.t, ⟨true, rfl, h⟩⟩
  have h := hF hb24
  refine hg (v := (.int .u8 p0)) rfl rfl rfl rfl (cB hb24) (mv rfl) (HList.gops rfl rfl rfl rfl (cB hb24) (HOp.call' 72 [(.int .u8 p0)] (cap := []) rfl rfl call72 (walk72 h)) ?_)
  rintro _ H25 ⟨r27, rfl, h⟩
  refine hv (v := (bv r27)) rfl (pf_ rfl hb24 rfl) (hv (v := (bv r27)) rfl (av rfl) (hn (nt (HW.ret ?_))))
  exact ⟨_, resOf1 rfl Res1.t, ⟨r27, rfl, h⟩⟩
 have h := hF hb20
 refine hs_ rfl rfl rfl rfl (cB hb20) (hs_ rfl rfl rfl rfl (cB hb20) (hg (v := (bv false)) rfl rfl rfl rfl rfl (pf_ rfl hb20 rfl) ?_))
 refine hv (v := (bv false)) rfl (pf_ rfl rfl rfl) (hv (v := (bv false)) rfl (mv rfl) (hg (v := (.int .u8 p0)) rfl rfl rfl rfl rfl (mv rfl) ?_))
 refine hg (v := (bv (decide (p0 = 95)))) rfl rfl rfl rfl rfl (HVal.eqlI rfl rfl) (hv (v := (bv (decide (p0 = 95)))) rfl (pf_ rfl rfl rfl) ?_)
 refine hv (v := (bv (decide (p0 = 95)))) rfl (mv rfl) ?_
 obtain ⟨hT, hF⟩ := h
 rcases Bool.eq_false_or_eq_true (decide (p0 = 95)) with hb28 | hb29
 ·have h := hT hb28
  refine hs_ rfl rfl rfl rfl (cB hb28) (hs_ rfl rfl rfl rfl (cB hb28) (hv (v := (bv true)) rfl (pt_ rfl hb28 rfl) (hv (v := (bv true)) rfl (av rfl) ?_)))
  refine hn (nt (HW.ret ?_))
  exact ⟨_, resOf1 rfl Res1.t, ⟨true, rfl, h⟩⟩
 have h := hF hb29
 refine hg (v := (.int .u8 p0)) rfl rfl rfl rfl (cB hb29) (mv rfl) (HList.gops rfl rfl rfl rfl (cB hb29) (HOp.call' 72 [(.int .u8 p0)] (cap := []) rfl rfl call72 (walk72 h)) ?_)
 rintro _ H30 ⟨r32, rfl, h⟩
 refine hv (v := (bv r32)) rfl (pf_ rfl hb29 rfl) (hv (v := (bv r32)) rfl (av rfl) (hn (nt (HW.ret ?_))))
 exact ⟨_, resOf1 rfl Res1.t, ⟨r32, rfl, h⟩⟩

def F49_L2b (Q : Bool → Hp → Prop) (X2 : Int → Hp → Prop) (y19 : ByteArray) (y18 : Int) (H_2 : Hp) : Prop :=
((decide (y18 < ((y19).size : Int))) = true → ((0 : Int) ≤ y18 ∧ y18.toNat < (y19).size ∧ (
 F74 (bt y19 y18.toNat) H_2 (fun (r25 : Bool) (H23 : Hp) => 
 ((!r25) = true → (Q false H23)) ∧
 ((!r25) = false → (X2 (IntKind.i64.wrap (y18 + 1)) H23)))))) ∧
 ((decide (y18 < ((y19).size : Int))) = false → (Q true H_2))
def F49_L2 (Q : Bool → Hp → Prop) (y19 : ByteArray) (y18 : Int) (H_2 : Hp) : Prop :=
 ∀ X2 : Int → Hp → Prop, (∀ (y18 : Int) (H_2 : Hp), F49_L2b Q X2 y19 y18 H_2 → X2 y18 H_2) → X2 y18 H_2
def F49_1 (Q : Bool → Hp → Prop) (y1 : ByteArray) (y4 : Bool) (H_1 : Hp) : Prop :=
(y4 = true → (Q false H_1)) ∧
 (y4 = false → (F49_L2 Q y1 0 H_1))
def F49 (p0 : ByteArray) (H : Hp) (Q : Bool → Hp → Prop) : Prop :=
((decide (((p0).size : Int) < 1)) = true → (F49_1 Q p0 true H)) ∧
 ((decide (((p0).size : Int) < 1)) = false → (((decide ((32 : Int) < ((p0).size : Int))) = true → (F49_1 Q p0 true H)) ∧
 ((decide ((32 : Int) < ((p0).size : Int))) = false → ((0 : Int) ≤ 0 ∧ (0 : Int).toNat < (p0).size ∧ (
 F72 (bt p0 (0 : Int).toNat) H (fun (r11 : Bool) (H9 : Hp) => 
 (r11 = true → (F49_1 Q p0 true H9)) ∧
 (r11 = false → (F73 p0 H9 (fun (r16 : Bool) (H14 : Hp) => 
 F49_1 Q p0 r16 H14)))))))))
theorem walk49 {w0 : World} {p0 : ByteArray} {H : Hp} {Q : Bool → Hp → Prop} (h : F49 p0 H Q) :
  Good prog w0 49 #[(sv p0)] H (fun v H => ∃ (r0 : Bool) , v = (bv r0) ∧ Q r0 H) := by
 unfold F49 at h
 refine Good.enter' (fn := f49) func49 rfl rfl rfl (ws (wr_ (hv (v := (bv false)) rfl (av rfl) (hn (nt (ws ?_))))))
 refine wc (fun ρ H_1 => ∃ (y4 : Bool), Env.Is ρ [(0, (sv p0)), (20, (bv y4))] ∧ F49_1 Q p0 y4 H_1) ?_ ?_
 ·refine wr_ (hv (v := (sv p0)) rfl (mv rfl) (hv (v := (iv ((p0).size : Int))) rfl (HVal.lenS runUnderlying9 rfl) (hv (v := (bv (decide (((p0).size : Int) < 1)))) rfl (HVal.lss rfl rfl) ?_)))
  refine hv (v := (bv (decide (((p0).size : Int) < 1)))) rfl (mv rfl) ?_
  obtain ⟨hT, hF⟩ := h
  rcases Bool.eq_false_or_eq_true (decide (((p0).size : Int) < 1)) with hb2 | hb3
  ·have h := hT hb2
   refine hs_ rfl rfl rfl rfl (cB hb2) (hs_ rfl rfl rfl rfl (cB hb2) (hs_ rfl rfl rfl rfl (cB hb2) (hv (v := (bv true)) rfl (pt_ rfl hb2 rfl) ?_)))
   refine hv (v := (bv true)) rfl (mv rfl) (hs_ rfl rfl rfl rfl rfl (hs_ rfl rfl rfl rfl rfl (hs_ rfl rfl rfl rfl rfl ?_)))
   refine hv (v := (bv true)) rfl (pt_ rfl rfl rfl) (hv (v := (bv true)) rfl (mv rfl) (hs_ rfl rfl rfl rfl rfl (hs_ rfl rfl rfl rfl rfl ?_)))
   refine hv (v := (bv true)) rfl (pt_ rfl rfl rfl) (hn (nt ?_))
   exact ⟨true, (isp rfl), h⟩
  have h := hF hb3
  refine hg (v := (sv p0)) rfl rfl rfl rfl (cB hb3) (mv rfl) (hg (v := (iv ((p0).size : Int))) rfl rfl rfl rfl (cB hb3) (HVal.lenS runUnderlying9 rfl) ?_)
  refine hg (v := (bv (decide ((32 : Int) < ((p0).size : Int))))) rfl rfl rfl rfl (cB hb3) (HVal.gtr rfl rfl) (hv (v := (bv (decide ((32 : Int) < ((p0).size : Int))))) rfl (pf_ rfl hb3 rfl) ?_)
  refine hv (v := (bv (decide ((32 : Int) < ((p0).size : Int))))) rfl (mv rfl) ?_
  obtain ⟨hT, hF⟩ := h
  rcases Bool.eq_false_or_eq_true (decide ((32 : Int) < ((p0).size : Int))) with hb5 | hb6
  ·have h := hT hb5
   refine hs_ rfl rfl rfl rfl (cB hb5) (hs_ rfl rfl rfl rfl (cB hb5) (hs_ rfl rfl rfl rfl (cB hb5) (hv (v := (bv true)) rfl (pt_ rfl hb5 rfl) ?_)))
   refine hv (v := (bv true)) rfl (mv rfl) (hs_ rfl rfl rfl rfl rfl (hs_ rfl rfl rfl rfl rfl (hv (v := (bv true)) rfl (pt_ rfl rfl rfl) ?_)))
   refine hn (nt ?_)
   exact ⟨true, (isp rfl), h⟩
  have h := hF hb6
  refine hg (v := (sv p0)) rfl rfl rfl rfl (cB hb6) (mv rfl) ?_
  obtain ⟨b7, b8, h⟩ := h
  refine hg (v := (.int .u8 (bt p0 (0 : Int).toNat))) rfl rfl rfl rfl (cB hb6) (HVal.indexS' runUnderlying9 rfl rfl b7 b8) (HList.gops rfl rfl rfl rfl (cB hb6) (HOp.call' 72 [(.int .u8 (bt p0 (0 : Int).toNat))] (cap := []) rfl rfl call72 (walk72 h)) ?_)
  rintro _ H9 ⟨r11, rfl, h⟩
  refine hv (v := (bv r11)) rfl (pf_ rfl hb6 rfl) (hv (v := (bv r11)) rfl (mv rfl) ?_)
  obtain ⟨hT, hF⟩ := h
  rcases Bool.eq_false_or_eq_true r11 with hb12 | hb13
  ·have h := hT hb12
   refine hs_ rfl rfl rfl rfl (cB hb12) (hs_ rfl rfl rfl rfl (cB hb12) (hv (v := (bv true)) rfl (pt_ rfl hb12 rfl) (hn (nt ?_))))
   exact ⟨true, (isp rfl), h⟩
  have h := hF hb13
  refine hg (v := (sv p0)) rfl rfl rfl rfl (cB hb13) (mv rfl) (HList.gops rfl rfl rfl rfl (cB hb13) (HOp.call' 73 [(sv p0)] (cap := []) rfl rfl call73 (walk73 h)) ?_)
  rintro _ H14 ⟨r16, rfl, h⟩
  refine hv (v := (bv r16)) rfl (pf_ rfl hb13 rfl) (hn (nt ?_))
  exact ⟨r16, (isp rfl), h⟩
 rintro ρ H_1 ⟨y4, hI, h⟩
 obtain ⟨ρ0, rfl⟩ := hI.ex
 clear hI; unfold F49_1 at h
 obtain ⟨hT, hF⟩ := h
 refine wk y4 rfl (fun hb17 => ?_) (fun hb17 => ?_)
 ·have h := hT hb17
  refine ws (wr_ (hv (v := (bv false)) rfl (av rfl) (hn (nt (HW.ret (tr ?_))))))
  exact ⟨_, resOf1 rfl Res1.t, ⟨false, rfl, h⟩⟩
 have h := hF hb17
 refine wp_ (nt (ws (ws (wr_ (hv (v := (iv 0)) rfl (av rfl) (hn (nt (wb (HW.loop' (fun L2 hL2 => ?_))))))))))
 obtain ⟨X2, hX2⟩ : ∃ X2 : Int → Hp → Prop, ∀ (y18 : Int) (H_2 : Hp), X2 y18 H_2 ↔ ∀ ρ, Env.Is ρ [(0, (sv p0)), (3, (iv y18))] → L2 ρ H_2 := ⟨_, fun _ _ => Iff.rfl⟩
 refine (hX2 _ _).1 (h X2 ?_) _ ?_
 rotate_left
 ·exact (isp rfl)
 clear h
 intro y18 H_2 h
 refine (hX2 _ _).2 fun ρ hI => ?_
 obtain ⟨ρ0, rfl⟩ := hI.ex
 clear hI; unfold F49_L2b at h; refine hL2 _ _ ?_
 refine ws (ws (wr_ (hv (v := (iv y18)) rfl (mv rfl) (hv (v := (sv p0)) rfl (mv rfl) (hv (v := (iv ((p0).size : Int))) rfl (HVal.lenS runUnderlying9 rfl) ?_)))))
 refine hv (v := (bv (decide (y18 < ((p0).size : Int))))) rfl (HVal.lss rfl rfl) (hn (nt ?_))
 obtain ⟨hT, hF⟩ := h
 refine wk (decide (y18 < ((p0).size : Int))) rfl (fun hb20 => ?_) (fun hb20 => ?_)
 ·have h := hT hb20
  refine wp_ (nt (ws (wb (ws (wr_ (hv (v := (sv p0)) rfl (mv rfl) (hv (v := (iv y18)) rfl (mv rfl) ?_)))))))
  obtain ⟨b21, b22, h⟩ := h
  refine hv (v := (.int .u8 (bt p0 y18.toNat))) rfl (HVal.indexS' runUnderlying9 rfl rfl b21 b22) (ho rfl (HOp.call' 74 [(.int .u8 (bt p0 y18.toNat))] (cap := []) rfl rfl call74 (walk74 h)) ?_)
  rintro _ H23 ⟨r25, rfl, h⟩
  refine hv (v := (bv (!r25))) rfl (HVal.not rfl) (hn (nt ?_))
  obtain ⟨hT, hF⟩ := h
  refine wk (!r25) rfl (fun hb26 => ?_) (fun hb26 => ?_)
  ·have h := hT hb26
   refine ws (wr_ (hv (v := (bv false)) rfl (av rfl) (hn (nt (HW.ret (br (tr (tr (br (tr ?_))))))))))
   exact ⟨_, resOf1 rfl Res1.t, ⟨false, rfl, h⟩⟩
  have h := hF hb26
  refine wp_ (nb (nt (wr_ (hv (v := (iv y18)) rfl (mv rfl) (hv (v := (iv (IntKind.i64.wrap (y18 + 1)))) rfl (HVal.add rfl rfl) ?_)))))
  refine hv (v := (iv (IntKind.i64.wrap (y18 + 1)))) rfl (av rfl) (hn (nt ?_))
  exact (hX2 _ _).1 h _ (isp rfl)
 have h := hF hb20
 refine we (te (te (be (nt (ws (wr_ (hv (v := (bv true)) rfl (av rfl) (hn (nt (HW.ret ?_))))))))))
 exact ⟨_, resOf1 rfl Res1.t, ⟨true, rfl, h⟩⟩

def F68_2 (Q X1 : Int → Hp → Prop) (y17 : Addr) (y18 : Int) (H_2 : Hp) : Prop :=
X1 (IntKind.i64.wrap (y18 + 1)) H_2
def F68_L5b (Q X1 X5 : Int → Hp → Prop) (y59 : Addr) (y60 : Int) (y61 : Addr) (y58 : Int) (H_5 : Hp) : Prop :=
((decide (y58 < y60)) = true → (∃ x64 : Sl, cell H_5 (Addr.add y59 1) = some (Sl.v x64) ∧ (
 ∃ a65 : Addr, (x64).b = some a65 ∧ (0 : Int) ≤ y58 ∧ y58 < ((x64).n : Int) ∧ (
 ∃ x70 : ByteArray, cell H_5 (Addr.add a65 (y58.toNat * 2)) = some (sv x70) ∧ (
 ∃ x72 : ByteArray, cell H_5 y61 = some (sv x72) ∧ (
 ((seq x70 x72) = true → (Q 5 H_5)) ∧
 ((seq x70 x72) = false → (X5 (IntKind.i64.wrap (y58 + 1)) H_5)))))))) ∧
 ((decide (y58 < y60)) = false → (F68_2 Q X1 y59 y60 H_5))
def F68_L5 (Q X1 : Int → Hp → Prop) (y59 : Addr) (y60 : Int) (y61 : Addr) (y58 : Int) (H_5 : Hp) : Prop :=
 ∀ X5 : Int → Hp → Prop, (∀ (y58 : Int) (H_5 : Hp), F68_L5b Q X1 X5 y59 y60 y61 y58 H_5 → X5 y58 H_5) → X5 y58 H_5
def F68_4 (Q X1 : Int → Hp → Prop) (y47 : Addr) (y48 : Int) (y49 : Addr) (y54 : Bool) (H_4 : Hp) : Prop :=
(y54 = true → (Q 24 H_4)) ∧
 (y54 = false → (F68_L5 Q X1 y47 y48 y49 0 H_4))
def F68_3 (Q X1 : Int → Hp → Prop) (y33 : Addr) (y34 : Int) (y35 : Addr) (y43 : Bool) (H_3 : Hp) : Prop :=
(y43 = true → (Q 20 H_3)) ∧
 (y43 = false → (∃ x51 : Int, cell H_3 (Addr.add y35 1) = some (iv x51) ∧ (
 ((decide (x51 < 1)) = true → (F68_4 Q X1 y33 y34 y35 true H_3)) ∧
 ((decide (x51 < 1)) = false → (∃ x56 : Int, cell H_3 (Addr.add y35 1) = some (iv x56) ∧ (
 F68_4 Q X1 y33 y34 y35 (decide ((3 : Int) < x56)) H_3))))))
def F68_L1b (Q X1 : Int → Hp → Prop) (y13 : Addr) (y12 : Int) (H_1 : Hp) : Prop :=
∃ x15 : Sl, cell H_1 (Addr.add y13 1) = some (Sl.v x15) ∧ (
 ((decide (y12 < ((x15).n : Int))) = true → (∃ x20 : Sl, cell H_1 (Addr.add y13 1) = some (Sl.v x20) ∧ (
 ∃ a21 : Addr, (x20).b = some a21 ∧ (0 : Int) ≤ y12 ∧ y12 < ((x20).n : Int) ∧ (
 ∃ (x26 : ByteArray) (x27 : Int), cells H_1 (Addr.add a21 (y12.toNat * 2)) [(sv x26), (iv x27)] 0 ∧ (
 ∀ H28 : Hp, H28 = Array.push H_1 (.cells #[(sv bE), (iv 0)] 38) → (
 mayw H28 (bk H_1) 2 0 ∧ ∀ H30 : Hp, H30 = sets H28 (bk H_1) [(sv x26), (iv x27)] 0 → (
 ∃ x37 : ByteArray, cell H30 (bk H_1) = some (sv x37) ∧ (
 F49 x37 H30 (fun (r40 : Bool) (H38 : Hp) => 
 ((!r40) = true → (F68_3 Q X1 y13 y12 (bk H_1) true H38)) ∧
 ((!r40) = false → (∃ x45 : ByteArray, cell H38 (bk H_1) = some (sv x45) ∧ (
 F68_3 Q X1 y13 y12 (bk H_1) (seq x45 S_time) H38)))))))))))) ∧
 ((decide (y12 < ((x15).n : Int))) = false → (Q 0 H_1)))
def F68_L1 (Q : Int → Hp → Prop) (y13 : Addr) (y12 : Int) (H_1 : Hp) : Prop :=
 ∀ X1 : Int → Hp → Prop, (∀ (y12 : Int) (H_1 : Hp), F68_L1b Q X1 y13 y12 H_1 → X1 y12 H_1) → X1 y12 H_1
def F68 (p0_0 : ByteArray) (p0_1 : Sl) (H : Hp) (Q : Int → Hp → Prop) : Prop :=
∀ H1 : Hp, H1 = Array.push H (.cells #[(sv p0_0), (Sl.v p0_1)] 27) → (
 ∃ x4 : ByteArray, cell H1 (bk H) = some (sv x4) ∧ (
 F49 x4 H1 (fun (r7 : Bool) (H5 : Hp) => 
 ((!r7) = true → (Q 20 H5)) ∧
 ((!r7) = false → (∃ x10 : Sl, cell H5 (Addr.add (bk H) 1) = some (Sl.v x10) ∧ (
 ((decide ((16 : Int) < ((x10).n : Int))) = true → (Q 2 H5)) ∧
 ((decide ((16 : Int) < ((x10).n : Int))) = false → (F68_L1 Q (bk H) 0 H5))))))))
theorem walk68 {w0 : World} {p0_0 : ByteArray} {p0_1 : Sl} {H : Hp} {Q : Int → Hp → Prop} (h : F68 p0_0 p0_1 H Q) :
  Good prog w0 68 #[(.agg #[(sv p0_0), (Sl.v p0_1)])] H (fun v H => ∃ (r0 : Int) , v = (iv r0) ∧ Q r0 H) := by
 unfold F68 at h
 refine Good.enter' (fn := f68) func68 rfl rfl rfl (ws (wr_ (ho rfl (ob (v := (.agg #[(sv p0_0), (Sl.v p0_1)])) rfl) ?_)))
 rintro _ H1 ⟨rfl, e2⟩
 replace h := h H1 e2
 refine hv (v := (iv 0)) rfl (av rfl) (hn (nt (ws (ws (wr_ (hv (v := (pp (bk H))) rfl (HVal.fieldAddr0 runUnderlying27 rfl rfl sizeOf9 rfl) ?_))))))
 obtain ⟨x4, c3, h⟩ := h
 refine hv (v := (sv x4)) rfl (l1 isAgg9 rfl c3) (ho rfl (HOp.call' 49 [(sv x4)] (cap := []) rfl rfl call49 (walk49 h)) ?_)
 rintro _ H5 ⟨r7, rfl, h⟩
 refine hv (v := (bv (!r7))) rfl (HVal.not rfl) (hn (nt ?_))
 obtain ⟨hT, hF⟩ := h
 refine wk (!r7) rfl (fun hb8 => ?_) (fun hb8 => ?_)
 ·have h := hT hb8
  refine ws (wr_ (hv (v := (iv 20)) rfl (av rfl) (hn (nt (HW.ret (tr ?_))))))
  exact ⟨_, resOf1 rfl Res1.t, ⟨20, rfl, h⟩⟩
 have h := hF hb8
 refine wp_ (nt (ws (ws (wr_ (hv (v := (pp (Addr.add (bk H) 1))) rfl (fa runUnderlying27 rfl rfl sizeOf25 rfl) ?_)))))
 obtain ⟨x10, c9, h⟩ := h
 refine hv (v := (Sl.v x10)) rfl (l1 isAgg25 rfl c9) (hv (v := (iv ((x10).n : Int))) rfl (HVal.len runUnderlying25 rfl) (hv (v := (bv (decide ((16 : Int) < ((x10).n : Int))))) rfl (HVal.gtr rfl rfl) ?_))
 refine hn (nt ?_)
 obtain ⟨hT, hF⟩ := h
 refine wk (decide ((16 : Int) < ((x10).n : Int))) rfl (fun hb11 => ?_) (fun hb11 => ?_)
 ·have h := hT hb11
  refine ws (wr_ (hv (v := (iv 2)) rfl (av rfl) (hn (nt (HW.ret (tr ?_))))))
  exact ⟨_, resOf1 rfl Res1.t, ⟨2, rfl, h⟩⟩
 have h := hF hb11
 refine wp_ (nt (ws (ws (wr_ (hv (v := (iv 0)) rfl (av rfl) (hn (nt (wb (HW.loop' (fun L1 hL1 => ?_))))))))))
 obtain ⟨X1, hX1⟩ : ∃ X1 : Int → Hp → Prop, ∀ (y12 : Int) (H_1 : Hp), X1 y12 H_1 ↔ ∀ ρ, Env.Is ρ [(1, (pp (bk H))), (3, (iv y12))] → L1 ρ H_1 := ⟨_, fun _ _ => Iff.rfl⟩
 refine (hX1 _ _).1 (h X1 ?_) _ ?_
 rotate_left
 ·exact (isp rfl)
 clear h
 intro y12 H_1 h
 refine (hX1 _ _).2 fun ρ hI => ?_
 obtain ⟨ρ0, rfl⟩ := hI.ex
 clear hI; unfold F68_L1b at h; refine hL1 _ _ ?_
 refine ws (ws (wr_ (hv (v := (iv y12)) rfl (mv rfl) (hv (v := (pp (Addr.add (bk H) 1))) rfl (fa runUnderlying27 rfl rfl sizeOf25 rfl) ?_))))
 obtain ⟨x15, c14, h⟩ := h
 refine hv (v := (Sl.v x15)) rfl (l1 isAgg25 rfl c14) (hv (v := (iv ((x15).n : Int))) rfl (HVal.len runUnderlying25 rfl) (hv (v := (bv (decide (y12 < ((x15).n : Int))))) rfl (HVal.lss rfl rfl) ?_))
 refine hn (nt ?_)
 obtain ⟨hT, hF⟩ := h
 refine wk (decide (y12 < ((x15).n : Int))) rfl (fun hb16 => ?_) (fun hb16 => ?_)
 ·have h := hT hb16
  refine wp_ (nt (wc (fun ρ H_2 => Env.Is ρ [(1, (pp (bk H))), (3, (iv y12))] ∧ F68_2 Q X1 (bk H) y12 H_2) ?_ ?_))
  ·refine wb (ws (wr_ (hv (v := (pp (Addr.add (bk H) 1))) rfl (fa runUnderlying27 rfl rfl sizeOf25 rfl) ?_)))
   obtain ⟨x20, c19, h⟩ := h
   refine hv (v := (Sl.v x20)) rfl (l1 isAgg25 rfl c19) (hv (v := (iv y12)) rfl (mv rfl) ?_)
   obtain ⟨a21, e22, b23, b24, h⟩ := h
   refine hv (v := (pp (Addr.add a21 (y12.toNat * 2)))) rfl (ia runUnderlying25 sizeOf38 (Sl.v_some rfl e22) rfl b23 b24) ?_
   obtain ⟨x26, x27, c25, h⟩ := h
   refine hv (v := (.agg #[(sv x26), (iv x27)])) rfl (ln [(sv x26), (iv x27)] isAgg38 sizeOf38 rfl c25) (ho rfl (HOp.alloc zeroValue38) ?_)
   rintro _ H28 ⟨rfl, e29⟩
   replace h := h H28 e29
   obtain ⟨z32, h⟩ := h
   refine hq (HOp.storeN' (l := [(sv x26), (iv x27)]) sizeOf38 rfl rfl rfl z32) ?_
   rintro _ H30 e31
   replace h := h H30 e31
   refine hn (nt (ws (wc (fun ρ H_3 => ∃ (y43 : Bool), Env.Is ρ [(1, (pp (bk H))), (3, (iv y12)), (4, (pp (bk H_1))), (34, (bv y43))] ∧ F68_3 Q X1 (bk H) y12 (bk H_1) y43 H_3) ?_ ?_)))
   ·refine wr_ (hv (v := (pp (bk H_1))) rfl (HVal.fieldAddr0 runUnderlying38 rfl rfl sizeOf9 rfl) ?_)
    obtain ⟨x37, c36, h⟩ := h
    refine hv (v := (sv x37)) rfl (l1 isAgg9 rfl c36) (ho rfl (HOp.call' 49 [(sv x37)] (cap := []) rfl rfl call49 (walk49 h)) ?_)
    rintro _ H38 ⟨r40, rfl, h⟩
    refine hv (v := (bv (!r40))) rfl (HVal.not rfl) (hv (v := (bv (!r40))) rfl (mv rfl) ?_)
    obtain ⟨hT, hF⟩ := h
    rcases Bool.eq_false_or_eq_true (!r40) with hb41 | hb42
    ·have h := hT hb41
     refine hs_ rfl rfl rfl rfl (cB hb41) (hs_ rfl rfl rfl rfl (cB hb41) (hs_ rfl rfl rfl rfl (cB hb41) (hv (v := (bv true)) rfl (pt_ rfl hb41 rfl) ?_)))
     refine hn (nt ?_)
     exact ⟨true, (isp rfl), h⟩
    have h := hF hb42
    refine hg (v := (pp (bk H_1))) rfl rfl rfl rfl (cB hb42) (HVal.fieldAddr0 runUnderlying38 rfl rfl sizeOf9 rfl) ?_
    obtain ⟨x45, c44, h⟩ := h
    refine hg (v := (sv x45)) rfl rfl rfl rfl (cB hb42) (l1 isAgg9 rfl c44) (hg (v := (bv (seq x45 S_time))) rfl rfl rfl rfl (cB hb42) (HVal.eqlS rfl rfl) ?_)
    refine hv (v := (bv (seq x45 S_time))) rfl (pf_ rfl hb42 rfl) (hn (nt ?_))
    exact ⟨(seq x45 S_time), (isp rfl), h⟩
   rintro ρ H_3 ⟨y43, hI, h⟩
   obtain ⟨ρ0, rfl⟩ := hI.ex
   clear hI; unfold F68_3 at h
   obtain ⟨hT, hF⟩ := h
   refine wk y43 rfl (fun hb46 => ?_) (fun hb46 => ?_)
   ·have h := hT hb46
    refine ws (wr_ (hv (v := (iv 20)) rfl (av rfl) (hn (nt (HW.ret (tr (br (tr (tr (br (tr ?_)))))))))))
    exact ⟨_, resOf1 rfl Res1.t, ⟨20, rfl, h⟩⟩
   have h := hF hb46
   refine wp_ (nt (ws (wc (fun ρ H_4 => ∃ (y54 : Bool), Env.Is ρ [(1, (pp (bk H))), (3, (iv y12)), (4, (pp (bk H_1))), (42, (bv y54))] ∧ F68_4 Q X1 (bk H) y12 (bk H_1) y54 H_4) ?_ ?_)))
   ·refine wr_ (hv (v := (pp (Addr.add (bk H_1) 1))) rfl (fa runUnderlying38 rfl rfl sizeOf3 rfl) ?_)
    obtain ⟨x51, c50, h⟩ := h
    refine hv (v := (iv x51)) rfl (l1 isAgg3 rfl c50) (hv (v := (bv (decide (x51 < 1)))) rfl (HVal.lss rfl rfl) (hv (v := (bv (decide (x51 < 1)))) rfl (mv rfl) ?_))
    obtain ⟨hT, hF⟩ := h
    rcases Bool.eq_false_or_eq_true (decide (x51 < 1)) with hb52 | hb53
    ·have h := hT hb52
     refine hs_ rfl rfl rfl rfl (cB hb52) (hs_ rfl rfl rfl rfl (cB hb52) (hs_ rfl rfl rfl rfl (cB hb52) (hv (v := (bv true)) rfl (pt_ rfl hb52 rfl) ?_)))
     refine hn (nt ?_)
     exact ⟨true, (isp rfl), h⟩
    have h := hF hb53
    refine hg (v := (pp (Addr.add (bk H_1) 1))) rfl rfl rfl rfl (cB hb53) (fa runUnderlying38 rfl rfl sizeOf3 rfl) ?_
    obtain ⟨x56, c55, h⟩ := h
    refine hg (v := (iv x56)) rfl rfl rfl rfl (cB hb53) (l1 isAgg3 rfl c55) (hg (v := (bv (decide ((3 : Int) < x56)))) rfl rfl rfl rfl (cB hb53) (HVal.gtr rfl rfl) ?_)
    refine hv (v := (bv (decide ((3 : Int) < x56)))) rfl (pf_ rfl hb53 rfl) (hn (nt ?_))
    exact ⟨(decide ((3 : Int) < x56)), (isp rfl), h⟩
   rintro ρ H_4 ⟨y54, hI, h⟩
   obtain ⟨ρ0, rfl⟩ := hI.ex
   clear hI; unfold F68_4 at h
   obtain ⟨hT, hF⟩ := h
   refine wk y54 rfl (fun hb57 => ?_) (fun hb57 => ?_)
   ·have h := hT hb57
    refine ws (wr_ (hv (v := (iv 24)) rfl (av rfl) (hn (nt (HW.ret (tr (br (tr (tr (br (tr ?_)))))))))))
    exact ⟨_, resOf1 rfl Res1.t, ⟨24, rfl, h⟩⟩
   have h := hF hb57
   refine wp_ (nt (ws (wr_ (hv (v := (iv 0)) rfl (av rfl) (hn (nt (wb (HW.loop' (fun L5 hL5 => ?_)))))))))
   obtain ⟨X5, hX5⟩ : ∃ X5 : Int → Hp → Prop, ∀ (y58 : Int) (H_5 : Hp), X5 y58 H_5 ↔ ∀ ρ, Env.Is ρ [(1, (pp (bk H))), (3, (iv y12)), (4, (pp (bk H_1))), (5, (iv y58))] → L5 ρ H_5 := ⟨_, fun _ _ => Iff.rfl⟩
   refine (hX5 _ _).1 (h X5 ?_) _ ?_
   rotate_left
   ·exact (isp rfl)
   clear h
   intro y58 H_5 h
   refine (hX5 _ _).2 fun ρ hI => ?_
   obtain ⟨ρ0, rfl⟩ := hI.ex
   clear hI; unfold F68_L5b at h; refine hL5 _ _ ?_
   refine ws (ws (wr_ (hv (v := (iv y58)) rfl (mv rfl) (hv (v := (iv y12)) rfl (mv rfl) (hv (v := (bv (decide (y58 < y12)))) rfl (HVal.lss rfl rfl) ?_)))))
   refine hn (nt ?_)
   obtain ⟨hT, hF⟩ := h
   refine wk (decide (y58 < y12)) rfl (fun hb62 => ?_) (fun hb62 => ?_)
   ·have h := hT hb62
    refine wp_ (nt (ws (wb (ws (HW.draw mixed [(0, some []), (1, some []), (2, some []), (3, some []), (4, some []), (5, some []), (6, some []), (7, some []), (8, some [])] rfl (by kernel_rfl) (by kernel_rfl) ?_)))))
    refine pv (v := (pp (Addr.add (bk H) 1))) rfl rfl (fun _ => fa runUnderlying27 rfl rfl sizeOf25 rfl) ?_
    obtain ⟨x64, c63, h⟩ := h
    refine pl (v := (Sl.v x64)) (fun X => cell X (Addr.add (bk H) 1) = some (Sl.v x64)) rfl rfl (fun _ hX => l1 isAgg25 rfl hX) c63 (pv (v := (iv y58)) rfl rfl (fun _ => mv rfl) ?_)
    obtain ⟨a65, e66, b67, b68, h⟩ := h
    refine pv (v := (pp (Addr.add a65 (y58.toNat * 2)))) rfl rfl (fun _ => ia runUnderlying25 sizeOf38 (Sl.v_some rfl e66) rfl b67 b68) ?_
    refine pv (v := (pp (Addr.add a65 (y58.toNat * 2)))) rfl rfl (fun _ => HVal.fieldAddr0 runUnderlying38 rfl rfl sizeOf9 rfl) ?_
    obtain ⟨x70, c69, h⟩ := h
    refine pl (v := (sv x70)) (fun X => cell X (Addr.add a65 (y58.toNat * 2)) = some (sv x70)) rfl rfl (fun _ hX => l1 isAgg9 rfl hX) c69 ?_
    refine pv (v := (pp (bk H_1))) rfl rfl (fun _ => HVal.fieldAddr0 runUnderlying38 rfl rfl sizeOf9 rfl) ?_
    obtain ⟨x72, c71, h⟩ := h
    refine pl (v := (sv x72)) (fun X => cell X (bk H_1) = some (sv x72)) rfl rfl (fun _ hX => l1 isAgg9 rfl hX) c71 (pv (v := (bv (seq x70 x72))) rfl rfl (fun _ => HVal.eqlS rfl rfl) ?_)
    refine HPlan.done (nt ?_)
    obtain ⟨hT, hF⟩ := h
    refine wk (seq x70 x72) rfl (fun hb73 => ?_) (fun hb73 => ?_)
    ·have h := hT hb73
     refine ws (wr_ (hv (v := (iv 5)) rfl (av rfl) (hn (nt (HW.ret (br (tr (tr (br (br (tr (tr (br (tr ?_))))))))))))))
     exact ⟨_, resOf1 rfl Res1.t, ⟨5, rfl, h⟩⟩
    have h := hF hb73
    refine wp_ (nb (nt (wr_ (hv (v := (iv y58)) rfl (mv rfl) (hv (v := (iv (IntKind.i64.wrap (y58 + 1)))) rfl (HVal.add rfl rfl) ?_)))))
    refine hv (v := (iv (IntKind.i64.wrap (y58 + 1)))) rfl (av rfl) (hn (nt ?_))
    exact (hX5 _ _).1 h _ (isp rfl)
   have h := hF hb62
   refine we (te (te (be (nb (nt ?_)))))
   exact ⟨(isp rfl), h⟩
  rintro ρ H_2 ⟨hI, h⟩
  obtain ⟨ρ0, rfl⟩ := hI.ex
  clear hI; unfold F68_2 at h
  refine wr_ (hv (v := (iv y12)) rfl (mv rfl) (hv (v := (iv (IntKind.i64.wrap (y12 + 1)))) rfl (HVal.add rfl rfl) (hv (v := (iv (IntKind.i64.wrap (y12 + 1)))) rfl (av rfl) ?_)))
  refine hn (nt ?_)
  exact (hX1 _ _).1 h _ (isp rfl)
 have h := hF hb16
 refine we (te (te (be (nt (ws (wr_ (hv (v := (iv 0)) rfl (av rfl) (hn (nt (HW.ret ?_))))))))))
 exact ⟨_, resOf1 rfl Res1.t, ⟨0, rfl, h⟩⟩

def F69_L1b (Q X1 : Int → Hp → Prop) (y2 : (Option Addr)) (y3 : ByteArray) (y1 : Int) (H_1 : Hp) : Prop :=
∃ a4 : Addr, y2 = some a4 ∧ (
 ∃ x7 : Sl, cell H_1 a4 = some (Sl.v x7) ∧ (
 ((decide (y1 < ((x7).n : Int))) = true → (∃ a9 : Addr, y2 = some a9 ∧ (
 ∃ x12 : Sl, cell H_1 a9 = some (Sl.v x12) ∧ (
 ∃ a13 : Addr, (x12).b = some a13 ∧ (0 : Int) ≤ y1 ∧ y1 < ((x12).n : Int) ∧ (
 ∃ x18 : ByteArray, cell H_1 (Addr.add a13 (y1.toNat * 2)) = some (sv x18) ∧ (
 ((seq x18 y3) = true → (Q y1 H_1)) ∧
 ((seq x18 y3) = false → (X1 (IntKind.i64.wrap (y1 + 1)) H_1)))))))) ∧
 ((decide (y1 < ((x7).n : Int))) = false → (Q (-1) H_1))))
def F69_L1 (Q : Int → Hp → Prop) (y2 : (Option Addr)) (y3 : ByteArray) (y1 : Int) (H_1 : Hp) : Prop :=
 ∀ X1 : Int → Hp → Prop, (∀ (y1 : Int) (H_1 : Hp), F69_L1b Q X1 y2 y3 y1 H_1 → X1 y1 H_1) → X1 y1 H_1
def F69 (p0 : (Option Addr)) (p1 : ByteArray) (H : Hp) (Q : Int → Hp → Prop) : Prop :=
F69_L1 Q p0 p1 0 H
theorem walk69 {w0 : World} {p0 : (Option Addr)} {p1 : ByteArray} {H : Hp} {Q : Int → Hp → Prop} (h : F69 p0 p1 H Q) :
  Good prog w0 69 #[(.pointer p0), (sv p1)] H (fun v H => ∃ (r0 : Int) , v = (iv r0) ∧ Q r0 H) := by
 unfold F69 at h
 refine Good.enter' (fn := f69) func69 rfl rfl rfl (ws (wr_ (hv (v := (iv 0)) rfl (av rfl) (hn (nt (ws ?_))))))
 refine ws (wr_ (hv (v := (iv 0)) rfl (av rfl) (hn (nt (wb (HW.loop' (fun L1 hL1 => ?_)))))))
 obtain ⟨X1, hX1⟩ : ∃ X1 : Int → Hp → Prop, ∀ (y1 : Int) (H_1 : Hp), X1 y1 H_1 ↔ ∀ ρ, Env.Is ρ [(0, (.pointer p0)), (1, (sv p1)), (5, (iv y1))] → L1 ρ H_1 := ⟨_, fun _ _ => Iff.rfl⟩
 refine (hX1 _ _).1 (h X1 ?_) _ ?_
 rotate_left
 ·exact (isp rfl)
 clear h
 intro y1 H_1 h
 refine (hX1 _ _).2 fun ρ hI => ?_
 obtain ⟨ρ0, rfl⟩ := hI.ex
 clear hI; unfold F69_L1b at h; refine hL1 _ _ ?_
 refine ws (ws (wr_ (hv (v := (iv y1)) rfl (mv rfl) (hv (v := (.pointer p0)) rfl (mv rfl) ?_))))
 obtain ⟨a4, e5, h⟩ := h
 refine hv (v := (pp a4)) rfl (HVal.nilCheck (congrArg Value.pointer e5)) (hv (v := (pp a4)) rfl (HVal.fieldAddr0 runUnderlying118 rfl rfl sizeOf54 rfl) ?_)
 obtain ⟨x7, c6, h⟩ := h
 refine hv (v := (Sl.v x7)) rfl (l1 isAgg54 rfl c6) (hv (v := (iv ((x7).n : Int))) rfl (HVal.len runUnderlying54 rfl) (hv (v := (bv (decide (y1 < ((x7).n : Int))))) rfl (HVal.lss rfl rfl) ?_))
 refine hn (nt ?_)
 obtain ⟨hT, hF⟩ := h
 refine wk (decide (y1 < ((x7).n : Int))) rfl (fun hb8 => ?_) (fun hb8 => ?_)
 ·have h := hT hb8
  refine wp_ (nt (ws (wb (ws (wr_ (hv (v := (.pointer p0)) rfl (mv rfl) ?_))))))
  obtain ⟨a9, e10, h⟩ := h
  refine hv (v := (pp a9)) rfl (HVal.nilCheck (congrArg Value.pointer e10)) (hv (v := (pp a9)) rfl (HVal.fieldAddr0 runUnderlying118 rfl rfl sizeOf54 rfl) ?_)
  obtain ⟨x12, c11, h⟩ := h
  refine hv (v := (Sl.v x12)) rfl (l1 isAgg54 rfl c11) (hv (v := (iv y1)) rfl (mv rfl) ?_)
  obtain ⟨a13, e14, b15, b16, h⟩ := h
  refine hv (v := (pp (Addr.add a13 (y1.toNat * 2)))) rfl (ia runUnderlying54 sizeOf27 (Sl.v_some rfl e14) rfl b15 b16) ?_
  refine hv (v := (pp (Addr.add a13 (y1.toNat * 2)))) rfl (HVal.fieldAddr0 runUnderlying27 rfl rfl sizeOf9 rfl) ?_
  obtain ⟨x18, c17, h⟩ := h
  refine hv (v := (sv x18)) rfl (l1 isAgg9 rfl c17) (hv (v := (sv p1)) rfl (mv rfl) (hv (v := (bv (seq x18 p1))) rfl (HVal.eqlS rfl rfl) ?_))
  refine hn (nt ?_)
  obtain ⟨hT, hF⟩ := h
  refine wk (seq x18 p1) rfl (fun hb19 => ?_) (fun hb19 => ?_)
  ·have h := hT hb19
   refine ws (wr_ (hv (v := (iv y1)) rfl (mv rfl) (hv (v := (iv y1)) rfl (av rfl) (hn (nt (HW.ret (br ?_)))))))
   refine tr (tr (br (tr ?_)))
   exact ⟨_, resOf1 rfl Res1.t, ⟨y1, rfl, h⟩⟩
  have h := hF hb19
  refine wp_ (nb (nt (wr_ (hv (v := (iv y1)) rfl (mv rfl) (hv (v := (iv (IntKind.i64.wrap (y1 + 1)))) rfl (HVal.add rfl rfl) ?_)))))
  refine hv (v := (iv (IntKind.i64.wrap (y1 + 1)))) rfl (av rfl) (hn (nt ?_))
  exact (hX1 _ _).1 h _ (isp rfl)
 have h := hF hb8
 refine we (te (te (be (nt (ws (wr_ (hv (v := (iv (-1))) rfl (av rfl) (hn (nt (HW.ret ?_))))))))))
 exact ⟨_, resOf1 rfl Res1.t, ⟨(-1), rfl, h⟩⟩

def F70 (p0_0 : ByteArray) (p0_1 : Sl) (H : Hp) (Q : ByteArray → Sl → Hp → Prop) : Prop :=
∀ H1 : Hp, H1 = Array.push H (.cells #[(sv p0_0), (Sl.v p0_1)] 27) → (
 ∀ H3 : Hp, H3 = Array.push H1 (.cells #[(sv bE), sN] 27) → (
 ∃ x6 : Sl, cell H3 (Addr.add (bk H) 1) = some (Sl.v x6) ∧ (
 AppendF H3 38 2 24 #[(sv bE), (iv 0)] Sl.nil (x6).b (x6).n (fun (r9 : Sl) (H7 : Hp) => 
 (cell H7 (Addr.add (bk H) 1)).isSome = true ∧ frz H7 (Addr.add (bk H) 1) = false ∧ ∀ H10 : Hp, H10 = setc H7 (Addr.add (bk H) 1) (Sl.v r9) → (
 ∃ (x15 : ByteArray) (x16 : Sl), cells H10 (bk H) [(sv x15), (Sl.v x16)] 0 ∧ (
 mayw H10 (bk H1) 2 0 ∧ ∀ H17 : Hp, H17 = sets H10 (bk H1) [(sv x15), (Sl.v x16)] 0 → (
 ∃ (x20 : ByteArray) (x21 : Sl), cells H17 (bk H1) [(sv x20), (Sl.v x21)] 0 ∧ (
 Q x20 x21 H17))))))))
theorem walk70 {w0 : World} {p0_0 : ByteArray} {p0_1 : Sl} {H : Hp} {Q : ByteArray → Sl → Hp → Prop} (h : F70 p0_0 p0_1 H Q) :
  Good prog w0 70 #[(.agg #[(sv p0_0), (Sl.v p0_1)])] H (fun v H => ∃ (r0 : ByteArray) (r1 : Sl) , v = (.agg #[(sv r0), (Sl.v r1)]) ∧ Q r0 r1 H) := by
 unfold F70 at h
 refine Good.enter' (fn := f70) func70 rfl rfl rfl (ws (wr_ (ho rfl (ob (v := (.agg #[(sv p0_0), (Sl.v p0_1)])) rfl) ?_)))
 rintro _ H1 ⟨rfl, e2⟩
 replace h := h H1 e2
 refine ho rfl (HOp.alloc zeroValue27) ?_
 rintro _ H3 ⟨rfl, e4⟩
 replace h := h H3 e4
 refine hn (nt (ws (wr_ (hv (v := (pp (Addr.add (bk H) 1))) rfl (fa runUnderlying27 rfl rfl sizeOf25 rfl) ?_))))
 obtain ⟨x6, c5, h⟩ := h
 refine hv (v := (Sl.v x6)) rfl (l1 isAgg25 rfl c5) (ho rfl (HOp.append (k := 2) (b := 24) runUnderlying25 runUnderlying25 typeInfo38 rfl rfl zeroValue38 rfl rfl h) ?_)
 rintro _ H7 ⟨r9, rfl, h⟩
 refine hv (v := (pp (Addr.add (bk H) 1))) rfl (fa runUnderlying27 rfl rfl sizeOf25 rfl) ?_
 obtain ⟨z12, z13, h⟩ := h
 refine hq (HOp.store1 sizeOf25 rfl rfl rfl z12 z13) ?_
 rintro _ H10 e11
 replace h := h H10 e11
 refine hn (nt (ws (wr_ ?_)))
 obtain ⟨x15, x16, c14, h⟩ := h
 refine hv (v := (.agg #[(sv x15), (Sl.v x16)])) rfl (ln [(sv x15), (Sl.v x16)] isAgg27 sizeOf27 rfl c14) ?_
 obtain ⟨z19, h⟩ := h
 refine hq (HOp.storeN' (l := [(sv x15), (Sl.v x16)]) sizeOf27 rfl rfl rfl z19) ?_
 rintro _ H17 e18
 replace h := h H17 e18
 refine hn (nt (HW.ret ?_))
 obtain ⟨x20, x21, c22, h⟩ := h
 exact ⟨_, resOf1 rfl (Res1.n [(sv x20), (Sl.v x21)] isAgg27 sizeOf27 rfl c22), ⟨x20, x21, rfl, h⟩⟩

def F40 (p0 : (Option Addr)) (p1_0 : ByteArray) (p1_1 : Sl) (H : Hp) (Q : Int → Hp → Prop) : Prop :=
∀ H1 : Hp, H1 = Array.push H (.cells #[(sv p1_0), (Sl.v p1_1)] 27) → (
 ∃ (x4 : ByteArray) (x5 : Sl), cells H1 (bk H) [(sv x4), (Sl.v x5)] 0 ∧ (
 F68 x4 x5 H1 (fun (r8 : Int) (H6 : Hp) => 
 ((decide (r8 ≠ 0)) = true → (Q r8 H6)) ∧
 ((decide (r8 ≠ 0)) = false → (∃ x11 : ByteArray, cell H6 (bk H) = some (sv x11) ∧ (
 F69 p0 x11 H6 (fun (r14 : Int) (H12 : Hp) => 
 ((decide ((0 : Int) ≤ r14)) = true → (Q 5 H12)) ∧
 ((decide ((0 : Int) ≤ r14)) = false → (∃ a16 : Addr, p0 = some a16 ∧ (
 ∃ x19 : Sl, cell H12 a16 = some (Sl.v x19) ∧ (
 ((decide ((64 : Int) ≤ ((x19).n : Int))) = true → (Q 4 H12)) ∧
 ((decide ((64 : Int) ≤ ((x19).n : Int))) = false → (∃ a21 : Addr, p0 = some a21 ∧ (
 ∃ x24 : Sl, cell H12 a21 = some (Sl.v x24) ∧ (
 ∃ (x26 : ByteArray) (x27 : Sl), cells H12 (bk H) [(sv x26), (Sl.v x27)] 0 ∧ (
 F70 x26 x27 H12 (fun (r30 : ByteArray) (r31 : Sl) (H28 : Hp) => 
 cell H28 a21 = some (Sl.v x24) ∧ (
 ∀ H33 : Hp, H33 = Array.push H28 (.cells #[(sv r30), (Sl.v r31)] 27) → (
 cell H33 a21 = some (Sl.v x24) ∧ (
 AppendF H33 27 2 40 #[(sv bE), sN] x24 ((Sl.mk (some (bk H28)) 1 1)).b ((Sl.mk (some (bk H28)) 1 1)).n (fun (r38 : Sl) (H36 : Hp) => 
 ∃ a39 : Addr, p0 = some a39 ∧ (
 (cell H36 a39).isSome = true ∧ frz H36 a39 = false ∧ ∀ H41 : Hp, H41 = setc H36 a39 (Sl.v r38) → (
 Q 0 H41)))))))))))))))))))))))
theorem walk40 {w0 : World} {p0 : (Option Addr)} {p1_0 : ByteArray} {p1_1 : Sl} {H : Hp} {Q : Int → Hp → Prop} (h : F40 p0 p1_0 p1_1 H Q) :
  Good prog w0 40 #[(.pointer p0), (.agg #[(sv p1_0), (Sl.v p1_1)])] H (fun v H => ∃ (r0 : Int) , v = (iv r0) ∧ Q r0 H) := by
 unfold F40 at h
 refine Good.enter' (fn := f40) func40 rfl rfl rfl (ws (wr_ (ho rfl (ob (v := (.agg #[(sv p1_0), (Sl.v p1_1)])) rfl) ?_)))
 rintro _ H1 ⟨rfl, e2⟩
 replace h := h H1 e2
 refine hv (v := (iv 0)) rfl (av rfl) (hn (nt (ws (wr_ ?_))))
 obtain ⟨x4, x5, c3, h⟩ := h
 refine hv (v := (.agg #[(sv x4), (Sl.v x5)])) rfl (ln [(sv x4), (Sl.v x5)] isAgg27 sizeOf27 rfl c3) (ho rfl (HOp.call' 68 [(.agg #[(sv x4), (Sl.v x5)])] (cap := []) rfl rfl call68 (walk68 h)) ?_)
 rintro _ H6 ⟨r8, rfl, h⟩
 refine hv (v := (iv r8)) rfl (av rfl) (hn (nt (ws (ws (wr_ (hv (v := (iv r8)) rfl (mv rfl) (hv (v := (bv (decide (r8 ≠ 0)))) rfl (HVal.neqI rfl rfl) ?_)))))))
 refine hn (nt ?_)
 obtain ⟨hT, hF⟩ := h
 refine wk (decide (r8 ≠ 0)) rfl (fun hb9 => ?_) (fun hb9 => ?_)
 ·have h := hT hb9
  refine ws (wr_ (hv (v := (iv r8)) rfl (mv rfl) (hv (v := (iv r8)) rfl (av rfl) (hn (nt (HW.ret (tr ?_)))))))
  exact ⟨_, resOf1 rfl Res1.t, ⟨r8, rfl, h⟩⟩
 have h := hF hb9
 refine wp_ (nt (ws (ws (wr_ (hv (v := (.pointer p0)) rfl (mv rfl) (hv (v := (pp (bk H))) rfl (HVal.fieldAddr0 runUnderlying27 rfl rfl sizeOf9 rfl) ?_))))))
 obtain ⟨x11, c10, h⟩ := h
 refine hv (v := (sv x11)) rfl (l1 isAgg9 rfl c10) (ho rfl (HOp.call' 69 [(.pointer p0), (sv x11)] (cap := []) rfl rfl call69 (walk69 h)) ?_)
 rintro _ H12 ⟨r14, rfl, h⟩
 refine hv (v := (bv (decide ((0 : Int) ≤ r14)))) rfl (HVal.geq rfl rfl) (hn (nt ?_))
 obtain ⟨hT, hF⟩ := h
 refine wk (decide ((0 : Int) ≤ r14)) rfl (fun hb15 => ?_) (fun hb15 => ?_)
 ·have h := hT hb15
  refine ws (wr_ (hv (v := (iv 5)) rfl (av rfl) (hn (nt (HW.ret (tr ?_))))))
  exact ⟨_, resOf1 rfl Res1.t, ⟨5, rfl, h⟩⟩
 have h := hF hb15
 refine wp_ (nt (ws (ws (wr_ (hv (v := (.pointer p0)) rfl (mv rfl) ?_)))))
 obtain ⟨a16, e17, h⟩ := h
 refine hv (v := (pp a16)) rfl (HVal.nilCheck (congrArg Value.pointer e17)) (hv (v := (pp a16)) rfl (HVal.fieldAddr0 runUnderlying118 rfl rfl sizeOf54 rfl) ?_)
 obtain ⟨x19, c18, h⟩ := h
 refine hv (v := (Sl.v x19)) rfl (l1 isAgg54 rfl c18) (hv (v := (iv ((x19).n : Int))) rfl (HVal.len runUnderlying54 rfl) (hv (v := (bv (decide ((64 : Int) ≤ ((x19).n : Int))))) rfl (HVal.geq rfl rfl) ?_))
 refine hn (nt ?_)
 obtain ⟨hT, hF⟩ := h
 refine wk (decide ((64 : Int) ≤ ((x19).n : Int))) rfl (fun hb20 => ?_) (fun hb20 => ?_)
 ·have h := hT hb20
  refine ws (wr_ (hv (v := (iv 4)) rfl (av rfl) (hn (nt (HW.ret (tr ?_))))))
  exact ⟨_, resOf1 rfl Res1.t, ⟨4, rfl, h⟩⟩
 have h := hF hb20
 refine wp_ (nt (ws (HW.draw mixed [(0, some []), (1, some []), (2, some []), (3, some []), (4, some [8, 11]), (5, some [6, 11]), (6, none), (7, none), (8, none), (9, some []), (10, some []), (11, none)] rfl (by kernel_rfl) (by kernel_rfl) ?_)))
 refine pv (v := (.pointer p0)) rfl rfl (fun _ => mv rfl) (pv (v := (.pointer p0)) rfl rfl (fun _ => mv rfl) ?_)
 obtain ⟨a21, e22, h⟩ := h
 refine pv (v := (pp a21)) rfl rfl (fun _ => HVal.nilCheck (congrArg Value.pointer e22)) (pv (v := (pp a21)) rfl rfl (fun _ => HVal.fieldAddr0 runUnderlying118 rfl rfl sizeOf54 rfl) ?_)
 obtain ⟨x24, c23, h⟩ := h
 refine pl (v := (Sl.v x24)) (fun X => cell X a21 = some (Sl.v x24)) rfl rfl (fun _ hX => l1 isAgg54 rfl hX) c23 ?_
 obtain ⟨x26, x27, c25, h⟩ := h
 refine pl (v := (.agg #[(sv x26), (Sl.v x27)])) (fun X => cells X (bk H) [(sv x26), (Sl.v x27)] 0) rfl rfl (fun _ hX => ln [(sv x26), (Sl.v x27)] isAgg27 sizeOf27 rfl hX) c25 ?_
 refine po rfl rfl (HOp.call' 70 [(.agg #[(sv x26), (Sl.v x27)])] (cap := []) rfl rfl call70 (walk70 h)) ?_
 rintro _ H28 ⟨r30, r31, rfl, h⟩
 obtain ⟨s32, h⟩ := h
 refine ⟨SC_of ⟨nofun, fun _ => s32, trivial⟩, ?_⟩
 refine po rfl rfl (HOp.buildSlice' (zs := [(sv bE), sN]) (cs := [(sv r30), (Sl.v r31)]) runUnderlying54 sizeOf27 zeroValue27 (by decide) (by kernel_rfl) rfl (by decide)) ?_
 rintro _ H33 ⟨rfl, e34⟩
 replace h := h H33 e34
 obtain ⟨s35, h⟩ := h
 refine ⟨SC_of ⟨nofun, fun _ => s35, trivial⟩, ?_⟩
 refine po rfl rfl (HOp.append (k := 2) (b := 40) runUnderlying54 runUnderlying54 typeInfo27 rfl rfl zeroValue27 rfl rfl h) ?_
 rintro _ H36 ⟨r38, rfl, h⟩
 refine ⟨SC_of ⟨nofun, nofun, trivial⟩, ?_⟩
 obtain ⟨a39, e40, h⟩ := h
 refine pv (v := (pp a39)) rfl rfl (fun _ => HVal.nilCheck (congrArg Value.pointer e40)) (pv (v := (pp a39)) rfl rfl (fun _ => HVal.fieldAddr0 runUnderlying118 rfl rfl sizeOf54 rfl) ?_)
 obtain ⟨z43, z44, h⟩ := h
 refine pn rfl (HOp.store1 sizeOf54 rfl rfl rfl z43 z44) ?_
 rintro _ H41 e42
 replace h := h H41 e42
 refine ⟨SC_of ⟨nofun, nofun, trivial⟩, ?_⟩
 refine HPlan.done (nt (ws (wr_ (hv (v := (iv 0)) rfl (av rfl) (hn (nt (HW.ret ?_)))))))
 exact ⟨_, resOf1 rfl Res1.t, ⟨0, rfl, h⟩⟩

def F41_1 (Q : Bool → Hp → Prop) (y68 : Bool) (H_1 : Hp) : Prop :=
Q y68 H_1
def F41_4 (Q : Bool → Hp → Prop) (X2 : Bool → Int → Hp → Prop) (y37 : (Option Addr)) (y38 : Addr) (y39 : Int) (y56 : Bool) (H_4 : Hp) : Prop :=
∃ a57 : Addr, y37 = some a57 ∧ (
 ∃ x60 : Sl, cell H_4 a57 = some (Sl.v x60) ∧ (
 ∃ a61 : Addr, (x60).b = some a61 ∧ (0 : Int) ≤ y39 ∧ y39 < ((x60).n : Int) ∧ (
 mayw H_4 (Addr.add a61 (y39.toNat * 2)) 2 0 ∧ ∀ H65 : Hp, H65 = sets H_4 (Addr.add a61 (y39.toNat * 2)) [(sv S_kept), (iv 0)] 0 → (
 X2 y56 (IntKind.i64.wrap (y39 + 1)) H65))))
def F41_3 (Q : Bool → Hp → Prop) (X2 : Bool → Int → Hp → Prop) (y17 : (Option Addr)) (y18 : Addr) (y19 : Bool) (y20 : Int) (y21 : Addr) (H_3 : Hp) : Prop :=
(y19 = true → (∃ a42 : Addr, y17 = some a42 ∧ (
 ∃ x45 : Sl, cell H_3 a42 = some (Sl.v x45) ∧ (
 ∃ a46 : Addr, (x45).b = some a46 ∧ (0 : Int) ≤ y20 ∧ y20 < ((x45).n : Int) ∧ (
 ∃ (x51 : ByteArray) (x52 : Int), cells H_3 (Addr.add a46 (y20.toNat * 2)) [(sv x51), (iv x52)] 0 ∧ (
 ∃ (x54 : ByteArray) (x55 : Int), cells H_3 y21 [(sv x54), (iv x55)] 0 ∧ (
 F41_4 Q X2 y17 y18 y20 (seq x51 x54 && decide (x52 = x55)) H_3))))))) ∧
 (y19 = false → (F41_4 Q X2 y17 y18 y20 false H_3))
def F41_L2b (Q : Bool → Hp → Prop) (X2 : Bool → Int → Hp → Prop) (y5 : (Option Addr)) (y6 : Addr) (y3 : Bool) (y4 : Int) (H_2 : Hp) : Prop :=
∃ a7 : Addr, y5 = some a7 ∧ (
 ∃ x10 : Sl, cell H_2 a7 = some (Sl.v x10) ∧ (
 ((decide (y4 < ((x10).n : Int))) = true → (∀ H12 : Hp, H12 = Array.push H_2 (.cells #[(sv bE), (iv 0)] 38) → (
 mayw H12 (bk H_2) 2 0 ∧ ∀ H14 : Hp, H14 = sets H12 (bk H_2) [(sv bE), (iv (IntKind.i64.wrap (77 + y4)))] 0 → (
 ∃ x23 : Sl, cell H14 (Addr.add y6 1) = some (Sl.v x23) ∧ (
 ((decide (y4 < ((x23).n : Int))) = true → (∃ x26 : Sl, cell H14 (Addr.add y6 1) = some (Sl.v x26) ∧ (
 ∃ a27 : Addr, (x26).b = some a27 ∧ (0 : Int) ≤ y4 ∧ y4 < ((x26).n : Int) ∧ (
 ∃ (x32 : ByteArray) (x33 : Int), cells H14 (Addr.add a27 (y4.toNat * 2)) [(sv x32), (iv x33)] 0 ∧ (
 mayw H14 (bk H_2) 2 0 ∧ ∀ H34 : Hp, H34 = sets H14 (bk H_2) [(sv x32), (iv x33)] 0 → (
 F41_3 Q X2 y5 y6 y3 y4 (bk H_2) H34)))))) ∧
 ((decide (y4 < ((x23).n : Int))) = false → (F41_3 Q X2 y5 y6 y3 y4 (bk H_2) H14))))))) ∧
 ((decide (y4 < ((x10).n : Int))) = false → (F41_1 Q y3 H_2))))
def F41_L2 (Q : Bool → Hp → Prop) (y5 : (Option Addr)) (y6 : Addr) (y3 : Bool) (y4 : Int) (H_2 : Hp) : Prop :=
 ∀ X2 : Bool → Int → Hp → Prop, (∀ (y3 : Bool) (y4 : Int) (H_2 : Hp), F41_L2b Q X2 y5 y6 y3 y4 H_2 → X2 y3 y4 H_2) → X2 y3 y4 H_2
def F41 (p0 : (Option Addr)) (p1_0 : ByteArray) (p1_1 : Sl) (H : Hp) (Q : Bool → Hp → Prop) : Prop :=
∀ H1 : Hp, H1 = Array.push H (.cells #[(sv p1_0), (Sl.v p1_1)] 27) → (
 F41_L2 Q p0 (bk H) true 0 H1)
theorem walk41 {w0 : World} {p0 : (Option Addr)} {p1_0 : ByteArray} {p1_1 : Sl} {H : Hp} {Q : Bool → Hp → Prop} (h : F41 p0 p1_0 p1_1 H Q) :
  Good prog w0 41 #[(.pointer p0), (.agg #[(sv p1_0), (Sl.v p1_1)])] H (fun v H => ∃ (r0 : Bool) , v = (bv r0) ∧ Q r0 H) := by
 unfold F41 at h
 refine Good.enter' (fn := f41) func41 rfl rfl rfl (ws (wr_ (ho rfl (ob (v := (.agg #[(sv p1_0), (Sl.v p1_1)])) rfl) ?_)))
 rintro _ H1 ⟨rfl, e2⟩
 replace h := h H1 e2
 refine hv (v := (bv false)) rfl (av rfl) (hn (nt (ws (wr_ (hv (v := (bv true)) rfl (av rfl) (hn (nt ?_)))))))
 refine wc (fun ρ H_1 => ∃ (y68 : Bool), Env.Is ρ [(5, (bv y68))] ∧ F41_1 Q y68 H_1) ?_ ?_
 ·refine ws (wr_ (hv (v := (iv 0)) rfl (av rfl) (hn (nt (wb (HW.loop' (fun L2 hL2 => ?_)))))))
  obtain ⟨X2, hX2⟩ : ∃ X2 : Bool → Int → Hp → Prop, ∀ (y3 : Bool) (y4 : Int) (H_2 : Hp), X2 y3 y4 H_2 ↔ ∀ ρ, Env.Is ρ [(0, (.pointer p0)), (3, (pp (bk H))), (5, (bv y3)), (6, (iv y4))] → L2 ρ H_2 := ⟨_, fun _ _ _ => Iff.rfl⟩
  refine (hX2 _ _ _).1 (h X2 ?_) _ ?_
  rotate_left
  ·exact (isp rfl)
  clear h
  intro y3 y4 H_2 h
  refine (hX2 _ _ _).2 fun ρ hI => ?_
  obtain ⟨ρ0, rfl⟩ := hI.ex
  clear hI; unfold F41_L2b at h; refine hL2 _ _ ?_
  refine ws (ws (wr_ (hv (v := (iv y4)) rfl (mv rfl) (hv (v := (.pointer p0)) rfl (mv rfl) ?_))))
  obtain ⟨a7, e8, h⟩ := h
  refine hv (v := (pp a7)) rfl (HVal.nilCheck (congrArg Value.pointer e8)) (hv (v := (pp a7)) rfl (HVal.fieldAddr0 runUnderlying60 rfl rfl sizeOf25 rfl) ?_)
  obtain ⟨x10, c9, h⟩ := h
  refine hv (v := (Sl.v x10)) rfl (l1 isAgg25 rfl c9) (hv (v := (iv ((x10).n : Int))) rfl (HVal.len runUnderlying25 rfl) (hv (v := (bv (decide (y4 < ((x10).n : Int))))) rfl (HVal.lss rfl rfl) ?_))
  refine hn (nt ?_)
  obtain ⟨hT, hF⟩ := h
  refine wk (decide (y4 < ((x10).n : Int))) rfl (fun hb11 => ?_) (fun hb11 => ?_)
  ·have h := hT hb11
   refine wp_ (nt (ws (wb (ws (wr_ (hv (v := (iv y4)) rfl (mv rfl) (hv (v := (iv (IntKind.i64.wrap (77 + y4)))) rfl (HVal.add rfl rfl) ?_)))))))
   refine hv (v := (.agg #[(sv bE), (iv (IntKind.i64.wrap (77 + y4)))])) rfl (HVal.build' (cs := [(sv bE), (iv (IntKind.i64.wrap (77 + y4)))]) runUnderlying38 zeroValue38 places38 rfl) ?_
   refine ho rfl (HOp.alloc zeroValue38) ?_
   rintro _ H12 ⟨rfl, e13⟩
   replace h := h H12 e13
   obtain ⟨z16, h⟩ := h
   refine hq (HOp.storeN' (l := [(sv bE), (iv (IntKind.i64.wrap (77 + y4)))]) sizeOf38 rfl rfl rfl z16) ?_
   rintro _ H14 e15
   replace h := h H14 e15
   refine hn (nt (wc (fun ρ H_3 => Env.Is ρ [(0, (.pointer p0)), (3, (pp (bk H))), (5, (bv y3)), (6, (iv y4)), (7, (pp (bk H_2)))] ∧ F41_3 Q X2 p0 (bk H) y3 y4 (bk H_2) H_3) ?_ ?_))
   ·refine ws (wr_ (hv (v := (iv y4)) rfl (mv rfl) (hv (v := (pp (Addr.add (bk H) 1))) rfl (fa runUnderlying27 rfl rfl sizeOf25 rfl) ?_)))
    obtain ⟨x23, c22, h⟩ := h
    refine hv (v := (Sl.v x23)) rfl (l1 isAgg25 rfl c22) (hv (v := (iv ((x23).n : Int))) rfl (HVal.len runUnderlying25 rfl) ?_)
    refine hv (v := (bv (decide (y4 < ((x23).n : Int))))) rfl (HVal.lss rfl rfl) (hn (nt ?_))
    obtain ⟨hT, hF⟩ := h
    refine wk (decide (y4 < ((x23).n : Int))) rfl (fun hb24 => ?_) (fun hb24 => ?_)
    ·have h := hT hb24
     refine wr_ (hv (v := (pp (Addr.add (bk H) 1))) rfl (fa runUnderlying27 rfl rfl sizeOf25 rfl) ?_)
     obtain ⟨x26, c25, h⟩ := h
     refine hv (v := (Sl.v x26)) rfl (l1 isAgg25 rfl c25) (hv (v := (iv y4)) rfl (mv rfl) ?_)
     obtain ⟨a27, e28, b29, b30, h⟩ := h
     refine hv (v := (pp (Addr.add a27 (y4.toNat * 2)))) rfl (ia runUnderlying25 sizeOf38 (Sl.v_some rfl e28) rfl b29 b30) ?_
     obtain ⟨x32, x33, c31, h⟩ := h
     refine hv (v := (.agg #[(sv x32), (iv x33)])) rfl (ln [(sv x32), (iv x33)] isAgg38 sizeOf38 rfl c31) ?_
     obtain ⟨z36, h⟩ := h
     refine hq (HOp.storeN' (l := [(sv x32), (iv x33)]) sizeOf38 rfl rfl rfl z36) ?_
     rintro _ H34 e35
     replace h := h H34 e35
     refine hn (nt ?_)
     exact ⟨(isp rfl), h⟩
    have h := hF hb24
    refine wp_ (nt ?_)
    exact ⟨(isp rfl), h⟩
   rintro ρ H_3 ⟨hI, h⟩
   obtain ⟨ρ0, rfl⟩ := hI.ex
   clear hI; unfold F41_3 at h
   refine wc (fun ρ H_4 => ∃ (y56 : Bool), Env.Is ρ [(0, (.pointer p0)), (3, (pp (bk H))), (6, (iv y4)), (5, (bv y56))] ∧ F41_4 Q X2 p0 (bk H) y4 y56 H_4) ?_ ?_
   ·refine HW.draw mixed [(0, some []), (1, some []), (2, some []), (3, some []), (4, some []), (5, some []), (6, some []), (7, some []), (8, some []), (9, some []), (10, some []), (11, some []), (12, some [])] rfl (by kernel_rfl) (by kernel_rfl) ?_
    refine pv (v := (bv y3)) rfl rfl (fun _ => mv rfl) (pv (v := (bv y3)) rfl rfl (fun _ => mv rfl) ?_)
    obtain ⟨hT, hF⟩ := h
    rcases Bool.eq_false_or_eq_true y3 with hb40 | hb41
    ·have h := hT hb40
     refine HPlan.gtakev (v := (.pointer p0)) rfl rfl rfl rfl rfl (cB hb40) (fun _ => mv rfl) ?_
     obtain ⟨a42, e43, h⟩ := h
     refine HPlan.gtakev (v := (pp a42)) rfl rfl rfl rfl rfl (cB hb40) (fun _ => HVal.nilCheck (congrArg Value.pointer e43)) (HPlan.gtakev (v := (pp a42)) rfl rfl rfl rfl rfl (cB hb40) (fun _ => HVal.fieldAddr0 runUnderlying60 rfl rfl sizeOf25 rfl) ?_)
     obtain ⟨x45, c44, h⟩ := h
     refine HPlan.gtakel (v := (Sl.v x45)) (fun X => cell X a42 = some (Sl.v x45)) rfl rfl rfl rfl rfl (cB hb40) (fun _ hX => l1 isAgg25 rfl hX) c44 ?_
     refine HPlan.gtakev (v := (iv y4)) rfl rfl rfl rfl rfl (cB hb40) (fun _ => mv rfl) ?_
     obtain ⟨a46, e47, b48, b49, h⟩ := h
     refine HPlan.gtakev (v := (pp (Addr.add a46 (y4.toNat * 2)))) rfl rfl rfl rfl rfl (cB hb40) (fun _ => ia runUnderlying25 sizeOf38 (Sl.v_some rfl e47) rfl b48 b49) ?_
     obtain ⟨x51, x52, c50, h⟩ := h
     refine HPlan.gtakel (v := (.agg #[(sv x51), (iv x52)])) (fun X => cells X (Addr.add a46 (y4.toNat * 2)) [(sv x51), (iv x52)] 0) rfl rfl rfl rfl rfl (cB hb40) (fun _ hX => ln [(sv x51), (iv x52)] isAgg38 sizeOf38 rfl hX) c50 ?_
     obtain ⟨x54, x55, c53, h⟩ := h
     refine HPlan.gtakel (v := (.agg #[(sv x54), (iv x55)])) (fun X => cells X (bk H_2) [(sv x54), (iv x55)] 0) rfl rfl rfl rfl rfl (cB hb40) (fun _ hX => ln [(sv x54), (iv x55)] isAgg38 sizeOf38 rfl hX) c53 ?_
     refine HPlan.gtakev (v := (bv (seq x51 x54 && decide (x52 = x55)))) rfl rfl rfl rfl rfl (cB hb40) (fun _ => eqs38_eql rfl rfl) (pv (v := (bv (seq x51 x54 && decide (x52 = x55)))) rfl rfl (fun _ => pt_ rfl hb40 rfl) ?_)
     refine pv (v := (bv (seq x51 x54 && decide (x52 = x55)))) rfl rfl (fun _ => av rfl) (HPlan.done (nt ?_))
     exact ⟨(seq x51 x54 && decide (x52 = x55)), (isp rfl), h⟩
    have h := hF hb41
    refine pg rfl rfl rfl rfl (cB hb41) (pg rfl rfl rfl rfl (cB hb41) (pg rfl rfl rfl rfl (cB hb41) (pg rfl rfl rfl rfl (cB hb41) ?_)))
    refine pg rfl rfl rfl rfl (cB hb41) (pg rfl rfl rfl rfl (cB hb41) (pg rfl rfl rfl rfl (cB hb41) (pg rfl rfl rfl rfl (cB hb41) ?_)))
    refine pg rfl rfl rfl rfl (cB hb41) (pv (v := (bv false)) rfl rfl (fun _ => pf_ rfl hb41 rfl) (pv (v := (bv false)) rfl rfl (fun _ => av rfl) ?_))
    refine HPlan.done (nt ?_)
    exact ⟨false, (isp rfl), h⟩
   rintro ρ H_4 ⟨y56, hI, h⟩
   obtain ⟨ρ0, rfl⟩ := hI.ex
   clear hI; unfold F41_4 at h
   refine wr_ (hv (v := (.pointer p0)) rfl (mv rfl) ?_)
   obtain ⟨a57, e58, h⟩ := h
   refine hv (v := (pp a57)) rfl (HVal.nilCheck (congrArg Value.pointer e58)) (hv (v := (pp a57)) rfl (HVal.fieldAddr0 runUnderlying60 rfl rfl sizeOf25 rfl) ?_)
   obtain ⟨x60, c59, h⟩ := h
   refine hv (v := (Sl.v x60)) rfl (l1 isAgg25 rfl c59) (hv (v := (iv y4)) rfl (mv rfl) (hv (v := (.agg #[(sv S_kept), (iv 0)])) rfl (HVal.build' (cs := [(sv S_kept), (iv 0)]) runUnderlying38 zeroValue38 places38 rfl) ?_))
   obtain ⟨a61, e62, b63, b64, h⟩ := h
   refine hv (v := (pp (Addr.add a61 (y4.toNat * 2)))) rfl (ia runUnderlying25 sizeOf38 (Sl.v_some rfl e62) rfl b63 b64) ?_
   obtain ⟨z67, h⟩ := h
   refine hq (HOp.storeN' (l := [(sv S_kept), (iv 0)]) sizeOf38 rfl rfl rfl z67) ?_
   rintro _ H65 e66
   replace h := h H65 e66
   refine hn (nb (nt (wr_ (hv (v := (iv y4)) rfl (mv rfl) (hv (v := (iv (IntKind.i64.wrap (y4 + 1)))) rfl (HVal.add rfl rfl) ?_)))))
   refine hv (v := (iv (IntKind.i64.wrap (y4 + 1)))) rfl (av rfl) (hn (nt ?_))
   exact (hX2 _ _ _).1 h _ (isp rfl)
  have h := hF hb11
  refine we (te (te (be (nt ?_))))
  exact ⟨y3, ⟨rfl, trivial⟩, h⟩
 rintro ρ H_1 ⟨y68, hI, h⟩
 obtain ⟨ρ0, rfl⟩ := hI.ex
 clear hI; unfold F41_1 at h
 refine ws (wr_ (hv (v := (bv y68)) rfl (mv rfl) (hv (v := (bv y68)) rfl (av rfl) (hn (nt (HW.ret ?_))))))
 exact ⟨_, resOf1 rfl Res1.t, ⟨y68, rfl, h⟩⟩

def F42 (p0 : (Option Addr)) (p1 : ByteArray) (H : Hp) (Q : ByteArray → Sl → Int → Hp → Prop) : Prop :=
∀ H1 : Hp, H1 = Array.push H (.cells #[(sv bE), sN] 27) → (
 ∃ a3 : Addr, p0 = some a3 ∧ (
 ∃ x6 : (Option Nat), cell H1 a3 = some (.map x6) ∧ (
 ∃ (L7 : ML ByteArray (ByteArray × Sl)) (c8 : Nat), MapK mk9 mv27 Always H1 x6 L7 c8 p1 ∧ (
 ∀ H10 : Hp, H10 = Array.push H1 (.cells #[(sv bE), sN] 27) → (
 mayw H10 (bk H1) 2 0 ∧ ∀ H12 : Hp, H12 = sets H10 (bk H1) [(sv ((mget L7 p1).getD (bE, Sl.nil)).1), (Sl.v ((mget L7 p1).getD (bE, Sl.nil)).2)] 0 → (
 ((!((mget L7 p1).isSome)) = true → (mayw H12 (bk H) 2 0 ∧ ∀ H16 : Hp, H16 = sets H12 (bk H) [(sv bE), sN] 0 → (
 ∃ (x19 : ByteArray) (x20 : Sl), cells H16 (bk H) [(sv x19), (Sl.v x20)] 0 ∧ (
 Q x19 x20 21 H16)))) ∧
 ((!((mget L7 p1).isSome)) = false → (∃ (x23 : ByteArray) (x24 : Sl), cells H12 (bk H1) [(sv x23), (Sl.v x24)] 0 ∧ (
 F25 x23 x24 H12 (fun (r27 : ByteArray) (r28 : Sl) (H25 : Hp) => 
 mayw H25 (bk H) 2 0 ∧ ∀ H29 : Hp, H29 = sets H25 (bk H) [(sv r27), (Sl.v r28)] 0 → (
 ∃ (x32 : ByteArray) (x33 : Sl), cells H29 (bk H) [(sv x32), (Sl.v x33)] 0 ∧ (
 Q x32 x33 0 H29))))))))))))
theorem walk42 {w0 : World} {p0 : (Option Addr)} {p1 : ByteArray} {H : Hp} {Q : ByteArray → Sl → Int → Hp → Prop} (h : F42 p0 p1 H Q) :
  Good prog w0 42 #[(.pointer p0), (sv p1)] H (fun v H => ∃ (r0 : ByteArray) (r1 : Sl) (r2 : Int) , v = (.tuple #[(.agg #[(sv r0), (Sl.v r1)]), (iv r2)]) ∧ Q r0 r1 r2 H) := by
 unfold F42 at h
 refine Good.enter' (fn := f42) func42 rfl rfl rfl (ws (wr_ (ho rfl (HOp.alloc zeroValue27) ?_)))
 rintro _ H1 ⟨rfl, e2⟩
 replace h := h H1 e2
 refine hv (v := (iv 0)) rfl (av rfl) (hn (nt (ws (wr_ (hv (v := (.pointer p0)) rfl (mv rfl) ?_)))))
 obtain ⟨a3, e4, h⟩ := h
 refine hv (v := (pp a3)) rfl (HVal.nilCheck (congrArg Value.pointer e4)) (hv (v := (pp a3)) rfl (HVal.fieldAddr0 runUnderlying72 rfl rfl sizeOf70 rfl) ?_)
 obtain ⟨x6, c5, h⟩ := h
 refine hv (v := (.map x6)) rfl (l1 isAgg70 rfl c5) (hv (v := (sv p1)) rfl (mv rfl) ?_)
 obtain ⟨L7, c8, c9, h⟩ := h
 refine hv (v := (.tuple #[(.agg #[(sv ((mget L7 p1).getD (bE, Sl.nil)).1), (Sl.v ((mget L7 p1).getD (bE, Sl.nil)).2)]), (bv ((mget L7 p1).isSome))])) rfl (HVal.lookupOk (f := mk9) (g := mv27) (k := p1) (z := (bE, Sl.nil)) runUnderlying70 mkk9 zeroValue27 rfl rfl c9) ?_
 refine hv (v := (.tuple #[(.agg #[(sv ((mget L7 p1).getD (bE, Sl.nil)).1), (Sl.v ((mget L7 p1).getD (bE, Sl.nil)).2)]), (bv ((mget L7 p1).isSome))])) rfl (mv rfl) ?_
 refine hv (v := (.agg #[(sv ((mget L7 p1).getD (bE, Sl.nil)).1), (Sl.v ((mget L7 p1).getD (bE, Sl.nil)).2)])) rfl (HVal.extract rfl rfl) (hv (v := (bv ((mget L7 p1).isSome))) rfl (HVal.extract rfl rfl) ?_)
 refine ho rfl (HOp.alloc zeroValue27) ?_
 rintro _ H10 ⟨rfl, e11⟩
 replace h := h H10 e11
 obtain ⟨z14, h⟩ := h
 refine hq (HOp.storeN' (l := [(sv ((mget L7 p1).getD (bE, Sl.nil)).1), (Sl.v ((mget L7 p1).getD (bE, Sl.nil)).2)]) sizeOf27 rfl rfl rfl z14) ?_
 rintro _ H12 e13
 replace h := h H12 e13
 refine hv (v := (bv ((mget L7 p1).isSome))) rfl (av rfl) (hn (nt (ws (ws (wr_ (hv (v := (bv ((mget L7 p1).isSome))) rfl (mv rfl) ?_))))))
 refine hv (v := (bv (!((mget L7 p1).isSome)))) rfl (HVal.not rfl) (hn (nt ?_))
 obtain ⟨hT, hF⟩ := h
 refine wk (!((mget L7 p1).isSome)) rfl (fun hb15 => ?_) (fun hb15 => ?_)
 ·have h := hT hb15
  refine ws (wr_ (hv (v := (.agg #[(sv bE), sN])) rfl (HVal.build' (cs := [(sv bE), sN]) runUnderlying27 zeroValue27 places27 rfl) ?_))
  obtain ⟨z18, h⟩ := h
  refine hq (HOp.storeN' (l := [(sv bE), sN]) sizeOf27 rfl rfl rfl z18) ?_
  rintro _ H16 e17
  replace h := h H16 e17
  refine hv (v := (iv 21)) rfl (av rfl) (hn (nt (HW.ret (tr ?_))))
  obtain ⟨x19, x20, c21, h⟩ := h
  exact ⟨_, resOf2 rfl (Res1.n [(sv x19), (Sl.v x20)] isAgg27 sizeOf27 rfl c21) Res1.t, ⟨x19, x20, 21, rfl, h⟩⟩
 have h := hF hb15
 refine wp_ (nt (ws (wr_ ?_)))
 obtain ⟨x23, x24, c22, h⟩ := h
 refine hv (v := (.agg #[(sv x23), (Sl.v x24)])) rfl (ln [(sv x23), (Sl.v x24)] isAgg27 sizeOf27 rfl c22) (ho rfl (HOp.call' 25 [(.agg #[(sv x23), (Sl.v x24)])] (cap := []) rfl rfl call25 (walk25 h)) ?_)
 rintro _ H25 ⟨r27, r28, rfl, h⟩
 obtain ⟨z31, h⟩ := h
 refine hq (HOp.storeN' (l := [(sv r27), (Sl.v r28)]) sizeOf27 rfl rfl rfl z31) ?_
 rintro _ H29 e30
 replace h := h H29 e30
 refine hv (v := (iv 0)) rfl (av rfl) (hn (nt (HW.ret ?_)))
 obtain ⟨x32, x33, c34, h⟩ := h
 exact ⟨_, resOf2 rfl (Res1.n [(sv x32), (Sl.v x33)] isAgg27 sizeOf27 rfl c34) Res1.t, ⟨x32, x33, 0, rfl, h⟩⟩

def F43 (p0 : (Option Addr)) (p1 : ByteArray) (H : Hp) (Q : ByteArray → Sl → Int → Hp → Prop) : Prop :=
∀ H1 : Hp, H1 = Array.push H (.cells #[(sv bE), sN] 27) → (
 F69 p0 p1 H1 (fun (r5 : Int) (H3 : Hp) => 
 ((decide (r5 < 0)) = true → (mayw H3 (bk H) 2 0 ∧ ∀ H7 : Hp, H7 = sets H3 (bk H) [(sv bE), sN] 0 → (
 ∃ (x10 : ByteArray) (x11 : Sl), cells H7 (bk H) [(sv x10), (Sl.v x11)] 0 ∧ (
 Q x10 x11 21 H7)))) ∧
 ((decide (r5 < 0)) = false → (∃ a13 : Addr, p0 = some a13 ∧ (
 ∃ x16 : Sl, cell H3 a13 = some (Sl.v x16) ∧ (
 ∃ a17 : Addr, (x16).b = some a17 ∧ (0 : Int) ≤ r5 ∧ r5 < ((x16).n : Int) ∧ (
 ∃ (x22 : ByteArray) (x23 : Sl), cells H3 (Addr.add a17 (r5.toNat * 2)) [(sv x22), (Sl.v x23)] 0 ∧ (
 F70 x22 x23 H3 (fun (r26 : ByteArray) (r27 : Sl) (H24 : Hp) => 
 mayw H24 (bk H) 2 0 ∧ ∀ H28 : Hp, H28 = sets H24 (bk H) [(sv r26), (Sl.v r27)] 0 → (
 ∃ (x31 : ByteArray) (x32 : Sl), cells H28 (bk H) [(sv x31), (Sl.v x32)] 0 ∧ (
 Q x31 x32 0 H28)))))))))))
theorem walk43 {w0 : World} {p0 : (Option Addr)} {p1 : ByteArray} {H : Hp} {Q : ByteArray → Sl → Int → Hp → Prop} (h : F43 p0 p1 H Q) :
  Good prog w0 43 #[(.pointer p0), (sv p1)] H (fun v H => ∃ (r0 : ByteArray) (r1 : Sl) (r2 : Int) , v = (.tuple #[(.agg #[(sv r0), (Sl.v r1)]), (iv r2)]) ∧ Q r0 r1 r2 H) := by
 unfold F43 at h
 refine Good.enter' (fn := f43) func43 rfl rfl rfl (ws (wr_ (ho rfl (HOp.alloc zeroValue27) ?_)))
 rintro _ H1 ⟨rfl, e2⟩
 replace h := h H1 e2
 refine hv (v := (iv 0)) rfl (av rfl) (hn (nt (ws (wr_ (hv (v := (.pointer p0)) rfl (mv rfl) (hv (v := (sv p1)) rfl (mv rfl) ?_))))))
 refine ho rfl (HOp.call' 69 [(.pointer p0), (sv p1)] (cap := []) rfl rfl call69 (walk69 h)) ?_
 rintro _ H3 ⟨r5, rfl, h⟩
 refine hv (v := (iv r5)) rfl (av rfl) (hn (nt (ws (ws (wr_ (hv (v := (iv r5)) rfl (mv rfl) (hv (v := (bv (decide (r5 < 0)))) rfl (HVal.lss rfl rfl) ?_)))))))
 refine hn (nt ?_)
 obtain ⟨hT, hF⟩ := h
 refine wk (decide (r5 < 0)) rfl (fun hb6 => ?_) (fun hb6 => ?_)
 ·have h := hT hb6
  refine ws (wr_ (hv (v := (.agg #[(sv bE), sN])) rfl (HVal.build' (cs := [(sv bE), sN]) runUnderlying27 zeroValue27 places27 rfl) ?_))
  obtain ⟨z9, h⟩ := h
  refine hq (HOp.storeN' (l := [(sv bE), sN]) sizeOf27 rfl rfl rfl z9) ?_
  rintro _ H7 e8
  replace h := h H7 e8
  refine hv (v := (iv 21)) rfl (av rfl) (hn (nt (HW.ret (tr ?_))))
  obtain ⟨x10, x11, c12, h⟩ := h
  exact ⟨_, resOf2 rfl (Res1.n [(sv x10), (Sl.v x11)] isAgg27 sizeOf27 rfl c12) Res1.t, ⟨x10, x11, 21, rfl, h⟩⟩
 have h := hF hb6
 refine wp_ (nt (ws (wr_ (hv (v := (.pointer p0)) rfl (mv rfl) ?_))))
 obtain ⟨a13, e14, h⟩ := h
 refine hv (v := (pp a13)) rfl (HVal.nilCheck (congrArg Value.pointer e14)) (hv (v := (pp a13)) rfl (HVal.fieldAddr0 runUnderlying118 rfl rfl sizeOf54 rfl) ?_)
 obtain ⟨x16, c15, h⟩ := h
 refine hv (v := (Sl.v x16)) rfl (l1 isAgg54 rfl c15) (hv (v := (iv r5)) rfl (mv rfl) ?_)
 obtain ⟨a17, e18, b19, b20, h⟩ := h
 refine hv (v := (pp (Addr.add a17 (r5.toNat * 2)))) rfl (ia runUnderlying54 sizeOf27 (Sl.v_some rfl e18) rfl b19 b20) ?_
 obtain ⟨x22, x23, c21, h⟩ := h
 refine hv (v := (.agg #[(sv x22), (Sl.v x23)])) rfl (ln [(sv x22), (Sl.v x23)] isAgg27 sizeOf27 rfl c21) (ho rfl (HOp.call' 70 [(.agg #[(sv x22), (Sl.v x23)])] (cap := []) rfl rfl call70 (walk70 h)) ?_)
 rintro _ H24 ⟨r26, r27, rfl, h⟩
 obtain ⟨z30, h⟩ := h
 refine hq (HOp.storeN' (l := [(sv r26), (Sl.v r27)]) sizeOf27 rfl rfl rfl z30) ?_
 rintro _ H28 e29
 replace h := h H28 e29
 refine hv (v := (iv 0)) rfl (av rfl) (hn (nt (HW.ret ?_)))
 obtain ⟨x31, x32, c33, h⟩ := h
 exact ⟨_, resOf2 rfl (Res1.n [(sv x31), (Sl.v x32)] isAgg27 sizeOf27 rfl c33) Res1.t, ⟨x31, x32, 0, rfl, h⟩⟩

def F44_L1b (Q : Bool → Hp → Prop) (X1 : Int → Hp → Prop) (y3 y4 : Sl) (y2 : Int) (H_1 : Hp) : Prop :=
((decide (y2 < ((y3).n : Int))) = true → (∃ a6 : Addr, (y3).b = some a6 ∧ (0 : Int) ≤ y2 ∧ y2 < ((y3).n : Int) ∧ (
 ∃ (x11 : ByteArray) (x12 : Sl), cells H_1 (Addr.add a6 (y2.toNat * 2)) [(sv x11), (Sl.v x12)] 0 ∧ (
 ∃ a13 : Addr, (y4).b = some a13 ∧ (0 : Int) ≤ y2 ∧ y2 < ((y4).n : Int) ∧ (
 ∃ (x18 : ByteArray) (x19 : Sl), cells H_1 (Addr.add a13 (y2.toNat * 2)) [(sv x18), (Sl.v x19)] 0 ∧ (
 F15 x11 x12 x18 x19 H_1 (fun (r22 : Bool) (H20 : Hp) => 
 ((!r22) = true → (Q false H20)) ∧
 ((!r22) = false → (X1 (IntKind.i64.wrap (y2 + 1)) H20))))))))) ∧
 ((decide (y2 < ((y3).n : Int))) = false → (Q true H_1))
def F44_L1 (Q : Bool → Hp → Prop) (y3 y4 : Sl) (y2 : Int) (H_1 : Hp) : Prop :=
 ∀ X1 : Int → Hp → Prop, (∀ (y2 : Int) (H_1 : Hp), F44_L1b Q X1 y3 y4 y2 H_1 → X1 y2 H_1) → X1 y2 H_1
def F44 (p0 p1 : Sl) (H : Hp) (Q : Bool → Hp → Prop) : Prop :=
((decide (((p0).n : Int) ≠ ((p1).n : Int))) = true → (Q false H)) ∧
 ((decide (((p0).n : Int) ≠ ((p1).n : Int))) = false → (F44_L1 Q p0 p1 0 H))
theorem walk44 {w0 : World} {p0 p1 : Sl} {H : Hp} {Q : Bool → Hp → Prop} (h : F44 p0 p1 H Q) :
  Good prog w0 44 #[(Sl.v p0), (Sl.v p1)] H (fun v H => ∃ (r0 : Bool) , v = (bv r0) ∧ Q r0 H) := by
 unfold F44 at h
 refine Good.enter' (fn := f44) func44 rfl rfl rfl (ws (wr_ (hv (v := (bv false)) rfl (av rfl) (hn (nt (ws ?_))))))
 refine ws (wr_ (hv (v := (Sl.v p0)) rfl (mv rfl) (hv (v := (iv ((p0).n : Int))) rfl (HVal.len runUnderlying54 rfl) ?_)))
 refine hv (v := (Sl.v p1)) rfl (mv rfl) (hv (v := (iv ((p1).n : Int))) rfl (HVal.len runUnderlying54 rfl) (hv (v := (bv (decide (((p0).n : Int) ≠ ((p1).n : Int))))) rfl (HVal.neqI rfl rfl) ?_))
 refine hn (nt ?_)
 obtain ⟨hT, hF⟩ := h
 refine wk (decide (((p0).n : Int) ≠ ((p1).n : Int))) rfl (fun hb1 => ?_) (fun hb1 => ?_)
 ·have h := hT hb1
  refine ws (wr_ (hv (v := (bv false)) rfl (av rfl) (hn (nt (HW.ret (tr ?_))))))
  exact ⟨_, resOf1 rfl Res1.t, ⟨false, rfl, h⟩⟩
 have h := hF hb1
 refine wp_ (nt (ws (ws (wr_ (hv (v := (iv 0)) rfl (av rfl) (hn (nt (wb (HW.loop' (fun L1 hL1 => ?_))))))))))
 obtain ⟨X1, hX1⟩ : ∃ X1 : Int → Hp → Prop, ∀ (y2 : Int) (H_1 : Hp), X1 y2 H_1 ↔ ∀ ρ, Env.Is ρ [(0, (Sl.v p0)), (1, (Sl.v p1)), (5, (iv y2))] → L1 ρ H_1 := ⟨_, fun _ _ => Iff.rfl⟩
 refine (hX1 _ _).1 (h X1 ?_) _ ?_
 rotate_left
 ·exact (isp rfl)
 clear h
 intro y2 H_1 h
 refine (hX1 _ _).2 fun ρ hI => ?_
 obtain ⟨ρ0, rfl⟩ := hI.ex
 clear hI; unfold F44_L1b at h; refine hL1 _ _ ?_
 refine ws (ws (wr_ (hv (v := (iv y2)) rfl (mv rfl) (hv (v := (Sl.v p0)) rfl (mv rfl) (hv (v := (iv ((p0).n : Int))) rfl (HVal.len runUnderlying54 rfl) ?_)))))
 refine hv (v := (bv (decide (y2 < ((p0).n : Int))))) rfl (HVal.lss rfl rfl) (hn (nt ?_))
 obtain ⟨hT, hF⟩ := h
 refine wk (decide (y2 < ((p0).n : Int))) rfl (fun hb5 => ?_) (fun hb5 => ?_)
 ·have h := hT hb5
  refine wp_ (nt (ws (wb (ws (HW.draw mixed [(0, some []), (1, some []), (2, some []), (3, some [8]), (4, some []), (5, some []), (6, some []), (7, some [8]), (8, none), (9, some [])] rfl (by kernel_rfl) (by kernel_rfl) ?_)))))
  refine pv (v := (Sl.v p0)) rfl rfl (fun _ => mv rfl) (pv (v := (iv y2)) rfl rfl (fun _ => mv rfl) ?_)
  obtain ⟨a6, e7, b8, b9, h⟩ := h
  refine pv (v := (pp (Addr.add a6 (y2.toNat * 2)))) rfl rfl (fun _ => ia runUnderlying54 sizeOf27 (Sl.v_some rfl e7) rfl b8 b9) ?_
  obtain ⟨x11, x12, c10, h⟩ := h
  refine pl (v := (.agg #[(sv x11), (Sl.v x12)])) (fun X => cells X (Addr.add a6 (y2.toNat * 2)) [(sv x11), (Sl.v x12)] 0) rfl rfl (fun _ hX => ln [(sv x11), (Sl.v x12)] isAgg27 sizeOf27 rfl hX) c10 ?_
  refine pv (v := (Sl.v p1)) rfl rfl (fun _ => mv rfl) (pv (v := (iv y2)) rfl rfl (fun _ => mv rfl) ?_)
  obtain ⟨a13, e14, b15, b16, h⟩ := h
  refine pv (v := (pp (Addr.add a13 (y2.toNat * 2)))) rfl rfl (fun _ => ia runUnderlying54 sizeOf27 (Sl.v_some rfl e14) rfl b15 b16) ?_
  obtain ⟨x18, x19, c17, h⟩ := h
  refine pl (v := (.agg #[(sv x18), (Sl.v x19)])) (fun X => cells X (Addr.add a13 (y2.toNat * 2)) [(sv x18), (Sl.v x19)] 0) rfl rfl (fun _ hX => ln [(sv x18), (Sl.v x19)] isAgg27 sizeOf27 rfl hX) c17 ?_
  refine po rfl rfl (HOp.call' 15 [(.agg #[(sv x11), (Sl.v x12)]), (.agg #[(sv x18), (Sl.v x19)])] (cap := []) rfl rfl call15 (walk15 h)) ?_
  rintro _ H20 ⟨r22, rfl, h⟩
  refine ⟨SC_of ⟨nofun, nofun, trivial⟩, ?_⟩
  refine pv (v := (bv (!r22))) rfl rfl (fun _ => HVal.not rfl) (HPlan.done (nt ?_))
  obtain ⟨hT, hF⟩ := h
  refine wk (!r22) rfl (fun hb23 => ?_) (fun hb23 => ?_)
  ·have h := hT hb23
   refine ws (wr_ (hv (v := (bv false)) rfl (av rfl) (hn (nt (HW.ret (br (tr (tr (br (tr ?_))))))))))
   exact ⟨_, resOf1 rfl Res1.t, ⟨false, rfl, h⟩⟩
  have h := hF hb23
  refine wp_ (nb (nt (wr_ (hv (v := (iv y2)) rfl (mv rfl) (hv (v := (iv (IntKind.i64.wrap (y2 + 1)))) rfl (HVal.add rfl rfl) ?_)))))
  refine hv (v := (iv (IntKind.i64.wrap (y2 + 1)))) rfl (av rfl) (hn (nt ?_))
  exact (hX1 _ _).1 h _ (isp rfl)
 have h := hF hb5
 refine we (te (te (be (nt (ws (wr_ (hv (v := (bv true)) rfl (av rfl) (hn (nt (HW.ret ?_))))))))))
 exact ⟨_, resOf1 rfl Res1.t, ⟨true, rfl, h⟩⟩

def F45_1 (Q : Sl → Hp → Prop) (y87 : Sl) (H_1 : Hp) : Prop :=
Q y87 H_1
def F45_3 (Q : Sl → Hp → Prop) (X2 : Sl → Int → Hp → Prop) (y9 : (Option Addr)) (y10 : Int) (y86 : Sl) (H_3 : Hp) : Prop :=
X2 y86 (IntKind.i64.wrap (y10 + 1)) H_3
def F45_L4b (Q : Sl → Hp → Prop) (X2 : Sl → Int → Hp → Prop) (X4 : Int → Hp → Prop) (y32 : (Option Addr)) (y33 : Sl) (y34 y31 : Int) (H_4 : Hp) : Prop :=
((decide ((0 : Int) < y31)) = true → (∃ a37 : Addr, (y33).b = some a37 ∧ (0 : Int) ≤ y31 ∧ y31 < ((y33).n : Int) ∧ (
 ∃ x42 : ByteArray, cell H_4 (Addr.add a37 (y31.toNat * 2)) = some (sv x42) ∧ (
 ∃ a43 : Addr, (y33).b = some a43 ∧ (0 : Int) ≤ (IntKind.i64.wrap (y31 - 1)) ∧ (IntKind.i64.wrap (y31 - 1)) < ((y33).n : Int) ∧ (
 ∃ x48 : ByteArray, cell H_4 (Addr.add a43 ((IntKind.i64.wrap (y31 - 1)).toNat * 2)) = some (sv x48) ∧ (
 ((slt x42 x48) = true → (∃ a50 : Addr, (y33).b = some a50 ∧ (0 : Int) ≤ y31 ∧ y31 < ((y33).n : Int) ∧ (
 ∃ (x55 : ByteArray) (x56 : Sl), cells H_4 (Addr.add a50 (y31.toNat * 2)) [(sv x55), (Sl.v x56)] 0 ∧ (
 ∀ H57 : Hp, H57 = Array.push H_4 (.cells #[(sv bE), sN] 27) → (
 mayw H57 (bk H_4) 2 0 ∧ ∀ H59 : Hp, H59 = sets H57 (bk H_4) [(sv x55), (Sl.v x56)] 0 → (
 ∃ a62 : Addr, (y33).b = some a62 ∧ (0 : Int) ≤ (IntKind.i64.wrap (y31 - 1)) ∧ (IntKind.i64.wrap (y31 - 1)) < ((y33).n : Int) ∧ (
 ∃ (x67 : ByteArray) (x68 : Sl), cells H59 (Addr.add a62 ((IntKind.i64.wrap (y31 - 1)).toNat * 2)) [(sv x67), (Sl.v x68)] 0 ∧ (
 ∃ a69 : Addr, (y33).b = some a69 ∧ (0 : Int) ≤ y31 ∧ y31 < ((y33).n : Int) ∧ (
 mayw H59 (Addr.add a69 (y31.toNat * 2)) 2 0 ∧ ∀ H73 : Hp, H73 = sets H59 (Addr.add a69 (y31.toNat * 2)) [(sv x67), (Sl.v x68)] 0 → (
 ∃ (x77 : ByteArray) (x78 : Sl), cells H73 (bk H_4) [(sv x77), (Sl.v x78)] 0 ∧ (
 ∃ a79 : Addr, (y33).b = some a79 ∧ (0 : Int) ≤ (IntKind.i64.wrap (y31 - 1)) ∧ (IntKind.i64.wrap (y31 - 1)) < ((y33).n : Int) ∧ (
 mayw H73 (Addr.add a79 ((IntKind.i64.wrap (y31 - 1)).toNat * 2)) 2 0 ∧ ∀ H83 : Hp, H83 = sets H73 (Addr.add a79 ((IntKind.i64.wrap (y31 - 1)).toNat * 2)) [(sv x77), (Sl.v x78)] 0 → (
 X4 (IntKind.i64.wrap (y31 - 1)) H83))))))))))))) ∧
 ((slt x42 x48) = false → (F45_3 Q X2 y32 y34 y33 H_4)))))))) ∧
 ((decide ((0 : Int) < y31)) = false → (F45_3 Q X2 y32 y34 y33 H_4))
def F45_L4 (Q : Sl → Hp → Prop) (X2 : Sl → Int → Hp → Prop) (y32 : (Option Addr)) (y33 : Sl) (y34 y31 : Int) (H_4 : Hp) : Prop :=
 ∀ X4 : Int → Hp → Prop, (∀ (y31 : Int) (H_4 : Hp), F45_L4b Q X2 X4 y32 y33 y34 y31 H_4 → X4 y31 H_4) → X4 y31 H_4
def F45_L2b (Q : Sl → Hp → Prop) (X2 : Sl → Int → Hp → Prop) (y3 : (Option Addr)) (y1 : Sl) (y2 : Int) (H_2 : Hp) : Prop :=
∃ a4 : Addr, y3 = some a4 ∧ (
 ∃ x7 : Sl, cell H_2 a4 = some (Sl.v x7) ∧ (
 ((decide (y2 < ((x7).n : Int))) = true → (∃ a11 : Addr, y3 = some a11 ∧ (
 ∃ x14 : Sl, cell H_2 a11 = some (Sl.v x14) ∧ (
 ∃ a15 : Addr, (x14).b = some a15 ∧ (0 : Int) ≤ y2 ∧ y2 < ((x14).n : Int) ∧ (
 ∃ (x20 : ByteArray) (x21 : Sl), cells H_2 (Addr.add a15 (y2.toNat * 2)) [(sv x20), (Sl.v x21)] 0 ∧ (
 F70 x20 x21 H_2 (fun (r24 : ByteArray) (r25 : Sl) (H22 : Hp) => 
 ∀ H26 : Hp, H26 = Array.push H22 (.cells #[(sv r24), (Sl.v r25)] 27) → (
 AppendF H26 27 2 40 #[(sv bE), sN] y1 ((Sl.mk (some (bk H22)) 1 1)).b ((Sl.mk (some (bk H22)) 1 1)).n (fun (r30 : Sl) (H28 : Hp) => 
 F45_L4 Q X2 y3 r30 y2 (IntKind.i64.wrap (((r30).n : Int) - 1)) H28))))))))) ∧
 ((decide (y2 < ((x7).n : Int))) = false → (F45_1 Q y1 H_2))))
def F45_L2 (Q : Sl → Hp → Prop) (y3 : (Option Addr)) (y1 : Sl) (y2 : Int) (H_2 : Hp) : Prop :=
 ∀ X2 : Sl → Int → Hp → Prop, (∀ (y1 : Sl) (y2 : Int) (H_2 : Hp), F45_L2b Q X2 y3 y1 y2 H_2 → X2 y1 y2 H_2) → X2 y1 y2 H_2
def F45 (p0 : (Option Addr)) (H : Hp) (Q : Sl → Hp → Prop) : Prop :=
F45_L2 Q p0 Sl.nil 0 H
theorem walk45 {w0 : World} {p0 : (Option Addr)} {H : Hp} {Q : Sl → Hp → Prop} (h : F45 p0 H Q) :
  Good prog w0 45 #[(.pointer p0)] H (fun v H => ∃ (r0 : Sl) , v = (Sl.v r0) ∧ Q r0 H) := by
 unfold F45 at h
 refine Good.enter' (fn := f45) func45 rfl rfl rfl (ws (wr_ (hv (v := sN) rfl (av rfl) (hn (nt (ws (wr_ ?_)))))))
 refine hv (v := sN) rfl (av rfl) (hn (nt (wc (fun ρ H_1 => ∃ (y87 : Sl), Env.Is ρ [(3, (Sl.v y87))] ∧ F45_1 Q y87 H_1) ?_ ?_)))
 ·refine ws (wr_ (hv (v := (iv 0)) rfl (av rfl) (hn (nt (wb (HW.loop' (fun L2 hL2 => ?_)))))))
  obtain ⟨X2, hX2⟩ : ∃ X2 : Sl → Int → Hp → Prop, ∀ (y1 : Sl) (y2 : Int) (H_2 : Hp), X2 y1 y2 H_2 ↔ ∀ ρ, Env.Is ρ [(0, (.pointer p0)), (3, (Sl.v y1)), (4, (iv y2))] → L2 ρ H_2 := ⟨_, fun _ _ _ => Iff.rfl⟩
  refine (hX2 _ _ _).1 (h X2 ?_) _ ?_
  rotate_left
  ·exact (isp rfl)
  clear h
  intro y1 y2 H_2 h
  refine (hX2 _ _ _).2 fun ρ hI => ?_
  obtain ⟨ρ0, rfl⟩ := hI.ex
  clear hI; unfold F45_L2b at h; refine hL2 _ _ ?_
  refine ws (ws (wr_ (hv (v := (iv y2)) rfl (mv rfl) (hv (v := (.pointer p0)) rfl (mv rfl) ?_))))
  obtain ⟨a4, e5, h⟩ := h
  refine hv (v := (pp a4)) rfl (HVal.nilCheck (congrArg Value.pointer e5)) (hv (v := (pp a4)) rfl (HVal.fieldAddr0 runUnderlying118 rfl rfl sizeOf54 rfl) ?_)
  obtain ⟨x7, c6, h⟩ := h
  refine hv (v := (Sl.v x7)) rfl (l1 isAgg54 rfl c6) (hv (v := (iv ((x7).n : Int))) rfl (HVal.len runUnderlying54 rfl) (hv (v := (bv (decide (y2 < ((x7).n : Int))))) rfl (HVal.lss rfl rfl) ?_))
  refine hn (nt ?_)
  obtain ⟨hT, hF⟩ := h
  refine wk (decide (y2 < ((x7).n : Int))) rfl (fun hb8 => ?_) (fun hb8 => ?_)
  ·have h := hT hb8
   refine wp_ (nt (wc (fun ρ H_3 => ∃ (y86 : Sl), Env.Is ρ [(0, (.pointer p0)), (4, (iv y2)), (3, (Sl.v y86))] ∧ F45_3 Q X2 p0 y2 y86 H_3) ?_ ?_))
   ·refine wb (ws (wr_ (hv (v := (Sl.v y1)) rfl (mv rfl) (hv (v := (.pointer p0)) rfl (mv rfl) ?_))))
    obtain ⟨a11, e12, h⟩ := h
    refine hv (v := (pp a11)) rfl (HVal.nilCheck (congrArg Value.pointer e12)) (hv (v := (pp a11)) rfl (HVal.fieldAddr0 runUnderlying118 rfl rfl sizeOf54 rfl) ?_)
    obtain ⟨x14, c13, h⟩ := h
    refine hv (v := (Sl.v x14)) rfl (l1 isAgg54 rfl c13) (hv (v := (iv y2)) rfl (mv rfl) ?_)
    obtain ⟨a15, e16, b17, b18, h⟩ := h
    refine hv (v := (pp (Addr.add a15 (y2.toNat * 2)))) rfl (ia runUnderlying54 sizeOf27 (Sl.v_some rfl e16) rfl b17 b18) ?_
    obtain ⟨x20, x21, c19, h⟩ := h
    refine hv (v := (.agg #[(sv x20), (Sl.v x21)])) rfl (ln [(sv x20), (Sl.v x21)] isAgg27 sizeOf27 rfl c19) (ho rfl (HOp.call' 70 [(.agg #[(sv x20), (Sl.v x21)])] (cap := []) rfl rfl call70 (walk70 h)) ?_)
    rintro _ H22 ⟨r24, r25, rfl, h⟩
    refine ho rfl (HOp.buildSlice' (zs := [(sv bE), sN]) (cs := [(sv r24), (Sl.v r25)]) runUnderlying54 sizeOf27 zeroValue27 (by decide) (by kernel_rfl) rfl (by decide)) ?_
    rintro _ H26 ⟨rfl, e27⟩
    replace h := h H26 e27
    refine ho rfl (HOp.append (k := 2) (b := 40) runUnderlying54 runUnderlying54 typeInfo27 rfl rfl zeroValue27 rfl rfl h) ?_
    rintro _ H28 ⟨r30, rfl, h⟩
    refine hv (v := (Sl.v r30)) rfl (av rfl) (hn (nt (ws (wr_ (hv (v := (Sl.v r30)) rfl (mv rfl) (hv (v := (iv ((r30).n : Int))) rfl (HVal.len runUnderlying54 rfl) ?_))))))
    refine hv (v := (iv (IntKind.i64.wrap (((r30).n : Int) - 1)))) rfl (HVal.sub rfl rfl) (hv (v := (iv (IntKind.i64.wrap (((r30).n : Int) - 1)))) rfl (av rfl) ?_)
    refine hn (nt (wb (HW.loop' (fun L4 hL4 => ?_))))
    obtain ⟨X4, hX4⟩ : ∃ X4 : Int → Hp → Prop, ∀ (y31 : Int) (H_4 : Hp), X4 y31 H_4 ↔ ∀ ρ, Env.Is ρ [(0, (.pointer p0)), (3, (Sl.v r30)), (4, (iv y2)), (5, (iv y31))] → L4 ρ H_4 := ⟨_, fun _ _ => Iff.rfl⟩
    refine (hX4 _ _).1 (h X4 ?_) _ ?_
    rotate_left
    ·exact (isp rfl)
    clear h
    intro y31 H_4 h
    refine (hX4 _ _).2 fun ρ hI => ?_
    obtain ⟨ρ0, rfl⟩ := hI.ex
    clear hI; unfold F45_L4b at h; refine hL4 _ _ ?_
    refine ws (ws (HW.draw mixed [(0, some []), (1, some []), (2, some []), (3, some []), (4, some []), (5, some []), (6, some []), (7, some []), (8, some []), (9, some []), (10, some []), (11, some []), (12, some []), (13, some []), (14, some []), (15, some [])] rfl (by kernel_rfl) (by kernel_rfl) ?_))
    refine pv (v := (iv y31)) rfl rfl (fun _ => mv rfl) (pv (v := (bv (decide ((0 : Int) < y31)))) rfl rfl (fun _ => HVal.gtr rfl rfl) ?_)
    refine pv (v := (bv (decide ((0 : Int) < y31)))) rfl rfl (fun _ => mv rfl) ?_
    obtain ⟨hT, hF⟩ := h
    rcases Bool.eq_false_or_eq_true (decide ((0 : Int) < y31)) with hb35 | hb36
    ·have h := hT hb35
     refine HPlan.gtakev (v := (Sl.v r30)) rfl rfl rfl rfl rfl (cB hb35) (fun _ => mv rfl) (HPlan.gtakev (v := (iv y31)) rfl rfl rfl rfl rfl (cB hb35) (fun _ => mv rfl) ?_)
     obtain ⟨a37, e38, b39, b40, h⟩ := h
     refine HPlan.gtakev (v := (pp (Addr.add a37 (y31.toNat * 2)))) rfl rfl rfl rfl rfl (cB hb35) (fun _ => ia runUnderlying54 sizeOf27 (Sl.v_some rfl e38) rfl b39 b40) ?_
     refine HPlan.gtakev (v := (pp (Addr.add a37 (y31.toNat * 2)))) rfl rfl rfl rfl rfl (cB hb35) (fun _ => HVal.fieldAddr0 runUnderlying27 rfl rfl sizeOf9 rfl) ?_
     obtain ⟨x42, c41, h⟩ := h
     refine HPlan.gtakel (v := (sv x42)) (fun X => cell X (Addr.add a37 (y31.toNat * 2)) = some (sv x42)) rfl rfl rfl rfl rfl (cB hb35) (fun _ hX => l1 isAgg9 rfl hX) c41 ?_
     refine HPlan.gtakev (v := (Sl.v r30)) rfl rfl rfl rfl rfl (cB hb35) (fun _ => mv rfl) (HPlan.gtakev (v := (iv y31)) rfl rfl rfl rfl rfl (cB hb35) (fun _ => mv rfl) ?_)
     refine HPlan.gtakev (v := (iv (IntKind.i64.wrap (y31 - 1)))) rfl rfl rfl rfl rfl (cB hb35) (fun _ => HVal.sub rfl rfl) ?_
     obtain ⟨a43, e44, b45, b46, h⟩ := h
     refine HPlan.gtakev (v := (pp (Addr.add a43 ((IntKind.i64.wrap (y31 - 1)).toNat * 2)))) rfl rfl rfl rfl rfl (cB hb35) (fun _ => ia runUnderlying54 sizeOf27 (Sl.v_some rfl e44) rfl b45 b46) ?_
     refine HPlan.gtakev (v := (pp (Addr.add a43 ((IntKind.i64.wrap (y31 - 1)).toNat * 2)))) rfl rfl rfl rfl rfl (cB hb35) (fun _ => HVal.fieldAddr0 runUnderlying27 rfl rfl sizeOf9 rfl) ?_
     obtain ⟨x48, c47, h⟩ := h
     refine HPlan.gtakel (v := (sv x48)) (fun X => cell X (Addr.add a43 ((IntKind.i64.wrap (y31 - 1)).toNat * 2)) = some (sv x48)) rfl rfl rfl rfl rfl (cB hb35) (fun _ hX => l1 isAgg9 rfl hX) c47 ?_
     refine HPlan.gtakev (v := (bv (slt x42 x48))) rfl rfl rfl rfl rfl (cB hb35) (fun _ => HVal.lssS rfl rfl) (pv (v := (bv (slt x42 x48))) rfl rfl (fun _ => pt_ rfl hb35 rfl) ?_)
     refine HPlan.done (nt ?_)
     obtain ⟨hT, hF⟩ := h
     refine wk (slt x42 x48) rfl (fun hb49 => ?_) (fun hb49 => ?_)
     ·have h := hT hb49
      refine wp_ (nt (ws (wb (ws (wr_ (hv (v := (Sl.v r30)) rfl (mv rfl) (hv (v := (iv y31)) rfl (mv rfl) ?_)))))))
      obtain ⟨a50, e51, b52, b53, h⟩ := h
      refine hv (v := (pp (Addr.add a50 (y31.toNat * 2)))) rfl (ia runUnderlying54 sizeOf27 (Sl.v_some rfl e51) rfl b52 b53) ?_
      obtain ⟨x55, x56, c54, h⟩ := h
      refine hv (v := (.agg #[(sv x55), (Sl.v x56)])) rfl (ln [(sv x55), (Sl.v x56)] isAgg27 sizeOf27 rfl c54) (ho rfl (HOp.alloc zeroValue27) ?_)
      rintro _ H57 ⟨rfl, e58⟩
      replace h := h H57 e58
      obtain ⟨z61, h⟩ := h
      refine hq (HOp.storeN' (l := [(sv x55), (Sl.v x56)]) sizeOf27 rfl rfl rfl z61) ?_
      rintro _ H59 e60
      replace h := h H59 e60
      refine hn (nt (ws (wr_ (hv (v := (Sl.v r30)) rfl (mv rfl) (hv (v := (iv y31)) rfl (mv rfl) (hv (v := (Sl.v r30)) rfl (mv rfl) ?_))))))
      refine hv (v := (iv y31)) rfl (mv rfl) (hv (v := (iv (IntKind.i64.wrap (y31 - 1)))) rfl (HVal.sub rfl rfl) ?_)
      obtain ⟨a62, e63, b64, b65, h⟩ := h
      refine hv (v := (pp (Addr.add a62 ((IntKind.i64.wrap (y31 - 1)).toNat * 2)))) rfl (ia runUnderlying54 sizeOf27 (Sl.v_some rfl e63) rfl b64 b65) ?_
      obtain ⟨x67, x68, c66, h⟩ := h
      refine hv (v := (.agg #[(sv x67), (Sl.v x68)])) rfl (ln [(sv x67), (Sl.v x68)] isAgg27 sizeOf27 rfl c66) ?_
      obtain ⟨a69, e70, b71, b72, h⟩ := h
      refine hv (v := (pp (Addr.add a69 (y31.toNat * 2)))) rfl (ia runUnderlying54 sizeOf27 (Sl.v_some rfl e70) rfl b71 b72) ?_
      obtain ⟨z75, h⟩ := h
      refine hq (HOp.storeN' (l := [(sv x67), (Sl.v x68)]) sizeOf27 rfl rfl rfl z75) ?_
      rintro _ H73 e74
      replace h := h H73 e74
      refine hn (nt (wr_ (hv (v := (Sl.v r30)) rfl (mv rfl) (hv (v := (iv y31)) rfl (mv rfl) (hv (v := (iv (IntKind.i64.wrap (y31 - 1)))) rfl (HVal.sub rfl rfl) ?_)))))
      obtain ⟨x77, x78, c76, h⟩ := h
      refine hv (v := (.agg #[(sv x77), (Sl.v x78)])) rfl (ln [(sv x77), (Sl.v x78)] isAgg27 sizeOf27 rfl c76) ?_
      obtain ⟨a79, e80, b81, b82, h⟩ := h
      refine hv (v := (pp (Addr.add a79 ((IntKind.i64.wrap (y31 - 1)).toNat * 2)))) rfl (ia runUnderlying54 sizeOf27 (Sl.v_some rfl e80) rfl b81 b82) ?_
      obtain ⟨z85, h⟩ := h
      refine hq (HOp.storeN' (l := [(sv x77), (Sl.v x78)]) sizeOf27 rfl rfl rfl z85) ?_
      rintro _ H83 e84
      replace h := h H83 e84
      refine hn (nb (nt (wr_ (hv (v := (iv y31)) rfl (mv rfl) (hv (v := (iv (IntKind.i64.wrap (y31 - 1)))) rfl (HVal.sub rfl rfl) ?_)))))
      refine hv (v := (iv (IntKind.i64.wrap (y31 - 1)))) rfl (av rfl) (hn (nt ?_))
      exact (hX4 _ _).1 h _ (isp rfl)
     have h := hF hb49
     refine we (te (te (be (nb (nt ?_)))))
     exact ⟨r30, (isp rfl), h⟩
    have h := hF hb36
    refine pg rfl rfl rfl rfl (cB hb36) (pg rfl rfl rfl rfl (cB hb36) (pg rfl rfl rfl rfl (cB hb36) (pg rfl rfl rfl rfl (cB hb36) ?_)))
    refine pg rfl rfl rfl rfl (cB hb36) (pg rfl rfl rfl rfl (cB hb36) (pg rfl rfl rfl rfl (cB hb36) (pg rfl rfl rfl rfl (cB hb36) ?_)))
    refine pg rfl rfl rfl rfl (cB hb36) (pg rfl rfl rfl rfl (cB hb36) (pg rfl rfl rfl rfl (cB hb36) (pg rfl rfl rfl rfl (cB hb36) ?_)))
    refine pv (v := (bv false)) rfl rfl (fun _ => pf_ rfl hb36 rfl) (HPlan.done (nt (HW.condF false rfl rfl (we (te (te (be (nb (nt ?_)))))))))
    exact ⟨r30, (isp rfl), h⟩
   rintro ρ H_3 ⟨y86, hI, h⟩
   obtain ⟨ρ0, rfl⟩ := hI.ex
   clear hI; unfold F45_3 at h
   refine wr_ (hv (v := (iv y2)) rfl (mv rfl) (hv (v := (iv (IntKind.i64.wrap (y2 + 1)))) rfl (HVal.add rfl rfl) (hv (v := (iv (IntKind.i64.wrap (y2 + 1)))) rfl (av rfl) ?_)))
   refine hn (nt ?_)
   exact (hX2 _ _ _).1 h _ (isp rfl)
  have h := hF hb8
  refine we (te (te (be (nt ?_))))
  exact ⟨y1, ⟨rfl, trivial⟩, h⟩
 rintro ρ H_1 ⟨y87, hI, h⟩
 obtain ⟨ρ0, rfl⟩ := hI.ex
 clear hI; unfold F45_1 at h
 refine ws (wr_ (hv (v := (Sl.v y87)) rfl (mv rfl) (hv (v := (Sl.v y87)) rfl (av rfl) (hn (nt (HW.ret ?_))))))
 exact ⟨_, resOf1 rfl Res1.t, ⟨y87, rfl, h⟩⟩

def F46_2 (Q : ByteArray → Int → Sl → Hp → Prop) (y44 : (Option Addr)) (y45 y46 : Addr) (y47 : Int) (y48 : Sl) (H_2 : Hp) : Prop :=
∃ a63 : Addr, y44 = some a63 ∧ (
 (cell H_2 (Addr.add a63 1)).isSome = true ∧ frz H_2 (Addr.add a63 1) = false ∧ ∀ H65 : Hp, H65 = setc H_2 (Addr.add a63 1) (Sl.v y48) → (
 (0 : Int) ≤ y47 ∧ 0 ≤ y47.toNat ∧ y47.toNat ≤ (y48).c ∧ (y48).c ≤ (y48).c ∧ (
 (cell H65 (Addr.add y45 2)).isSome = true ∧ frz H65 (Addr.add y45 2) = false ∧ ∀ H73 : Hp, H73 = setc H65 (Addr.add y45 2) (Sl.v (Sl.cut y48 4 0 y47.toNat ((y48).c))) → (
 ∃ (x78 : ByteArray) (x79 : Int) (x80 : Sl), cells H73 y45 (tR x78 x79 x80) 0 ∧ (
 mayw H73 y46 3 0 ∧ ∀ H81 : Hp, H81 = sets H73 y46 (tR x78 x79 x80) 0 → (
 ∃ (x84 : ByteArray) (x85 : Int) (x86 : Sl), cells H81 y46 (tR x84 x85 x86) 0 ∧ (
 Q x84 x85 x86 H81)))))))
def F46_L3b (Q : ByteArray → Int → Sl → Hp → Prop) (X3 : Int → Hp → Prop) (y50 : (Option Addr)) (y51 y52 : Addr) (y53 : Int) (y54 : Sl) (y49 : Int) (H_3 : Hp) : Prop :=
((decide (y49 < ((y54).n : Int))) = true → (∃ a56 : Addr, (y54).b = some a56 ∧ (0 : Int) ≤ y49 ∧ y49 < ((y54).n : Int) ∧ (
 mayw H_3 (Addr.add a56 (y49.toNat * 4)) 4 0 ∧ ∀ H60 : Hp, H60 = sets H_3 (Addr.add a56 (y49.toNat * 4)) (vR (IntKind.i64.wrap (77 + y49)) 0 bE false) 0 → (
 X3 (IntKind.i64.wrap (y49 + 1)) H60)))) ∧
 ((decide (y49 < ((y54).n : Int))) = false → (F46_2 Q y50 y51 y52 y53 y54 H_3))
def F46_L3 (Q : ByteArray → Int → Sl → Hp → Prop) (y50 : (Option Addr)) (y51 y52 : Addr) (y53 : Int) (y54 : Sl) (y49 : Int) (H_3 : Hp) : Prop :=
 ∀ X3 : Int → Hp → Prop, (∀ (y49 : Int) (H_3 : Hp), F46_L3b Q X3 y50 y51 y52 y53 y54 y49 H_3 → X3 y49 H_3) → X3 y49 H_3
def F46_1 (Q : ByteArray → Int → Sl → Hp → Prop) (y7 : (Option Addr)) (y8 y9 : Addr) (y10 : Int) (H_1 : Hp) : Prop :=
∃ a22 : Addr, y7 = some a22 ∧ (
 ∃ x25 : Sl, cell H_1 (Addr.add a22 1) = some (Sl.v x25) ∧ (
 0 ≤ (0 : Int).toNat ∧ (0 : Int).toNat ≤ (x25).c ∧ (x25).c ≤ (x25).c ∧ (
 ∃ x30 : Sl, cell H_1 (Addr.add y8 2) = some (Sl.v x30) ∧ (
 AppendF H_1 35 4 40 (vR 0 0 bE false).toArray (Sl.cut x25 4 0 ((0 : Int).toNat) ((x25).c)) (x30).b (x30).n (fun (r33 : Sl) (H31 : Hp) => 
 cell H31 (Addr.add a22 1) = some (Sl.v x25) ∧ (
 ∀ H35 : Hp, H35 = Array.push H31 (.cells #[(iv 0), (iv 0), (sv bE), (bv false), (iv 0), (iv 0), (sv bE), (bv false)] 35) → (
 AppendF H35 35 4 40 (vR 0 0 bE false).toArray r33 ((Sl.mk (some (bk H31)) 2 2)).b ((Sl.mk (some (bk H31)) 2 2)).n (fun (r39 : Sl) (H37 : Hp) => 
 (0 : Int) ≤ ((r39).c : Int) ∧ 0 ≤ ((r39).c : Int).toNat ∧ ((r39).c : Int).toNat ≤ (r39).c ∧ (r39).c ≤ (r39).c ∧ (
 F46_L3 Q y7 y8 y9 y10 (Sl.cut r39 4 0 (((r39).c : Int).toNat) ((r39).c)) y10 H37)))))))))
def F46 (p0 : (Option Addr)) (p1_0 : ByteArray) (p1_1 : Int) (p1_2 : Sl) (H : Hp) (Q : ByteArray → Int → Sl → Hp → Prop) : Prop :=
∀ H1 : Hp, H1 = Array.push H (.cells (tR p1_0 p1_1 p1_2).toArray 33) → (
 ∀ H3 : Hp, H3 = Array.push H1 (.cells (tR bE 0 Sl.nil).toArray 33) → (
 ∃ x6 : Sl, cell H3 (Addr.add (bk H) 2) = some (Sl.v x6) ∧ (
 ∃ a11 : Addr, p0 = some a11 ∧ (
 ∃ x14 : Sl, cell H3 (Addr.add a11 1) = some (Sl.v x14) ∧ (
 ((decide ((IntKind.i64.wrap (((x6).n : Int) + 70000)) < ((x14).c : Int))) = true → (∃ a16 : Addr, p0 = some a16 ∧ (
 (cell H3 (Addr.add a16 1)).isSome = true ∧ frz H3 (Addr.add a16 1) = false ∧ ∀ H18 : Hp, H18 = setc H3 (Addr.add a16 1) sN → (
 F46_1 Q p0 (bk H) (bk H1) ((x6).n : Int) H18)))) ∧
 ((decide ((IntKind.i64.wrap (((x6).n : Int) + 70000)) < ((x14).c : Int))) = false → (F46_1 Q p0 (bk H) (bk H1) ((x6).n : Int) H3)))))))
theorem walk46 {w0 : World} {p0 : (Option Addr)} {p1_0 : ByteArray} {p1_1 : Int} {p1_2 : Sl} {H : Hp} {Q : ByteArray → Int → Sl → Hp → Prop} (h : F46 p0 p1_0 p1_1 p1_2 H Q) :
  Good prog w0 46 #[(.pointer p0), (.agg (tR p1_0 p1_1 p1_2).toArray)] H (fun v H => ∃ (r0 : ByteArray) (r1 : Int) (r2 : Sl) , v = (.agg (tR r0 r1 r2).toArray) ∧ Q r0 r1 r2 H) := by
 unfold F46 at h
 refine Good.enter' (fn := f46) func46 rfl rfl rfl (ws (wr_ (ho rfl (ob (v := (.agg (tR p1_0 p1_1 p1_2).toArray)) rfl) ?_)))
 rintro _ H1 ⟨rfl, e2⟩
 replace h := h H1 e2
 refine ho rfl (HOp.alloc zeroValue33) ?_
 rintro _ H3 ⟨rfl, e4⟩
 replace h := h H3 e4
 refine hn (nt (ws (wr_ (hv (v := (pp (Addr.add (bk H) 2))) rfl (fa runUnderlying33 rfl rfl sizeOf31 rfl) ?_))))
 obtain ⟨x6, c5, h⟩ := h
 refine hv (v := (Sl.v x6)) rfl (l1 isAgg31 rfl c5) (hv (v := (iv ((x6).n : Int))) rfl (HVal.len runUnderlying31 rfl) (hv (v := (iv ((x6).n : Int))) rfl (av rfl) ?_))
 refine hn (nt (wc (fun ρ H_1 => Env.Is ρ [(0, (.pointer p0)), (3, (pp (bk H))), (4, (pp (bk H1))), (5, (iv ((x6).n : Int)))] ∧ F46_1 Q p0 (bk H) (bk H1) ((x6).n : Int) H_1) ?_ ?_))
 ·refine ws (wr_ (hv (v := (.pointer p0)) rfl (mv rfl) ?_))
  obtain ⟨a11, e12, h⟩ := h
  refine hv (v := (pp a11)) rfl (HVal.nilCheck (congrArg Value.pointer e12)) (hv (v := (pp (Addr.add a11 1))) rfl (fa runUnderlying60 rfl rfl sizeOf31 rfl) ?_)
  obtain ⟨x14, c13, h⟩ := h
  refine hv (v := (Sl.v x14)) rfl (l1 isAgg31 rfl c13) (hv (v := (iv ((x14).c : Int))) rfl (HVal.cap runUnderlying31 rfl) (hv (v := (iv ((x6).n : Int))) rfl (mv rfl) ?_))
  refine hv (v := (iv (IntKind.i64.wrap (((x6).n : Int) + 70000)))) rfl (HVal.add rfl rfl) (hv (v := (bv (decide ((IntKind.i64.wrap (((x6).n : Int) + 70000)) < ((x14).c : Int))))) rfl (HVal.gtr rfl rfl) ?_)
  refine hn (nt ?_)
  obtain ⟨hT, hF⟩ := h
  refine wk (decide ((IntKind.i64.wrap (((x6).n : Int) + 70000)) < ((x14).c : Int))) rfl (fun hb15 => ?_) (fun hb15 => ?_)
  ·have h := hT hb15
   refine wr_ (hv (v := (.pointer p0)) rfl (mv rfl) ?_)
   obtain ⟨a16, e17, h⟩ := h
   refine hv (v := (pp a16)) rfl (HVal.nilCheck (congrArg Value.pointer e17)) (hv (v := (pp (Addr.add a16 1))) rfl (fa runUnderlying60 rfl rfl sizeOf31 rfl) ?_)
   obtain ⟨z20, z21, h⟩ := h
   refine hq (HOp.store1 sizeOf31 rfl rfl rfl z20 z21) ?_
   rintro _ H18 e19
   replace h := h H18 e19
   refine hn (nt ?_)
   exact ⟨(isp rfl), h⟩
  have h := hF hb15
  refine wp_ (nt ?_)
  exact ⟨(isp rfl), h⟩
 rintro ρ H_1 ⟨hI, h⟩
 obtain ⟨ρ0, rfl⟩ := hI.ex
 clear hI; unfold F46_1 at h
 refine ws (HW.draw mixed [(0, some []), (1, some []), (2, some []), (3, some []), (4, some []), (5, some []), (6, some [7]), (7, none), (8, some [])] rfl (by kernel_rfl) (by kernel_rfl) ?_)
 refine pv (v := (.pointer p0)) rfl rfl (fun _ => mv rfl) ?_
 obtain ⟨a22, e23, h⟩ := h
 refine pv (v := (pp a22)) rfl rfl (fun _ => HVal.nilCheck (congrArg Value.pointer e23)) (pv (v := (pp (Addr.add a22 1))) rfl rfl (fun _ => fa runUnderlying60 rfl rfl sizeOf31 rfl) ?_)
 obtain ⟨x25, c24, h⟩ := h
 refine pl (v := (Sl.v x25)) (fun X => cell X (Addr.add a22 1) = some (Sl.v x25)) rfl rfl (fun _ hX => l1 isAgg31 rfl hX) c24 ?_
 obtain ⟨z26, z27, z28, h⟩ := h
 refine pv (v := (Sl.v (Sl.cut x25 4 0 ((0 : Int).toNat) ((x25).c)))) rfl rfl (fun _ => HVal.slice _ _ _ runUnderlying31 sizeOf35 rfl rfl ⟨_, _, rfl, by decide, rfl⟩ rfl (by decide) z26 z27 z28) ?_
 refine pv (v := (pp (Addr.add (bk H) 2))) rfl rfl (fun _ => fa runUnderlying33 rfl rfl sizeOf31 rfl) ?_
 obtain ⟨x30, c29, h⟩ := h
 refine pl (v := (Sl.v x30)) (fun X => cell X (Addr.add (bk H) 2) = some (Sl.v x30)) rfl rfl (fun _ hX => l1 isAgg31 rfl hX) c29 (po rfl rfl (HOp.append (k := 4) (b := 40) runUnderlying31 runUnderlying31 typeInfo35 rfl rfl zeroValue35 rfl rfl h) ?_)
 rintro _ H31 ⟨r33, rfl, h⟩
 obtain ⟨s34, h⟩ := h
 refine ⟨SC_of ⟨nofun, fun _ => s34, trivial⟩, ?_⟩
 refine pv (v := (Sl.v r33)) rfl rfl (fun _ => av rfl) (HPlan.done (nt (ws (wr_ (hv (v := (Sl.v r33)) rfl (mv rfl) ?_)))))
 refine hv (v := (.agg (vR 0 0 bE false).toArray)) rfl (HVal.build' (cs := (vR 0 0 bE false)) runUnderlying35 zeroValue35 places35 rfl) (hv (v := (.agg (vR 0 0 bE false).toArray)) rfl (HVal.build' (cs := (vR 0 0 bE false)) runUnderlying35 zeroValue35 places35 rfl) ?_)
 refine ho rfl (HOp.buildSlice' (zs := [(iv 0), (iv 0), (sv bE), (bv false), (iv 0), (iv 0), (sv bE), (bv false)]) (cs := [(iv 0), (iv 0), (sv bE), (bv false), (iv 0), (iv 0), (sv bE), (bv false)]) runUnderlying31 sizeOf35 zeroValue35 (by decide) (by kernel_rfl) (by kernel_rfl) (by decide)) ?_
 rintro _ H35 ⟨rfl, e36⟩
 replace h := h H35 e36
 refine ho rfl (HOp.append (k := 4) (b := 40) runUnderlying31 runUnderlying31 typeInfo35 rfl rfl zeroValue35 rfl rfl h) ?_
 rintro _ H37 ⟨r39, rfl, h⟩
 refine hv (v := (Sl.v r39)) rfl (av rfl) (hn (nt (ws (wr_ (hv (v := (Sl.v r39)) rfl (mv rfl) (hv (v := (Sl.v r39)) rfl (mv rfl) ?_))))))
 refine hv (v := (iv ((r39).c : Int))) rfl (HVal.cap runUnderlying31 rfl) ?_
 obtain ⟨z40, z41, z42, z43, h⟩ := h
 refine hv (v := (Sl.v (Sl.cut r39 4 0 (((r39).c : Int).toNat) ((r39).c)))) rfl (HVal.slice _ _ _ runUnderlying31 sizeOf35 rfl rfl ⟨_, _, rfl, z40, rfl⟩ rfl (by decide) z41 z42 z43) ?_
 refine hv (v := (Sl.v (Sl.cut r39 4 0 (((r39).c : Int).toNat) ((r39).c)))) rfl (av rfl) (hn (nt (wc (fun ρ H_2 => Env.Is ρ [(0, (.pointer p0)), (3, (pp (bk H))), (4, (pp (bk H1))), (5, (iv ((x6).n : Int))), (6, (Sl.v (Sl.cut r39 4 0 (((r39).c : Int).toNat) ((r39).c))))] ∧ F46_2 Q p0 (bk H) (bk H1) ((x6).n : Int) (Sl.cut r39 4 0 (((r39).c : Int).toNat) ((r39).c)) H_2) ?_ ?_)))
 ·refine ws (wr_ (hv (v := (iv ((x6).n : Int))) rfl (mv rfl) (hv (v := (iv ((x6).n : Int))) rfl (av rfl) (hn (nt ?_)))))
  refine wb (HW.loop' (fun L3 hL3 => ?_))
  obtain ⟨X3, hX3⟩ : ∃ X3 : Int → Hp → Prop, ∀ (y49 : Int) (H_3 : Hp), X3 y49 H_3 ↔ ∀ ρ, Env.Is ρ [(0, (.pointer p0)), (3, (pp (bk H))), (4, (pp (bk H1))), (5, (iv ((x6).n : Int))), (6, (Sl.v (Sl.cut r39 4 0 (((r39).c : Int).toNat) ((r39).c)))), (7, (iv y49))] → L3 ρ H_3 := ⟨_, fun _ _ => Iff.rfl⟩
  refine (hX3 _ _).1 (h X3 ?_) _ ?_
  rotate_left
  ·exact (isp rfl)
  clear h
  intro y49 H_3 h
  refine (hX3 _ _).2 fun ρ hI => ?_
  obtain ⟨ρ0, rfl⟩ := hI.ex
  clear hI; unfold F46_L3b at h; refine hL3 _ _ ?_
  refine ws (ws (wr_ (hv (v := (iv y49)) rfl (mv rfl) (hv (v := (Sl.v (Sl.cut r39 4 0 (((r39).c : Int).toNat) ((r39).c)))) rfl (mv rfl) ?_))))
  refine hv (v := (iv (((Sl.cut r39 4 0 (((r39).c : Int).toNat) ((r39).c))).n : Int))) rfl (HVal.len runUnderlying31 rfl) (hv (v := (bv (decide (y49 < (((Sl.cut r39 4 0 (((r39).c : Int).toNat) ((r39).c))).n : Int))))) rfl (HVal.lss rfl rfl) ?_)
  refine hn (nt ?_)
  obtain ⟨hT, hF⟩ := h
  refine wk (decide (y49 < (((Sl.cut r39 4 0 (((r39).c : Int).toNat) ((r39).c))).n : Int))) rfl (fun hb55 => ?_) (fun hb55 => ?_)
  ·have h := hT hb55
   refine wp_ (nt (ws (wb (wr_ (hv (v := (Sl.v (Sl.cut r39 4 0 (((r39).c : Int).toNat) ((r39).c)))) rfl (mv rfl) (hv (v := (iv y49)) rfl (mv rfl) ?_))))))
   refine hv (v := (iv y49)) rfl (mv rfl) (hv (v := (iv (IntKind.i64.wrap (77 + y49)))) rfl (HVal.add rfl rfl) (hv (v := (.agg (vR (IntKind.i64.wrap (77 + y49)) 0 bE false).toArray)) rfl (HVal.build' (cs := (vR (IntKind.i64.wrap (77 + y49)) 0 bE false)) runUnderlying35 zeroValue35 places35 rfl) ?_))
   obtain ⟨a56, e57, b58, b59, h⟩ := h
   refine hv (v := (pp (Addr.add a56 (y49.toNat * 4)))) rfl (ia runUnderlying31 sizeOf35 (Sl.v_some rfl e57) rfl b58 b59) ?_
   obtain ⟨z62, h⟩ := h
   refine hq (HOp.storeN' (l := (vR (IntKind.i64.wrap (77 + y49)) 0 bE false)) sizeOf35 rfl rfl rfl z62) ?_
   rintro _ H60 e61
   replace h := h H60 e61
   refine hn (nb (nt (wr_ (hv (v := (iv y49)) rfl (mv rfl) (hv (v := (iv (IntKind.i64.wrap (y49 + 1)))) rfl (HVal.add rfl rfl) ?_)))))
   refine hv (v := (iv (IntKind.i64.wrap (y49 + 1)))) rfl (av rfl) (hn (nt ?_))
   exact (hX3 _ _).1 h _ (isp rfl)
  have h := hF hb55
  refine we (te (te (be (nt ?_))))
  exact ⟨(isp rfl), h⟩
 rintro ρ H_2 ⟨hI, h⟩
 obtain ⟨ρ0, rfl⟩ := hI.ex
 clear hI; unfold F46_2 at h
 refine ws (wr_ (hv (v := (.pointer p0)) rfl (mv rfl) (hv (v := (Sl.v (Sl.cut r39 4 0 (((r39).c : Int).toNat) ((r39).c)))) rfl (mv rfl) ?_)))
 obtain ⟨a63, e64, h⟩ := h
 refine hv (v := (pp a63)) rfl (HVal.nilCheck (congrArg Value.pointer e64)) (hv (v := (pp (Addr.add a63 1))) rfl (fa runUnderlying60 rfl rfl sizeOf31 rfl) ?_)
 obtain ⟨z67, z68, h⟩ := h
 refine hq (HOp.store1 sizeOf31 rfl rfl rfl z67 z68) ?_
 rintro _ H65 e66
 replace h := h H65 e66
 refine hn (nt (ws (wr_ (hv (v := (Sl.v (Sl.cut r39 4 0 (((r39).c : Int).toNat) ((r39).c)))) rfl (mv rfl) (hv (v := (iv ((x6).n : Int))) rfl (mv rfl) ?_)))))
 obtain ⟨z69, z70, z71, z72, h⟩ := h
 refine hv (v := (Sl.v (Sl.cut (Sl.cut r39 4 0 (((r39).c : Int).toNat) ((r39).c)) 4 0 ((x6).n : Int).toNat (((Sl.cut r39 4 0 (((r39).c : Int).toNat) ((r39).c))).c)))) rfl (HVal.slice _ _ _ runUnderlying31 sizeOf35 rfl rfl ⟨_, _, rfl, z69, rfl⟩ rfl (by decide) z70 z71 z72) ?_
 refine hv (v := (pp (Addr.add (bk H) 2))) rfl (fa runUnderlying33 rfl rfl sizeOf31 rfl) ?_
 obtain ⟨z75, z76, h⟩ := h
 refine hq (HOp.store1 sizeOf31 rfl rfl rfl z75 z76) ?_
 rintro _ H73 e74
 replace h := h H73 e74
 refine hn (nt (ws (wr_ ?_)))
 obtain ⟨x78, x79, x80, c77, h⟩ := h
 refine hv (v := (.agg (tR x78 x79 x80).toArray)) rfl (ln (tR x78 x79 x80) isAgg33 sizeOf33 rfl c77) ?_
 obtain ⟨z83, h⟩ := h
 refine hq (HOp.storeN' (l := (tR x78 x79 x80)) sizeOf33 rfl rfl rfl z83) ?_
 rintro _ H81 e82
 replace h := h H81 e82
 refine hn (nt (HW.ret ?_))
 obtain ⟨x84, x85, x86, c87, h⟩ := h
 exact ⟨_, resOf1 rfl (Res1.n (tR x84 x85 x86) isAgg33 sizeOf33 rfl c87), ⟨x84, x85, x86, rfl, h⟩⟩

end Go.Hw
