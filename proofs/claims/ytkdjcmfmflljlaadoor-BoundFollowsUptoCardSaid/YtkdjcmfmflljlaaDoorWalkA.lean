/- The walks of this seat, printed by a program of this session (wip/tools/gen.py): of each function what it does to the heap, and that it does so. -/
import Derived.Test.YtkdjcmfmflljlaaDoorHwZ
import Derived.Test.YtkdjcmfmflljlaaDoorProg
import Derived.Test.YtkdjcmfmflljlaaDoorWAux
import Derived.Test.YtkdjcmfmflljlaaDoorWLib
set_option linter.unusedVariables false
set_option linter.unusedSimpArgs false
set_option maxRecDepth 100000
set_option maxHeartbeats 4000000
namespace Go.Hw
open Go Go.Proofs Tryd
def F35_1 (X : Int → Int → Int → Int → ByteArray → Bool → ByteArray → Int → ByteArray → Sl → Hp → (Sl → Hp → Prop) → Prop) (Q : Sl → Hp → Prop) (y3 : Addr) (y14 : Bool) (H_1 : Hp) : Prop :=
(y14 = true → (∃ x17 : Sl, cell H_1 (Addr.add y3 9) = some (Sl.v x17) ∧ (
 ∃ a18 : Addr, (x17).b = some a18 ∧ (0 : Int) ≤ 0 ∧ (0 : Int) < ((x17).n : Int) ∧ (
 ∃ (x23 x24 x25 x26 : Int) (x27 : ByteArray) (x28 : Bool) (x29 : ByteArray) (x30 : Int) (x31 : ByteArray) (x32 : Sl), cells H_1 (Addr.add a18 ((0 : Int).toNat * 10)) (eR x23 x24 x25 x26 x27 x28 x29 x30 x31 x32) 0 ∧ (
 ∃ x34 : Sl, cell H_1 (Addr.add y3 9) = some (Sl.v x34) ∧ (
 ∃ a35 : Addr, (x34).b = some a35 ∧ (0 : Int) ≤ 1 ∧ (1 : Int) < ((x34).n : Int) ∧ (
 ∃ (x40 x41 x42 x43 : Int) (x44 : ByteArray) (x45 : Bool) (x46 : ByteArray) (x47 : Int) (x48 : ByteArray) (x49 : Sl), cells H_1 (Addr.add a35 ((1 : Int).toNat * 10)) (eR x40 x41 x42 x43 x44 x45 x46 x47 x48 x49) 0 ∧ (
 X x23 x24 x25 x26 x27 x28 x29 x30 x31 x32 H_1 (fun (r52 : Sl) (H50 : Hp) => 
 cells H50 (Addr.add a35 ((1 : Int).toNat * 10)) (eR x40 x41 x42 x43 x44 x45 x46 x47 x48 x49) 0 ∧ cell H50 (Addr.add y3 9) = some (Sl.v x34) ∧ cell H50 (Addr.add y3 9) = some (Sl.v x17) ∧ (
 X x40 x41 x42 x43 x44 x45 x46 x47 x48 x49 H50 (fun (r58 : Sl) (H56 : Hp) => 
 cell H56 (Addr.add y3 9) = some (Sl.v x34) ∧ cell H56 (Addr.add y3 9) = some (Sl.v x17) ∧ (
 AppendF H56 41 10 120 zR.toArray r52 (r58).b (r58).n (fun (r63 : Sl) (H61 : Hp) => 
 cell H61 (Addr.add y3 9) = some (Sl.v x34) ∧ cell H61 (Addr.add y3 9) = some (Sl.v x17) ∧ (
 Q r63 H61)))))))))))))) ∧
 (y14 = false → (∃ (x67 x68 x69 x70 : Int) (x71 : ByteArray) (x72 : Bool) (x73 : ByteArray) (x74 : Int) (x75 : ByteArray) (x76 : Sl), cells H_1 y3 (eR x67 x68 x69 x70 x71 x72 x73 x74 x75 x76) 0 ∧ (
 ∀ H77 : Hp, H77 = Array.push H_1 (.cells (eR x67 x68 x69 x70 x71 x72 x73 x74 x75 x76).toArray 41) → (
 Q (Sl.mk (some (bk H_1)) 1 1) H77))))
def F35b (X : Int → Int → Int → Int → ByteArray → Bool → ByteArray → Int → ByteArray → Sl → Hp → (Sl → Hp → Prop) → Prop) (p0_0 p0_1 p0_2 p0_3 : Int) (p0_4 : ByteArray) (p0_5 : Bool) (p0_6 : ByteArray) (p0_7 : Int) (p0_8 : ByteArray) (p0_9 : Sl) (H : Hp) (Q : Sl → Hp → Prop) : Prop :=
∀ H1 : Hp, H1 = Array.push H (.cells (eR p0_0 p0_1 p0_2 p0_3 p0_4 p0_5 p0_6 p0_7 p0_8 p0_9).toArray 41) → (
 ∃ x5 : Int, cell H1 (bk H) = some (iv x5) ∧ (
 ((decide (x5 = 5)) = true → (∃ x9 : Int, cell H1 (Addr.add (bk H) 1) = some (iv x9) ∧ (
 ((decide (x9 = 12)) = true → (∃ x13 : Sl, cell H1 (Addr.add (bk H) 9) = some (Sl.v x13) ∧ (
 F35_1 X Q (bk H) (decide (((x13).n : Int) = 2)) H1))) ∧
 ((decide (x9 = 12)) = false → (F35_1 X Q (bk H) false H1))))) ∧
 ((decide (x5 = 5)) = false → (F35_1 X Q (bk H) false H1))))
def F35 (p0_0 p0_1 p0_2 p0_3 : Int) (p0_4 : ByteArray) (p0_5 : Bool) (p0_6 : ByteArray) (p0_7 : Int) (p0_8 : ByteArray) (p0_9 : Sl) (H : Hp) (Q : Sl → Hp → Prop) : Prop :=
 ∀ X : Int → Int → Int → Int → ByteArray → Bool → ByteArray → Int → ByteArray → Sl → Hp → (Sl → Hp → Prop) → Prop, (∀ (p0_0 p0_1 p0_2 p0_3 : Int) (p0_4 : ByteArray) (p0_5 : Bool) (p0_6 : ByteArray) (p0_7 : Int) (p0_8 : ByteArray) (p0_9 : Sl) (H : Hp) (Q : Sl → Hp → Prop), F35b X p0_0 p0_1 p0_2 p0_3 p0_4 p0_5 p0_6 p0_7 p0_8 p0_9 H Q → X p0_0 p0_1 p0_2 p0_3 p0_4 p0_5 p0_6 p0_7 p0_8 p0_9 H Q) → X p0_0 p0_1 p0_2 p0_3 p0_4 p0_5 p0_6 p0_7 p0_8 p0_9 H Q
theorem walk35 {w0 : World} {p0_0 p0_1 p0_2 p0_3 : Int} {p0_4 : ByteArray} {p0_5 : Bool} {p0_6 : ByteArray} {p0_7 : Int} {p0_8 : ByteArray} {p0_9 : Sl} {H : Hp} {Q : Sl → Hp → Prop} (h : F35 p0_0 p0_1 p0_2 p0_3 p0_4 p0_5 p0_6 p0_7 p0_8 p0_9 H Q) :
  Good prog w0 35 #[(.agg (eR p0_0 p0_1 p0_2 p0_3 p0_4 p0_5 p0_6 p0_7 p0_8 p0_9).toArray)] H (fun v H => ∃ (r0 : Sl) , v = (Sl.v r0) ∧ Q r0 H) := by
 obtain ⟨X, hX⟩ : ∃ X : Int → Int → Int → Int → ByteArray → Bool → ByteArray → Int → ByteArray → Sl → Hp → (Sl → Hp → Prop) → Prop, ∀ (p0_0 p0_1 p0_2 p0_3 : Int) (p0_4 : ByteArray) (p0_5 : Bool) (p0_6 : ByteArray) (p0_7 : Int) (p0_8 : ByteArray) (p0_9 : Sl) (H : Hp) (Q : Sl → Hp → Prop), X p0_0 p0_1 p0_2 p0_3 p0_4 p0_5 p0_6 p0_7 p0_8 p0_9 H Q ↔ Good prog w0 35 #[(.agg (eR p0_0 p0_1 p0_2 p0_3 p0_4 p0_5 p0_6 p0_7 p0_8 p0_9).toArray)] H (fun v H => ∃ (r0 : Sl) , v = (Sl.v r0) ∧ Q r0 H) := ⟨_, fun _ _ _ _ _ _ _ _ _ _ _ _ => Iff.rfl⟩
 refine (hX _ _ _ _ _ _ _ _ _ _ _ _).1 (h X ?_)
 clear h
 intro p0_0 p0_1 p0_2 p0_3 p0_4 p0_5 p0_6 p0_7 p0_8 p0_9 H Q h
 refine (hX _ _ _ _ _ _ _ _ _ _ _ _).2 ?_
 unfold F35b at h
 refine Good.enter' (fn := f35) func35 rfl rfl rfl (ws (wr_ (ho rfl (ob (v := (.agg (eR p0_0 p0_1 p0_2 p0_3 p0_4 p0_5 p0_6 p0_7 p0_8 p0_9).toArray)) rfl) ?_)))
 rintro _ H1 ⟨rfl, e2⟩
 replace h := h H1 e2
 refine hv (v := sN) rfl (av rfl) (hn (nt (ws (wc (fun ρ H_1 => ∃ (y14 : Bool), Env.Is ρ [(1, (pp (bk H))), (16, (bv y14))] ∧ F35_1 X Q (bk H) y14 H_1) ?_ ?_))))
 ·refine wr_ (hv (v := (pp (bk H))) rfl (HVal.fieldAddr0 runUnderlying41 rfl rfl sizeOf3 rfl) ?_)
  obtain ⟨x5, c4, h⟩ := h
  refine hv (v := (iv x5)) rfl (l1 isAgg3 rfl c4) (hv (v := (bv (decide (x5 = 5)))) rfl (HVal.eqlI rfl rfl) (hv (v := (bv (decide (x5 = 5)))) rfl (mv rfl) ?_))
  obtain ⟨hT, hF⟩ := h
  rcases Bool.eq_false_or_eq_true (decide (x5 = 5)) with hb6 | hb7
  ·have h := hT hb6
   refine hg (v := (pp (Addr.add (bk H) 1))) rfl rfl rfl rfl (cB hb6) (fa runUnderlying41 rfl rfl sizeOf3 rfl) ?_
   obtain ⟨x9, c8, h⟩ := h
   refine hg (v := (iv x9)) rfl rfl rfl rfl (cB hb6) (l1 isAgg3 rfl c8) (hg (v := (bv (decide (x9 = 12)))) rfl rfl rfl rfl (cB hb6) (HVal.eqlI rfl rfl) ?_)
   refine hv (v := (bv (decide (x9 = 12)))) rfl (pt_ rfl hb6 rfl) (hv (v := (bv (decide (x9 = 12)))) rfl (mv rfl) ?_)
   obtain ⟨hT, hF⟩ := h
   rcases Bool.eq_false_or_eq_true (decide (x9 = 12)) with hb10 | hb11
   ·have h := hT hb10
    refine hg (v := (pp (Addr.add (bk H) 9))) rfl rfl rfl rfl (cB hb10) (fa runUnderlying41 rfl rfl sizeOf35 rfl) ?_
    obtain ⟨x13, c12, h⟩ := h
    refine hg (v := (Sl.v x13)) rfl rfl rfl rfl (cB hb10) (l1 isAgg35 rfl c12) (hg (v := (iv ((x13).n : Int))) rfl rfl rfl rfl (cB hb10) (HVal.len runUnderlying35 rfl) ?_)
    refine hg (v := (bv (decide (((x13).n : Int) = 2)))) rfl rfl rfl rfl (cB hb10) (HVal.eqlI rfl rfl) (hv (v := (bv (decide (((x13).n : Int) = 2)))) rfl (pt_ rfl hb10 rfl) ?_)
    refine hn (nt ?_)
    exact ⟨(decide (((x13).n : Int) = 2)), (isp rfl), h⟩
   have h := hF hb11
   refine hs_ rfl rfl rfl rfl (cB hb11) (hs_ rfl rfl rfl rfl (cB hb11) (hs_ rfl rfl rfl rfl (cB hb11) (hs_ rfl rfl rfl rfl (cB hb11) ?_)))
   refine hv (v := (bv false)) rfl (pf_ rfl hb11 rfl) (hn (nt ?_))
   exact ⟨false, (isp rfl), h⟩
  have h := hF hb7
  refine hs_ rfl rfl rfl rfl (cB hb7) (hs_ rfl rfl rfl rfl (cB hb7) (hs_ rfl rfl rfl rfl (cB hb7) (hv (v := (bv false)) rfl (pf_ rfl hb7 rfl) ?_)))
  refine hv (v := (bv false)) rfl (mv rfl) (hs_ rfl rfl rfl rfl rfl (hs_ rfl rfl rfl rfl rfl (hs_ rfl rfl rfl rfl rfl ?_)))
  refine hs_ rfl rfl rfl rfl rfl (hv (v := (bv false)) rfl (pf_ rfl rfl rfl) (hn (nt ?_)))
  exact ⟨false, (isp rfl), h⟩
 rintro ρ H_1 ⟨y14, hI, h⟩
 obtain ⟨ρ0, rfl⟩ := hI.ex
 clear hI; unfold F35_1 at h
 obtain ⟨hT, hF⟩ := h
 refine wk y14 rfl (fun hb15 => ?_) (fun hb15 => ?_)
 ·have h := hT hb15
  refine ws (HW.draw mixed [(0, some []), (1, some []), (2, some []), (3, some [4]), (5, some []), (6, some []), (7, some []), (8, some [9]), (4, none), (9, none), (10, none), (11, some [])] rfl (by kernel_rfl) (by kernel_rfl) ?_)
  refine pv (v := (pp (Addr.add (bk H) 9))) rfl rfl (fun _ => fa runUnderlying41 rfl rfl sizeOf35 rfl) ?_
  obtain ⟨x17, c16, h⟩ := h
  refine pl (v := (Sl.v x17)) (fun X => cell X (Addr.add (bk H) 9) = some (Sl.v x17)) rfl rfl (fun _ hX => l1 isAgg35 rfl hX) c16 ?_
  obtain ⟨a18, e19, b20, b21, h⟩ := h
  refine pv (v := (pp (Addr.add a18 ((0 : Int).toNat * 10)))) rfl rfl (fun _ => ia runUnderlying35 sizeOf41 (Sl.v_some rfl e19) rfl b20 b21) ?_
  obtain ⟨x23, x24, x25, x26, x27, x28, x29, x30, x31, x32, c22, h⟩ := h
  refine pl (v := (.agg (eR x23 x24 x25 x26 x27 x28 x29 x30 x31 x32).toArray)) (fun X => cells X (Addr.add a18 ((0 : Int).toNat * 10)) (eR x23 x24 x25 x26 x27 x28 x29 x30 x31 x32) 0) rfl rfl (fun _ hX => ln (eR x23 x24 x25 x26 x27 x28 x29 x30 x31 x32) isAgg41 sizeOf41 rfl hX) c22 ?_
  refine pv (v := (pp (Addr.add (bk H) 9))) rfl rfl (fun _ => fa runUnderlying41 rfl rfl sizeOf35 rfl) ?_
  obtain ⟨x34, c33, h⟩ := h
  refine pl (v := (Sl.v x34)) (fun X => cell X (Addr.add (bk H) 9) = some (Sl.v x34)) rfl rfl (fun _ hX => l1 isAgg35 rfl hX) c33 ?_
  obtain ⟨a35, e36, b37, b38, h⟩ := h
  refine pv (v := (pp (Addr.add a35 ((1 : Int).toNat * 10)))) rfl rfl (fun _ => ia runUnderlying35 sizeOf41 (Sl.v_some rfl e36) rfl b37 b38) ?_
  obtain ⟨x40, x41, x42, x43, x44, x45, x46, x47, x48, x49, c39, h⟩ := h
  refine pl (v := (.agg (eR x40 x41 x42 x43 x44 x45 x46 x47 x48 x49).toArray)) (fun X => cells X (Addr.add a35 ((1 : Int).toNat * 10)) (eR x40 x41 x42 x43 x44 x45 x46 x47 x48 x49) 0) rfl rfl (fun _ hX => ln (eR x40 x41 x42 x43 x44 x45 x46 x47 x48 x49) isAgg41 sizeOf41 rfl hX) c39 ?_
  refine po rfl rfl (HOp.call' 35 [(.agg (eR x23 x24 x25 x26 x27 x28 x29 x30 x31 x32).toArray)] (cap := []) rfl rfl call35 ((hX _ _ _ _ _ _ _ _ _ _ _ _).1 h)) ?_
  rintro _ H50 ⟨r52, rfl, h⟩
  obtain ⟨s53, s54, s55, h⟩ := h
  refine ⟨SC_of ⟨fun _ => s53, fun _ => s54, nofun, fun _ => s55, trivial⟩, ?_⟩
  refine po rfl rfl (HOp.call' 35 [(.agg (eR x40 x41 x42 x43 x44 x45 x46 x47 x48 x49).toArray)] (cap := []) rfl rfl call35 ((hX _ _ _ _ _ _ _ _ _ _ _ _).1 h)) ?_
  rintro _ H56 ⟨r58, rfl, h⟩
  obtain ⟨s59, s60, h⟩ := h
  refine ⟨SC_of ⟨nofun, fun _ => s59, nofun, fun _ => s60, trivial⟩, ?_⟩
  refine po rfl rfl (HOp.append (k := 10) (b := 120) runUnderlying35 runUnderlying35 typeInfo41 rfl rfl zeroValue41 rfl rfl h) ?_
  rintro _ H61 ⟨r63, rfl, h⟩
  obtain ⟨s64, s65, h⟩ := h
  refine ⟨SC_of ⟨nofun, fun _ => s64, nofun, fun _ => s65, trivial⟩, ?_⟩
  refine pv (v := (Sl.v r63)) rfl rfl (fun _ => av rfl) (HPlan.done (nt (HW.ret (tr ?_))))
  exact ⟨_, resOf1 rfl Res1.t, ⟨r63, rfl, h⟩⟩
 have h := hF hb15
 refine wp_ (nt (ws (wr_ ?_)))
 obtain ⟨x67, x68, x69, x70, x71, x72, x73, x74, x75, x76, c66, h⟩ := h
 refine hv (v := (.agg (eR x67 x68 x69 x70 x71 x72 x73 x74 x75 x76).toArray)) rfl (ln (eR x67 x68 x69 x70 x71 x72 x73 x74 x75 x76) isAgg41 sizeOf41 rfl c66) ?_
 refine ho rfl (HOp.buildSlice' (zs := zR) (cs := (eR x67 x68 x69 x70 x71 x72 x73 x74 x75 x76)) runUnderlying35 sizeOf41 zeroValue41 (by decide) (by kernel_rfl) (by kernel_rfl) (by decide)) ?_
 rintro _ H77 ⟨rfl, e78⟩
 replace h := h H77 e78
 refine hv (v := (Sl.v (Sl.mk (some (bk H_1)) 1 1))) rfl (av rfl) (hn (nt (HW.ret ?_)))
 exact ⟨_, resOf1 rfl Res1.t, ⟨(Sl.mk (some (bk H_1)) 1 1), rfl, h⟩⟩

def F40 (p0_0 p0_1 p0_2 p0_3 : Int) (p0_4 : ByteArray) (p0_5 : Bool) (p0_6 : ByteArray) (p0_7 : Int) (p0_8 : ByteArray) (p0_9 : Sl) (H : Hp) (Q : Bool → Hp → Prop) : Prop :=
∀ H1 : Hp, H1 = Array.push H (.cells (eR p0_0 p0_1 p0_2 p0_3 p0_4 p0_5 p0_6 p0_7 p0_8 p0_9).toArray 41) → (
 ∃ x4 : Int, cell H1 (bk H) = some (iv x4) ∧ (
 ((decide (x4 = 2)) = true → (Q true H1)) ∧
 ((decide (x4 = 2)) = false → (∃ x8 : Int, cell H1 (bk H) = some (iv x8) ∧ (
 Q (decide (x8 = 3)) H1)))))
theorem walk40 {w0 : World} {p0_0 p0_1 p0_2 p0_3 : Int} {p0_4 : ByteArray} {p0_5 : Bool} {p0_6 : ByteArray} {p0_7 : Int} {p0_8 : ByteArray} {p0_9 : Sl} {H : Hp} {Q : Bool → Hp → Prop} (h : F40 p0_0 p0_1 p0_2 p0_3 p0_4 p0_5 p0_6 p0_7 p0_8 p0_9 H Q) :
  Good prog w0 40 #[(.agg (eR p0_0 p0_1 p0_2 p0_3 p0_4 p0_5 p0_6 p0_7 p0_8 p0_9).toArray)] H (fun v H => ∃ (r0 : Bool) , v = (bv r0) ∧ Q r0 H) := by
 unfold F40 at h
 refine Good.enter' (fn := f40) func40 rfl rfl rfl (ws (wr_ (ho rfl (ob (v := (.agg (eR p0_0 p0_1 p0_2 p0_3 p0_4 p0_5 p0_6 p0_7 p0_8 p0_9).toArray)) rfl) ?_)))
 rintro _ H1 ⟨rfl, e2⟩
 replace h := h H1 e2
 refine hv (v := (bv false)) rfl (av rfl) (hn (nt (ws (wr_ (hv (v := (pp (bk H))) rfl (HVal.fieldAddr0 runUnderlying41 rfl rfl sizeOf3 rfl) ?_)))))
 obtain ⟨x4, c3, h⟩ := h
 refine hv (v := (iv x4)) rfl (l1 isAgg3 rfl c3) (hv (v := (bv (decide (x4 = 2)))) rfl (HVal.eqlI rfl rfl) (hv (v := (bv (decide (x4 = 2)))) rfl (mv rfl) ?_))
 obtain ⟨hT, hF⟩ := h
 rcases Bool.eq_false_or_eq_true (decide (x4 = 2)) with hb5 | hb6
 ·have h := hT hb5
  refine hs_ rfl rfl rfl rfl (cB hb5) (hs_ rfl rfl rfl rfl (cB hb5) (hs_ rfl rfl rfl rfl (cB hb5) (hv (v := (bv true)) rfl (pt_ rfl hb5 rfl) ?_)))
  refine hv (v := (bv true)) rfl (av rfl) (hn (nt (HW.ret ?_)))
  exact ⟨_, resOf1 rfl Res1.t, ⟨true, rfl, h⟩⟩
 have h := hF hb6
 refine hg (v := (pp (bk H))) rfl rfl rfl rfl (cB hb6) (HVal.fieldAddr0 runUnderlying41 rfl rfl sizeOf3 rfl) ?_
 obtain ⟨x8, c7, h⟩ := h
 refine hg (v := (iv x8)) rfl rfl rfl rfl (cB hb6) (l1 isAgg3 rfl c7) (hg (v := (bv (decide (x8 = 3)))) rfl rfl rfl rfl (cB hb6) (HVal.eqlI rfl rfl) ?_)
 refine hv (v := (bv (decide (x8 = 3)))) rfl (pf_ rfl hb6 rfl) (hv (v := (bv (decide (x8 = 3)))) rfl (av rfl) (hn (nt ?_)))
 refine HW.ret ?_
 exact ⟨_, resOf1 rfl Res1.t, ⟨(decide (x8 = 3)), rfl, h⟩⟩

def F31 (p0 : Int) (H : Hp) (Q : Int → Int → ByteArray → Bool → Hp → Prop) : Prop :=
∀ H1 : Hp, H1 = Array.push H (.cells (vR 0 0 bE false).toArray 25) → (
 mayw H1 (bk H) 4 0 ∧ ∀ H3 : Hp, H3 = sets H1 (bk H) (vR 1 p0 bE false) 0 → (
 ∃ (x6 x7 : Int) (x8 : ByteArray) (x9 : Bool), cells H3 (bk H) (vR x6 x7 x8 x9) 0 ∧ (
 Q x6 x7 x8 x9 H3)))
theorem walk31 {w0 : World} {p0 : Int} {H : Hp} {Q : Int → Int → ByteArray → Bool → Hp → Prop} (h : F31 p0 H Q) :
  Good prog w0 31 #[(iv p0)] H (fun v H => ∃ (r0 r1 : Int) (r2 : ByteArray) (r3 : Bool) , v = (.agg (vR r0 r1 r2 r3).toArray) ∧ Q r0 r1 r2 r3 H) := by
 unfold F31 at h
 refine Good.enter' (fn := f31) func31 rfl rfl rfl (ws (wr_ (ho rfl (HOp.alloc zeroValue25) ?_)))
 rintro _ H1 ⟨rfl, e2⟩
 replace h := h H1 e2
 refine hn (nt (ws (wr_ (hv (v := (iv p0)) rfl (mv rfl) (hv (v := (.agg (vR 1 p0 bE false).toArray)) rfl (HVal.build' (cs := (vR 1 p0 bE false)) runUnderlying25 zeroValue25 places25 rfl) ?_)))))
 obtain ⟨z5, h⟩ := h
 refine hq (HOp.storeN' (l := (vR 1 p0 bE false)) sizeOf25 rfl rfl rfl z5) ?_
 rintro _ H3 e4
 replace h := h H3 e4
 refine hn (nt (HW.ret ?_))
 obtain ⟨x6, x7, x8, x9, c10, h⟩ := h
 exact ⟨_, resOf1 rfl (Res1.n (vR x6 x7 x8 x9) isAgg25 sizeOf25 rfl c10), ⟨x6, x7, x8, x9, rfl, h⟩⟩

def F32 (p0 : ByteArray) (H : Hp) (Q : Int → Int → ByteArray → Bool → Hp → Prop) : Prop :=
∀ H1 : Hp, H1 = Array.push H (.cells (vR 0 0 bE false).toArray 25) → (
 mayw H1 (bk H) 4 0 ∧ ∀ H3 : Hp, H3 = sets H1 (bk H) (vR 2 0 p0 false) 0 → (
 ∃ (x6 x7 : Int) (x8 : ByteArray) (x9 : Bool), cells H3 (bk H) (vR x6 x7 x8 x9) 0 ∧ (
 Q x6 x7 x8 x9 H3)))
theorem walk32 {w0 : World} {p0 : ByteArray} {H : Hp} {Q : Int → Int → ByteArray → Bool → Hp → Prop} (h : F32 p0 H Q) :
  Good prog w0 32 #[(sv p0)] H (fun v H => ∃ (r0 r1 : Int) (r2 : ByteArray) (r3 : Bool) , v = (.agg (vR r0 r1 r2 r3).toArray) ∧ Q r0 r1 r2 r3 H) := by
 unfold F32 at h
 refine Good.enter' (fn := f32) func32 rfl rfl rfl (ws (wr_ (ho rfl (HOp.alloc zeroValue25) ?_)))
 rintro _ H1 ⟨rfl, e2⟩
 replace h := h H1 e2
 refine hn (nt (ws (wr_ (hv (v := (sv p0)) rfl (mv rfl) (hv (v := (.agg (vR 2 0 p0 false).toArray)) rfl (HVal.build' (cs := (vR 2 0 p0 false)) runUnderlying25 zeroValue25 places25 rfl) ?_)))))
 obtain ⟨z5, h⟩ := h
 refine hq (HOp.storeN' (l := (vR 2 0 p0 false)) sizeOf25 rfl rfl rfl z5) ?_
 rintro _ H3 e4
 replace h := h H3 e4
 refine hn (nt (HW.ret ?_))
 obtain ⟨x6, x7, x8, x9, c10, h⟩ := h
 exact ⟨_, resOf1 rfl (Res1.n (vR x6 x7 x8 x9) isAgg25 sizeOf25 rfl c10), ⟨x6, x7, x8, x9, rfl, h⟩⟩

def F33 (p0 : Bool) (H : Hp) (Q : Int → Int → ByteArray → Bool → Hp → Prop) : Prop :=
∀ H1 : Hp, H1 = Array.push H (.cells (vR 0 0 bE false).toArray 25) → (
 mayw H1 (bk H) 4 0 ∧ ∀ H3 : Hp, H3 = sets H1 (bk H) (vR 3 0 bE p0) 0 → (
 ∃ (x6 x7 : Int) (x8 : ByteArray) (x9 : Bool), cells H3 (bk H) (vR x6 x7 x8 x9) 0 ∧ (
 Q x6 x7 x8 x9 H3)))
theorem walk33 {w0 : World} {p0 : Bool} {H : Hp} {Q : Int → Int → ByteArray → Bool → Hp → Prop} (h : F33 p0 H Q) :
  Good prog w0 33 #[(bv p0)] H (fun v H => ∃ (r0 r1 : Int) (r2 : ByteArray) (r3 : Bool) , v = (.agg (vR r0 r1 r2 r3).toArray) ∧ Q r0 r1 r2 r3 H) := by
 unfold F33 at h
 refine Good.enter' (fn := f33) func33 rfl rfl rfl (ws (wr_ (ho rfl (HOp.alloc zeroValue25) ?_)))
 rintro _ H1 ⟨rfl, e2⟩
 replace h := h H1 e2
 refine hn (nt (ws (wr_ (hv (v := (bv p0)) rfl (mv rfl) (hv (v := (.agg (vR 3 0 bE p0).toArray)) rfl (HVal.build' (cs := (vR 3 0 bE p0)) runUnderlying25 zeroValue25 places25 rfl) ?_)))))
 obtain ⟨z5, h⟩ := h
 refine hq (HOp.storeN' (l := (vR 3 0 bE p0)) sizeOf25 rfl rfl rfl z5) ?_
 rintro _ H3 e4
 replace h := h H3 e4
 refine hn (nt (HW.ret ?_))
 obtain ⟨x6, x7, x8, x9, c10, h⟩ := h
 exact ⟨_, resOf1 rfl (Res1.n (vR x6 x7 x8 x9) isAgg25 sizeOf25 rfl c10), ⟨x6, x7, x8, x9, rfl, h⟩⟩

def F13 (p0_0 p0_1 : Int) (p0_2 : ByteArray) (p0_3 : Bool) (H : Hp) (Q : Bool → Hp → Prop) : Prop :=
∀ H1 : Hp, H1 = Array.push H (.cells (vR p0_0 p0_1 p0_2 p0_3).toArray 25) → (
 ∃ x4 : Int, cell H1 (bk H) = some (iv x4) ∧ (
 ((decide (x4 = 1)) = true → (∃ (x7 x8 : Int) (x9 : ByteArray) (x10 : Bool), cells H1 (bk H) (vR x7 x8 x9 x10) 0 ∧ (
 ∃ x12 : Int, cell H1 (Addr.add (bk H) 1) = some (iv x12) ∧ (
 F31 x12 H1 (fun (r15 r16 : Int) (r17 : ByteArray) (r18 : Bool) (H13 : Hp) => 
 cells H13 (bk H) (vR x7 x8 x9 x10) 0 ∧ (
 Q (decide (x7 = r15) && (decide (x8 = r16) && (seq x9 r17 && (x10 == r18)))) H13)))))) ∧
 ((decide (x4 = 1)) = false → (((decide (x4 = 2)) = true → (∃ (x22 x23 : Int) (x24 : ByteArray) (x25 : Bool), cells H1 (bk H) (vR x22 x23 x24 x25) 0 ∧ (
 ∃ x27 : ByteArray, cell H1 (Addr.add (bk H) 2) = some (sv x27) ∧ (
 F32 x27 H1 (fun (r30 r31 : Int) (r32 : ByteArray) (r33 : Bool) (H28 : Hp) => 
 cells H28 (bk H) (vR x22 x23 x24 x25) 0 ∧ (
 ((decide (x22 = r30) && (decide (x23 = r31) && (seq x24 r32 && (x25 == r33)))) = true → (∃ x38 : ByteArray, cell H28 (Addr.add (bk H) 2) = some (sv x38) ∧ (
 Q (decide (((x38).size : Int) ≤ 256)) H28))) ∧
 ((decide (x22 = r30) && (decide (x23 = r31) && (seq x24 r32 && (x25 == r33)))) = false → (Q false H28)))))))) ∧
 ((decide (x4 = 2)) = false → (((decide (x4 = 3)) = true → (∃ (x41 x42 : Int) (x43 : ByteArray) (x44 : Bool), cells H1 (bk H) (vR x41 x42 x43 x44) 0 ∧ (
 ∃ x46 : Bool, cell H1 (Addr.add (bk H) 3) = some (bv x46) ∧ (
 F33 x46 H1 (fun (r49 r50 : Int) (r51 : ByteArray) (r52 : Bool) (H47 : Hp) => 
 cells H47 (bk H) (vR x41 x42 x43 x44) 0 ∧ (
 Q (decide (x41 = r49) && (decide (x42 = r50) && (seq x43 r51 && (x44 == r52)))) H47)))))) ∧
 ((decide (x4 = 3)) = false → (Q false H1))))))))
theorem walk13 {w0 : World} {p0_0 p0_1 : Int} {p0_2 : ByteArray} {p0_3 : Bool} {H : Hp} {Q : Bool → Hp → Prop} (h : F13 p0_0 p0_1 p0_2 p0_3 H Q) :
  Good prog w0 13 #[(.agg (vR p0_0 p0_1 p0_2 p0_3).toArray)] H (fun v H => ∃ (r0 : Bool) , v = (bv r0) ∧ Q r0 H) := by
 unfold F13 at h
 refine Good.enter' (fn := f13) func13 rfl rfl rfl (ws (wr_ (ho rfl (ob (v := (.agg (vR p0_0 p0_1 p0_2 p0_3).toArray)) rfl) ?_)))
 rintro _ H1 ⟨rfl, e2⟩
 replace h := h H1 e2
 refine hv (v := (bv false)) rfl (av rfl) (hn (nt (ws (ws (wr_ (hv (v := (pp (bk H))) rfl (HVal.fieldAddr0 runUnderlying25 rfl rfl sizeOf3 rfl) ?_))))))
 obtain ⟨x4, c3, h⟩ := h
 refine hv (v := (iv x4)) rfl (l1 isAgg3 rfl c3) (hn (nt (wb (ws (wr_ (hv (v := (bv (decide (x4 = 1)))) rfl (HVal.eqlI rfl rfl) ?_))))))
 refine hv (v := (bv (decide (x4 = 1)))) rfl (av rfl) (hn (nt ?_))
 obtain ⟨hT, hF⟩ := h
 refine wk (decide (x4 = 1)) rfl (fun hb5 => ?_) (fun hb5 => ?_)
 ·have h := hT hb5
  refine ws (HW.draw mixed [(0, some []), (1, some []), (2, some [3]), (3, none), (4, some []), (5, some [])] rfl (by kernel_rfl) (by kernel_rfl) ?_)
  obtain ⟨x7, x8, x9, x10, c6, h⟩ := h
  refine pl (v := (.agg (vR x7 x8 x9 x10).toArray)) (fun X => cells X (bk H) (vR x7 x8 x9 x10) 0) rfl rfl (fun _ hX => ln (vR x7 x8 x9 x10) isAgg25 sizeOf25 rfl hX) c6 ?_
  refine pv (v := (pp (Addr.add (bk H) 1))) rfl rfl (fun _ => fa runUnderlying25 rfl rfl sizeOf2 rfl) ?_
  obtain ⟨x12, c11, h⟩ := h
  refine pl (v := (iv x12)) (fun X => cell X (Addr.add (bk H) 1) = some (iv x12)) rfl rfl (fun _ hX => l1 isAgg2 rfl hX) c11 (po rfl rfl (HOp.call' 31 [(iv x12)] (cap := []) rfl rfl call31 (walk31 h)) ?_)
  rintro _ H13 ⟨r15, r16, r17, r18, rfl, h⟩
  obtain ⟨s19, h⟩ := h
  refine ⟨SC_of ⟨nofun, fun _ => s19, trivial⟩, ?_⟩
  refine pv (v := (bv (decide (x7 = r15) && (decide (x8 = r16) && (seq x9 r17 && (x10 == r18)))))) rfl rfl (fun _ => eqs25_eql rfl rfl) (pv (v := (bv (decide (x7 = r15) && (decide (x8 = r16) && (seq x9 r17 && (x10 == r18)))))) rfl rfl (fun _ => av rfl) ?_)
  refine HPlan.done (nt (HW.ret (br (tr ?_))))
  exact ⟨_, resOf1 rfl Res1.t, ⟨(decide (x7 = r15) && (decide (x8 = r16) && (seq x9 r17 && (x10 == r18)))), rfl, h⟩⟩
 have h := hF hb5
 refine ws (wr_ (hv (v := (bv (decide (x4 = 2)))) rfl (HVal.eqlI rfl rfl) (hv (v := (bv (decide (x4 = 2)))) rfl (av rfl) ?_)))
 refine hn (nt ?_)
 obtain ⟨hT, hF⟩ := h
 refine wk (decide (x4 = 2)) rfl (fun hb20 => ?_) (fun hb20 => ?_)
 ·have h := hT hb20
  refine ws (HW.draw mixed [(0, some []), (1, some []), (2, some [3]), (3, none), (4, some []), (5, some []), (6, some []), (7, some []), (8, some []), (9, some []), (10, some []), (11, some [])] rfl (by kernel_rfl) (by kernel_rfl) ?_)
  obtain ⟨x22, x23, x24, x25, c21, h⟩ := h
  refine pl (v := (.agg (vR x22 x23 x24 x25).toArray)) (fun X => cells X (bk H) (vR x22 x23 x24 x25) 0) rfl rfl (fun _ hX => ln (vR x22 x23 x24 x25) isAgg25 sizeOf25 rfl hX) c21 ?_
  refine pv (v := (pp (Addr.add (bk H) 2))) rfl rfl (fun _ => fa runUnderlying25 rfl rfl sizeOf9 rfl) ?_
  obtain ⟨x27, c26, h⟩ := h
  refine pl (v := (sv x27)) (fun X => cell X (Addr.add (bk H) 2) = some (sv x27)) rfl rfl (fun _ hX => l1 isAgg9 rfl hX) c26 (po rfl rfl (HOp.call' 32 [(sv x27)] (cap := []) rfl rfl call32 (walk32 h)) ?_)
  rintro _ H28 ⟨r30, r31, r32, r33, rfl, h⟩
  obtain ⟨s34, h⟩ := h
  refine ⟨SC_of ⟨nofun, fun _ => s34, trivial⟩, ?_⟩
  refine pv (v := (bv (decide (x22 = r30) && (decide (x23 = r31) && (seq x24 r32 && (x25 == r33)))))) rfl rfl (fun _ => eqs25_eql rfl rfl) (pv (v := (bv (decide (x22 = r30) && (decide (x23 = r31) && (seq x24 r32 && (x25 == r33)))))) rfl rfl (fun _ => mv rfl) ?_)
  obtain ⟨hT, hF⟩ := h
  rcases Bool.eq_false_or_eq_true (decide (x22 = r30) && (decide (x23 = r31) && (seq x24 r32 && (x25 == r33)))) with hb35 | hb36
  ·have h := hT hb35
   refine HPlan.gtakev (v := (pp (Addr.add (bk H) 2))) rfl rfl rfl rfl rfl (cB hb35) (fun _ => fa runUnderlying25 rfl rfl sizeOf9 rfl) ?_
   obtain ⟨x38, c37, h⟩ := h
   refine HPlan.gtakel (v := (sv x38)) (fun X => cell X (Addr.add (bk H) 2) = some (sv x38)) rfl rfl rfl rfl rfl (cB hb35) (fun _ hX => l1 isAgg9 rfl hX) c37 ?_
   refine HPlan.gtakev (v := (iv ((x38).size : Int))) rfl rfl rfl rfl rfl (cB hb35) (fun _ => HVal.lenS runUnderlying9 rfl) (HPlan.gtakev (v := (bv (decide (((x38).size : Int) ≤ 256)))) rfl rfl rfl rfl rfl (cB hb35) (fun _ => HVal.leq rfl rfl) ?_)
   refine pv (v := (bv (decide (((x38).size : Int) ≤ 256)))) rfl rfl (fun _ => pt_ rfl hb35 rfl) (pv (v := (bv (decide (((x38).size : Int) ≤ 256)))) rfl rfl (fun _ => av rfl) ?_)
   refine HPlan.done (nt (HW.ret (br (tr ?_))))
   exact ⟨_, resOf1 rfl Res1.t, ⟨(decide (((x38).size : Int) ≤ 256)), rfl, h⟩⟩
  have h := hF hb36
  refine pg rfl rfl rfl rfl (cB hb36) (pg rfl rfl rfl rfl (cB hb36) (pg rfl rfl rfl rfl (cB hb36) (pg rfl rfl rfl rfl (cB hb36) ?_)))
  refine pv (v := (bv false)) rfl rfl (fun _ => pf_ rfl hb36 rfl) (pv (v := (bv false)) rfl rfl (fun _ => av rfl) (HPlan.done ?_))
  refine nt (HW.ret (br (tr ?_)))
  exact ⟨_, resOf1 rfl Res1.t, ⟨false, rfl, h⟩⟩
 have h := hF hb20
 refine ws (wr_ (hv (v := (bv (decide (x4 = 3)))) rfl (HVal.eqlI rfl rfl) (hv (v := (bv (decide (x4 = 3)))) rfl (av rfl) ?_)))
 refine hn (nt ?_)
 obtain ⟨hT, hF⟩ := h
 refine wk (decide (x4 = 3)) rfl (fun hb39 => ?_) (fun hb39 => ?_)
 ·have h := hT hb39
  refine ws (HW.draw mixed [(0, some []), (1, some []), (2, some [3]), (3, none), (4, some []), (5, some [])] rfl (by kernel_rfl) (by kernel_rfl) ?_)
  obtain ⟨x41, x42, x43, x44, c40, h⟩ := h
  refine pl (v := (.agg (vR x41 x42 x43 x44).toArray)) (fun X => cells X (bk H) (vR x41 x42 x43 x44) 0) rfl rfl (fun _ hX => ln (vR x41 x42 x43 x44) isAgg25 sizeOf25 rfl hX) c40 ?_
  refine pv (v := (pp (Addr.add (bk H) 3))) rfl rfl (fun _ => fa runUnderlying25 rfl rfl sizeOf4 rfl) ?_
  obtain ⟨x46, c45, h⟩ := h
  refine pl (v := (bv x46)) (fun X => cell X (Addr.add (bk H) 3) = some (bv x46)) rfl rfl (fun _ hX => l1 isAgg4 rfl hX) c45 (po rfl rfl (HOp.call' 33 [(bv x46)] (cap := []) rfl rfl call33 (walk33 h)) ?_)
  rintro _ H47 ⟨r49, r50, r51, r52, rfl, h⟩
  obtain ⟨s53, h⟩ := h
  refine ⟨SC_of ⟨nofun, fun _ => s53, trivial⟩, ?_⟩
  refine pv (v := (bv (decide (x41 = r49) && (decide (x42 = r50) && (seq x43 r51 && (x44 == r52)))))) rfl rfl (fun _ => eqs25_eql rfl rfl) (pv (v := (bv (decide (x41 = r49) && (decide (x42 = r50) && (seq x43 r51 && (x44 == r52)))))) rfl rfl (fun _ => av rfl) ?_)
  refine HPlan.done (nt (HW.ret (br (tr ?_))))
  exact ⟨_, resOf1 rfl Res1.t, ⟨(decide (x41 = r49) && (decide (x42 = r50) && (seq x43 r51 && (x44 == r52)))), rfl, h⟩⟩
 have h := hF hb39
 refine wp_ (nb (nt (ws (wr_ (hv (v := (bv false)) rfl (av rfl) (hn (nt (HW.ret ?_))))))))
 exact ⟨_, resOf1 rfl Res1.t, ⟨false, rfl, h⟩⟩

def F49 (p0 : Int) (H : Hp) (Q : Int → Int → ByteArray → Bool → Hp → Prop) : Prop :=
∀ H1 : Hp, H1 = Array.push H (.cells (vR 0 0 bE false).toArray 25) → (
 mayw H1 (bk H) 4 0 ∧ ∀ H3 : Hp, H3 = sets H1 (bk H) (vR 1 p0 bE false) 0 → (
 ∃ (x6 x7 : Int) (x8 : ByteArray) (x9 : Bool), cells H3 (bk H) (vR x6 x7 x8 x9) 0 ∧ (
 Q x6 x7 x8 x9 H3)))
theorem walk49 {w0 : World} {p0 : Int} {H : Hp} {Q : Int → Int → ByteArray → Bool → Hp → Prop} (h : F49 p0 H Q) :
  Good prog w0 49 #[(iv p0)] H (fun v H => ∃ (r0 r1 : Int) (r2 : ByteArray) (r3 : Bool) , v = (.agg (vR r0 r1 r2 r3).toArray) ∧ Q r0 r1 r2 r3 H) := by
 unfold F49 at h
 refine Good.enter' (fn := f49) func49 rfl rfl rfl (ws (wr_ (ho rfl (HOp.alloc zeroValue25) ?_)))
 rintro _ H1 ⟨rfl, e2⟩
 replace h := h H1 e2
 refine hn (nt (ws (wr_ (hv (v := (iv p0)) rfl (mv rfl) (hv (v := (.agg (vR 1 p0 bE false).toArray)) rfl (HVal.build' (cs := (vR 1 p0 bE false)) runUnderlying25 zeroValue25 places25 rfl) ?_)))))
 obtain ⟨z5, h⟩ := h
 refine hq (HOp.storeN' (l := (vR 1 p0 bE false)) sizeOf25 rfl rfl rfl z5) ?_
 rintro _ H3 e4
 replace h := h H3 e4
 refine hn (nt (HW.ret ?_))
 obtain ⟨x6, x7, x8, x9, c10, h⟩ := h
 exact ⟨_, resOf1 rfl (Res1.n (vR x6 x7 x8 x9) isAgg25 sizeOf25 rfl c10), ⟨x6, x7, x8, x9, rfl, h⟩⟩

def F41_3 (Q : Int → Int → ByteArray → Bool → Bool → Hp → Prop) (y42 y43 : Addr) (y44 y49 : Bool) (H_3 : Hp) : Prop :=
(y49 = true → (mayw H_3 y43 4 0 ∧ ∀ H65 : Hp, H65 = sets H_3 y43 (vR 0 0 bE false) 0 → (
 ∃ (x68 x69 : Int) (x70 : ByteArray) (x71 : Bool), cells H65 y43 (vR x68 x69 x70 x71) 0 ∧ (
 Q x68 x69 x70 x71 false H65)))) ∧
 (y49 = false → ((y44 = true → (∃ x75 : Int, cell H_3 (Addr.add (Addr.add y42 2) 1) = some (iv x75) ∧ (
 F49 (IntKind.i64.wrap (0 - x75)) H_3 (fun (r78 r79 : Int) (r80 : ByteArray) (r81 : Bool) (H76 : Hp) => 
 mayw H76 y43 4 0 ∧ ∀ H82 : Hp, H82 = sets H76 y43 (vR r78 r79 r80 r81) 0 → (
 ∃ (x85 x86 : Int) (x87 : ByteArray) (x88 : Bool), cells H82 y43 (vR x85 x86 x87 x88) 0 ∧ (
 Q x85 x86 x87 x88 true H82)))))) ∧
 (y44 = false → (∃ (x91 x92 : Int) (x93 : ByteArray) (x94 : Bool), cells H_3 (Addr.add y42 2) (vR x91 x92 x93 x94) 0 ∧ (
 mayw H_3 y43 4 0 ∧ ∀ H95 : Hp, H95 = sets H_3 y43 (vR x91 x92 x93 x94) 0 → (
 ∃ (x98 x99 : Int) (x100 : ByteArray) (x101 : Bool), cells H95 y43 (vR x98 x99 x100 x101) 0 ∧ (
 Q x98 x99 x100 x101 true H95)))))))
def F41_2 (Q : Int → Int → ByteArray → Bool → Bool → Hp → Prop) (y18 y19 : Addr) (y20 : Bool) (H_2 : Hp) : Prop :=
∃ x46 : Int, cell H_2 y18 = some (iv x46) ∧ (
 ((decide (x46 ≠ 1)) = true → (F41_3 Q y18 y19 y20 true H_2)) ∧
 ((decide (x46 ≠ 1)) = false → (∃ (x51 x52 : Int) (x53 : ByteArray) (x54 : Bool), cells H_2 (Addr.add y18 2) (vR x51 x52 x53 x54) 0 ∧ (
 F13 x51 x52 x53 x54 H_2 (fun (r57 : Bool) (H55 : Hp) => 
 ((!r57) = true → (F41_3 Q y18 y19 y20 true H55)) ∧
 ((!r57) = false → ((y20 = true → (∃ x63 : Int, cell H55 (Addr.add y18 2) = some (iv x63) ∧ (
 F41_3 Q y18 y19 y20 (decide (x63 ≠ 1)) H55))) ∧
 (y20 = false → (F41_3 Q y18 y19 y20 false H55)))))))))
def F41_1 (Q : Int → Int → ByteArray → Bool → Bool → Hp → Prop) (y5 y6 : Addr) (y17 : Bool) (H_1 : Hp) : Prop :=
(y17 = true → (∃ x23 : Sl, cell H_1 (Addr.add y5 9) = some (Sl.v x23) ∧ (
 ∃ a24 : Addr, (x23).b = some a24 ∧ (0 : Int) ≤ 0 ∧ (0 : Int) < ((x23).n : Int) ∧ (
 ∃ (x29 x30 x31 x32 : Int) (x33 : ByteArray) (x34 : Bool) (x35 : ByteArray) (x36 : Int) (x37 : ByteArray) (x38 : Sl), cells H_1 (Addr.add a24 ((0 : Int).toNat * 10)) (eR x29 x30 x31 x32 x33 x34 x35 x36 x37 x38) 0 ∧ (
 mayw H_1 y5 10 0 ∧ ∀ H39 : Hp, H39 = sets H_1 y5 (eR x29 x30 x31 x32 x33 x34 x35 x36 x37 x38) 0 → (
 F41_2 Q y5 y6 y17 H39)))))) ∧
 (y17 = false → (F41_2 Q y5 y6 y17 H_1))
def F41 (p0_0 p0_1 p0_2 p0_3 : Int) (p0_4 : ByteArray) (p0_5 : Bool) (p0_6 : ByteArray) (p0_7 : Int) (p0_8 : ByteArray) (p0_9 : Sl) (H : Hp) (Q : Int → Int → ByteArray → Bool → Bool → Hp → Prop) : Prop :=
∀ H1 : Hp, H1 = Array.push H (.cells (eR p0_0 p0_1 p0_2 p0_3 p0_4 p0_5 p0_6 p0_7 p0_8 p0_9).toArray 41) → (
 ∀ H3 : Hp, H3 = Array.push H1 (.cells (vR 0 0 bE false).toArray 25) → (
 ∃ x8 : Int, cell H3 (bk H) = some (iv x8) ∧ (
 ((decide (x8 = 4)) = true → (∃ x12 : Int, cell H3 (Addr.add (bk H) 1) = some (iv x12) ∧ (
 ((decide (x12 = 1)) = true → (∃ x16 : Sl, cell H3 (Addr.add (bk H) 9) = some (Sl.v x16) ∧ (
 F41_1 Q (bk H) (bk H1) (decide (((x16).n : Int) = 1)) H3))) ∧
 ((decide (x12 = 1)) = false → (F41_1 Q (bk H) (bk H1) false H3))))) ∧
 ((decide (x8 = 4)) = false → (F41_1 Q (bk H) (bk H1) false H3)))))
theorem walk41 {w0 : World} {p0_0 p0_1 p0_2 p0_3 : Int} {p0_4 : ByteArray} {p0_5 : Bool} {p0_6 : ByteArray} {p0_7 : Int} {p0_8 : ByteArray} {p0_9 : Sl} {H : Hp} {Q : Int → Int → ByteArray → Bool → Bool → Hp → Prop} (h : F41 p0_0 p0_1 p0_2 p0_3 p0_4 p0_5 p0_6 p0_7 p0_8 p0_9 H Q) :
  Good prog w0 41 #[(.agg (eR p0_0 p0_1 p0_2 p0_3 p0_4 p0_5 p0_6 p0_7 p0_8 p0_9).toArray)] H (fun v H => ∃ (r0 r1 : Int) (r2 : ByteArray) (r3 r4 : Bool) , v = (.tuple #[(.agg (vR r0 r1 r2 r3).toArray), (bv r4)]) ∧ Q r0 r1 r2 r3 r4 H) := by
 unfold F41 at h
 refine Good.enter' (fn := f41) func41 rfl rfl rfl (ws (wr_ (ho rfl (ob (v := (.agg (eR p0_0 p0_1 p0_2 p0_3 p0_4 p0_5 p0_6 p0_7 p0_8 p0_9).toArray)) rfl) ?_)))
 rintro _ H1 ⟨rfl, e2⟩
 replace h := h H1 e2
 refine ho rfl (HOp.alloc zeroValue25) ?_
 rintro _ H3 ⟨rfl, e4⟩
 replace h := h H3 e4
 refine hv (v := (bv false)) rfl (av rfl) (hn (nt (wc (fun ρ H_1 => ∃ (y17 : Bool), Env.Is ρ [(1, (pp (bk H))), (2, (pp (bk H1))), (4, (bv y17))] ∧ F41_1 Q (bk H) (bk H1) y17 H_1) ?_ ?_)))
 ·refine wr_ (hv (v := (pp (bk H))) rfl (HVal.fieldAddr0 runUnderlying41 rfl rfl sizeOf3 rfl) ?_)
  obtain ⟨x8, c7, h⟩ := h
  refine hv (v := (iv x8)) rfl (l1 isAgg3 rfl c7) (hv (v := (bv (decide (x8 = 4)))) rfl (HVal.eqlI rfl rfl) (hv (v := (bv (decide (x8 = 4)))) rfl (mv rfl) ?_))
  obtain ⟨hT, hF⟩ := h
  rcases Bool.eq_false_or_eq_true (decide (x8 = 4)) with hb9 | hb10
  ·have h := hT hb9
   refine hg (v := (pp (Addr.add (bk H) 1))) rfl rfl rfl rfl (cB hb9) (fa runUnderlying41 rfl rfl sizeOf3 rfl) ?_
   obtain ⟨x12, c11, h⟩ := h
   refine hg (v := (iv x12)) rfl rfl rfl rfl (cB hb9) (l1 isAgg3 rfl c11) (hg (v := (bv (decide (x12 = 1)))) rfl rfl rfl rfl (cB hb9) (HVal.eqlI rfl rfl) ?_)
   refine hv (v := (bv (decide (x12 = 1)))) rfl (pt_ rfl hb9 rfl) (hv (v := (bv (decide (x12 = 1)))) rfl (mv rfl) ?_)
   obtain ⟨hT, hF⟩ := h
   rcases Bool.eq_false_or_eq_true (decide (x12 = 1)) with hb13 | hb14
   ·have h := hT hb13
    refine hg (v := (pp (Addr.add (bk H) 9))) rfl rfl rfl rfl (cB hb13) (fa runUnderlying41 rfl rfl sizeOf35 rfl) ?_
    obtain ⟨x16, c15, h⟩ := h
    refine hg (v := (Sl.v x16)) rfl rfl rfl rfl (cB hb13) (l1 isAgg35 rfl c15) (hg (v := (iv ((x16).n : Int))) rfl rfl rfl rfl (cB hb13) (HVal.len runUnderlying35 rfl) ?_)
    refine hg (v := (bv (decide (((x16).n : Int) = 1)))) rfl rfl rfl rfl (cB hb13) (HVal.eqlI rfl rfl) (hv (v := (bv (decide (((x16).n : Int) = 1)))) rfl (pt_ rfl hb13 rfl) ?_)
    refine hv (v := (bv (decide (((x16).n : Int) = 1)))) rfl (av rfl) (hn (nt ?_))
    exact ⟨(decide (((x16).n : Int) = 1)), (isp rfl), h⟩
   have h := hF hb14
   refine hs_ rfl rfl rfl rfl (cB hb14) (hs_ rfl rfl rfl rfl (cB hb14) (hs_ rfl rfl rfl rfl (cB hb14) (hs_ rfl rfl rfl rfl (cB hb14) ?_)))
   refine hv (v := (bv false)) rfl (pf_ rfl hb14 rfl) (hv (v := (bv false)) rfl (av rfl) (hn (nt ?_)))
   exact ⟨false, (isp rfl), h⟩
  have h := hF hb10
  refine hs_ rfl rfl rfl rfl (cB hb10) (hs_ rfl rfl rfl rfl (cB hb10) (hs_ rfl rfl rfl rfl (cB hb10) (hv (v := (bv false)) rfl (pf_ rfl hb10 rfl) ?_)))
  refine hv (v := (bv false)) rfl (mv rfl) (hs_ rfl rfl rfl rfl rfl (hs_ rfl rfl rfl rfl rfl (hs_ rfl rfl rfl rfl rfl ?_)))
  refine hs_ rfl rfl rfl rfl rfl (hv (v := (bv false)) rfl (pf_ rfl rfl rfl) (hv (v := (bv false)) rfl (av rfl) (hn (nt ?_))))
  exact ⟨false, (isp rfl), h⟩
 rintro ρ H_1 ⟨y17, hI, h⟩
 obtain ⟨ρ0, rfl⟩ := hI.ex
 clear hI; unfold F41_1 at h
 refine wc (fun ρ H_2 => Env.Is ρ [(1, (pp (bk H))), (2, (pp (bk H1))), (4, (bv y17))] ∧ F41_2 Q (bk H) (bk H1) y17 H_2) ?_ ?_
 ·refine ws (wr_ (hv (v := (bv y17)) rfl (mv rfl) (hn (nt ?_))))
  obtain ⟨hT, hF⟩ := h
  refine wk y17 rfl (fun hb21 => ?_) (fun hb21 => ?_)
  ·have h := hT hb21
   refine wr_ (hv (v := (pp (Addr.add (bk H) 9))) rfl (fa runUnderlying41 rfl rfl sizeOf35 rfl) ?_)
   obtain ⟨x23, c22, h⟩ := h
   refine hv (v := (Sl.v x23)) rfl (l1 isAgg35 rfl c22) ?_
   obtain ⟨a24, e25, b26, b27, h⟩ := h
   refine hv (v := (pp (Addr.add a24 ((0 : Int).toNat * 10)))) rfl (ia runUnderlying35 sizeOf41 (Sl.v_some rfl e25) rfl b26 b27) ?_
   obtain ⟨x29, x30, x31, x32, x33, x34, x35, x36, x37, x38, c28, h⟩ := h
   refine hv (v := (.agg (eR x29 x30 x31 x32 x33 x34 x35 x36 x37 x38).toArray)) rfl (ln (eR x29 x30 x31 x32 x33 x34 x35 x36 x37 x38) isAgg41 sizeOf41 rfl c28) ?_
   obtain ⟨z41, h⟩ := h
   refine hq (HOp.storeN' (l := (eR x29 x30 x31 x32 x33 x34 x35 x36 x37 x38)) sizeOf41 rfl rfl rfl z41) ?_
   rintro _ H39 e40
   replace h := h H39 e40
   refine hn (nt ?_)
   exact ⟨(isp rfl), h⟩
  have h := hF hb21
  refine wp_ (nt ?_)
  exact ⟨(isp rfl), h⟩
 rintro ρ H_2 ⟨hI, h⟩
 obtain ⟨ρ0, rfl⟩ := hI.ex
 clear hI; unfold F41_2 at h
 refine ws (wc (fun ρ H_3 => ∃ (y49 : Bool), Env.Is ρ [(1, (pp (bk H))), (2, (pp (bk H1))), (4, (bv y17)), (41, (bv y49))] ∧ F41_3 Q (bk H) (bk H1) y17 y49 H_3) ?_ ?_)
 ·refine wr_ (hv (v := (pp (bk H))) rfl (HVal.fieldAddr0 runUnderlying41 rfl rfl sizeOf3 rfl) ?_)
  obtain ⟨x46, c45, h⟩ := h
  refine hv (v := (iv x46)) rfl (l1 isAgg3 rfl c45) (hv (v := (bv (decide (x46 ≠ 1)))) rfl (HVal.neqI rfl rfl) (hv (v := (bv (decide (x46 ≠ 1)))) rfl (mv rfl) ?_))
  obtain ⟨hT, hF⟩ := h
  rcases Bool.eq_false_or_eq_true (decide (x46 ≠ 1)) with hb47 | hb48
  ·have h := hT hb47
   refine hs_ rfl rfl rfl rfl (cB hb47) (hs_ rfl rfl rfl rfl (cB hb47) (hs_ rfl rfl rfl rfl (cB hb47) (hs_ rfl rfl rfl rfl (cB hb47) ?_)))
   refine hv (v := (bv true)) rfl (pt_ rfl hb47 rfl) (hv (v := (bv true)) rfl (mv rfl) (hs_ rfl rfl rfl rfl rfl (hs_ rfl rfl rfl rfl rfl ?_)))
   refine HList.uskips rfl rfl rfl rfl rfl (HList.uskips rfl rfl rfl rfl rfl (HList.uskips rfl rfl rfl rfl rfl (HList.uskips rfl rfl rfl rfl rfl (hs_ rfl rfl rfl rfl rfl ?_))))
   refine hv (v := (bv true)) rfl (pt_ rfl rfl rfl) (hn (nt ?_))
   exact ⟨true, (isp rfl), h⟩
  have h := hF hb48
  refine hg (v := (pp (Addr.add (bk H) 2))) rfl rfl rfl rfl (cB hb48) (fa runUnderlying41 rfl rfl sizeOf25 rfl) ?_
  obtain ⟨x51, x52, x53, x54, c50, h⟩ := h
  refine hg (v := (.agg (vR x51 x52 x53 x54).toArray)) rfl rfl rfl rfl (cB hb48) (ln (vR x51 x52 x53 x54) isAgg25 sizeOf25 rfl c50) ?_
  refine HList.gops rfl rfl rfl rfl (cB hb48) (HOp.call' 13 [(.agg (vR x51 x52 x53 x54).toArray)] (cap := []) rfl rfl call13 (walk13 h)) ?_
  rintro _ H55 ⟨r57, rfl, h⟩
  refine hg (v := (bv (!r57))) rfl rfl rfl rfl (cB hb48) (HVal.not rfl) (hv (v := (bv (!r57))) rfl (pf_ rfl hb48 rfl) (hv (v := (bv (!r57))) rfl (mv rfl) ?_))
  obtain ⟨hT, hF⟩ := h
  rcases Bool.eq_false_or_eq_true (!r57) with hb58 | hb59
  ·have h := hT hb58
   refine hs_ rfl rfl rfl rfl (cB hb58) (hs_ rfl rfl rfl rfl (cB hb58) (HList.uskips rfl rfl rfl rfl rfl (HList.uskips rfl rfl rfl rfl rfl ?_)))
   refine HList.uskips rfl rfl rfl rfl rfl (HList.uskips rfl rfl rfl rfl rfl (hs_ rfl rfl rfl rfl (cB hb58) (hv (v := (bv true)) rfl (pt_ rfl hb58 rfl) ?_)))
   refine hn (nt ?_)
   exact ⟨true, (isp rfl), h⟩
  have h := hF hb59
  refine hg (v := (bv y17)) rfl rfl rfl rfl (cB hb59) (mv rfl) (hg (v := (bv y17)) rfl rfl rfl rfl (cB hb59) (mv rfl) ?_)
  obtain ⟨hT, hF⟩ := h
  rcases Bool.eq_false_or_eq_true y17 with hb60 | hb61
  ·have h := hT hb60
   refine hg (v := (pp (Addr.add (bk H) 2))) rfl rfl rfl rfl (cB hb60) (fa runUnderlying41 rfl rfl sizeOf25 rfl) ?_
   refine hg (v := (pp (Addr.add (bk H) 2))) rfl rfl rfl rfl (cB hb60) (HVal.fieldAddr0 runUnderlying25 rfl rfl sizeOf3 rfl) ?_
   obtain ⟨x63, c62, h⟩ := h
   refine hg (v := (iv x63)) rfl rfl rfl rfl (cB hb60) (l1 isAgg3 rfl c62) (hg (v := (bv (decide (x63 ≠ 1)))) rfl rfl rfl rfl (cB hb60) (HVal.neqI rfl rfl) ?_)
   refine hg (v := (bv (decide (x63 ≠ 1)))) rfl rfl rfl rfl (cB hb59) (pt_ rfl hb60 rfl) (hv (v := (bv (decide (x63 ≠ 1)))) rfl (pf_ rfl hb59 rfl) ?_)
   refine hn (nt ?_)
   exact ⟨(decide (x63 ≠ 1)), (isp rfl), h⟩
  have h := hF hb61
  refine hs_ rfl rfl rfl rfl (cB hb61) (hs_ rfl rfl rfl rfl (cB hb61) (hs_ rfl rfl rfl rfl (cB hb61) (hs_ rfl rfl rfl rfl (cB hb61) ?_)))
  refine hg (v := (bv false)) rfl rfl rfl rfl (cB hb59) (pf_ rfl hb61 rfl) (hv (v := (bv false)) rfl (pf_ rfl hb59 rfl) (hn (nt ?_)))
  exact ⟨false, (isp rfl), h⟩
 rintro ρ H_3 ⟨y49, hI, h⟩
 obtain ⟨ρ0, rfl⟩ := hI.ex
 clear hI; unfold F41_3 at h
 obtain ⟨hT, hF⟩ := h
 refine wk y49 rfl (fun hb64 => ?_) (fun hb64 => ?_)
 ·have h := hT hb64
  refine ws (wr_ (hv (v := (.agg (vR 0 0 bE false).toArray)) rfl (HVal.build' (cs := (vR 0 0 bE false)) runUnderlying25 zeroValue25 places25 rfl) ?_))
  obtain ⟨z67, h⟩ := h
  refine hq (HOp.storeN' (l := (vR 0 0 bE false)) sizeOf25 rfl rfl rfl z67) ?_
  rintro _ H65 e66
  replace h := h H65 e66
  refine hv (v := (bv false)) rfl (av rfl) (hn (nt (HW.ret (tr ?_))))
  obtain ⟨x68, x69, x70, x71, c72, h⟩ := h
  exact ⟨_, resOf2 rfl (Res1.n (vR x68 x69 x70 x71) isAgg25 sizeOf25 rfl c72) Res1.t, ⟨x68, x69, x70, x71, false, rfl, h⟩⟩
 have h := hF hb64
 refine wp_ (nt (ws (ws (wr_ (hv (v := (bv y17)) rfl (mv rfl) (hn (nt ?_)))))))
 obtain ⟨hT, hF⟩ := h
 refine wk y17 rfl (fun hb73 => ?_) (fun hb73 => ?_)
 ·have h := hT hb73
  refine ws (wr_ (hv (v := (pp (Addr.add (bk H) 2))) rfl (fa runUnderlying41 rfl rfl sizeOf25 rfl) (hv (v := (pp (Addr.add (Addr.add (bk H) 2) 1))) rfl (fa runUnderlying25 rfl rfl sizeOf2 rfl) ?_)))
  obtain ⟨x75, c74, h⟩ := h
  refine hv (v := (iv x75)) rfl (l1 isAgg2 rfl c74) (hv (v := (iv (IntKind.i64.wrap (0 - x75)))) rfl (HVal.neg rfl) (ho rfl (HOp.call' 49 [(iv (IntKind.i64.wrap (0 - x75)))] (cap := []) rfl rfl call49 (walk49 h)) ?_))
  rintro _ H76 ⟨r78, r79, r80, r81, rfl, h⟩
  obtain ⟨z84, h⟩ := h
  refine hq (HOp.storeN' (l := (vR r78 r79 r80 r81)) sizeOf25 rfl rfl rfl z84) ?_
  rintro _ H82 e83
  replace h := h H82 e83
  refine hv (v := (bv true)) rfl (av rfl) (hn (nt (HW.ret (tr ?_))))
  obtain ⟨x85, x86, x87, x88, c89, h⟩ := h
  exact ⟨_, resOf2 rfl (Res1.n (vR x85 x86 x87 x88) isAgg25 sizeOf25 rfl c89) Res1.t, ⟨x85, x86, x87, x88, true, rfl, h⟩⟩
 have h := hF hb73
 refine wp_ (nt (ws (wr_ (hv (v := (pp (Addr.add (bk H) 2))) rfl (fa runUnderlying41 rfl rfl sizeOf25 rfl) ?_))))
 obtain ⟨x91, x92, x93, x94, c90, h⟩ := h
 refine hv (v := (.agg (vR x91 x92 x93 x94).toArray)) rfl (ln (vR x91 x92 x93 x94) isAgg25 sizeOf25 rfl c90) ?_
 obtain ⟨z97, h⟩ := h
 refine hq (HOp.storeN' (l := (vR x91 x92 x93 x94)) sizeOf25 rfl rfl rfl z97) ?_
 rintro _ H95 e96
 replace h := h H95 e96
 refine hv (v := (bv true)) rfl (av rfl) (hn (nt (HW.ret ?_)))
 obtain ⟨x98, x99, x100, x101, c102, h⟩ := h
 exact ⟨_, resOf2 rfl (Res1.n (vR x98 x99 x100 x101) isAgg25 sizeOf25 rfl c102) Res1.t, ⟨x98, x99, x100, x101, true, rfl, h⟩⟩

def F60 (p0 : Bool) (H : Hp) (Q : Int → Int → ByteArray → Bool → Hp → Prop) : Prop :=
∀ H1 : Hp, H1 = Array.push H (.cells (vR 0 0 bE false).toArray 25) → (
 mayw H1 (bk H) 4 0 ∧ ∀ H3 : Hp, H3 = sets H1 (bk H) (vR 3 0 bE p0) 0 → (
 ∃ (x6 x7 : Int) (x8 : ByteArray) (x9 : Bool), cells H3 (bk H) (vR x6 x7 x8 x9) 0 ∧ (
 Q x6 x7 x8 x9 H3)))
theorem walk60 {w0 : World} {p0 : Bool} {H : Hp} {Q : Int → Int → ByteArray → Bool → Hp → Prop} (h : F60 p0 H Q) :
  Good prog w0 60 #[(bv p0)] H (fun v H => ∃ (r0 r1 : Int) (r2 : ByteArray) (r3 : Bool) , v = (.agg (vR r0 r1 r2 r3).toArray) ∧ Q r0 r1 r2 r3 H) := by
 unfold F60 at h
 refine Good.enter' (fn := f60) func60 rfl rfl rfl (ws (wr_ (ho rfl (HOp.alloc zeroValue25) ?_)))
 rintro _ H1 ⟨rfl, e2⟩
 replace h := h H1 e2
 refine hn (nt (ws (wr_ (hv (v := (bv p0)) rfl (mv rfl) (hv (v := (.agg (vR 3 0 bE p0).toArray)) rfl (HVal.build' (cs := (vR 3 0 bE p0)) runUnderlying25 zeroValue25 places25 rfl) ?_)))))
 obtain ⟨z5, h⟩ := h
 refine hq (HOp.storeN' (l := (vR 3 0 bE p0)) sizeOf25 rfl rfl rfl z5) ?_
 rintro _ H3 e4
 replace h := h H3 e4
 refine hn (nt (HW.ret ?_))
 obtain ⟨x6, x7, x8, x9, c10, h⟩ := h
 exact ⟨_, resOf1 rfl (Res1.n (vR x6 x7 x8 x9) isAgg25 sizeOf25 rfl c10), ⟨x6, x7, x8, x9, rfl, h⟩⟩

def F61 (p0 : Int) (H : Hp) (Q : Int → Hp → Prop) : Prop :=
((decide (p0 = 6)) = true → (Q 6 H)) ∧
 ((decide (p0 = 6)) = false → (((decide (p0 = 8)) = true → (Q 10 H)) ∧
 ((decide (p0 = 8)) = false → (((decide (p0 = 9)) = true → (Q 11 H)) ∧
 ((decide (p0 = 9)) = false → (((decide (p0 = 10)) = true → (Q 8 H)) ∧
 ((decide (p0 = 10)) = false → (((decide (p0 = 11)) = true → (Q 9 H)) ∧
 ((decide (p0 = 11)) = false → (Q 0 H))))))))))
theorem walk61 {w0 : World} {p0 : Int} {H : Hp} {Q : Int → Hp → Prop} (h : F61 p0 H Q) :
  Good prog w0 61 #[(iv p0)] H (fun v H => ∃ (r0 : Int) , v = (iv r0) ∧ Q r0 H) := by
 unfold F61 at h
 refine Good.enter' (fn := f61) func61 rfl rfl rfl (ws (wr_ (hv (v := (iv 0)) rfl (av rfl) (hn (nt (ws ?_))))))
 refine ws (wr_ (hv (v := (iv p0)) rfl (mv rfl) (hn (nt (wb (ws (wr_ (hv (v := (bv (decide (p0 = 6)))) rfl (HVal.eqlI rfl rfl) ?_))))))))
 refine hv (v := (bv (decide (p0 = 6)))) rfl (av rfl) (hn (nt ?_))
 obtain ⟨hT, hF⟩ := h
 refine wk (decide (p0 = 6)) rfl (fun hb1 => ?_) (fun hb1 => ?_)
 ·have h := hT hb1
  refine ws (wr_ (hv (v := (iv 6)) rfl (av rfl) (hn (nt (HW.ret (br (tr ?_)))))))
  exact ⟨_, resOf1 rfl Res1.t, ⟨6, rfl, h⟩⟩
 have h := hF hb1
 refine ws (wr_ (hv (v := (bv (decide (p0 = 8)))) rfl (HVal.eqlI rfl rfl) (hv (v := (bv (decide (p0 = 8)))) rfl (av rfl) ?_)))
 refine hn (nt ?_)
 obtain ⟨hT, hF⟩ := h
 refine wk (decide (p0 = 8)) rfl (fun hb2 => ?_) (fun hb2 => ?_)
 ·have h := hT hb2
  refine ws (wr_ (hv (v := (iv 10)) rfl (av rfl) (hn (nt (HW.ret (br (tr ?_)))))))
  exact ⟨_, resOf1 rfl Res1.t, ⟨10, rfl, h⟩⟩
 have h := hF hb2
 refine ws (wr_ (hv (v := (bv (decide (p0 = 9)))) rfl (HVal.eqlI rfl rfl) (hv (v := (bv (decide (p0 = 9)))) rfl (av rfl) ?_)))
 refine hn (nt ?_)
 obtain ⟨hT, hF⟩ := h
 refine wk (decide (p0 = 9)) rfl (fun hb3 => ?_) (fun hb3 => ?_)
 ·have h := hT hb3
  refine ws (wr_ (hv (v := (iv 11)) rfl (av rfl) (hn (nt (HW.ret (br (tr ?_)))))))
  exact ⟨_, resOf1 rfl Res1.t, ⟨11, rfl, h⟩⟩
 have h := hF hb3
 refine ws (wr_ (hv (v := (bv (decide (p0 = 10)))) rfl (HVal.eqlI rfl rfl) (hv (v := (bv (decide (p0 = 10)))) rfl (av rfl) ?_)))
 refine hn (nt ?_)
 obtain ⟨hT, hF⟩ := h
 refine wk (decide (p0 = 10)) rfl (fun hb4 => ?_) (fun hb4 => ?_)
 ·have h := hT hb4
  refine ws (wr_ (hv (v := (iv 8)) rfl (av rfl) (hn (nt (HW.ret (br (tr ?_)))))))
  exact ⟨_, resOf1 rfl Res1.t, ⟨8, rfl, h⟩⟩
 have h := hF hb4
 refine ws (wr_ (hv (v := (bv (decide (p0 = 11)))) rfl (HVal.eqlI rfl rfl) (hv (v := (bv (decide (p0 = 11)))) rfl (av rfl) ?_)))
 refine hn (nt ?_)
 obtain ⟨hT, hF⟩ := h
 refine wk (decide (p0 = 11)) rfl (fun hb5 => ?_) (fun hb5 => ?_)
 ·have h := hT hb5
  refine ws (wr_ (hv (v := (iv 9)) rfl (av rfl) (hn (nt (HW.ret (br (tr ?_)))))))
  exact ⟨_, resOf1 rfl Res1.t, ⟨9, rfl, h⟩⟩
 have h := hF hb5
 refine wp_ (nb (nt (ws (wr_ (hv (v := (iv 0)) rfl (av rfl) (hn (nt (HW.ret ?_))))))))
 exact ⟨_, resOf1 rfl Res1.t, ⟨0, rfl, h⟩⟩

def F53_2 (Q : Int → Int → Int → Int → Int → ByteArray → Bool → ByteArray → Int → ByteArray → Sl → Int → Int → Int → Int → ByteArray → Bool → ByteArray → Int → ByteArray → Sl → Bool → Hp → Prop) (y179 y180 : Addr) (y185 : Bool) (H_2 : Hp) : Prop :=
(y185 = true → (mayw H_2 y180 21 0 ∧ ∀ H196 : Hp, H196 = sets H_2 y180 [(iv 0), (iv 0), (iv 0), (iv 0), (iv 0), (sv bE), (bv false), (sv bE), (iv 0), (sv bE), sN, (iv 0), (iv 0), (iv 0), (iv 0), (sv bE), (bv false), (sv bE), (iv 0), (sv bE), sN] 0 → (
 ∃ (x199 x200 x201 x202 x203 : Int) (x204 : ByteArray) (x205 : Bool) (x206 : ByteArray) (x207 : Int) (x208 : ByteArray) (x209 : Sl) (x210 x211 x212 x213 : Int) (x214 : ByteArray) (x215 : Bool) (x216 : ByteArray) (x217 : Int) (x218 : ByteArray) (x219 : Sl), cells H196 y180 [(iv x199), (iv x200), (iv x201), (iv x202), (iv x203), (sv x204), (bv x205), (sv x206), (iv x207), (sv x208), (Sl.v x209), (iv x210), (iv x211), (iv x212), (iv x213), (sv x214), (bv x215), (sv x216), (iv x217), (sv x218), (Sl.v x219)] 0 ∧ (
 Q x199 x200 x201 x202 x203 x204 x205 x206 x207 x208 x209 x210 x211 x212 x213 x214 x215 x216 x217 x218 x219 false H196)))) ∧
 (y185 = false → (∃ x222 : Sl, cell H_2 (Addr.add y179 9) = some (Sl.v x222) ∧ (
 ∃ a223 : Addr, (x222).b = some a223 ∧ (0 : Int) ≤ 0 ∧ (0 : Int) < ((x222).n : Int) ∧ (
 ∃ (x228 x229 x230 x231 : Int) (x232 : ByteArray) (x233 : Bool) (x234 : ByteArray) (x235 : Int) (x236 : ByteArray) (x237 : Sl), cells H_2 (Addr.add a223 ((0 : Int).toNat * 10)) (eR x228 x229 x230 x231 x232 x233 x234 x235 x236 x237) 0 ∧ (
 F40 x228 x229 x230 x231 x232 x233 x234 x235 x236 x237 H_2 (fun (r240 : Bool) (H238 : Hp) => 
 (r240 = true → (∃ x243 : Int, cell H238 (Addr.add y179 1) = some (iv x243) ∧ (
 ∃ x245 : Sl, cell H238 (Addr.add y179 9) = some (Sl.v x245) ∧ (
 ∃ a246 : Addr, (x245).b = some a246 ∧ (0 : Int) ≤ 0 ∧ (0 : Int) < ((x245).n : Int) ∧ (
 ∃ (x251 x252 x253 x254 : Int) (x255 : ByteArray) (x256 : Bool) (x257 : ByteArray) (x258 : Int) (x259 : ByteArray) (x260 : Sl), cells H238 (Addr.add a246 ((0 : Int).toNat * 10)) (eR x251 x252 x253 x254 x255 x256 x257 x258 x259 x260) 0 ∧ (
 ∃ x262 : Sl, cell H238 (Addr.add y179 9) = some (Sl.v x262) ∧ (
 ∃ a263 : Addr, (x262).b = some a263 ∧ (0 : Int) ≤ 1 ∧ (1 : Int) < ((x262).n : Int) ∧ (
 ∃ (x268 x269 x270 x271 : Int) (x272 : ByteArray) (x273 : Bool) (x274 : ByteArray) (x275 : Int) (x276 : ByteArray) (x277 : Sl), cells H238 (Addr.add a263 ((1 : Int).toNat * 10)) (eR x268 x269 x270 x271 x272 x273 x274 x275 x276 x277) 0 ∧ (
 mayw H238 y180 21 0 ∧ ∀ H278 : Hp, H278 = sets H238 y180 [(iv x243), (iv x251), (iv x252), (iv x253), (iv x254), (sv x255), (bv x256), (sv x257), (iv x258), (sv x259), (Sl.v x260), (iv x268), (iv x269), (iv x270), (iv x271), (sv x272), (bv x273), (sv x274), (iv x275), (sv x276), (Sl.v x277)] 0 → (
 ∃ (x281 x282 x283 x284 x285 : Int) (x286 : ByteArray) (x287 : Bool) (x288 : ByteArray) (x289 : Int) (x290 : ByteArray) (x291 : Sl) (x292 x293 x294 x295 : Int) (x296 : ByteArray) (x297 : Bool) (x298 : ByteArray) (x299 : Int) (x300 : ByteArray) (x301 : Sl), cells H278 y180 [(iv x281), (iv x282), (iv x283), (iv x284), (iv x285), (sv x286), (bv x287), (sv x288), (iv x289), (sv x290), (Sl.v x291), (iv x292), (iv x293), (iv x294), (iv x295), (sv x296), (bv x297), (sv x298), (iv x299), (sv x300), (Sl.v x301)] 0 ∧ (
 Q x281 x282 x283 x284 x285 x286 x287 x288 x289 x290 x291 x292 x293 x294 x295 x296 x297 x298 x299 x300 x301 true H278))))))))))) ∧
 (r240 = false → (∃ x304 : Sl, cell H238 (Addr.add y179 9) = some (Sl.v x304) ∧ (
 ∃ a305 : Addr, (x304).b = some a305 ∧ (0 : Int) ≤ 1 ∧ (1 : Int) < ((x304).n : Int) ∧ (
 ∃ (x310 x311 x312 x313 : Int) (x314 : ByteArray) (x315 : Bool) (x316 : ByteArray) (x317 : Int) (x318 : ByteArray) (x319 : Sl), cells H238 (Addr.add a305 ((1 : Int).toNat * 10)) (eR x310 x311 x312 x313 x314 x315 x316 x317 x318 x319) 0 ∧ (
 F40 x310 x311 x312 x313 x314 x315 x316 x317 x318 x319 H238 (fun (r322 : Bool) (H320 : Hp) => 
 (r322 = true → (∃ x325 : Int, cell H320 (Addr.add y179 1) = some (iv x325) ∧ (
 ∃ x327 : Sl, cell H320 (Addr.add y179 9) = some (Sl.v x327) ∧ (
 ∃ a328 : Addr, (x327).b = some a328 ∧ (0 : Int) ≤ 1 ∧ (1 : Int) < ((x327).n : Int) ∧ (
 ∃ (x333 x334 x335 x336 : Int) (x337 : ByteArray) (x338 : Bool) (x339 : ByteArray) (x340 : Int) (x341 : ByteArray) (x342 : Sl), cells H320 (Addr.add a328 ((1 : Int).toNat * 10)) (eR x333 x334 x335 x336 x337 x338 x339 x340 x341 x342) 0 ∧ (
 ∃ x344 : Sl, cell H320 (Addr.add y179 9) = some (Sl.v x344) ∧ (
 ∃ a345 : Addr, (x344).b = some a345 ∧ (0 : Int) ≤ 0 ∧ (0 : Int) < ((x344).n : Int) ∧ (
 ∃ (x350 x351 x352 x353 : Int) (x354 : ByteArray) (x355 : Bool) (x356 : ByteArray) (x357 : Int) (x358 : ByteArray) (x359 : Sl), cells H320 (Addr.add a345 ((0 : Int).toNat * 10)) (eR x350 x351 x352 x353 x354 x355 x356 x357 x358 x359) 0 ∧ (
 F61 x325 H320 (fun (r362 : Int) (H360 : Hp) => 
 cells H360 (Addr.add a345 ((0 : Int).toNat * 10)) (eR x350 x351 x352 x353 x354 x355 x356 x357 x358 x359) 0 ∧ cell H360 (Addr.add y179 9) = some (Sl.v x344) ∧ cells H360 (Addr.add a328 ((1 : Int).toNat * 10)) (eR x333 x334 x335 x336 x337 x338 x339 x340 x341 x342) 0 ∧ cell H360 (Addr.add y179 9) = some (Sl.v x327) ∧ (
 mayw H360 y180 21 0 ∧ ∀ H367 : Hp, H367 = sets H360 y180 [(iv r362), (iv x333), (iv x334), (iv x335), (iv x336), (sv x337), (bv x338), (sv x339), (iv x340), (sv x341), (Sl.v x342), (iv x350), (iv x351), (iv x352), (iv x353), (sv x354), (bv x355), (sv x356), (iv x357), (sv x358), (Sl.v x359)] 0 → (
 ∃ (x370 x371 x372 x373 x374 : Int) (x375 : ByteArray) (x376 : Bool) (x377 : ByteArray) (x378 : Int) (x379 : ByteArray) (x380 : Sl) (x381 x382 x383 x384 : Int) (x385 : ByteArray) (x386 : Bool) (x387 : ByteArray) (x388 : Int) (x389 : ByteArray) (x390 : Sl), cells H367 y180 [(iv x370), (iv x371), (iv x372), (iv x373), (iv x374), (sv x375), (bv x376), (sv x377), (iv x378), (sv x379), (Sl.v x380), (iv x381), (iv x382), (iv x383), (iv x384), (sv x385), (bv x386), (sv x387), (iv x388), (sv x389), (Sl.v x390)] 0 ∧ (
 Q x370 x371 x372 x373 x374 x375 x376 x377 x378 x379 x380 x381 x382 x383 x384 x385 x386 x387 x388 x389 x390 true H367))))))))))))) ∧
 (r322 = false → (mayw H320 y180 21 0 ∧ ∀ H392 : Hp, H392 = sets H320 y180 [(iv 0), (iv 0), (iv 0), (iv 0), (iv 0), (sv bE), (bv false), (sv bE), (iv 0), (sv bE), sN, (iv 0), (iv 0), (iv 0), (iv 0), (sv bE), (bv false), (sv bE), (iv 0), (sv bE), sN] 0 → (
 ∃ (x395 x396 x397 x398 x399 : Int) (x400 : ByteArray) (x401 : Bool) (x402 : ByteArray) (x403 : Int) (x404 : ByteArray) (x405 : Sl) (x406 x407 x408 x409 : Int) (x410 : ByteArray) (x411 : Bool) (x412 : ByteArray) (x413 : Int) (x414 : ByteArray) (x415 : Sl), cells H392 y180 [(iv x395), (iv x396), (iv x397), (iv x398), (iv x399), (sv x400), (bv x401), (sv x402), (iv x403), (sv x404), (Sl.v x405), (iv x406), (iv x407), (iv x408), (iv x409), (sv x410), (bv x411), (sv x412), (iv x413), (sv x414), (Sl.v x415)] 0 ∧ (
 Q x395 x396 x397 x398 x399 x400 x401 x402 x403 x404 x405 x406 x407 x408 x409 x410 x411 x412 x413 x414 x415 false H392))))))))))))))))
def F53_1 (Q : Int → Int → Int → Int → Int → ByteArray → Bool → ByteArray → Int → ByteArray → Sl → Int → Int → Int → Int → ByteArray → Bool → ByteArray → Int → ByteArray → Sl → Bool → Hp → Prop) (y89 y90 y91 : Addr) (y124 : Bool) (H_1 : Hp) : Prop :=
(y124 = true → (∃ x127 : Sl, cell H_1 (Addr.add y89 9) = some (Sl.v x127) ∧ (
 ∃ a128 : Addr, (x127).b = some a128 ∧ (0 : Int) ≤ 0 ∧ (0 : Int) < ((x127).n : Int) ∧ (
 ∃ (x133 x134 x135 x136 : Int) (x137 : ByteArray) (x138 : Bool) (x139 : ByteArray) (x140 : Int) (x141 : ByteArray) (x142 : Sl), cells H_1 (Addr.add a128 ((0 : Int).toNat * 10)) (eR x133 x134 x135 x136 x137 x138 x139 x140 x141 x142) 0 ∧ (
 ∃ (x144 x145 x146 x147 : Int) (x148 : ByteArray) (x149 : Bool) (x150 : ByteArray) (x151 : Int) (x152 : ByteArray) (x153 : Sl), cells H_1 y91 (eR x144 x145 x146 x147 x148 x149 x150 x151 x152 x153) 0 ∧ (
 mayw H_1 y90 21 0 ∧ ∀ H154 : Hp, H154 = sets H_1 y90 [(iv 6), (iv x133), (iv x134), (iv x135), (iv x136), (sv x137), (bv x138), (sv x139), (iv x140), (sv x141), (Sl.v x142), (iv x144), (iv x145), (iv x146), (iv x147), (sv x148), (bv x149), (sv x150), (iv x151), (sv x152), (Sl.v x153)] 0 → (
 ∃ (x157 x158 x159 x160 x161 : Int) (x162 : ByteArray) (x163 : Bool) (x164 : ByteArray) (x165 : Int) (x166 : ByteArray) (x167 : Sl) (x168 x169 x170 x171 : Int) (x172 : ByteArray) (x173 : Bool) (x174 : ByteArray) (x175 : Int) (x176 : ByteArray) (x177 : Sl), cells H154 y90 [(iv x157), (iv x158), (iv x159), (iv x160), (iv x161), (sv x162), (bv x163), (sv x164), (iv x165), (sv x166), (Sl.v x167), (iv x168), (iv x169), (iv x170), (iv x171), (sv x172), (bv x173), (sv x174), (iv x175), (sv x176), (Sl.v x177)] 0 ∧ (
 Q x157 x158 x159 x160 x161 x162 x163 x164 x165 x166 x167 x168 x169 x170 x171 x172 x173 x174 x175 x176 x177 true H154)))))))) ∧
 (y124 = false → (∃ x182 : Int, cell H_1 y89 = some (iv x182) ∧ (
 ((decide (x182 ≠ 5)) = true → (F53_2 Q y89 y90 true H_1)) ∧
 ((decide (x182 ≠ 5)) = false → (∃ x187 : Sl, cell H_1 (Addr.add y89 9) = some (Sl.v x187) ∧ (
 ((decide (((x187).n : Int) ≠ 2)) = true → (F53_2 Q y89 y90 true H_1)) ∧
 ((decide (((x187).n : Int) ≠ 2)) = false → (∃ x191 : Int, cell H_1 (Addr.add y89 1) = some (iv x191) ∧ (
 F61 x191 H_1 (fun (r194 : Int) (H192 : Hp) => 
 F53_2 Q y89 y90 (decide (r194 = 0)) H192))))))))))
def F53 (p0_0 p0_1 p0_2 p0_3 : Int) (p0_4 : ByteArray) (p0_5 : Bool) (p0_6 : ByteArray) (p0_7 : Int) (p0_8 : ByteArray) (p0_9 : Sl) (H : Hp) (Q : Int → Int → Int → Int → Int → ByteArray → Bool → ByteArray → Int → ByteArray → Sl → Int → Int → Int → Int → ByteArray → Bool → ByteArray → Int → ByteArray → Sl → Bool → Hp → Prop) : Prop :=
∀ H1 : Hp, H1 = Array.push H (.cells (eR p0_0 p0_1 p0_2 p0_3 p0_4 p0_5 p0_6 p0_7 p0_8 p0_9).toArray 41) → (
 ∀ H3 : Hp, H3 = Array.push H1 (.cells #[(iv 0), (iv 0), (iv 0), (iv 0), (iv 0), (sv bE), (bv false), (sv bE), (iv 0), (sv bE), sN, (iv 0), (iv 0), (iv 0), (iv 0), (sv bE), (bv false), (sv bE), (iv 0), (sv bE), sN] 89) → (
 F60 true H3 (fun (r7 r8 : Int) (r9 : ByteArray) (r10 : Bool) (H5 : Hp) => 
 ∀ H11 : Hp, H11 = Array.push H5 (.cells zR.toArray 41) → (
 mayw H11 (bk H5) 10 0 ∧ ∀ H13 : Hp, H13 = sets H11 (bk H5) (eR 1 0 r7 r8 r9 r10 bE 0 bE Sl.nil) 0 → (
 F60 false H13 (fun (r18 r19 : Int) (r20 : ByteArray) (r21 : Bool) (H16 : Hp) => 
 ∀ H22 : Hp, H22 = Array.push H16 (.cells zR.toArray 41) → (
 mayw H22 (bk H16) 10 0 ∧ ∀ H24 : Hp, H24 = sets H22 (bk H16) (eR 1 0 r18 r19 r20 r21 bE 0 bE Sl.nil) 0 → (
 ∃ (x28 x29 x30 x31 : Int) (x32 : ByteArray) (x33 : Bool) (x34 : ByteArray) (x35 : Int) (x36 : ByteArray) (x37 : Sl), cells H24 (bk H) (eR x28 x29 x30 x31 x32 x33 x34 x35 x36 x37) 0 ∧ (
 F40 x28 x29 x30 x31 x32 x33 x34 x35 x36 x37 H24 (fun (r40 : Bool) (H38 : Hp) => 
 (r40 = true → (∃ (x43 x44 x45 x46 : Int) (x47 : ByteArray) (x48 : Bool) (x49 : ByteArray) (x50 : Int) (x51 : ByteArray) (x52 : Sl), cells H38 (bk H) (eR x43 x44 x45 x46 x47 x48 x49 x50 x51 x52) 0 ∧ (
 ∃ (x54 x55 x56 x57 : Int) (x58 : ByteArray) (x59 : Bool) (x60 : ByteArray) (x61 : Int) (x62 : ByteArray) (x63 : Sl), cells H38 (bk H5) (eR x54 x55 x56 x57 x58 x59 x60 x61 x62 x63) 0 ∧ (
 mayw H38 (bk H1) 21 0 ∧ ∀ H64 : Hp, H64 = sets H38 (bk H1) [(iv 6), (iv x43), (iv x44), (iv x45), (iv x46), (sv x47), (bv x48), (sv x49), (iv x50), (sv x51), (Sl.v x52), (iv x54), (iv x55), (iv x56), (iv x57), (sv x58), (bv x59), (sv x60), (iv x61), (sv x62), (Sl.v x63)] 0 → (
 ∃ (x67 x68 x69 x70 x71 : Int) (x72 : ByteArray) (x73 : Bool) (x74 : ByteArray) (x75 : Int) (x76 : ByteArray) (x77 : Sl) (x78 x79 x80 x81 : Int) (x82 : ByteArray) (x83 : Bool) (x84 : ByteArray) (x85 : Int) (x86 : ByteArray) (x87 : Sl), cells H64 (bk H1) [(iv x67), (iv x68), (iv x69), (iv x70), (iv x71), (sv x72), (bv x73), (sv x74), (iv x75), (sv x76), (Sl.v x77), (iv x78), (iv x79), (iv x80), (iv x81), (sv x82), (bv x83), (sv x84), (iv x85), (sv x86), (Sl.v x87)] 0 ∧ (
 Q x67 x68 x69 x70 x71 x72 x73 x74 x75 x76 x77 x78 x79 x80 x81 x82 x83 x84 x85 x86 x87 true H64)))))) ∧
 (r40 = false → (∃ x93 : Int, cell H38 (bk H) = some (iv x93) ∧ (
 ((decide (x93 = 4)) = true → (∃ x97 : Int, cell H38 (Addr.add (bk H) 1) = some (iv x97) ∧ (
 ((decide (x97 = 2)) = true → (∃ x101 : Sl, cell H38 (Addr.add (bk H) 9) = some (Sl.v x101) ∧ (
 ((decide (((x101).n : Int) = 1)) = true → (∃ x105 : Sl, cell H38 (Addr.add (bk H) 9) = some (Sl.v x105) ∧ (
 ∃ a106 : Addr, (x105).b = some a106 ∧ (0 : Int) ≤ 0 ∧ (0 : Int) < ((x105).n : Int) ∧ (
 ∃ (x111 x112 x113 x114 : Int) (x115 : ByteArray) (x116 : Bool) (x117 : ByteArray) (x118 : Int) (x119 : ByteArray) (x120 : Sl), cells H38 (Addr.add a106 ((0 : Int).toNat * 10)) (eR x111 x112 x113 x114 x115 x116 x117 x118 x119 x120) 0 ∧ (
 F40 x111 x112 x113 x114 x115 x116 x117 x118 x119 x120 H38 (fun (r123 : Bool) (H121 : Hp) => 
 F53_1 Q (bk H) (bk H1) (bk H16) r123 H121)))))) ∧
 ((decide (((x101).n : Int) = 1)) = false → (F53_1 Q (bk H) (bk H1) (bk H16) false H38))))) ∧
 ((decide (x97 = 2)) = false → (F53_1 Q (bk H) (bk H1) (bk H16) false H38))))) ∧
 ((decide (x93 = 4)) = false → (F53_1 Q (bk H) (bk H1) (bk H16) false H38)))))))))))))))
theorem walk53 {w0 : World} {p0_0 p0_1 p0_2 p0_3 : Int} {p0_4 : ByteArray} {p0_5 : Bool} {p0_6 : ByteArray} {p0_7 : Int} {p0_8 : ByteArray} {p0_9 : Sl} {H : Hp} {Q : Int → Int → Int → Int → Int → ByteArray → Bool → ByteArray → Int → ByteArray → Sl → Int → Int → Int → Int → ByteArray → Bool → ByteArray → Int → ByteArray → Sl → Bool → Hp → Prop} (h : F53 p0_0 p0_1 p0_2 p0_3 p0_4 p0_5 p0_6 p0_7 p0_8 p0_9 H Q) :
  Good prog w0 53 #[(.agg (eR p0_0 p0_1 p0_2 p0_3 p0_4 p0_5 p0_6 p0_7 p0_8 p0_9).toArray)] H (fun v H => ∃ (r0 r1 r2 r3 r4 : Int) (r5 : ByteArray) (r6 : Bool) (r7 : ByteArray) (r8 : Int) (r9 : ByteArray) (r10 : Sl) (r11 r12 r13 r14 : Int) (r15 : ByteArray) (r16 : Bool) (r17 : ByteArray) (r18 : Int) (r19 : ByteArray) (r20 : Sl) (r21 : Bool) , v = (.tuple #[(.agg #[(iv r0), (iv r1), (iv r2), (iv r3), (iv r4), (sv r5), (bv r6), (sv r7), (iv r8), (sv r9), (Sl.v r10), (iv r11), (iv r12), (iv r13), (iv r14), (sv r15), (bv r16), (sv r17), (iv r18), (sv r19), (Sl.v r20)]), (bv r21)]) ∧ Q r0 r1 r2 r3 r4 r5 r6 r7 r8 r9 r10 r11 r12 r13 r14 r15 r16 r17 r18 r19 r20 r21 H) := by
 unfold F53 at h
 refine Good.enter' (fn := f53) func53 rfl rfl rfl (ws (wr_ (ho rfl (ob (v := (.agg (eR p0_0 p0_1 p0_2 p0_3 p0_4 p0_5 p0_6 p0_7 p0_8 p0_9).toArray)) rfl) ?_)))
 rintro _ H1 ⟨rfl, e2⟩
 replace h := h H1 e2
 refine ho rfl (HOp.alloc zeroValue89) ?_
 rintro _ H3 ⟨rfl, e4⟩
 replace h := h H3 e4
 refine hv (v := (bv false)) rfl (av rfl) (hn (nt (ws (wr_ (ho rfl (HOp.call' 60 [(bv true)] (cap := []) rfl rfl call60 (walk60 h)) ?_)))))
 rintro _ H5 ⟨r7, r8, r9, r10, rfl, h⟩
 refine hv (v := (.agg (eR 1 0 r7 r8 r9 r10 bE 0 bE Sl.nil).toArray)) rfl (HVal.build' (cs := (eR 1 0 r7 r8 r9 r10 bE 0 bE Sl.nil)) runUnderlying41 zeroValue41 places41 (by kernel_rfl)) ?_
 refine ho rfl (HOp.alloc zeroValue41) ?_
 rintro _ H11 ⟨rfl, e12⟩
 replace h := h H11 e12
 obtain ⟨z15, h⟩ := h
 refine hq (HOp.storeN' (l := (eR 1 0 r7 r8 r9 r10 bE 0 bE Sl.nil)) sizeOf41 rfl rfl rfl z15) ?_
 rintro _ H13 e14
 replace h := h H13 e14
 refine hn (nt (ws (wr_ (ho rfl (HOp.call' 60 [(bv false)] (cap := []) rfl rfl call60 (walk60 h)) ?_))))
 rintro _ H16 ⟨r18, r19, r20, r21, rfl, h⟩
 refine hv (v := (.agg (eR 1 0 r18 r19 r20 r21 bE 0 bE Sl.nil).toArray)) rfl (HVal.build' (cs := (eR 1 0 r18 r19 r20 r21 bE 0 bE Sl.nil)) runUnderlying41 zeroValue41 places41 (by kernel_rfl)) ?_
 refine ho rfl (HOp.alloc zeroValue41) ?_
 rintro _ H22 ⟨rfl, e23⟩
 replace h := h H22 e23
 obtain ⟨z26, h⟩ := h
 refine hq (HOp.storeN' (l := (eR 1 0 r18 r19 r20 r21 bE 0 bE Sl.nil)) sizeOf41 rfl rfl rfl z26) ?_
 rintro _ H24 e25
 replace h := h H24 e25
 refine hn (nt (ws (wb (ws (wr_ ?_)))))
 obtain ⟨x28, x29, x30, x31, x32, x33, x34, x35, x36, x37, c27, h⟩ := h
 refine hv (v := (.agg (eR x28 x29 x30 x31 x32 x33 x34 x35 x36 x37).toArray)) rfl (ln (eR x28 x29 x30 x31 x32 x33 x34 x35 x36 x37) isAgg41 sizeOf41 rfl c27) ?_
 refine ho rfl (HOp.call' 40 [(.agg (eR x28 x29 x30 x31 x32 x33 x34 x35 x36 x37).toArray)] (cap := []) rfl rfl call40 (walk40 h)) ?_
 rintro _ H38 ⟨r40, rfl, h⟩
 refine hv (v := (bv r40)) rfl (av rfl) (hn (nt ?_))
 obtain ⟨hT, hF⟩ := h
 refine wk r40 rfl (fun hb41 => ?_) (fun hb41 => ?_)
 ·have h := hT hb41
  refine ws (wr_ ?_)
  obtain ⟨x43, x44, x45, x46, x47, x48, x49, x50, x51, x52, c42, h⟩ := h
  refine hv (v := (.agg (eR x43 x44 x45 x46 x47 x48 x49 x50 x51 x52).toArray)) rfl (ln (eR x43 x44 x45 x46 x47 x48 x49 x50 x51 x52) isAgg41 sizeOf41 rfl c42) ?_
  obtain ⟨x54, x55, x56, x57, x58, x59, x60, x61, x62, x63, c53, h⟩ := h
  refine hv (v := (.agg (eR x54 x55 x56 x57 x58 x59 x60 x61 x62 x63).toArray)) rfl (ln (eR x54 x55 x56 x57 x58 x59 x60 x61 x62 x63) isAgg41 sizeOf41 rfl c53) ?_
  refine hv (v := (.agg #[(iv 6), (iv x43), (iv x44), (iv x45), (iv x46), (sv x47), (bv x48), (sv x49), (iv x50), (sv x51), (Sl.v x52), (iv x54), (iv x55), (iv x56), (iv x57), (sv x58), (bv x59), (sv x60), (iv x61), (sv x62), (Sl.v x63)])) rfl (HVal.build' (cs := [(iv 6), (iv x43), (iv x44), (iv x45), (iv x46), (sv x47), (bv x48), (sv x49), (iv x50), (sv x51), (Sl.v x52), (iv x54), (iv x55), (iv x56), (iv x57), (sv x58), (bv x59), (sv x60), (iv x61), (sv x62), (Sl.v x63)]) runUnderlying89 zeroValue89 places89 (by kernel_rfl)) ?_
  obtain ⟨z66, h⟩ := h
  refine hq (HOp.storeN' (l := [(iv 6), (iv x43), (iv x44), (iv x45), (iv x46), (sv x47), (bv x48), (sv x49), (iv x50), (sv x51), (Sl.v x52), (iv x54), (iv x55), (iv x56), (iv x57), (sv x58), (bv x59), (sv x60), (iv x61), (sv x62), (Sl.v x63)]) sizeOf89 rfl rfl rfl z66) ?_
  rintro _ H64 e65
  replace h := h H64 e65
  refine hv (v := (bv true)) rfl (av rfl) (hn (nt (HW.ret (br (tr ?_)))))
  obtain ⟨x67, x68, x69, x70, x71, x72, x73, x74, x75, x76, x77, x78, x79, x80, x81, x82, x83, x84, x85, x86, x87, c88, h⟩ := h
  exact ⟨_, resOf2 rfl (Res1.n [(iv x67), (iv x68), (iv x69), (iv x70), (iv x71), (sv x72), (bv x73), (sv x74), (iv x75), (sv x76), (Sl.v x77), (iv x78), (iv x79), (iv x80), (iv x81), (sv x82), (bv x83), (sv x84), (iv x85), (sv x86), (Sl.v x87)] isAgg89 sizeOf89 rfl c88) Res1.t, ⟨x67, x68, x69, x70, x71, x72, x73, x74, x75, x76, x77, x78, x79, x80, x81, x82, x83, x84, x85, x86, x87, true, rfl, h⟩⟩
 have h := hF hb41
 refine wc (fun ρ H_1 => ∃ (y124 : Bool), Env.Is ρ [(1, (pp (bk H))), (2, (pp (bk H1))), (5, (pp (bk H16))), (16, (bv y124))] ∧ F53_1 Q (bk H) (bk H1) (bk H16) y124 H_1) ?_ ?_
 ·refine wr_ (hv (v := (pp (bk H))) rfl (HVal.fieldAddr0 runUnderlying41 rfl rfl sizeOf3 rfl) ?_)
  obtain ⟨x93, c92, h⟩ := h
  refine hv (v := (iv x93)) rfl (l1 isAgg3 rfl c92) (hv (v := (bv (decide (x93 = 4)))) rfl (HVal.eqlI rfl rfl) (hv (v := (bv (decide (x93 = 4)))) rfl (mv rfl) ?_))
  obtain ⟨hT, hF⟩ := h
  rcases Bool.eq_false_or_eq_true (decide (x93 = 4)) with hb94 | hb95
  ·have h := hT hb94
   refine hg (v := (pp (Addr.add (bk H) 1))) rfl rfl rfl rfl (cB hb94) (fa runUnderlying41 rfl rfl sizeOf3 rfl) ?_
   obtain ⟨x97, c96, h⟩ := h
   refine hg (v := (iv x97)) rfl rfl rfl rfl (cB hb94) (l1 isAgg3 rfl c96) (hg (v := (bv (decide (x97 = 2)))) rfl rfl rfl rfl (cB hb94) (HVal.eqlI rfl rfl) ?_)
   refine hv (v := (bv (decide (x97 = 2)))) rfl (pt_ rfl hb94 rfl) (hv (v := (bv (decide (x97 = 2)))) rfl (mv rfl) ?_)
   obtain ⟨hT, hF⟩ := h
   rcases Bool.eq_false_or_eq_true (decide (x97 = 2)) with hb98 | hb99
   ·have h := hT hb98
    refine hg (v := (pp (Addr.add (bk H) 9))) rfl rfl rfl rfl (cB hb98) (fa runUnderlying41 rfl rfl sizeOf35 rfl) ?_
    obtain ⟨x101, c100, h⟩ := h
    refine hg (v := (Sl.v x101)) rfl rfl rfl rfl (cB hb98) (l1 isAgg35 rfl c100) (hg (v := (iv ((x101).n : Int))) rfl rfl rfl rfl (cB hb98) (HVal.len runUnderlying35 rfl) ?_)
    refine hg (v := (bv (decide (((x101).n : Int) = 1)))) rfl rfl rfl rfl (cB hb98) (HVal.eqlI rfl rfl) (hv (v := (bv (decide (((x101).n : Int) = 1)))) rfl (pt_ rfl hb98 rfl) ?_)
    refine hv (v := (bv (decide (((x101).n : Int) = 1)))) rfl (mv rfl) ?_
    obtain ⟨hT, hF⟩ := h
    rcases Bool.eq_false_or_eq_true (decide (((x101).n : Int) = 1)) with hb102 | hb103
    ·have h := hT hb102
     refine hg (v := (pp (Addr.add (bk H) 9))) rfl rfl rfl rfl (cB hb102) (fa runUnderlying41 rfl rfl sizeOf35 rfl) ?_
     obtain ⟨x105, c104, h⟩ := h
     refine hg (v := (Sl.v x105)) rfl rfl rfl rfl (cB hb102) (l1 isAgg35 rfl c104) ?_
     obtain ⟨a106, e107, b108, b109, h⟩ := h
     refine hg (v := (pp (Addr.add a106 ((0 : Int).toNat * 10)))) rfl rfl rfl rfl (cB hb102) (ia runUnderlying35 sizeOf41 (Sl.v_some rfl e107) rfl b108 b109) ?_
     obtain ⟨x111, x112, x113, x114, x115, x116, x117, x118, x119, x120, c110, h⟩ := h
     refine hg (v := (.agg (eR x111 x112 x113 x114 x115 x116 x117 x118 x119 x120).toArray)) rfl rfl rfl rfl (cB hb102) (ln (eR x111 x112 x113 x114 x115 x116 x117 x118 x119 x120) isAgg41 sizeOf41 rfl c110) ?_
     refine HList.gops rfl rfl rfl rfl (cB hb102) (HOp.call' 40 [(.agg (eR x111 x112 x113 x114 x115 x116 x117 x118 x119 x120).toArray)] (cap := []) rfl rfl call40 (walk40 h)) ?_
     rintro _ H121 ⟨r123, rfl, h⟩
     refine hv (v := (bv r123)) rfl (pt_ rfl hb102 rfl) (hv (v := (bv r123)) rfl (av rfl) (hn (nt ?_)))
     exact ⟨r123, (isp rfl), h⟩
    have h := hF hb103
    refine hs_ rfl rfl rfl rfl (cB hb103) (hs_ rfl rfl rfl rfl (cB hb103) (hs_ rfl rfl rfl rfl (cB hb103) (hs_ rfl rfl rfl rfl (cB hb103) ?_)))
    refine hs_ rfl rfl rfl rfl (cB hb103) (hv (v := (bv false)) rfl (pf_ rfl hb103 rfl) (hv (v := (bv false)) rfl (av rfl) ?_))
    refine hn (nt ?_)
    exact ⟨false, (isp rfl), h⟩
   have h := hF hb99
   refine hs_ rfl rfl rfl rfl (cB hb99) (hs_ rfl rfl rfl rfl (cB hb99) (hs_ rfl rfl rfl rfl (cB hb99) (hs_ rfl rfl rfl rfl (cB hb99) ?_)))
   refine hv (v := (bv false)) rfl (pf_ rfl hb99 rfl) (hv (v := (bv false)) rfl (mv rfl) (hs_ rfl rfl rfl rfl rfl (hs_ rfl rfl rfl rfl rfl ?_)))
   refine hs_ rfl rfl rfl rfl rfl (hs_ rfl rfl rfl rfl rfl (hs_ rfl rfl rfl rfl rfl (hv (v := (bv false)) rfl (pf_ rfl rfl rfl) ?_)))
   refine hv (v := (bv false)) rfl (av rfl) (hn (nt ?_))
   exact ⟨false, (isp rfl), h⟩
  have h := hF hb95
  refine hs_ rfl rfl rfl rfl (cB hb95) (hs_ rfl rfl rfl rfl (cB hb95) (hs_ rfl rfl rfl rfl (cB hb95) (hv (v := (bv false)) rfl (pf_ rfl hb95 rfl) ?_)))
  refine hv (v := (bv false)) rfl (mv rfl) (hs_ rfl rfl rfl rfl rfl (hs_ rfl rfl rfl rfl rfl (hs_ rfl rfl rfl rfl rfl ?_)))
  refine hs_ rfl rfl rfl rfl rfl (hv (v := (bv false)) rfl (pf_ rfl rfl rfl) (hv (v := (bv false)) rfl (mv rfl) (hs_ rfl rfl rfl rfl rfl ?_)))
  refine hs_ rfl rfl rfl rfl rfl (hs_ rfl rfl rfl rfl rfl (hs_ rfl rfl rfl rfl rfl (hs_ rfl rfl rfl rfl rfl (hv (v := (bv false)) rfl (pf_ rfl rfl rfl) ?_))))
  refine hv (v := (bv false)) rfl (av rfl) (hn (nt ?_))
  exact ⟨false, (isp rfl), h⟩
 rintro ρ H_1 ⟨y124, hI, h⟩
 obtain ⟨ρ0, rfl⟩ := hI.ex
 clear hI; unfold F53_1 at h
 obtain ⟨hT, hF⟩ := h
 refine wk y124 rfl (fun hb125 => ?_) (fun hb125 => ?_)
 ·have h := hT hb125
  refine ws (HW.draw mixed [(0, some []), (1, some [6]), (2, some []), (3, some [6]), (4, some [6]), (5, some []), (6, none), (7, some [])] rfl (by kernel_rfl) (by kernel_rfl) ?_)
  refine pv (v := (pp (Addr.add (bk H) 9))) rfl rfl (fun _ => fa runUnderlying41 rfl rfl sizeOf35 rfl) ?_
  obtain ⟨x127, c126, h⟩ := h
  refine pl (v := (Sl.v x127)) (fun X => cell X (Addr.add (bk H) 9) = some (Sl.v x127)) rfl rfl (fun _ hX => l1 isAgg35 rfl hX) c126 ?_
  obtain ⟨a128, e129, b130, b131, h⟩ := h
  refine pv (v := (pp (Addr.add a128 ((0 : Int).toNat * 10)))) rfl rfl (fun _ => ia runUnderlying35 sizeOf41 (Sl.v_some rfl e129) rfl b130 b131) ?_
  obtain ⟨x133, x134, x135, x136, x137, x138, x139, x140, x141, x142, c132, h⟩ := h
  refine pl (v := (.agg (eR x133 x134 x135 x136 x137 x138 x139 x140 x141 x142).toArray)) (fun X => cells X (Addr.add a128 ((0 : Int).toNat * 10)) (eR x133 x134 x135 x136 x137 x138 x139 x140 x141 x142) 0) rfl rfl (fun _ hX => ln (eR x133 x134 x135 x136 x137 x138 x139 x140 x141 x142) isAgg41 sizeOf41 rfl hX) c132 ?_
  obtain ⟨x144, x145, x146, x147, x148, x149, x150, x151, x152, x153, c143, h⟩ := h
  refine pl (v := (.agg (eR x144 x145 x146 x147 x148 x149 x150 x151 x152 x153).toArray)) (fun X => cells X (bk H16) (eR x144 x145 x146 x147 x148 x149 x150 x151 x152 x153) 0) rfl rfl (fun _ hX => ln (eR x144 x145 x146 x147 x148 x149 x150 x151 x152 x153) isAgg41 sizeOf41 rfl hX) c143 ?_
  refine pv (v := (.agg #[(iv 6), (iv x133), (iv x134), (iv x135), (iv x136), (sv x137), (bv x138), (sv x139), (iv x140), (sv x141), (Sl.v x142), (iv x144), (iv x145), (iv x146), (iv x147), (sv x148), (bv x149), (sv x150), (iv x151), (sv x152), (Sl.v x153)])) rfl rfl (fun _ => HVal.build' (cs := [(iv 6), (iv x133), (iv x134), (iv x135), (iv x136), (sv x137), (bv x138), (sv x139), (iv x140), (sv x141), (Sl.v x142), (iv x144), (iv x145), (iv x146), (iv x147), (sv x148), (bv x149), (sv x150), (iv x151), (sv x152), (Sl.v x153)]) runUnderlying89 zeroValue89 places89 (by kernel_rfl)) ?_
  obtain ⟨z156, h⟩ := h
  refine pn rfl (HOp.storeN' (l := [(iv 6), (iv x133), (iv x134), (iv x135), (iv x136), (sv x137), (bv x138), (sv x139), (iv x140), (sv x141), (Sl.v x142), (iv x144), (iv x145), (iv x146), (iv x147), (sv x148), (bv x149), (sv x150), (iv x151), (sv x152), (Sl.v x153)]) sizeOf89 rfl rfl rfl z156) ?_
  rintro _ H154 e155
  replace h := h H154 e155
  refine ⟨SC_of ⟨nofun, nofun, nofun, trivial⟩, ?_⟩
  refine pv (v := (bv true)) rfl rfl (fun _ => av rfl) (HPlan.done (nt (HW.ret (br (tr ?_)))))
  obtain ⟨x157, x158, x159, x160, x161, x162, x163, x164, x165, x166, x167, x168, x169, x170, x171, x172, x173, x174, x175, x176, x177, c178, h⟩ := h
  exact ⟨_, resOf2 rfl (Res1.n [(iv x157), (iv x158), (iv x159), (iv x160), (iv x161), (sv x162), (bv x163), (sv x164), (iv x165), (sv x166), (Sl.v x167), (iv x168), (iv x169), (iv x170), (iv x171), (sv x172), (bv x173), (sv x174), (iv x175), (sv x176), (Sl.v x177)] isAgg89 sizeOf89 rfl c178) Res1.t, ⟨x157, x158, x159, x160, x161, x162, x163, x164, x165, x166, x167, x168, x169, x170, x171, x172, x173, x174, x175, x176, x177, true, rfl, h⟩⟩
 have h := hF hb125
 refine wc (fun ρ H_2 => ∃ (y185 : Bool), Env.Is ρ [(1, (pp (bk H))), (2, (pp (bk H1))), (44, (bv y185))] ∧ F53_2 Q (bk H) (bk H1) y185 H_2) ?_ ?_
 ·refine wr_ (hv (v := (pp (bk H))) rfl (HVal.fieldAddr0 runUnderlying41 rfl rfl sizeOf3 rfl) ?_)
  obtain ⟨x182, c181, h⟩ := h
  refine hv (v := (iv x182)) rfl (l1 isAgg3 rfl c181) (hv (v := (bv (decide (x182 ≠ 5)))) rfl (HVal.neqI rfl rfl) (hv (v := (bv (decide (x182 ≠ 5)))) rfl (mv rfl) ?_))
  obtain ⟨hT, hF⟩ := h
  rcases Bool.eq_false_or_eq_true (decide (x182 ≠ 5)) with hb183 | hb184
  ·have h := hT hb183
   refine hs_ rfl rfl rfl rfl (cB hb183) (hs_ rfl rfl rfl rfl (cB hb183) (hs_ rfl rfl rfl rfl (cB hb183) (hs_ rfl rfl rfl rfl (cB hb183) ?_)))
   refine hv (v := (bv true)) rfl (pt_ rfl hb183 rfl) (hv (v := (bv true)) rfl (mv rfl) (hs_ rfl rfl rfl rfl rfl (hs_ rfl rfl rfl rfl rfl ?_)))
   refine hs_ rfl rfl rfl rfl rfl (hs_ rfl rfl rfl rfl rfl (hv (v := (bv true)) rfl (pt_ rfl rfl rfl) (hv (v := (bv true)) rfl (av rfl) ?_)))
   refine hn (nt ?_)
   exact ⟨true, (isp rfl), h⟩
  have h := hF hb184
  refine hg (v := (pp (Addr.add (bk H) 9))) rfl rfl rfl rfl (cB hb184) (fa runUnderlying41 rfl rfl sizeOf35 rfl) ?_
  obtain ⟨x187, c186, h⟩ := h
  refine hg (v := (Sl.v x187)) rfl rfl rfl rfl (cB hb184) (l1 isAgg35 rfl c186) (hg (v := (iv ((x187).n : Int))) rfl rfl rfl rfl (cB hb184) (HVal.len runUnderlying35 rfl) ?_)
  refine hg (v := (bv (decide (((x187).n : Int) ≠ 2)))) rfl rfl rfl rfl (cB hb184) (HVal.neqI rfl rfl) (hv (v := (bv (decide (((x187).n : Int) ≠ 2)))) rfl (pf_ rfl hb184 rfl) ?_)
  refine hv (v := (bv (decide (((x187).n : Int) ≠ 2)))) rfl (mv rfl) ?_
  obtain ⟨hT, hF⟩ := h
  rcases Bool.eq_false_or_eq_true (decide (((x187).n : Int) ≠ 2)) with hb188 | hb189
  ·have h := hT hb188
   refine hs_ rfl rfl rfl rfl (cB hb188) (hs_ rfl rfl rfl rfl (cB hb188) (hs_ rfl rfl rfl rfl (cB hb188) (hs_ rfl rfl rfl rfl (cB hb188) ?_)))
   refine hv (v := (bv true)) rfl (pt_ rfl hb188 rfl) (hv (v := (bv true)) rfl (av rfl) (hn (nt ?_)))
   exact ⟨true, (isp rfl), h⟩
  have h := hF hb189
  refine hg (v := (pp (Addr.add (bk H) 1))) rfl rfl rfl rfl (cB hb189) (fa runUnderlying41 rfl rfl sizeOf3 rfl) ?_
  obtain ⟨x191, c190, h⟩ := h
  refine hg (v := (iv x191)) rfl rfl rfl rfl (cB hb189) (l1 isAgg3 rfl c190) (HList.gops rfl rfl rfl rfl (cB hb189) (HOp.call' 61 [(iv x191)] (cap := []) rfl rfl call61 (walk61 h)) ?_)
  rintro _ H192 ⟨r194, rfl, h⟩
  refine hg (v := (bv (decide (r194 = 0)))) rfl rfl rfl rfl (cB hb189) (HVal.eqlI rfl rfl) (hv (v := (bv (decide (r194 = 0)))) rfl (pf_ rfl hb189 rfl) ?_)
  refine hv (v := (bv (decide (r194 = 0)))) rfl (av rfl) (hn (nt ?_))
  exact ⟨(decide (r194 = 0)), (isp rfl), h⟩
 rintro ρ H_2 ⟨y185, hI, h⟩
 obtain ⟨ρ0, rfl⟩ := hI.ex
 clear hI; unfold F53_2 at h
 obtain ⟨hT, hF⟩ := h
 refine wk y185 rfl (fun hb195 => ?_) (fun hb195 => ?_)
 ·have h := hT hb195
  refine ws (wr_ (hv (v := (.agg #[(iv 0), (iv 0), (iv 0), (iv 0), (iv 0), (sv bE), (bv false), (sv bE), (iv 0), (sv bE), sN, (iv 0), (iv 0), (iv 0), (iv 0), (sv bE), (bv false), (sv bE), (iv 0), (sv bE), sN])) rfl (HVal.build' (cs := [(iv 0), (iv 0), (iv 0), (iv 0), (iv 0), (sv bE), (bv false), (sv bE), (iv 0), (sv bE), sN, (iv 0), (iv 0), (iv 0), (iv 0), (sv bE), (bv false), (sv bE), (iv 0), (sv bE), sN]) runUnderlying89 zeroValue89 places89 (by kernel_rfl)) ?_))
  obtain ⟨z198, h⟩ := h
  refine hq (HOp.storeN' (l := [(iv 0), (iv 0), (iv 0), (iv 0), (iv 0), (sv bE), (bv false), (sv bE), (iv 0), (sv bE), sN, (iv 0), (iv 0), (iv 0), (iv 0), (sv bE), (bv false), (sv bE), (iv 0), (sv bE), sN]) sizeOf89 rfl rfl rfl z198) ?_
  rintro _ H196 e197
  replace h := h H196 e197
  refine hv (v := (bv false)) rfl (av rfl) (hn (nt (HW.ret (br (tr ?_)))))
  obtain ⟨x199, x200, x201, x202, x203, x204, x205, x206, x207, x208, x209, x210, x211, x212, x213, x214, x215, x216, x217, x218, x219, c220, h⟩ := h
  exact ⟨_, resOf2 rfl (Res1.n [(iv x199), (iv x200), (iv x201), (iv x202), (iv x203), (sv x204), (bv x205), (sv x206), (iv x207), (sv x208), (Sl.v x209), (iv x210), (iv x211), (iv x212), (iv x213), (sv x214), (bv x215), (sv x216), (iv x217), (sv x218), (Sl.v x219)] isAgg89 sizeOf89 rfl c220) Res1.t, ⟨x199, x200, x201, x202, x203, x204, x205, x206, x207, x208, x209, x210, x211, x212, x213, x214, x215, x216, x217, x218, x219, false, rfl, h⟩⟩
 have h := hF hb195
 refine ws (wr_ (hv (v := (pp (Addr.add (bk H) 9))) rfl (fa runUnderlying41 rfl rfl sizeOf35 rfl) ?_))
 obtain ⟨x222, c221, h⟩ := h
 refine hv (v := (Sl.v x222)) rfl (l1 isAgg35 rfl c221) ?_
 obtain ⟨a223, e224, b225, b226, h⟩ := h
 refine hv (v := (pp (Addr.add a223 ((0 : Int).toNat * 10)))) rfl (ia runUnderlying35 sizeOf41 (Sl.v_some rfl e224) rfl b225 b226) ?_
 obtain ⟨x228, x229, x230, x231, x232, x233, x234, x235, x236, x237, c227, h⟩ := h
 refine hv (v := (.agg (eR x228 x229 x230 x231 x232 x233 x234 x235 x236 x237).toArray)) rfl (ln (eR x228 x229 x230 x231 x232 x233 x234 x235 x236 x237) isAgg41 sizeOf41 rfl c227) ?_
 refine ho rfl (HOp.call' 40 [(.agg (eR x228 x229 x230 x231 x232 x233 x234 x235 x236 x237).toArray)] (cap := []) rfl rfl call40 (walk40 h)) ?_
 rintro _ H238 ⟨r240, rfl, h⟩
 refine hv (v := (bv r240)) rfl (av rfl) (hn (nt ?_))
 obtain ⟨hT, hF⟩ := h
 refine wk r240 rfl (fun hb241 => ?_) (fun hb241 => ?_)
 ·have h := hT hb241
  refine ws (HW.draw mixed [(0, some []), (1, some [11]), (2, some []), (3, some [11]), (4, some []), (5, some [11]), (6, some []), (7, some [11]), (8, some []), (9, some [11]), (10, some []), (11, none), (12, some [])] rfl (by kernel_rfl) (by kernel_rfl) ?_)
  refine pv (v := (pp (Addr.add (bk H) 1))) rfl rfl (fun _ => fa runUnderlying41 rfl rfl sizeOf3 rfl) ?_
  obtain ⟨x243, c242, h⟩ := h
  refine pl (v := (iv x243)) (fun X => cell X (Addr.add (bk H) 1) = some (iv x243)) rfl rfl (fun _ hX => l1 isAgg3 rfl hX) c242 (pv (v := (pp (Addr.add (bk H) 9))) rfl rfl (fun _ => fa runUnderlying41 rfl rfl sizeOf35 rfl) ?_)
  obtain ⟨x245, c244, h⟩ := h
  refine pl (v := (Sl.v x245)) (fun X => cell X (Addr.add (bk H) 9) = some (Sl.v x245)) rfl rfl (fun _ hX => l1 isAgg35 rfl hX) c244 ?_
  obtain ⟨a246, e247, b248, b249, h⟩ := h
  refine pv (v := (pp (Addr.add a246 ((0 : Int).toNat * 10)))) rfl rfl (fun _ => ia runUnderlying35 sizeOf41 (Sl.v_some rfl e247) rfl b248 b249) ?_
  obtain ⟨x251, x252, x253, x254, x255, x256, x257, x258, x259, x260, c250, h⟩ := h
  refine pl (v := (.agg (eR x251 x252 x253 x254 x255 x256 x257 x258 x259 x260).toArray)) (fun X => cells X (Addr.add a246 ((0 : Int).toNat * 10)) (eR x251 x252 x253 x254 x255 x256 x257 x258 x259 x260) 0) rfl rfl (fun _ hX => ln (eR x251 x252 x253 x254 x255 x256 x257 x258 x259 x260) isAgg41 sizeOf41 rfl hX) c250 ?_
  refine pv (v := (pp (Addr.add (bk H) 9))) rfl rfl (fun _ => fa runUnderlying41 rfl rfl sizeOf35 rfl) ?_
  obtain ⟨x262, c261, h⟩ := h
  refine pl (v := (Sl.v x262)) (fun X => cell X (Addr.add (bk H) 9) = some (Sl.v x262)) rfl rfl (fun _ hX => l1 isAgg35 rfl hX) c261 ?_
  obtain ⟨a263, e264, b265, b266, h⟩ := h
  refine pv (v := (pp (Addr.add a263 ((1 : Int).toNat * 10)))) rfl rfl (fun _ => ia runUnderlying35 sizeOf41 (Sl.v_some rfl e264) rfl b265 b266) ?_
  obtain ⟨x268, x269, x270, x271, x272, x273, x274, x275, x276, x277, c267, h⟩ := h
  refine pl (v := (.agg (eR x268 x269 x270 x271 x272 x273 x274 x275 x276 x277).toArray)) (fun X => cells X (Addr.add a263 ((1 : Int).toNat * 10)) (eR x268 x269 x270 x271 x272 x273 x274 x275 x276 x277) 0) rfl rfl (fun _ hX => ln (eR x268 x269 x270 x271 x272 x273 x274 x275 x276 x277) isAgg41 sizeOf41 rfl hX) c267 ?_
  refine pv (v := (.agg #[(iv x243), (iv x251), (iv x252), (iv x253), (iv x254), (sv x255), (bv x256), (sv x257), (iv x258), (sv x259), (Sl.v x260), (iv x268), (iv x269), (iv x270), (iv x271), (sv x272), (bv x273), (sv x274), (iv x275), (sv x276), (Sl.v x277)])) rfl rfl (fun _ => HVal.build' (cs := [(iv x243), (iv x251), (iv x252), (iv x253), (iv x254), (sv x255), (bv x256), (sv x257), (iv x258), (sv x259), (Sl.v x260), (iv x268), (iv x269), (iv x270), (iv x271), (sv x272), (bv x273), (sv x274), (iv x275), (sv x276), (Sl.v x277)]) runUnderlying89 zeroValue89 places89 (by kernel_rfl)) ?_
  obtain ⟨z280, h⟩ := h
  refine pn rfl (HOp.storeN' (l := [(iv x243), (iv x251), (iv x252), (iv x253), (iv x254), (sv x255), (bv x256), (sv x257), (iv x258), (sv x259), (Sl.v x260), (iv x268), (iv x269), (iv x270), (iv x271), (sv x272), (bv x273), (sv x274), (iv x275), (sv x276), (Sl.v x277)]) sizeOf89 rfl rfl rfl z280) ?_
  rintro _ H278 e279
  replace h := h H278 e279
  refine ⟨SC_of ⟨nofun, nofun, nofun, nofun, nofun, trivial⟩, ?_⟩
  refine pv (v := (bv true)) rfl rfl (fun _ => av rfl) (HPlan.done (nt (HW.ret (br (tr ?_)))))
  obtain ⟨x281, x282, x283, x284, x285, x286, x287, x288, x289, x290, x291, x292, x293, x294, x295, x296, x297, x298, x299, x300, x301, c302, h⟩ := h
  exact ⟨_, resOf2 rfl (Res1.n [(iv x281), (iv x282), (iv x283), (iv x284), (iv x285), (sv x286), (bv x287), (sv x288), (iv x289), (sv x290), (Sl.v x291), (iv x292), (iv x293), (iv x294), (iv x295), (sv x296), (bv x297), (sv x298), (iv x299), (sv x300), (Sl.v x301)] isAgg89 sizeOf89 rfl c302) Res1.t, ⟨x281, x282, x283, x284, x285, x286, x287, x288, x289, x290, x291, x292, x293, x294, x295, x296, x297, x298, x299, x300, x301, true, rfl, h⟩⟩
 have h := hF hb241
 refine ws (wr_ (hv (v := (pp (Addr.add (bk H) 9))) rfl (fa runUnderlying41 rfl rfl sizeOf35 rfl) ?_))
 obtain ⟨x304, c303, h⟩ := h
 refine hv (v := (Sl.v x304)) rfl (l1 isAgg35 rfl c303) ?_
 obtain ⟨a305, e306, b307, b308, h⟩ := h
 refine hv (v := (pp (Addr.add a305 ((1 : Int).toNat * 10)))) rfl (ia runUnderlying35 sizeOf41 (Sl.v_some rfl e306) rfl b307 b308) ?_
 obtain ⟨x310, x311, x312, x313, x314, x315, x316, x317, x318, x319, c309, h⟩ := h
 refine hv (v := (.agg (eR x310 x311 x312 x313 x314 x315 x316 x317 x318 x319).toArray)) rfl (ln (eR x310 x311 x312 x313 x314 x315 x316 x317 x318 x319) isAgg41 sizeOf41 rfl c309) ?_
 refine ho rfl (HOp.call' 40 [(.agg (eR x310 x311 x312 x313 x314 x315 x316 x317 x318 x319).toArray)] (cap := []) rfl rfl call40 (walk40 h)) ?_
 rintro _ H320 ⟨r322, rfl, h⟩
 refine hv (v := (bv r322)) rfl (av rfl) (hn (nt ?_))
 obtain ⟨hT, hF⟩ := h
 refine wk r322 rfl (fun hb323 => ?_) (fun hb323 => ?_)
 ·have h := hT hb323
  refine ws (HW.draw mixed [(0, some []), (1, some [2, 12]), (3, some []), (4, some [12]), (5, some []), (6, some [12]), (7, some []), (8, some [12]), (9, some []), (10, some [12]), (2, none), (11, some []), (12, none), (13, some [])] rfl (by kernel_rfl) (by kernel_rfl) ?_)
  refine pv (v := (pp (Addr.add (bk H) 1))) rfl rfl (fun _ => fa runUnderlying41 rfl rfl sizeOf3 rfl) ?_
  obtain ⟨x325, c324, h⟩ := h
  refine pl (v := (iv x325)) (fun X => cell X (Addr.add (bk H) 1) = some (iv x325)) rfl rfl (fun _ hX => l1 isAgg3 rfl hX) c324 (pv (v := (pp (Addr.add (bk H) 9))) rfl rfl (fun _ => fa runUnderlying41 rfl rfl sizeOf35 rfl) ?_)
  obtain ⟨x327, c326, h⟩ := h
  refine pl (v := (Sl.v x327)) (fun X => cell X (Addr.add (bk H) 9) = some (Sl.v x327)) rfl rfl (fun _ hX => l1 isAgg35 rfl hX) c326 ?_
  obtain ⟨a328, e329, b330, b331, h⟩ := h
  refine pv (v := (pp (Addr.add a328 ((1 : Int).toNat * 10)))) rfl rfl (fun _ => ia runUnderlying35 sizeOf41 (Sl.v_some rfl e329) rfl b330 b331) ?_
  obtain ⟨x333, x334, x335, x336, x337, x338, x339, x340, x341, x342, c332, h⟩ := h
  refine pl (v := (.agg (eR x333 x334 x335 x336 x337 x338 x339 x340 x341 x342).toArray)) (fun X => cells X (Addr.add a328 ((1 : Int).toNat * 10)) (eR x333 x334 x335 x336 x337 x338 x339 x340 x341 x342) 0) rfl rfl (fun _ hX => ln (eR x333 x334 x335 x336 x337 x338 x339 x340 x341 x342) isAgg41 sizeOf41 rfl hX) c332 ?_
  refine pv (v := (pp (Addr.add (bk H) 9))) rfl rfl (fun _ => fa runUnderlying41 rfl rfl sizeOf35 rfl) ?_
  obtain ⟨x344, c343, h⟩ := h
  refine pl (v := (Sl.v x344)) (fun X => cell X (Addr.add (bk H) 9) = some (Sl.v x344)) rfl rfl (fun _ hX => l1 isAgg35 rfl hX) c343 ?_
  obtain ⟨a345, e346, b347, b348, h⟩ := h
  refine pv (v := (pp (Addr.add a345 ((0 : Int).toNat * 10)))) rfl rfl (fun _ => ia runUnderlying35 sizeOf41 (Sl.v_some rfl e346) rfl b347 b348) ?_
  obtain ⟨x350, x351, x352, x353, x354, x355, x356, x357, x358, x359, c349, h⟩ := h
  refine pl (v := (.agg (eR x350 x351 x352 x353 x354 x355 x356 x357 x358 x359).toArray)) (fun X => cells X (Addr.add a345 ((0 : Int).toNat * 10)) (eR x350 x351 x352 x353 x354 x355 x356 x357 x358 x359) 0) rfl rfl (fun _ hX => ln (eR x350 x351 x352 x353 x354 x355 x356 x357 x358 x359) isAgg41 sizeOf41 rfl hX) c349 ?_
  refine po rfl rfl (HOp.call' 61 [(iv x325)] (cap := []) rfl rfl call61 (walk61 h)) ?_
  rintro _ H360 ⟨r362, rfl, h⟩
  obtain ⟨s363, s364, s365, s366, h⟩ := h
  refine ⟨SC_of ⟨fun _ => s363, fun _ => s364, fun _ => s365, fun _ => s366, nofun, trivial⟩, ?_⟩
  refine pv (v := (.agg #[(iv r362), (iv x333), (iv x334), (iv x335), (iv x336), (sv x337), (bv x338), (sv x339), (iv x340), (sv x341), (Sl.v x342), (iv x350), (iv x351), (iv x352), (iv x353), (sv x354), (bv x355), (sv x356), (iv x357), (sv x358), (Sl.v x359)])) rfl rfl (fun _ => HVal.build' (cs := [(iv r362), (iv x333), (iv x334), (iv x335), (iv x336), (sv x337), (bv x338), (sv x339), (iv x340), (sv x341), (Sl.v x342), (iv x350), (iv x351), (iv x352), (iv x353), (sv x354), (bv x355), (sv x356), (iv x357), (sv x358), (Sl.v x359)]) runUnderlying89 zeroValue89 places89 (by kernel_rfl)) ?_
  obtain ⟨z369, h⟩ := h
  refine pn rfl (HOp.storeN' (l := [(iv r362), (iv x333), (iv x334), (iv x335), (iv x336), (sv x337), (bv x338), (sv x339), (iv x340), (sv x341), (Sl.v x342), (iv x350), (iv x351), (iv x352), (iv x353), (sv x354), (bv x355), (sv x356), (iv x357), (sv x358), (Sl.v x359)]) sizeOf89 rfl rfl rfl z369) ?_
  rintro _ H367 e368
  replace h := h H367 e368
  refine ⟨SC_of ⟨nofun, nofun, nofun, nofun, nofun, trivial⟩, ?_⟩
  refine pv (v := (bv true)) rfl rfl (fun _ => av rfl) (HPlan.done (nt (HW.ret (br (tr ?_)))))
  obtain ⟨x370, x371, x372, x373, x374, x375, x376, x377, x378, x379, x380, x381, x382, x383, x384, x385, x386, x387, x388, x389, x390, c391, h⟩ := h
  exact ⟨_, resOf2 rfl (Res1.n [(iv x370), (iv x371), (iv x372), (iv x373), (iv x374), (sv x375), (bv x376), (sv x377), (iv x378), (sv x379), (Sl.v x380), (iv x381), (iv x382), (iv x383), (iv x384), (sv x385), (bv x386), (sv x387), (iv x388), (sv x389), (Sl.v x390)] isAgg89 sizeOf89 rfl c391) Res1.t, ⟨x370, x371, x372, x373, x374, x375, x376, x377, x378, x379, x380, x381, x382, x383, x384, x385, x386, x387, x388, x389, x390, true, rfl, h⟩⟩
 have h := hF hb323
 refine wp_ (nb (nt (ws (wr_ (hv (v := (.agg #[(iv 0), (iv 0), (iv 0), (iv 0), (iv 0), (sv bE), (bv false), (sv bE), (iv 0), (sv bE), sN, (iv 0), (iv 0), (iv 0), (iv 0), (sv bE), (bv false), (sv bE), (iv 0), (sv bE), sN])) rfl (HVal.build' (cs := [(iv 0), (iv 0), (iv 0), (iv 0), (iv 0), (sv bE), (bv false), (sv bE), (iv 0), (sv bE), sN, (iv 0), (iv 0), (iv 0), (iv 0), (sv bE), (bv false), (sv bE), (iv 0), (sv bE), sN]) runUnderlying89 zeroValue89 places89 (by kernel_rfl)) ?_)))))
 obtain ⟨z394, h⟩ := h
 refine hq (HOp.storeN' (l := [(iv 0), (iv 0), (iv 0), (iv 0), (iv 0), (sv bE), (bv false), (sv bE), (iv 0), (sv bE), sN, (iv 0), (iv 0), (iv 0), (iv 0), (sv bE), (bv false), (sv bE), (iv 0), (sv bE), sN]) sizeOf89 rfl rfl rfl z394) ?_
 rintro _ H392 e393
 replace h := h H392 e393
 refine hv (v := (bv false)) rfl (av rfl) (hn (nt (HW.ret ?_)))
 obtain ⟨x395, x396, x397, x398, x399, x400, x401, x402, x403, x404, x405, x406, x407, x408, x409, x410, x411, x412, x413, x414, x415, c416, h⟩ := h
 exact ⟨_, resOf2 rfl (Res1.n [(iv x395), (iv x396), (iv x397), (iv x398), (iv x399), (sv x400), (bv x401), (sv x402), (iv x403), (sv x404), (Sl.v x405), (iv x406), (iv x407), (iv x408), (iv x409), (sv x410), (bv x411), (sv x412), (iv x413), (sv x414), (Sl.v x415)] isAgg89 sizeOf89 rfl c416) Res1.t, ⟨x395, x396, x397, x398, x399, x400, x401, x402, x403, x404, x405, x406, x407, x408, x409, x410, x411, x412, x413, x414, x415, false, rfl, h⟩⟩

def F36 (p0_0 p0_1 p0_2 p0_3 : Int) (p0_4 : ByteArray) (p0_5 : Bool) (p0_6 : ByteArray) (p0_7 : Int) (p0_8 : ByteArray) (p0_9 : Sl) (H : Hp) (Q : Int → Int → Int → Int → Int → ByteArray → Bool → ByteArray → Int → ByteArray → Sl → Int → Int → Int → Int → ByteArray → Bool → ByteArray → Int → ByteArray → Sl → Bool → Hp → Prop) : Prop :=
∀ H1 : Hp, H1 = Array.push H (.cells (eR p0_0 p0_1 p0_2 p0_3 p0_4 p0_5 p0_6 p0_7 p0_8 p0_9).toArray 41) → (
 ∀ H3 : Hp, H3 = Array.push H1 (.cells #[(iv 0), (iv 0), (iv 0), (iv 0), (iv 0), (sv bE), (bv false), (sv bE), (iv 0), (sv bE), sN, (iv 0), (iv 0), (iv 0), (iv 0), (sv bE), (bv false), (sv bE), (iv 0), (sv bE), sN] 89) → (
 ∃ (x6 x7 x8 x9 : Int) (x10 : ByteArray) (x11 : Bool) (x12 : ByteArray) (x13 : Int) (x14 : ByteArray) (x15 : Sl), cells H3 (bk H) (eR x6 x7 x8 x9 x10 x11 x12 x13 x14 x15) 0 ∧ (
 F53 x6 x7 x8 x9 x10 x11 x12 x13 x14 x15 H3 (fun (r18 r19 r20 r21 r22 : Int) (r23 : ByteArray) (r24 : Bool) (r25 : ByteArray) (r26 : Int) (r27 : ByteArray) (r28 : Sl) (r29 r30 r31 r32 : Int) (r33 : ByteArray) (r34 : Bool) (r35 : ByteArray) (r36 : Int) (r37 : ByteArray) (r38 : Sl) (r39 : Bool) (H16 : Hp) => 
 ∀ H40 : Hp, H40 = Array.push H16 (.cells #[(iv 0), (iv 0), (iv 0), (iv 0), (iv 0), (sv bE), (bv false), (sv bE), (iv 0), (sv bE), sN, (iv 0), (iv 0), (iv 0), (iv 0), (sv bE), (bv false), (sv bE), (iv 0), (sv bE), sN] 89) → (
 mayw H40 (bk H16) 21 0 ∧ ∀ H42 : Hp, H42 = sets H40 (bk H16) [(iv r18), (iv r19), (iv r20), (iv r21), (iv r22), (sv r23), (bv r24), (sv r25), (iv r26), (sv r27), (Sl.v r28), (iv r29), (iv r30), (iv r31), (iv r32), (sv r33), (bv r34), (sv r35), (iv r36), (sv r37), (Sl.v r38)] 0 → (
 ((!r39) = true → (∃ (x47 x48 x49 x50 x51 : Int) (x52 : ByteArray) (x53 : Bool) (x54 : ByteArray) (x55 : Int) (x56 : ByteArray) (x57 : Sl) (x58 x59 x60 x61 : Int) (x62 : ByteArray) (x63 : Bool) (x64 : ByteArray) (x65 : Int) (x66 : ByteArray) (x67 : Sl), cells H42 (bk H16) [(iv x47), (iv x48), (iv x49), (iv x50), (iv x51), (sv x52), (bv x53), (sv x54), (iv x55), (sv x56), (Sl.v x57), (iv x58), (iv x59), (iv x60), (iv x61), (sv x62), (bv x63), (sv x64), (iv x65), (sv x66), (Sl.v x67)] 0 ∧ (
 mayw H42 (bk H1) 21 0 ∧ ∀ H68 : Hp, H68 = sets H42 (bk H1) [(iv x47), (iv x48), (iv x49), (iv x50), (iv x51), (sv x52), (bv x53), (sv x54), (iv x55), (sv x56), (Sl.v x57), (iv x58), (iv x59), (iv x60), (iv x61), (sv x62), (bv x63), (sv x64), (iv x65), (sv x66), (Sl.v x67)] 0 → (
 ∃ (x71 x72 x73 x74 x75 : Int) (x76 : ByteArray) (x77 : Bool) (x78 : ByteArray) (x79 : Int) (x80 : ByteArray) (x81 : Sl) (x82 x83 x84 x85 : Int) (x86 : ByteArray) (x87 : Bool) (x88 : ByteArray) (x89 : Int) (x90 : ByteArray) (x91 : Sl), cells H68 (bk H1) [(iv x71), (iv x72), (iv x73), (iv x74), (iv x75), (sv x76), (bv x77), (sv x78), (iv x79), (sv x80), (Sl.v x81), (iv x82), (iv x83), (iv x84), (iv x85), (sv x86), (bv x87), (sv x88), (iv x89), (sv x90), (Sl.v x91)] 0 ∧ (
 Q x71 x72 x73 x74 x75 x76 x77 x78 x79 x80 x81 x82 x83 x84 x85 x86 x87 x88 x89 x90 x91 false H68))))) ∧
 ((!r39) = false → (∃ (x94 x95 x96 x97 : Int) (x98 : ByteArray) (x99 : Bool) (x100 : ByteArray) (x101 : Int) (x102 : ByteArray) (x103 : Sl), cells H42 (Addr.add (bk H16) 11) (eR x94 x95 x96 x97 x98 x99 x100 x101 x102 x103) 0 ∧ (
 F40 x94 x95 x96 x97 x98 x99 x100 x101 x102 x103 H42 (fun (r106 : Bool) (H104 : Hp) => 
 (r106 = true → (∃ (x109 x110 x111 x112 x113 : Int) (x114 : ByteArray) (x115 : Bool) (x116 : ByteArray) (x117 : Int) (x118 : ByteArray) (x119 : Sl) (x120 x121 x122 x123 : Int) (x124 : ByteArray) (x125 : Bool) (x126 : ByteArray) (x127 : Int) (x128 : ByteArray) (x129 : Sl), cells H104 (bk H16) [(iv x109), (iv x110), (iv x111), (iv x112), (iv x113), (sv x114), (bv x115), (sv x116), (iv x117), (sv x118), (Sl.v x119), (iv x120), (iv x121), (iv x122), (iv x123), (sv x124), (bv x125), (sv x126), (iv x127), (sv x128), (Sl.v x129)] 0 ∧ (
 mayw H104 (bk H1) 21 0 ∧ ∀ H130 : Hp, H130 = sets H104 (bk H1) [(iv x109), (iv x110), (iv x111), (iv x112), (iv x113), (sv x114), (bv x115), (sv x116), (iv x117), (sv x118), (Sl.v x119), (iv x120), (iv x121), (iv x122), (iv x123), (sv x124), (bv x125), (sv x126), (iv x127), (sv x128), (Sl.v x129)] 0 → (
 ∃ (x133 x134 x135 x136 x137 : Int) (x138 : ByteArray) (x139 : Bool) (x140 : ByteArray) (x141 : Int) (x142 : ByteArray) (x143 : Sl) (x144 x145 x146 x147 : Int) (x148 : ByteArray) (x149 : Bool) (x150 : ByteArray) (x151 : Int) (x152 : ByteArray) (x153 : Sl), cells H130 (bk H1) [(iv x133), (iv x134), (iv x135), (iv x136), (iv x137), (sv x138), (bv x139), (sv x140), (iv x141), (sv x142), (Sl.v x143), (iv x144), (iv x145), (iv x146), (iv x147), (sv x148), (bv x149), (sv x150), (iv x151), (sv x152), (Sl.v x153)] 0 ∧ (
 Q x133 x134 x135 x136 x137 x138 x139 x140 x141 x142 x143 x144 x145 x146 x147 x148 x149 x150 x151 x152 x153 true H130))))) ∧
 (r106 = false → (∃ (x156 x157 x158 x159 : Int) (x160 : ByteArray) (x161 : Bool) (x162 : ByteArray) (x163 : Int) (x164 : ByteArray) (x165 : Sl), cells H104 (Addr.add (bk H16) 11) (eR x156 x157 x158 x159 x160 x161 x162 x163 x164 x165) 0 ∧ (
 F41 x156 x157 x158 x159 x160 x161 x162 x163 x164 x165 H104 (fun (r168 r169 : Int) (r170 : ByteArray) (r171 r172 : Bool) (H166 : Hp) => 
 ∀ H173 : Hp, H173 = Array.push H166 (.cells (vR 0 0 bE false).toArray 25) → (
 mayw H173 (bk H166) 4 0 ∧ ∀ H175 : Hp, H175 = sets H173 (bk H166) (vR r168 r169 r170 r171) 0 → (
 ∃ (x179 x180 x181 x182 x183 : Int) (x184 : ByteArray) (x185 : Bool) (x186 : ByteArray) (x187 : Int) (x188 : ByteArray) (x189 : Sl) (x190 x191 x192 x193 : Int) (x194 : ByteArray) (x195 : Bool) (x196 : ByteArray) (x197 : Int) (x198 : ByteArray) (x199 : Sl), cells H175 (bk H16) [(iv x179), (iv x180), (iv x181), (iv x182), (iv x183), (sv x184), (bv x185), (sv x186), (iv x187), (sv x188), (Sl.v x189), (iv x190), (iv x191), (iv x192), (iv x193), (sv x194), (bv x195), (sv x196), (iv x197), (sv x198), (Sl.v x199)] 0 ∧ (
 (r172 = true → (∃ x203 : Int, cell H175 (bk H16) = some (iv x203) ∧ (
 ((decide (x203 = 6)) = true → (mayw H175 (bk H1) 21 0 ∧ ∀ H206 : Hp, H206 = sets H175 (bk H1) [(iv x179), (iv x180), (iv x181), (iv x182), (iv x183), (sv x184), (bv x185), (sv x186), (iv x187), (sv x188), (Sl.v x189), (iv x190), (iv x191), (iv x192), (iv x193), (sv x194), (bv x195), (sv x196), (iv x197), (sv x198), (Sl.v x199)] 0 → (
 cell H206 (bk H16) = some (iv x203) ∧ (
 ∃ (x210 x211 x212 x213 x214 : Int) (x215 : ByteArray) (x216 : Bool) (x217 : ByteArray) (x218 : Int) (x219 : ByteArray) (x220 : Sl) (x221 x222 x223 x224 : Int) (x225 : ByteArray) (x226 : Bool) (x227 : ByteArray) (x228 : Int) (x229 : ByteArray) (x230 : Sl), cells H206 (bk H1) [(iv x210), (iv x211), (iv x212), (iv x213), (iv x214), (sv x215), (bv x216), (sv x217), (iv x218), (sv x219), (Sl.v x220), (iv x221), (iv x222), (iv x223), (iv x224), (sv x225), (bv x226), (sv x227), (iv x228), (sv x229), (Sl.v x230)] 0 ∧ (
 Q x210 x211 x212 x213 x214 x215 x216 x217 x218 x219 x220 x221 x222 x223 x224 x225 x226 x227 x228 x229 x230 true H206))))) ∧
 ((decide (x203 = 6)) = false → (∃ x233 : Int, cell H175 (bk H166) = some (iv x233) ∧ (
 mayw H175 (bk H1) 21 0 ∧ ∀ H234 : Hp, H234 = sets H175 (bk H1) [(iv x179), (iv x180), (iv x181), (iv x182), (iv x183), (sv x184), (bv x185), (sv x186), (iv x187), (sv x188), (Sl.v x189), (iv x190), (iv x191), (iv x192), (iv x193), (sv x194), (bv x195), (sv x196), (iv x197), (sv x198), (Sl.v x199)] 0 → (
 cell H234 (bk H166) = some (iv x233) ∧ cell H234 (bk H16) = some (iv x203) ∧ (
 ∃ (x239 x240 x241 x242 x243 : Int) (x244 : ByteArray) (x245 : Bool) (x246 : ByteArray) (x247 : Int) (x248 : ByteArray) (x249 : Sl) (x250 x251 x252 x253 : Int) (x254 : ByteArray) (x255 : Bool) (x256 : ByteArray) (x257 : Int) (x258 : ByteArray) (x259 : Sl), cells H234 (bk H1) [(iv x239), (iv x240), (iv x241), (iv x242), (iv x243), (sv x244), (bv x245), (sv x246), (iv x247), (sv x248), (Sl.v x249), (iv x250), (iv x251), (iv x252), (iv x253), (sv x254), (bv x255), (sv x256), (iv x257), (sv x258), (Sl.v x259)] 0 ∧ (
 Q x239 x240 x241 x242 x243 x244 x245 x246 x247 x248 x249 x250 x251 x252 x253 x254 x255 x256 x257 x258 x259 (decide (x233 = 1)) H234))))))))) ∧
 (r172 = false → (mayw H175 (bk H1) 21 0 ∧ ∀ H261 : Hp, H261 = sets H175 (bk H1) [(iv x179), (iv x180), (iv x181), (iv x182), (iv x183), (sv x184), (bv x185), (sv x186), (iv x187), (sv x188), (Sl.v x189), (iv x190), (iv x191), (iv x192), (iv x193), (sv x194), (bv x195), (sv x196), (iv x197), (sv x198), (Sl.v x199)] 0 → (
 ∃ (x264 x265 x266 x267 x268 : Int) (x269 : ByteArray) (x270 : Bool) (x271 : ByteArray) (x272 : Int) (x273 : ByteArray) (x274 : Sl) (x275 x276 x277 x278 : Int) (x279 : ByteArray) (x280 : Bool) (x281 : ByteArray) (x282 : Int) (x283 : ByteArray) (x284 : Sl), cells H261 (bk H1) [(iv x264), (iv x265), (iv x266), (iv x267), (iv x268), (sv x269), (bv x270), (sv x271), (iv x272), (sv x273), (Sl.v x274), (iv x275), (iv x276), (iv x277), (iv x278), (sv x279), (bv x280), (sv x281), (iv x282), (sv x283), (Sl.v x284)] 0 ∧ (
 Q x264 x265 x266 x267 x268 x269 x270 x271 x272 x273 x274 x275 x276 x277 x278 x279 x280 x281 x282 x283 x284 false H261)))))))))))))))))))))
theorem walk36 {w0 : World} {p0_0 p0_1 p0_2 p0_3 : Int} {p0_4 : ByteArray} {p0_5 : Bool} {p0_6 : ByteArray} {p0_7 : Int} {p0_8 : ByteArray} {p0_9 : Sl} {H : Hp} {Q : Int → Int → Int → Int → Int → ByteArray → Bool → ByteArray → Int → ByteArray → Sl → Int → Int → Int → Int → ByteArray → Bool → ByteArray → Int → ByteArray → Sl → Bool → Hp → Prop} (h : F36 p0_0 p0_1 p0_2 p0_3 p0_4 p0_5 p0_6 p0_7 p0_8 p0_9 H Q) :
  Good prog w0 36 #[(.agg (eR p0_0 p0_1 p0_2 p0_3 p0_4 p0_5 p0_6 p0_7 p0_8 p0_9).toArray)] H (fun v H => ∃ (r0 r1 r2 r3 r4 : Int) (r5 : ByteArray) (r6 : Bool) (r7 : ByteArray) (r8 : Int) (r9 : ByteArray) (r10 : Sl) (r11 r12 r13 r14 : Int) (r15 : ByteArray) (r16 : Bool) (r17 : ByteArray) (r18 : Int) (r19 : ByteArray) (r20 : Sl) (r21 : Bool) , v = (.tuple #[(.agg #[(iv r0), (iv r1), (iv r2), (iv r3), (iv r4), (sv r5), (bv r6), (sv r7), (iv r8), (sv r9), (Sl.v r10), (iv r11), (iv r12), (iv r13), (iv r14), (sv r15), (bv r16), (sv r17), (iv r18), (sv r19), (Sl.v r20)]), (bv r21)]) ∧ Q r0 r1 r2 r3 r4 r5 r6 r7 r8 r9 r10 r11 r12 r13 r14 r15 r16 r17 r18 r19 r20 r21 H) := by
 unfold F36 at h
 refine Good.enter' (fn := f36) func36 rfl rfl rfl (ws (wr_ (ho rfl (ob (v := (.agg (eR p0_0 p0_1 p0_2 p0_3 p0_4 p0_5 p0_6 p0_7 p0_8 p0_9).toArray)) rfl) ?_)))
 rintro _ H1 ⟨rfl, e2⟩
 replace h := h H1 e2
 refine ho rfl (HOp.alloc zeroValue89) ?_
 rintro _ H3 ⟨rfl, e4⟩
 replace h := h H3 e4
 refine hv (v := (bv false)) rfl (av rfl) (hn (nt (ws (wr_ ?_))))
 obtain ⟨x6, x7, x8, x9, x10, x11, x12, x13, x14, x15, c5, h⟩ := h
 refine hv (v := (.agg (eR x6 x7 x8 x9 x10 x11 x12 x13 x14 x15).toArray)) rfl (ln (eR x6 x7 x8 x9 x10 x11 x12 x13 x14 x15) isAgg41 sizeOf41 rfl c5) ?_
 refine ho rfl (HOp.call' 53 [(.agg (eR x6 x7 x8 x9 x10 x11 x12 x13 x14 x15).toArray)] (cap := []) rfl rfl call53 (walk53 h)) ?_
 rintro _ H16 ⟨r18, r19, r20, r21, r22, r23, r24, r25, r26, r27, r28, r29, r30, r31, r32, r33, r34, r35, r36, r37, r38, r39, rfl, h⟩
 refine hv (v := (.tuple #[(.agg #[(iv r18), (iv r19), (iv r20), (iv r21), (iv r22), (sv r23), (bv r24), (sv r25), (iv r26), (sv r27), (Sl.v r28), (iv r29), (iv r30), (iv r31), (iv r32), (sv r33), (bv r34), (sv r35), (iv r36), (sv r37), (Sl.v r38)]), (bv r39)])) rfl (mv rfl) ?_
 refine hv (v := (.agg #[(iv r18), (iv r19), (iv r20), (iv r21), (iv r22), (sv r23), (bv r24), (sv r25), (iv r26), (sv r27), (Sl.v r28), (iv r29), (iv r30), (iv r31), (iv r32), (sv r33), (bv r34), (sv r35), (iv r36), (sv r37), (Sl.v r38)])) rfl (HVal.extract rfl rfl) ?_
 refine hv (v := (bv r39)) rfl (HVal.extract rfl rfl) (ho rfl (HOp.alloc zeroValue89) ?_)
 rintro _ H40 ⟨rfl, e41⟩
 replace h := h H40 e41
 obtain ⟨z44, h⟩ := h
 refine hq (HOp.storeN' (l := [(iv r18), (iv r19), (iv r20), (iv r21), (iv r22), (sv r23), (bv r24), (sv r25), (iv r26), (sv r27), (Sl.v r28), (iv r29), (iv r30), (iv r31), (iv r32), (sv r33), (bv r34), (sv r35), (iv r36), (sv r37), (Sl.v r38)]) sizeOf89 rfl rfl rfl z44) ?_
 rintro _ H42 e43
 replace h := h H42 e43
 refine hv (v := (bv r39)) rfl (av rfl) (hn (nt (ws (ws (wr_ (hv (v := (bv r39)) rfl (mv rfl) (hv (v := (bv (!r39))) rfl (HVal.not rfl) ?_)))))))
 refine hn (nt ?_)
 obtain ⟨hT, hF⟩ := h
 refine wk (!r39) rfl (fun hb45 => ?_) (fun hb45 => ?_)
 ·have h := hT hb45
  refine ws (wr_ ?_)
  obtain ⟨x47, x48, x49, x50, x51, x52, x53, x54, x55, x56, x57, x58, x59, x60, x61, x62, x63, x64, x65, x66, x67, c46, h⟩ := h
  refine hv (v := (.agg #[(iv x47), (iv x48), (iv x49), (iv x50), (iv x51), (sv x52), (bv x53), (sv x54), (iv x55), (sv x56), (Sl.v x57), (iv x58), (iv x59), (iv x60), (iv x61), (sv x62), (bv x63), (sv x64), (iv x65), (sv x66), (Sl.v x67)])) rfl (ln [(iv x47), (iv x48), (iv x49), (iv x50), (iv x51), (sv x52), (bv x53), (sv x54), (iv x55), (sv x56), (Sl.v x57), (iv x58), (iv x59), (iv x60), (iv x61), (sv x62), (bv x63), (sv x64), (iv x65), (sv x66), (Sl.v x67)] isAgg89 sizeOf89 rfl c46) ?_
  obtain ⟨z70, h⟩ := h
  refine hq (HOp.storeN' (l := [(iv x47), (iv x48), (iv x49), (iv x50), (iv x51), (sv x52), (bv x53), (sv x54), (iv x55), (sv x56), (Sl.v x57), (iv x58), (iv x59), (iv x60), (iv x61), (sv x62), (bv x63), (sv x64), (iv x65), (sv x66), (Sl.v x67)]) sizeOf89 rfl rfl rfl z70) ?_
  rintro _ H68 e69
  replace h := h H68 e69
  refine hv (v := (bv false)) rfl (av rfl) (hn (nt (HW.ret (tr ?_))))
  obtain ⟨x71, x72, x73, x74, x75, x76, x77, x78, x79, x80, x81, x82, x83, x84, x85, x86, x87, x88, x89, x90, x91, c92, h⟩ := h
  exact ⟨_, resOf2 rfl (Res1.n [(iv x71), (iv x72), (iv x73), (iv x74), (iv x75), (sv x76), (bv x77), (sv x78), (iv x79), (sv x80), (Sl.v x81), (iv x82), (iv x83), (iv x84), (iv x85), (sv x86), (bv x87), (sv x88), (iv x89), (sv x90), (Sl.v x91)] isAgg89 sizeOf89 rfl c92) Res1.t, ⟨x71, x72, x73, x74, x75, x76, x77, x78, x79, x80, x81, x82, x83, x84, x85, x86, x87, x88, x89, x90, x91, false, rfl, h⟩⟩
 have h := hF hb45
 refine wp_ (nt (ws (ws (wr_ (hv (v := (pp (Addr.add (bk H16) 11))) rfl (fa runUnderlying89 rfl rfl sizeOf41 rfl) ?_)))))
 obtain ⟨x94, x95, x96, x97, x98, x99, x100, x101, x102, x103, c93, h⟩ := h
 refine hv (v := (.agg (eR x94 x95 x96 x97 x98 x99 x100 x101 x102 x103).toArray)) rfl (ln (eR x94 x95 x96 x97 x98 x99 x100 x101 x102 x103) isAgg41 sizeOf41 rfl c93) ?_
 refine ho rfl (HOp.call' 40 [(.agg (eR x94 x95 x96 x97 x98 x99 x100 x101 x102 x103).toArray)] (cap := []) rfl rfl call40 (walk40 h)) ?_
 rintro _ H104 ⟨r106, rfl, h⟩
 refine hn (nt ?_)
 obtain ⟨hT, hF⟩ := h
 refine wk r106 rfl (fun hb107 => ?_) (fun hb107 => ?_)
 ·have h := hT hb107
  refine ws (wr_ ?_)
  obtain ⟨x109, x110, x111, x112, x113, x114, x115, x116, x117, x118, x119, x120, x121, x122, x123, x124, x125, x126, x127, x128, x129, c108, h⟩ := h
  refine hv (v := (.agg #[(iv x109), (iv x110), (iv x111), (iv x112), (iv x113), (sv x114), (bv x115), (sv x116), (iv x117), (sv x118), (Sl.v x119), (iv x120), (iv x121), (iv x122), (iv x123), (sv x124), (bv x125), (sv x126), (iv x127), (sv x128), (Sl.v x129)])) rfl (ln [(iv x109), (iv x110), (iv x111), (iv x112), (iv x113), (sv x114), (bv x115), (sv x116), (iv x117), (sv x118), (Sl.v x119), (iv x120), (iv x121), (iv x122), (iv x123), (sv x124), (bv x125), (sv x126), (iv x127), (sv x128), (Sl.v x129)] isAgg89 sizeOf89 rfl c108) ?_
  obtain ⟨z132, h⟩ := h
  refine hq (HOp.storeN' (l := [(iv x109), (iv x110), (iv x111), (iv x112), (iv x113), (sv x114), (bv x115), (sv x116), (iv x117), (sv x118), (Sl.v x119), (iv x120), (iv x121), (iv x122), (iv x123), (sv x124), (bv x125), (sv x126), (iv x127), (sv x128), (Sl.v x129)]) sizeOf89 rfl rfl rfl z132) ?_
  rintro _ H130 e131
  replace h := h H130 e131
  refine hv (v := (bv true)) rfl (av rfl) (hn (nt (HW.ret (tr ?_))))
  obtain ⟨x133, x134, x135, x136, x137, x138, x139, x140, x141, x142, x143, x144, x145, x146, x147, x148, x149, x150, x151, x152, x153, c154, h⟩ := h
  exact ⟨_, resOf2 rfl (Res1.n [(iv x133), (iv x134), (iv x135), (iv x136), (iv x137), (sv x138), (bv x139), (sv x140), (iv x141), (sv x142), (Sl.v x143), (iv x144), (iv x145), (iv x146), (iv x147), (sv x148), (bv x149), (sv x150), (iv x151), (sv x152), (Sl.v x153)] isAgg89 sizeOf89 rfl c154) Res1.t, ⟨x133, x134, x135, x136, x137, x138, x139, x140, x141, x142, x143, x144, x145, x146, x147, x148, x149, x150, x151, x152, x153, true, rfl, h⟩⟩
 have h := hF hb107
 refine wp_ (nt (ws (wr_ (hv (v := (pp (Addr.add (bk H16) 11))) rfl (fa runUnderlying89 rfl rfl sizeOf41 rfl) ?_))))
 obtain ⟨x156, x157, x158, x159, x160, x161, x162, x163, x164, x165, c155, h⟩ := h
 refine hv (v := (.agg (eR x156 x157 x158 x159 x160 x161 x162 x163 x164 x165).toArray)) rfl (ln (eR x156 x157 x158 x159 x160 x161 x162 x163 x164 x165) isAgg41 sizeOf41 rfl c155) ?_
 refine ho rfl (HOp.call' 41 [(.agg (eR x156 x157 x158 x159 x160 x161 x162 x163 x164 x165).toArray)] (cap := []) rfl rfl call41 (walk41 h)) ?_
 rintro _ H166 ⟨r168, r169, r170, r171, r172, rfl, h⟩
 refine hv (v := (.tuple #[(.agg (vR r168 r169 r170 r171).toArray), (bv r172)])) rfl (mv rfl) (hv (v := (.agg (vR r168 r169 r170 r171).toArray)) rfl (HVal.extract rfl rfl) ?_)
 refine hv (v := (bv r172)) rfl (HVal.extract rfl rfl) (ho rfl (HOp.alloc zeroValue25) ?_)
 rintro _ H173 ⟨rfl, e174⟩
 replace h := h H173 e174
 obtain ⟨z177, h⟩ := h
 refine hq (HOp.storeN' (l := (vR r168 r169 r170 r171)) sizeOf25 rfl rfl rfl z177) ?_
 rintro _ H175 e176
 replace h := h H175 e176
 refine hv (v := (bv r172)) rfl (av rfl) (hn (nt (ws (HW.draw mixed [(0, some [12]), (1, some []), (2, some []), (3, some []), (4, some []), (5, some []), (6, some []), (7, some []), (8, some []), (9, some []), (10, some []), (11, some []), (12, none), (13, some [])] rfl (by kernel_rfl) (by kernel_rfl) ?_))))
 obtain ⟨x179, x180, x181, x182, x183, x184, x185, x186, x187, x188, x189, x190, x191, x192, x193, x194, x195, x196, x197, x198, x199, c178, h⟩ := h
 refine pl (v := (.agg #[(iv x179), (iv x180), (iv x181), (iv x182), (iv x183), (sv x184), (bv x185), (sv x186), (iv x187), (sv x188), (Sl.v x189), (iv x190), (iv x191), (iv x192), (iv x193), (sv x194), (bv x195), (sv x196), (iv x197), (sv x198), (Sl.v x199)])) (fun X => cells X (bk H16) [(iv x179), (iv x180), (iv x181), (iv x182), (iv x183), (sv x184), (bv x185), (sv x186), (iv x187), (sv x188), (Sl.v x189), (iv x190), (iv x191), (iv x192), (iv x193), (sv x194), (bv x195), (sv x196), (iv x197), (sv x198), (Sl.v x199)] 0) rfl rfl (fun _ hX => ln [(iv x179), (iv x180), (iv x181), (iv x182), (iv x183), (sv x184), (bv x185), (sv x186), (iv x187), (sv x188), (Sl.v x189), (iv x190), (iv x191), (iv x192), (iv x193), (sv x194), (bv x195), (sv x196), (iv x197), (sv x198), (Sl.v x199)] isAgg89 sizeOf89 rfl hX) c178 ?_
 refine pv (v := (bv r172)) rfl rfl (fun _ => mv rfl) (pv (v := (bv r172)) rfl rfl (fun _ => mv rfl) ?_)
 obtain ⟨hT, hF⟩ := h
 rcases Bool.eq_false_or_eq_true r172 with hb200 | hb201
 ·have h := hT hb200
  refine HPlan.gtakev (v := (pp (bk H16))) rfl rfl rfl rfl rfl (cB hb200) (fun _ => HVal.fieldAddr0 runUnderlying89 rfl rfl sizeOf3 rfl) ?_
  obtain ⟨x203, c202, h⟩ := h
  refine HPlan.gtakel (v := (iv x203)) (fun X => cell X (bk H16) = some (iv x203)) rfl rfl rfl rfl rfl (cB hb200) (fun _ hX => l1 isAgg3 rfl hX) c202 ?_
  refine HPlan.gtakev (v := (bv (decide (x203 = 6)))) rfl rfl rfl rfl rfl (cB hb200) (fun _ => HVal.eqlI rfl rfl) (HPlan.gtakev (v := (bv (decide (x203 = 6)))) rfl rfl rfl rfl rfl (cB hb200) (fun _ => mv rfl) ?_)
  obtain ⟨hT, hF⟩ := h
  rcases Bool.eq_false_or_eq_true (decide (x203 = 6)) with hb204 | hb205
  ·have h := hT hb204
   refine pg rfl rfl rfl rfl (cB hb204) (pg rfl rfl rfl rfl (cB hb204) (pg rfl rfl rfl rfl (cB hb204) (HPlan.gtakev (v := (bv true)) rfl rfl rfl rfl rfl (cB hb200) (fun _ => pt_ rfl hb204 rfl) ?_)))
   refine pv (v := (bv true)) rfl rfl (fun _ => pt_ rfl hb200 rfl) ?_
   obtain ⟨z208, h⟩ := h
   refine pn rfl (HOp.storeN' (l := [(iv x179), (iv x180), (iv x181), (iv x182), (iv x183), (sv x184), (bv x185), (sv x186), (iv x187), (sv x188), (Sl.v x189), (iv x190), (iv x191), (iv x192), (iv x193), (sv x194), (bv x195), (sv x196), (iv x197), (sv x198), (Sl.v x199)]) sizeOf89 rfl rfl rfl z208) ?_
   rintro _ H206 e207
   replace h := h H206 e207
   obtain ⟨s209, h⟩ := h
   refine ⟨SC_of ⟨fun _ => s209, nofun, trivial⟩, ?_⟩
   refine pv (v := (bv true)) rfl rfl (fun _ => av rfl) (HPlan.done (nt (HW.ret ?_)))
   obtain ⟨x210, x211, x212, x213, x214, x215, x216, x217, x218, x219, x220, x221, x222, x223, x224, x225, x226, x227, x228, x229, x230, c231, h⟩ := h
   exact ⟨_, resOf2 rfl (Res1.n [(iv x210), (iv x211), (iv x212), (iv x213), (iv x214), (sv x215), (bv x216), (sv x217), (iv x218), (sv x219), (Sl.v x220), (iv x221), (iv x222), (iv x223), (iv x224), (sv x225), (bv x226), (sv x227), (iv x228), (sv x229), (Sl.v x230)] isAgg89 sizeOf89 rfl c231) Res1.t, ⟨x210, x211, x212, x213, x214, x215, x216, x217, x218, x219, x220, x221, x222, x223, x224, x225, x226, x227, x228, x229, x230, true, rfl, h⟩⟩
  have h := hF hb205
  refine HPlan.gtakev (v := (pp (bk H166))) rfl rfl rfl rfl rfl (cB hb205) (fun _ => HVal.fieldAddr0 runUnderlying25 rfl rfl sizeOf3 rfl) ?_
  obtain ⟨x233, c232, h⟩ := h
  refine HPlan.gtakel (v := (iv x233)) (fun X => cell X (bk H166) = some (iv x233)) rfl rfl rfl rfl rfl (cB hb205) (fun _ hX => l1 isAgg3 rfl hX) c232 ?_
  refine HPlan.gtakev (v := (bv (decide (x233 = 1)))) rfl rfl rfl rfl rfl (cB hb205) (fun _ => HVal.eqlI rfl rfl) (HPlan.gtakev (v := (bv (decide (x233 = 1)))) rfl rfl rfl rfl rfl (cB hb200) (fun _ => pf_ rfl hb205 rfl) ?_)
  refine pv (v := (bv (decide (x233 = 1)))) rfl rfl (fun _ => pt_ rfl hb200 rfl) ?_
  obtain ⟨z236, h⟩ := h
  refine pn rfl (HOp.storeN' (l := [(iv x179), (iv x180), (iv x181), (iv x182), (iv x183), (sv x184), (bv x185), (sv x186), (iv x187), (sv x188), (Sl.v x189), (iv x190), (iv x191), (iv x192), (iv x193), (sv x194), (bv x195), (sv x196), (iv x197), (sv x198), (Sl.v x199)]) sizeOf89 rfl rfl rfl z236) ?_
  rintro _ H234 e235
  replace h := h H234 e235
  obtain ⟨s237, s238, h⟩ := h
  refine ⟨SC_of ⟨fun _ => s237, fun _ => s238, nofun, trivial⟩, ?_⟩
  refine pv (v := (bv (decide (x233 = 1)))) rfl rfl (fun _ => av rfl) (HPlan.done (nt (HW.ret ?_)))
  obtain ⟨x239, x240, x241, x242, x243, x244, x245, x246, x247, x248, x249, x250, x251, x252, x253, x254, x255, x256, x257, x258, x259, c260, h⟩ := h
  exact ⟨_, resOf2 rfl (Res1.n [(iv x239), (iv x240), (iv x241), (iv x242), (iv x243), (sv x244), (bv x245), (sv x246), (iv x247), (sv x248), (Sl.v x249), (iv x250), (iv x251), (iv x252), (iv x253), (sv x254), (bv x255), (sv x256), (iv x257), (sv x258), (Sl.v x259)] isAgg89 sizeOf89 rfl c260) Res1.t, ⟨x239, x240, x241, x242, x243, x244, x245, x246, x247, x248, x249, x250, x251, x252, x253, x254, x255, x256, x257, x258, x259, (decide (x233 = 1)), rfl, h⟩⟩
 have h := hF hb201
 refine pg rfl rfl rfl rfl (cB hb201) (pg rfl rfl rfl rfl (cB hb201) (pg rfl rfl rfl rfl (cB hb201) (pg rfl rfl rfl rfl (cB hb201) ?_)))
 refine HPlan.takeuskip rfl rfl rfl rfl rfl (HPlan.takeuskip rfl rfl rfl rfl rfl (HPlan.takeuskip rfl rfl rfl rfl rfl (pg rfl rfl rfl rfl (cB hb201) ?_)))
 refine pv (v := (bv false)) rfl rfl (fun _ => pf_ rfl hb201 rfl) ?_
 obtain ⟨z263, h⟩ := h
 refine pn rfl (HOp.storeN' (l := [(iv x179), (iv x180), (iv x181), (iv x182), (iv x183), (sv x184), (bv x185), (sv x186), (iv x187), (sv x188), (Sl.v x189), (iv x190), (iv x191), (iv x192), (iv x193), (sv x194), (bv x195), (sv x196), (iv x197), (sv x198), (Sl.v x199)]) sizeOf89 rfl rfl rfl z263) ?_
 rintro _ H261 e262
 replace h := h H261 e262
 refine ⟨SC_of ⟨nofun, trivial⟩, ?_⟩
 refine pv (v := (bv false)) rfl rfl (fun _ => av rfl) (HPlan.done (nt (HW.ret ?_)))
 obtain ⟨x264, x265, x266, x267, x268, x269, x270, x271, x272, x273, x274, x275, x276, x277, x278, x279, x280, x281, x282, x283, x284, c285, h⟩ := h
 exact ⟨_, resOf2 rfl (Res1.n [(iv x264), (iv x265), (iv x266), (iv x267), (iv x268), (sv x269), (bv x270), (sv x271), (iv x272), (sv x273), (Sl.v x274), (iv x275), (iv x276), (iv x277), (iv x278), (sv x279), (bv x280), (sv x281), (iv x282), (sv x283), (Sl.v x284)] isAgg89 sizeOf89 rfl c285) Res1.t, ⟨x264, x265, x266, x267, x268, x269, x270, x271, x272, x273, x274, x275, x276, x277, x278, x279, x280, x281, x282, x283, x284, false, rfl, h⟩⟩

def F39_3 (Q : Int → Hp → Prop) (y61 : (Option Addr)) (H_3 : Hp) : Prop :=
∃ a104 : Addr, y61 = some a104 ∧ (
 ∃ x107 : Sl, cell H_3 a104 = some (Sl.v x107) ∧ (
 Q (IntKind.i64.wrap (((x107).n : Int) - 1)) H_3))
def F39_1 (Q : Int → Hp → Prop) (y3 : (Option Addr)) (y4 : Addr) (H_1 : Hp) : Prop :=
∃ a62 : Addr, y3 = some a62 ∧ (
 ∃ x65 : Sl, cell H_1 a62 = some (Sl.v x65) ∧ (
 ∃ (x67 x68 x69 x70 : Int) (x71 : ByteArray) (x72 : Bool) (x73 : ByteArray) (x74 : Int) (x75 : ByteArray) (x76 : Sl), cells H_1 y4 (eR x67 x68 x69 x70 x71 x72 x73 x74 x75 x76) 0 ∧ (
 ∀ H77 : Hp, H77 = Array.push H_1 (.cells zR.toArray 41) → (
 cells H77 y4 (eR x67 x68 x69 x70 x71 x72 x73 x74 x75 x76) 0 ∧ cell H77 a62 = some (Sl.v x65) ∧ (
 AppendF H77 41 10 120 zR.toArray x65 ((Sl.mk (some (bk H_1)) 1 1)).b ((Sl.mk (some (bk H_1)) 1 1)).n (fun (r83 : Sl) (H81 : Hp) => 
 ∃ a84 : Addr, (r83).b = some a84 ∧ (0 : Int) ≤ ((x65).n : Int) ∧ ((x65).n : Int) < ((r83).n : Int) ∧ (
 ∃ a88 : Addr, y3 = some a88 ∧ (
 (mayw H81 (Addr.add a84 (((x65).n : Int).toNat * 10)) 10 0 ∧ ∀ H90 : Hp, H90 = sets H81 (Addr.add a84 (((x65).n : Int).toNat * 10)) (eR x67 x68 x69 x70 x71 x72 x73 x74 x75 x76) 0 → (
 (cell H90 a88).isSome = true ∧ frz H90 a88 = false ∧ ∀ H93 : Hp, H93 = setc H90 a88 (Sl.v r83) → (
 F39_3 Q y3 H93))) ∧
 ((cell H81 a88).isSome = true ∧ frz H81 a88 = false ∧ ∀ H97 : Hp, H97 = setc H81 a88 (Sl.v r83) → (
 mayw H97 (Addr.add a84 (((x65).n : Int).toNat * 10)) 10 0 ∧ ∀ H101 : Hp, H101 = sets H97 (Addr.add a84 (((x65).n : Int).toNat * 10)) (eR x67 x68 x69 x70 x71 x72 x73 x74 x75 x76) 0 → (
 F39_3 Q y3 H101)))))))))))
def F39_L2b (Q X2 : Int → Hp → Prop) (y10 : (Option Addr)) (y11 : Addr) (y12 : Sl) (y13 y9 : Int) (H_2 : Hp) : Prop :=
((decide (y9 < y13)) = true → (∃ a15 : Addr, (y12).b = some a15 ∧ (0 : Int) ≤ y9 ∧ y9 < ((y12).n : Int) ∧ (
 ∃ (x20 x21 x22 x23 : Int) (x24 : ByteArray) (x25 : Bool) (x26 : ByteArray) (x27 : Int) (x28 : ByteArray) (x29 : Sl), cells H_2 (Addr.add a15 (y9.toNat * 10)) (eR x20 x21 x22 x23 x24 x25 x26 x27 x28 x29) 0 ∧ (
 ∀ H30 : Hp, H30 = Array.push H_2 (.cells zR.toArray 41) → (
 mayw H30 (bk H_2) 10 0 ∧ ∀ H32 : Hp, H32 = sets H30 (bk H_2) (eR x20 x21 x22 x23 x24 x25 x26 x27 x28 x29) 0 → (
 ∃ (x36 x37 x38 x39 : Int) (x40 : ByteArray) (x41 : Bool) (x42 : ByteArray) (x43 : Int) (x44 : ByteArray) (x45 : Sl), cells H32 (bk H_2) (eR x36 x37 x38 x39 x40 x41 x42 x43 x44 x45) 0 ∧ (
 ∃ (x47 x48 x49 x50 : Int) (x51 : ByteArray) (x52 : Bool) (x53 : ByteArray) (x54 : Int) (x55 : ByteArray) (x56 : Sl), cells H32 y11 (eR x47 x48 x49 x50 x51 x52 x53 x54 x55 x56) 0 ∧ (
 F30 x36 x37 x38 x39 x40 x41 x42 x43 x44 x45 x47 x48 x49 x50 x51 x52 x53 x54 x55 x56 H32 (fun (r59 : Bool) (H57 : Hp) => 
 (r59 = true → (Q y9 H57)) ∧
 (r59 = false → (X2 (IntKind.i64.wrap (y9 + 1)) H57))))))))))) ∧
 ((decide (y9 < y13)) = false → (F39_1 Q y10 y11 H_2))
def F39_L2 (Q : Int → Hp → Prop) (y10 : (Option Addr)) (y11 : Addr) (y12 : Sl) (y13 y9 : Int) (H_2 : Hp) : Prop :=
 ∀ X2 : Int → Hp → Prop, (∀ (y9 : Int) (H_2 : Hp), F39_L2b Q X2 y10 y11 y12 y13 y9 H_2 → X2 y9 H_2) → X2 y9 H_2
def F39 (p0 : (Option Addr)) (p1_0 p1_1 p1_2 p1_3 : Int) (p1_4 : ByteArray) (p1_5 : Bool) (p1_6 : ByteArray) (p1_7 : Int) (p1_8 : ByteArray) (p1_9 : Sl) (H : Hp) (Q : Int → Hp → Prop) : Prop :=
∀ H1 : Hp, H1 = Array.push H (.cells (eR p1_0 p1_1 p1_2 p1_3 p1_4 p1_5 p1_6 p1_7 p1_8 p1_9).toArray 41) → (
 ∃ a5 : Addr, p0 = some a5 ∧ (
 ∃ x8 : Sl, cell H1 a5 = some (Sl.v x8) ∧ (
 F39_L2 Q p0 (bk H) x8 ((x8).n : Int) 0 H1)))
theorem walk39 {w0 : World} {p0 : (Option Addr)} {p1_0 p1_1 p1_2 p1_3 : Int} {p1_4 : ByteArray} {p1_5 : Bool} {p1_6 : ByteArray} {p1_7 : Int} {p1_8 : ByteArray} {p1_9 : Sl} {H : Hp} {Q : Int → Hp → Prop} (h : F39 p0 p1_0 p1_1 p1_2 p1_3 p1_4 p1_5 p1_6 p1_7 p1_8 p1_9 H Q) :
  Good prog w0 39 #[(.pointer p0), (.agg (eR p1_0 p1_1 p1_2 p1_3 p1_4 p1_5 p1_6 p1_7 p1_8 p1_9).toArray)] H (fun v H => ∃ (r0 : Int) , v = (iv r0) ∧ Q r0 H) := by
 unfold F39 at h
 refine Good.enter' (fn := f39) func39 rfl rfl rfl (ws (wr_ (ho rfl (ob (v := (.agg (eR p1_0 p1_1 p1_2 p1_3 p1_4 p1_5 p1_6 p1_7 p1_8 p1_9).toArray)) rfl) ?_)))
 rintro _ H1 ⟨rfl, e2⟩
 replace h := h H1 e2
 refine hv (v := (iv 0)) rfl (av rfl) (hn (nt (wc (fun ρ H_1 => Env.Is ρ [(0, (.pointer p0)), (3, (pp (bk H)))] ∧ F39_1 Q p0 (bk H) H_1) ?_ ?_)))
 ·refine ws (wr_ (hv (v := (.pointer p0)) rfl (mv rfl) ?_))
  obtain ⟨a5, e6, h⟩ := h
  refine hv (v := (pp a5)) rfl (HVal.nilCheck (congrArg Value.pointer e6)) (hv (v := (pp a5)) rfl (HVal.fieldAddr0 runUnderlying66 rfl rfl sizeOf35 rfl) ?_)
  obtain ⟨x8, c7, h⟩ := h
  refine hv (v := (Sl.v x8)) rfl (l1 isAgg35 rfl c7) (hv (v := (iv ((x8).n : Int))) rfl (HVal.len runUnderlying35 rfl) (hv (v := (iv 0)) rfl (mv rfl) ?_))
  refine hn (nt (wb (HW.loop' (fun L2 hL2 => ?_))))
  obtain ⟨X2, hX2⟩ : ∃ X2 : Int → Hp → Prop, ∀ (y9 : Int) (H_2 : Hp), X2 y9 H_2 ↔ ∀ ρ, Env.Is ρ [(0, (.pointer p0)), (3, (pp (bk H))), (10, (Sl.v x8)), (11, (iv ((x8).n : Int))), (12, (iv y9))] → L2 ρ H_2 := ⟨_, fun _ _ => Iff.rfl⟩
  refine (hX2 _ _).1 (h X2 ?_) _ ?_
  rotate_left
  ·exact (isp rfl)
  clear h
  intro y9 H_2 h
  refine (hX2 _ _).2 fun ρ hI => ?_
  obtain ⟨ρ0, rfl⟩ := hI.ex
  clear hI; unfold F39_L2b at h; refine hL2 _ _ ?_
  refine ws (wr_ (hv (v := (bv (decide (y9 < ((x8).n : Int))))) rfl (HVal.lss rfl rfl) (hn (nt (ws ?_)))))
  obtain ⟨hT, hF⟩ := h
  refine wk (decide (y9 < ((x8).n : Int))) rfl (fun hb14 => ?_) (fun hb14 => ?_)
  ·have h := hT hb14
   refine wp_ (nt (ws (wb (ws (wr_ (hv (v := (iv y9)) rfl (mv rfl) ?_))))))
   obtain ⟨a15, e16, b17, b18, h⟩ := h
   refine hv (v := (pp (Addr.add a15 (y9.toNat * 10)))) rfl (ia runUnderlying35 sizeOf41 (Sl.v_some rfl e16) rfl b17 b18) ?_
   obtain ⟨x20, x21, x22, x23, x24, x25, x26, x27, x28, x29, c19, h⟩ := h
   refine hv (v := (.agg (eR x20 x21 x22 x23 x24 x25 x26 x27 x28 x29).toArray)) rfl (ln (eR x20 x21 x22 x23 x24 x25 x26 x27 x28 x29) isAgg41 sizeOf41 rfl c19) ?_
   refine ho rfl (HOp.alloc zeroValue41) ?_
   rintro _ H30 ⟨rfl, e31⟩
   replace h := h H30 e31
   refine hv (v := (iv y9)) rfl (av rfl) ?_
   obtain ⟨z34, h⟩ := h
   refine hq (HOp.storeN' (l := (eR x20 x21 x22 x23 x24 x25 x26 x27 x28 x29)) sizeOf41 rfl rfl rfl z34) ?_
   rintro _ H32 e33
   replace h := h H32 e33
   refine hn (nt (ws (wr_ ?_)))
   obtain ⟨x36, x37, x38, x39, x40, x41, x42, x43, x44, x45, c35, h⟩ := h
   refine hv (v := (.agg (eR x36 x37 x38 x39 x40 x41 x42 x43 x44 x45).toArray)) rfl (ln (eR x36 x37 x38 x39 x40 x41 x42 x43 x44 x45) isAgg41 sizeOf41 rfl c35) ?_
   obtain ⟨x47, x48, x49, x50, x51, x52, x53, x54, x55, x56, c46, h⟩ := h
   refine hv (v := (.agg (eR x47 x48 x49 x50 x51 x52 x53 x54 x55 x56).toArray)) rfl (ln (eR x47 x48 x49 x50 x51 x52 x53 x54 x55 x56) isAgg41 sizeOf41 rfl c46) ?_
   refine ho rfl (HOp.call' 30 [(.agg (eR x36 x37 x38 x39 x40 x41 x42 x43 x44 x45).toArray), (.agg (eR x47 x48 x49 x50 x51 x52 x53 x54 x55 x56).toArray)] (cap := []) rfl rfl call30 (walk30 h)) ?_
   rintro _ H57 ⟨r59, rfl, h⟩
   refine hn (nt ?_)
   obtain ⟨hT, hF⟩ := h
   refine wk r59 rfl (fun hb60 => ?_) (fun hb60 => ?_)
   ·have h := hT hb60
    refine ws (wr_ (hv (v := (iv y9)) rfl (mv rfl) (hv (v := (iv y9)) rfl (av rfl) (hn (nt (HW.ret (br ?_)))))))
    refine tr (tr (br (tr ?_)))
    exact ⟨_, resOf1 rfl Res1.t, ⟨y9, rfl, h⟩⟩
   have h := hF hb60
   refine wp_ (nb (nt (wr_ (hv (v := (iv (IntKind.i64.wrap (y9 + 1)))) rfl (HVal.add rfl rfl) (hv (v := (iv (IntKind.i64.wrap (y9 + 1)))) rfl (mv rfl) ?_)))))
   refine hn (nt ?_)
   exact (hX2 _ _).1 h _ (isp rfl)
  have h := hF hb14
  refine we (te (te (be (nt ?_))))
  exact ⟨(isp rfl), h⟩
 rintro ρ H_1 ⟨hI, h⟩
 obtain ⟨ρ0, rfl⟩ := hI.ex
 clear hI; unfold F39_1 at h
 refine wc (fun ρ H_3 => Env.Is ρ [(0, (.pointer p0))] ∧ F39_3 Q p0 H_3) ?_ ?_
 ·refine HW.draw mixed [(0, some []), (1, some []), (2, some []), (3, some [7, 9, 12]), (4, some [7, 9, 12]), (5, some []), (6, none), (7, none), (8, some []), (10, some []), (11, some []), (13, none), (13, none)] rfl (by kernel_rfl) (by kernel_rfl) ?_
  refine pv (v := (.pointer p0)) rfl rfl (fun _ => mv rfl) ?_
  obtain ⟨a62, e63, h⟩ := h
  refine pv (v := (pp a62)) rfl rfl (fun _ => HVal.nilCheck (congrArg Value.pointer e63)) (pv (v := (pp a62)) rfl rfl (fun _ => HVal.fieldAddr0 runUnderlying66 rfl rfl sizeOf35 rfl) ?_)
  obtain ⟨x65, c64, h⟩ := h
  refine pl (v := (Sl.v x65)) (fun X => cell X a62 = some (Sl.v x65)) rfl rfl (fun _ hX => l1 isAgg35 rfl hX) c64 ?_
  obtain ⟨x67, x68, x69, x70, x71, x72, x73, x74, x75, x76, c66, h⟩ := h
  refine pl (v := (.agg (eR x67 x68 x69 x70 x71 x72 x73 x74 x75 x76).toArray)) (fun X => cells X (bk H) (eR x67 x68 x69 x70 x71 x72 x73 x74 x75 x76) 0) rfl rfl (fun _ hX => ln (eR x67 x68 x69 x70 x71 x72 x73 x74 x75 x76) isAgg41 sizeOf41 rfl hX) c66 ?_
  refine pv (v := (iv ((x65).n : Int))) rfl rfl (fun _ => HVal.len runUnderlying35 rfl) (po rfl rfl (HOp.buildSlice' (zs := zR) (cs := zR) runUnderlying35 sizeOf41 zeroValue41 (by decide) (by kernel_rfl) (by kernel_rfl) (by decide)) ?_)
  rintro _ H77 ⟨rfl, e78⟩
  replace h := h H77 e78
  obtain ⟨s79, s80, h⟩ := h
  refine ⟨SC_of ⟨fun _ => s79, fun _ => s80, trivial⟩, ?_⟩
  refine po rfl rfl (HOp.append (k := 10) (b := 120) runUnderlying35 runUnderlying35 typeInfo41 rfl rfl zeroValue41 rfl rfl h) ?_
  rintro _ H81 ⟨r83, rfl, h⟩
  refine ⟨SC_of ⟨nofun, nofun, trivial⟩, ?_⟩
  obtain ⟨a84, e85, b86, b87, h⟩ := h
  refine pv (v := (pp (Addr.add a84 (((x65).n : Int).toNat * 10)))) rfl rfl (fun _ => ia runUnderlying35 sizeOf41 (Sl.v_some rfl e85) rfl b86 b87) ?_
  obtain ⟨a88, e89, h⟩ := h
  refine pv (v := (pp a88)) rfl rfl (fun _ => HVal.nilCheck (congrArg Value.pointer e89)) (pv (v := (pp a88)) rfl rfl (fun _ => HVal.fieldAddr0 runUnderlying66 rfl rfl sizeOf35 rfl) ?_)
  obtain ⟨hB9, hB12⟩ := h
  refine HPlan.fork2 (i := 9) (j := 12) (by kernel_rfl) ?_ ?_
  ·have h := hB9
   clear hB9 hB12
   obtain ⟨z92, h⟩ := h
   refine HBr.opsn [(12, none)] rfl (by kernel_rfl) (by kernel_rfl) rfl rfl (HOp.storeN' (l := (eR x67 x68 x69 x70 x71 x72 x73 x74 x75 x76)) sizeOf41 rfl rfl rfl z92) ?_
   rintro _ H90 e91
   replace h := h H90 e91
   refine ⟨SC_of ⟨nofun, nofun, trivial⟩, ?_⟩
   obtain ⟨z95, z96, h⟩ := h
   refine pn rfl (HOp.store1 sizeOf35 rfl rfl rfl z95 z96) ?_
   rintro _ H93 e94
   replace h := h H93 e94
   refine ⟨SC_of ⟨nofun, nofun, trivial⟩, ?_⟩
   refine HPlan.done (nt ?_)
   exact ⟨⟨rfl, trivial⟩, h⟩
  have h := hB12
  clear hB9 hB12
  obtain ⟨z99, z100, h⟩ := h
  refine HBr.opsn [(9, none)] rfl (by kernel_rfl) (by kernel_rfl) rfl rfl (HOp.store1 sizeOf35 rfl rfl rfl z99 z100) ?_
  rintro _ H97 e98
  replace h := h H97 e98
  refine ⟨SC_of ⟨nofun, nofun, trivial⟩, ?_⟩
  obtain ⟨z103, h⟩ := h
  refine pn rfl (HOp.storeN' (l := (eR x67 x68 x69 x70 x71 x72 x73 x74 x75 x76)) sizeOf41 rfl rfl rfl z103) ?_
  rintro _ H101 e102
  replace h := h H101 e102
  refine ⟨SC_of ⟨nofun, nofun, trivial⟩, ?_⟩
  refine HPlan.done (nt ?_)
  exact ⟨⟨rfl, trivial⟩, h⟩
 rintro ρ H_3 ⟨hI, h⟩
 obtain ⟨ρ0, rfl⟩ := hI.ex
 clear hI; unfold F39_3 at h
 refine ws (wr_ (hv (v := (.pointer p0)) rfl (mv rfl) ?_))
 obtain ⟨a104, e105, h⟩ := h
 refine hv (v := (pp a104)) rfl (HVal.nilCheck (congrArg Value.pointer e105)) (hv (v := (pp a104)) rfl (HVal.fieldAddr0 runUnderlying66 rfl rfl sizeOf35 rfl) ?_)
 obtain ⟨x107, c106, h⟩ := h
 refine hv (v := (Sl.v x107)) rfl (l1 isAgg35 rfl c106) (hv (v := (iv ((x107).n : Int))) rfl (HVal.len runUnderlying35 rfl) ?_)
 refine hv (v := (iv (IntKind.i64.wrap (((x107).n : Int) - 1)))) rfl (HVal.sub rfl rfl) (hv (v := (iv (IntKind.i64.wrap (((x107).n : Int) - 1)))) rfl (av rfl) ?_)
 refine hn (nt (HW.ret ?_))
 exact ⟨_, resOf1 rfl Res1.t, ⟨(IntKind.i64.wrap (((x107).n : Int) - 1)), rfl, h⟩⟩

def F48_1 (Q : Int → Hp → Prop) (y24 : Int) (H_1 : Hp) : Prop :=
Q y24 H_1
def F48_L2b (Q X2 : Int → Hp → Prop) (y2 : (Option Addr)) (y1 : Int) (H_2 : Hp) : Prop :=
∃ a3 : Addr, y2 = some a3 ∧ (
 ∃ x6 : Sl, cell H_2 a3 = some (Sl.v x6) ∧ (
 ∃ a7 : Addr, (x6).b = some a7 ∧ (0 : Int) ≤ y1 ∧ y1 < ((x6).n : Int) ∧ (
 ∃ x12 : Int, cell H_2 (Addr.add a7 (y1.toNat * 1)) = some (iv x12) ∧ (
 ((decide (x12 ≠ y1)) = true → (∃ a14 : Addr, y2 = some a14 ∧ (
 ∃ x17 : Sl, cell H_2 a14 = some (Sl.v x17) ∧ (
 ∃ a18 : Addr, (x17).b = some a18 ∧ (0 : Int) ≤ y1 ∧ y1 < ((x17).n : Int) ∧ (
 ∃ x23 : Int, cell H_2 (Addr.add a18 (y1.toNat * 1)) = some (iv x23) ∧ (
 X2 x23 H_2)))))) ∧
 ((decide (x12 ≠ y1)) = false → (F48_1 Q y1 H_2))))))
def F48_L2 (Q : Int → Hp → Prop) (y2 : (Option Addr)) (y1 : Int) (H_2 : Hp) : Prop :=
 ∀ X2 : Int → Hp → Prop, (∀ (y1 : Int) (H_2 : Hp), F48_L2b Q X2 y2 y1 H_2 → X2 y1 H_2) → X2 y1 H_2
def F48 (p0 : (Option Addr)) (p1 : Int) (H : Hp) (Q : Int → Hp → Prop) : Prop :=
F48_L2 Q p0 p1 H
theorem walk48 {w0 : World} {p0 : (Option Addr)} {p1 : Int} {H : Hp} {Q : Int → Hp → Prop} (h : F48 p0 p1 H Q) :
  Good prog w0 48 #[(.pointer p0), (iv p1)] H (fun v H => ∃ (r0 : Int) , v = (iv r0) ∧ Q r0 H) := by
 unfold F48 at h
 refine Good.enter' (fn := f48) func48 rfl rfl rfl (ws (wr_ (hv (v := (iv 0)) rfl (av rfl) (hn (nt (wc (fun ρ H_1 => ∃ (y24 : Int), Env.Is ρ [(1, (iv y24))] ∧ F48_1 Q y24 H_1) ?_ ?_))))))
 ·refine wb (HW.loop' (fun L2 hL2 => ?_))
  obtain ⟨X2, hX2⟩ : ∃ X2 : Int → Hp → Prop, ∀ (y1 : Int) (H_2 : Hp), X2 y1 H_2 ↔ ∀ ρ, Env.Is ρ [(0, (.pointer p0)), (1, (iv y1))] → L2 ρ H_2 := ⟨_, fun _ _ => Iff.rfl⟩
  refine (hX2 _ _).1 (h X2 ?_) _ ?_
  rotate_left
  ·exact (isp rfl)
  clear h
  intro y1 H_2 h
  refine (hX2 _ _).2 fun ρ hI => ?_
  obtain ⟨ρ0, rfl⟩ := hI.ex
  clear hI; unfold F48_L2b at h; refine hL2 _ _ ?_
  refine ws (ws (wr_ (hv (v := (.pointer p0)) rfl (mv rfl) ?_)))
  obtain ⟨a3, e4, h⟩ := h
  refine hv (v := (pp a3)) rfl (HVal.nilCheck (congrArg Value.pointer e4)) (hv (v := (pp a3)) rfl (HVal.fieldAddr0 runUnderlying121 rfl rfl sizeOf47 rfl) ?_)
  obtain ⟨x6, c5, h⟩ := h
  refine hv (v := (Sl.v x6)) rfl (l1 isAgg47 rfl c5) (hv (v := (iv y1)) rfl (mv rfl) ?_)
  obtain ⟨a7, e8, b9, b10, h⟩ := h
  refine hv (v := (pp (Addr.add a7 (y1.toNat * 1)))) rfl (ia runUnderlying47 sizeOf3 (Sl.v_some rfl e8) rfl b9 b10) ?_
  obtain ⟨x12, c11, h⟩ := h
  refine hv (v := (iv x12)) rfl (l1 isAgg3 rfl c11) (hv (v := (iv y1)) rfl (mv rfl) (hv (v := (bv (decide (x12 ≠ y1)))) rfl (HVal.neqI rfl rfl) ?_))
  refine hn (nt ?_)
  obtain ⟨hT, hF⟩ := h
  refine wk (decide (x12 ≠ y1)) rfl (fun hb13 => ?_) (fun hb13 => ?_)
  ·have h := hT hb13
   refine wp_ (nt (wb (wr_ (hv (v := (.pointer p0)) rfl (mv rfl) ?_))))
   obtain ⟨a14, e15, h⟩ := h
   refine hv (v := (pp a14)) rfl (HVal.nilCheck (congrArg Value.pointer e15)) (hv (v := (pp a14)) rfl (HVal.fieldAddr0 runUnderlying121 rfl rfl sizeOf47 rfl) ?_)
   obtain ⟨x17, c16, h⟩ := h
   refine hv (v := (Sl.v x17)) rfl (l1 isAgg47 rfl c16) (hv (v := (iv y1)) rfl (mv rfl) ?_)
   obtain ⟨a18, e19, b20, b21, h⟩ := h
   refine hv (v := (pp (Addr.add a18 (y1.toNat * 1)))) rfl (ia runUnderlying47 sizeOf3 (Sl.v_some rfl e19) rfl b20 b21) ?_
   obtain ⟨x23, c22, h⟩ := h
   refine hv (v := (iv x23)) rfl (l1 isAgg3 rfl c22) (hv (v := (iv x23)) rfl (av rfl) (hn (nb (nt ?_))))
   exact (hX2 _ _).1 h _ (isp rfl)
  have h := hF hb13
  refine we (te (te (be (nt ?_))))
  exact ⟨y1, ⟨rfl, trivial⟩, h⟩
 rintro ρ H_1 ⟨y24, hI, h⟩
 obtain ⟨ρ0, rfl⟩ := hI.ex
 clear hI; unfold F48_1 at h
 refine ws (wr_ (hv (v := (iv y24)) rfl (mv rfl) (hv (v := (iv y24)) rfl (av rfl) (hn (nt (HW.ret ?_))))))
 exact ⟨_, resOf1 rfl Res1.t, ⟨y24, rfl, h⟩⟩

def F56_1 (Q : (Option Addr) → Hp → Prop) (y3 : Addr) (H_1 : Hp) : Prop :=
Q (some y3) H_1
def F56_L2b (Q : (Option Addr) → Hp → Prop) (X2 : Int → Hp → Prop) (y5 : Addr) (y6 y4 : Int) (H_2 : Hp) : Prop :=
((decide (y4 < y6)) = true → (∃ x9 : Sl, cell H_2 y5 = some (Sl.v x9) ∧ (
 ∀ H10 : Hp, H10 = Array.push H_2 (.cells #[(iv y4)] 3) → (
 AppendF H10 3 1 8 #[(iv 0)] x9 ((Sl.mk (some (bk H_2)) 1 1)).b ((Sl.mk (some (bk H_2)) 1 1)).n (fun (r14 : Sl) (H12 : Hp) => 
 (cell H12 y5).isSome = true ∧ frz H12 y5 = false ∧ ∀ H15 : Hp, H15 = setc H12 y5 (Sl.v r14) → (
 X2 (IntKind.i64.wrap (y4 + 1)) H15)))))) ∧
 ((decide (y4 < y6)) = false → (F56_1 Q y5 H_2))
def F56_L2 (Q : (Option Addr) → Hp → Prop) (y5 : Addr) (y6 y4 : Int) (H_2 : Hp) : Prop :=
 ∀ X2 : Int → Hp → Prop, (∀ (y4 : Int) (H_2 : Hp), F56_L2b Q X2 y5 y6 y4 H_2 → X2 y4 H_2) → X2 y4 H_2
def F56 (p0 : Int) (H : Hp) (Q : (Option Addr) → Hp → Prop) : Prop :=
∀ H1 : Hp, H1 = Array.push H (.cells #[sN] 121) → (
 F56_L2 Q (bk H) p0 0 H1)
theorem walk56 {w0 : World} {p0 : Int} {H : Hp} {Q : (Option Addr) → Hp → Prop} (h : F56 p0 H Q) :
  Good prog w0 56 #[(iv p0)] H (fun v H => ∃ (r0 : (Option Addr)) , v = (.pointer r0) ∧ Q r0 H) := by
 unfold F56 at h
 refine Good.enter' (fn := f56) func56 rfl rfl rfl (ws (wr_ (hv (v := (.pointer none)) rfl (av rfl) (hn (nt ?_)))))
 refine ws (wr_ (hv (v := (.agg #[sN])) rfl (HVal.build' (cs := [sN]) runUnderlying121 zeroValue121 places121 rfl) (ho rfl (ob (v := (.agg #[sN])) rfl) ?_)))
 rintro _ H1 ⟨rfl, e2⟩
 replace h := h H1 e2
 refine hv (v := (pp (bk H))) rfl (av rfl) (hn (nt (wc (fun ρ H_1 => Env.Is ρ [(3, (pp (bk H)))] ∧ F56_1 Q (bk H) H_1) ?_ ?_)))
 ·refine ws (wr_ (hv (v := (iv p0)) rfl (mv rfl) (hv (v := (iv 0)) rfl (mv rfl) (hn (nt (wb (HW.loop' (fun L2 hL2 => ?_))))))))
  obtain ⟨X2, hX2⟩ : ∃ X2 : Int → Hp → Prop, ∀ (y4 : Int) (H_2 : Hp), X2 y4 H_2 ↔ ∀ ρ, Env.Is ρ [(3, (pp (bk H))), (7, (iv p0)), (8, (iv y4))] → L2 ρ H_2 := ⟨_, fun _ _ => Iff.rfl⟩
  refine (hX2 _ _).1 (h X2 ?_) _ ?_
  rotate_left
  ·exact (isp rfl)
  clear h
  intro y4 H_2 h
  refine (hX2 _ _).2 fun ρ hI => ?_
  obtain ⟨ρ0, rfl⟩ := hI.ex
  clear hI; unfold F56_L2b at h; refine hL2 _ _ ?_
  refine ws (wr_ (hv (v := (bv (decide (y4 < p0)))) rfl (HVal.lss rfl rfl) (hn (nt (ws ?_)))))
  obtain ⟨hT, hF⟩ := h
  refine wk (decide (y4 < p0)) rfl (fun hb7 => ?_) (fun hb7 => ?_)
  ·have h := hT hb7
   refine wp_ (nt (ws (wb (ws (wr_ (hv (v := (iv y4)) rfl (mv rfl) (hv (v := (iv y4)) rfl (av rfl) ?_)))))))
   refine hn (nt (wr_ (hv (v := (pp (bk H))) rfl (mv rfl) (hv (v := (pp (bk H))) rfl (mv rfl) ?_))))
   refine hv (v := (pp (bk H))) rfl (HVal.nilCheck rfl) (hv (v := (pp (bk H))) rfl (HVal.fieldAddr0 runUnderlying121 rfl rfl sizeOf47 rfl) ?_)
   obtain ⟨x9, c8, h⟩ := h
   refine hv (v := (Sl.v x9)) rfl (l1 isAgg47 rfl c8) (hv (v := (iv y4)) rfl (mv rfl) (ho rfl (HOp.buildSlice' (zs := [(iv 0)]) (cs := [(iv y4)]) runUnderlying47 sizeOf3 zeroValue3 (by decide) (by kernel_rfl) rfl (by decide)) ?_))
   rintro _ H10 ⟨rfl, e11⟩
   replace h := h H10 e11
   refine ho rfl (HOp.append (k := 1) (b := 8) runUnderlying47 runUnderlying47 typeInfo3 rfl rfl zeroValue3 rfl rfl h) ?_
   rintro _ H12 ⟨r14, rfl, h⟩
   refine hv (v := (pp (bk H))) rfl (HVal.nilCheck rfl) (hv (v := (pp (bk H))) rfl (HVal.fieldAddr0 runUnderlying121 rfl rfl sizeOf47 rfl) ?_)
   obtain ⟨z17, z18, h⟩ := h
   refine hq (HOp.store1 sizeOf47 rfl rfl rfl z17 z18) ?_
   rintro _ H15 e16
   replace h := h H15 e16
   refine hn (nb (nt (wr_ (hv (v := (iv (IntKind.i64.wrap (y4 + 1)))) rfl (HVal.add rfl rfl) (hv (v := (iv (IntKind.i64.wrap (y4 + 1)))) rfl (mv rfl) ?_)))))
   refine hn (nt ?_)
   exact (hX2 _ _).1 h _ (isp rfl)
  have h := hF hb7
  refine we (te (te (be (nt ?_))))
  exact ⟨⟨rfl, trivial⟩, h⟩
 rintro ρ H_1 ⟨hI, h⟩
 obtain ⟨ρ0, rfl⟩ := hI.ex
 clear hI; unfold F56_1 at h
 refine ws (wr_ (hv (v := (pp (bk H))) rfl (mv rfl) (hv (v := (pp (bk H))) rfl (av rfl) ?_)))
 refine hn (nt (HW.ret ?_))
 exact ⟨_, resOf1 rfl Res1.t, ⟨(some (bk H)), rfl, h⟩⟩

def F57 (p0 : (Option Addr)) (p1 p2 : Int) (H : Hp) (Q : Hp → Prop) : Prop :=
F48 p0 p1 H (fun (r3 : Int) (H1 : Hp) => 
 F48 p0 p2 H1 (fun (r6 : Int) (H4 : Hp) => 
 ∃ a7 : Addr, p0 = some a7 ∧ (
 ∃ x10 : Sl, cell H4 a7 = some (Sl.v x10) ∧ (
 ∃ a11 : Addr, (x10).b = some a11 ∧ (0 : Int) ≤ (if r3 < r6 then r6 else r3) ∧ (if r3 < r6 then r6 else r3) < ((x10).n : Int) ∧ (
 (cell H4 (Addr.add a11 ((if r3 < r6 then r6 else r3).toNat * 1))).isSome = true ∧ frz H4 (Addr.add a11 ((if r3 < r6 then r6 else r3).toNat * 1)) = false ∧ ∀ H15 : Hp, H15 = setc H4 (Addr.add a11 ((if r3 < r6 then r6 else r3).toNat * 1)) (iv (if r6 < r3 then r6 else r3)) → (
 Q H15))))))
theorem walk57 {w0 : World} {p0 : (Option Addr)} {p1 p2 : Int} {H : Hp} {Q : Hp → Prop} (h : F57 p0 p1 p2 H Q) :
  Good prog w0 57 #[(.pointer p0), (iv p1), (iv p2)] H (fun v H => v = (.tuple #[]) ∧ Q H) := by
 unfold F57 at h
 refine Good.enter' (fn := f57) func57 rfl rfl rfl (ws (wr_ (hv (v := (.pointer p0)) rfl (mv rfl) (hv (v := (iv p1)) rfl (mv rfl) ?_))))
 refine ho rfl (HOp.call' 48 [(.pointer p0), (iv p1)] (cap := []) rfl rfl call48 (walk48 h)) ?_
 rintro _ H1 ⟨r3, rfl, h⟩
 refine hv (v := (.pointer p0)) rfl (mv rfl) (hv (v := (iv p2)) rfl (mv rfl) (ho rfl (HOp.call' 48 [(.pointer p0), (iv p2)] (cap := []) rfl rfl call48 (walk48 h)) ?_))
 rintro _ H4 ⟨r6, rfl, h⟩
 refine hv (v := (iv r3)) rfl (av rfl) (hv (v := (iv r6)) rfl (av rfl) (hn (nt (wr_ (hv (v := (.pointer p0)) rfl (mv rfl) ?_)))))
 obtain ⟨a7, e8, h⟩ := h
 refine hv (v := (pp a7)) rfl (HVal.nilCheck (congrArg Value.pointer e8)) (hv (v := (pp a7)) rfl (HVal.fieldAddr0 runUnderlying121 rfl rfl sizeOf47 rfl) ?_)
 obtain ⟨x10, c9, h⟩ := h
 refine hv (v := (Sl.v x10)) rfl (l1 isAgg47 rfl c9) (hv (v := (iv r3)) rfl (mv rfl) (hv (v := (iv r6)) rfl (mv rfl) ?_))
 refine hv (v := (iv (if r3 < r6 then r6 else r3))) rfl (HVal.max rfl rfl) (hv (v := (iv r3)) rfl (mv rfl) (hv (v := (iv r6)) rfl (mv rfl) ?_))
 refine hv (v := (iv (if r6 < r3 then r6 else r3))) rfl (HVal.min rfl rfl) ?_
 obtain ⟨a11, e12, b13, b14, h⟩ := h
 refine hv (v := (pp (Addr.add a11 ((if r3 < r6 then r6 else r3).toNat * 1)))) rfl (ia runUnderlying47 sizeOf3 (Sl.v_some rfl e12) rfl b13 b14) ?_
 obtain ⟨z17, z18, h⟩ := h
 refine hq (HOp.store1 sizeOf3 rfl rfl rfl z17 z18) ?_
 rintro _ H15 e16
 replace h := h H15 e16
 refine hn ?_
 exact ⟨_, resOf0 rfl , ⟨rfl, h⟩⟩

def F42_11 (Q : Hp → Prop) (X10 : Int → Hp → Prop) (y186 : (Option Addr)) (y187 : Sl) (y188 y189 : Int) (H_11 : Hp) : Prop :=
X10 (IntKind.i64.wrap (y189 + 1)) H_11
def F42_13 (Q : Hp → Prop) (X10 X12 : Int → Hp → Prop) (y212 : (Option Addr)) (y213 : Sl) (y214 y215 : Int) (y216 : Sl) (y217 y218 : Int) (H_13 : Hp) : Prop :=
X12 (IntKind.i64.wrap (y218 + 1)) H_13
def F42_L12b (Q : Hp → Prop) (X10 X12 : Int → Hp → Prop) (y205 : (Option Addr)) (y206 : Sl) (y207 y208 : Int) (y209 : Sl) (y210 y204 : Int) (H_12 : Hp) : Prop :=
((decide (y204 < y210)) = true → (∃ a219 : Addr, (y209).b = some a219 ∧ (0 : Int) ≤ y204 ∧ y204 < ((y209).n : Int) ∧ (
 ∃ (x224 x225 x226 : Int) (x227 : Bool) (x228 x229 : Int) (x230 : ByteArray) (x231 : Bool), cells H_12 (Addr.add a219 (y204.toNat * 8)) (lR x224 x225 x226 x227 x228 x229 x230 x231) 0 ∧ (
 ∀ H232 : Hp, H232 = Array.push H_12 (.cells (lR 0 0 0 false 0 0 bE false).toArray 80) → (
 mayw H232 (bk H_12) 8 0 ∧ ∀ H234 : Hp, H234 = sets H232 (bk H_12) (lR x224 x225 x226 x227 x228 x229 x230 x231) 0 → (
 ∃ x238 : Bool, cell H234 (Addr.add (bk H_12) 3) = some (bv x238) ∧ (
 ((!x238) = true → (∃ a240 : Addr, y205 = some a240 ∧ (
 ∃ x243 : Sl, cell H234 (Addr.add a240 3) = some (Sl.v x243) ∧ (
 ∃ a244 : Addr, y205 = some a244 ∧ (
 ∃ x247 : (Option Addr), cell H234 (Addr.add a244 2) = some (.pointer x247) ∧ (
 ∃ x249 : Int, cell H234 (Addr.add (bk H_12) 1) = some (iv x249) ∧ (
 ∃ x251 : Int, cell H234 (Addr.add (bk H_12) 4) = some (iv x251) ∧ (
 (0 : Int) ≤ x251 ∧ (
 F48 x247 x249 H234 (fun (r255 : Int) (H253 : Hp) => 
 cell H253 (Addr.add (bk H_12) 4) = some (iv x251) ∧ cell H253 (Addr.add a240 3) = some (Sl.v x243) ∧ (
 ∃ a258 : Addr, (x243).b = some a258 ∧ (0 : Int) ≤ r255 ∧ r255 < ((x243).n : Int) ∧ (
 ∃ x263 : Int, cell H253 (Addr.add a258 (r255.toNat * 1)) = some (iv x263) ∧ (
 ∃ a264 : Addr, (x243).b = some a264 ∧ (0 : Int) ≤ r255 ∧ r255 < ((x243).n : Int) ∧ (
 (cell H253 (Addr.add a264 (r255.toNat * 1))).isSome = true ∧ frz H253 (Addr.add a264 (r255.toNat * 1)) = false ∧ ∀ H268 : Hp, H268 = setc H253 (Addr.add a264 (r255.toNat * 1)) (iv (orB .i64 x263 (shlB .i64 1 x251))) → (
 F42_13 Q X10 X12 y205 y206 y207 y208 y209 y210 y204 H268))))))))))))))) ∧
 ((!x238) = false → (F42_13 Q X10 X12 y205 y206 y207 y208 y209 y210 y204 H234))))))))) ∧
 ((decide (y204 < y210)) = false → (F42_11 Q X10 y205 y206 y207 y208 H_12))
def F42_L12 (Q : Hp → Prop) (X10 : Int → Hp → Prop) (y205 : (Option Addr)) (y206 : Sl) (y207 y208 : Int) (y209 : Sl) (y210 y204 : Int) (H_12 : Hp) : Prop :=
 ∀ X12 : Int → Hp → Prop, (∀ (y204 : Int) (H_12 : Hp), F42_L12b Q X10 X12 y205 y206 y207 y208 y209 y210 y204 H_12 → X12 y204 H_12) → X12 y204 H_12
def F42_L10b (Q : Hp → Prop) (X10 : Int → Hp → Prop) (y182 : (Option Addr)) (y183 : Sl) (y184 y181 : Int) (H_10 : Hp) : Prop :=
((decide (y181 < y184)) = true → (∃ a190 : Addr, (y183).b = some a190 ∧ (0 : Int) ≤ y181 ∧ y181 < ((y183).n : Int) ∧ (
 ∃ (x195 : Sl) (x196 : Bool), cells H_10 (Addr.add a190 (y181.toNat * 2)) [(Sl.v x195), (bv x196)] 0 ∧ (
 ∀ H197 : Hp, H197 = Array.push H_10 (.cells #[sN, (bv false)] 68) → (
 mayw H197 (bk H_10) 2 0 ∧ ∀ H199 : Hp, H199 = sets H197 (bk H_10) [(Sl.v x195), (bv x196)] 0 → (
 ∃ x203 : Sl, cell H199 (bk H_10) = some (Sl.v x203) ∧ (
 F42_L12 Q X10 y182 y183 y184 y181 x203 ((x203).n : Int) 0 H199))))))) ∧
 ((decide (y181 < y184)) = false → (Q H_10))
def F42_L10 (Q : Hp → Prop) (y182 : (Option Addr)) (y183 : Sl) (y184 y181 : Int) (H_10 : Hp) : Prop :=
 ∀ X10 : Int → Hp → Prop, (∀ (y181 : Int) (H_10 : Hp), F42_L10b Q X10 y182 y183 y184 y181 H_10 → X10 y181 H_10) → X10 y181 H_10
def F42_6 (Q : Hp → Prop) (y104 : (Option Addr)) (H_6 : Hp) : Prop :=
∃ a177 : Addr, y104 = some a177 ∧ (
 ∃ x180 : Sl, cell H_6 (Addr.add a177 1) = some (Sl.v x180) ∧ (
 F42_L10 Q y104 x180 ((x180).n : Int) 0 H_6))
def F42_8 (Q : Hp → Prop) (X7 : Int → Hp → Prop) (y114 : (Option Addr)) (y115 : Sl) (y116 y117 : Int) (H_8 : Hp) : Prop :=
X7 (IntKind.i64.wrap (y117 + 1)) H_8
def F42_9 (Q : Hp → Prop) (X7 : Int → Hp → Prop) (y138 : (Option Addr)) (y139 : Int) (y140 : Sl) (y141 y142 : Int) (y147 : Bool) (H_9 : Hp) : Prop :=
(y147 = true → (∃ a151 : Addr, y138 = some a151 ∧ (
 ∃ x154 : Sl, cell H_9 (Addr.add a151 3) = some (Sl.v x154) ∧ (
 ∃ a155 : Addr, y138 = some a155 ∧ (
 ∃ x158 : (Option Addr), cell H_9 (Addr.add a155 2) = some (.pointer x158) ∧ (
 F48 x158 y139 H_9 (fun (r161 : Int) (H159 : Hp) => 
 cell H159 (Addr.add a151 3) = some (Sl.v x154) ∧ (
 ∃ a163 : Addr, (x154).b = some a163 ∧ (0 : Int) ≤ r161 ∧ r161 < ((x154).n : Int) ∧ (
 ∃ x168 : Int, cell H159 (Addr.add a163 (r161.toNat * 1)) = some (iv x168) ∧ (
 ∃ a169 : Addr, (x154).b = some a169 ∧ (0 : Int) ≤ r161 ∧ r161 < ((x154).n : Int) ∧ (
 (cell H159 (Addr.add a169 (r161.toNat * 1))).isSome = true ∧ frz H159 (Addr.add a169 (r161.toNat * 1)) = false ∧ ∀ H173 : Hp, H173 = setc H159 (Addr.add a169 (r161.toNat * 1)) (iv (orB .i64 x168 2)) → (
 F42_8 Q X7 y138 y140 y141 y142 H173)))))))))))) ∧
 (y147 = false → (F42_8 Q X7 y138 y140 y141 y142 H_9))
def F42_L7b (Q : Hp → Prop) (X7 : Int → Hp → Prop) (y110 : (Option Addr)) (y111 : Sl) (y112 y109 : Int) (H_7 : Hp) : Prop :=
((decide (y109 < y112)) = true → (∃ a118 : Addr, (y111).b = some a118 ∧ (0 : Int) ≤ y109 ∧ y109 < ((y111).n : Int) ∧ (
 ∃ (x123 x124 x125 x126 : Int) (x127 : ByteArray) (x128 : Bool) (x129 : ByteArray) (x130 : Int) (x131 : ByteArray) (x132 : Sl), cells H_7 (Addr.add a118 (y109.toNat * 10)) (eR x123 x124 x125 x126 x127 x128 x129 x130 x131 x132) 0 ∧ (
 ∀ H133 : Hp, H133 = Array.push H_7 (.cells zR.toArray 41) → (
 mayw H133 (bk H_7) 10 0 ∧ ∀ H135 : Hp, H135 = sets H133 (bk H_7) (eR x123 x124 x125 x126 x127 x128 x129 x130 x131 x132) 0 → (
 ∃ x144 : Int, cell H135 (bk H_7) = some (iv x144) ∧ (
 ((decide (x144 = 3)) = true → (F42_9 Q X7 y110 y109 y111 y112 y109 true H135)) ∧
 ((decide (x144 = 3)) = false → (∃ x149 : ByteArray, cell H135 (Addr.add (bk H_7) 8) = some (sv x149) ∧ (
 F42_9 Q X7 y110 y109 y111 y112 y109 (seq x149 S_time) H135)))))))))) ∧
 ((decide (y109 < y112)) = false → (F42_6 Q y110 H_7))
def F42_L7 (Q : Hp → Prop) (y110 : (Option Addr)) (y111 : Sl) (y112 y109 : Int) (H_7 : Hp) : Prop :=
 ∀ X7 : Int → Hp → Prop, (∀ (y109 : Int) (H_7 : Hp), F42_L7b Q X7 y110 y111 y112 y109 H_7 → X7 y109 H_7) → X7 y109 H_7
def F42_1 (Q : Hp → Prop) (y14 : (Option Addr)) (H_1 : Hp) : Prop :=
∃ a88 : Addr, y14 = some a88 ∧ (
 ∃ x91 : Sl, cell H_1 a88 = some (Sl.v x91) ∧ (
 (0 : Int) ≤ ((x91).n : Int) ∧ ((x91).n : Int) ≤ ((x91).n : Int) ∧ (8 : Nat) * ((x91).n : Int) ≤ 140737488355328 ∧ ((x91).n : Int) ≤ 9223372036854775807 ∧ ∀ H92 : Hp, H92 = Array.push H_1 (.cells (made #[(iv 0)] ((x91).n : Int).toNat) 3) → (
 ∃ a98 : Addr, y14 = some a98 ∧ (
 (cell H92 (Addr.add a98 3)).isSome = true ∧ frz H92 (Addr.add a98 3) = false ∧ ∀ H100 : Hp, H100 = setc H92 (Addr.add a98 3) (Sl.v (Sl.mk (some (bk H_1)) ((x91).n : Int).toNat ((x91).n : Int).toNat)) → (
 ∃ a105 : Addr, y14 = some a105 ∧ (
 ∃ x108 : Sl, cell H100 a105 = some (Sl.v x108) ∧ (
 F42_L7 Q y14 x108 ((x108).n : Int) 0 H100)))))))
def F42_3 (Q : Hp → Prop) (X2 : Int → Hp → Prop) (y24 : (Option Addr)) (y25 : Sl) (y26 y27 : Int) (H_3 : Hp) : Prop :=
X2 (IntKind.i64.wrap (y27 + 1)) H_3
def F42_5 (Q : Hp → Prop) (X2 X4 : Int → Hp → Prop) (y50 : (Option Addr)) (y51 : Sl) (y52 y53 : Int) (y54 : Sl) (y55 y56 : Int) (H_5 : Hp) : Prop :=
X4 (IntKind.i64.wrap (y56 + 1)) H_5
def F42_L4b (Q : Hp → Prop) (X2 X4 : Int → Hp → Prop) (y43 : (Option Addr)) (y44 : Sl) (y45 y46 : Int) (y47 : Sl) (y48 y42 : Int) (H_4 : Hp) : Prop :=
((decide (y42 < y48)) = true → (∃ a57 : Addr, (y47).b = some a57 ∧ (0 : Int) ≤ y42 ∧ y42 < ((y47).n : Int) ∧ (
 ∃ (x62 x63 x64 : Int) (x65 : Bool) (x66 x67 : Int) (x68 : ByteArray) (x69 : Bool), cells H_4 (Addr.add a57 (y42.toNat * 8)) (lR x62 x63 x64 x65 x66 x67 x68 x69) 0 ∧ (
 ∀ H70 : Hp, H70 = Array.push H_4 (.cells (lR 0 0 0 false 0 0 bE false).toArray 80) → (
 mayw H70 (bk H_4) 8 0 ∧ ∀ H72 : Hp, H72 = sets H70 (bk H_4) (lR x62 x63 x64 x65 x66 x67 x68 x69) 0 → (
 ∃ x76 : Bool, cell H72 (Addr.add (bk H_4) 3) = some (bv x76) ∧ (
 (x76 = true → (∃ a78 : Addr, y43 = some a78 ∧ (
 ∃ x81 : (Option Addr), cell H72 (Addr.add a78 2) = some (.pointer x81) ∧ (
 ∃ x83 : Int, cell H72 (Addr.add (bk H_4) 1) = some (iv x83) ∧ (
 ∃ x85 : Int, cell H72 (Addr.add (bk H_4) 2) = some (iv x85) ∧ (
 F57 x81 x83 x85 H72 (fun (H86 : Hp) => 
 F42_5 Q X2 X4 y43 y44 y45 y46 y47 y48 y42 H86))))))) ∧
 (x76 = false → (F42_5 Q X2 X4 y43 y44 y45 y46 y47 y48 y42 H72))))))))) ∧
 ((decide (y42 < y48)) = false → (F42_3 Q X2 y43 y44 y45 y46 H_4))
def F42_L4 (Q : Hp → Prop) (X2 : Int → Hp → Prop) (y43 : (Option Addr)) (y44 : Sl) (y45 y46 : Int) (y47 : Sl) (y48 y42 : Int) (H_4 : Hp) : Prop :=
 ∀ X4 : Int → Hp → Prop, (∀ (y42 : Int) (H_4 : Hp), F42_L4b Q X2 X4 y43 y44 y45 y46 y47 y48 y42 H_4 → X4 y42 H_4) → X4 y42 H_4
def F42_L2b (Q : Hp → Prop) (X2 : Int → Hp → Prop) (y20 : (Option Addr)) (y21 : Sl) (y22 y19 : Int) (H_2 : Hp) : Prop :=
((decide (y19 < y22)) = true → (∃ a28 : Addr, (y21).b = some a28 ∧ (0 : Int) ≤ y19 ∧ y19 < ((y21).n : Int) ∧ (
 ∃ (x33 : Sl) (x34 : Bool), cells H_2 (Addr.add a28 (y19.toNat * 2)) [(Sl.v x33), (bv x34)] 0 ∧ (
 ∀ H35 : Hp, H35 = Array.push H_2 (.cells #[sN, (bv false)] 68) → (
 mayw H35 (bk H_2) 2 0 ∧ ∀ H37 : Hp, H37 = sets H35 (bk H_2) [(Sl.v x33), (bv x34)] 0 → (
 ∃ x41 : Sl, cell H37 (bk H_2) = some (Sl.v x41) ∧ (
 F42_L4 Q X2 y20 y21 y22 y19 x41 ((x41).n : Int) 0 H37))))))) ∧
 ((decide (y19 < y22)) = false → (F42_1 Q y20 H_2))
def F42_L2 (Q : Hp → Prop) (y20 : (Option Addr)) (y21 : Sl) (y22 y19 : Int) (H_2 : Hp) : Prop :=
 ∀ X2 : Int → Hp → Prop, (∀ (y19 : Int) (H_2 : Hp), F42_L2b Q X2 y20 y21 y22 y19 H_2 → X2 y19 H_2) → X2 y19 H_2
def F42 (p0 : (Option Addr)) (H : Hp) (Q : Hp → Prop) : Prop :=
∃ a1 : Addr, p0 = some a1 ∧ (
 ∃ x4 : Sl, cell H a1 = some (Sl.v x4) ∧ (
 F56 ((x4).n : Int) H (fun (r7 : (Option Addr)) (H5 : Hp) => 
 ∃ a8 : Addr, p0 = some a8 ∧ (
 (cell H5 (Addr.add a8 2)).isSome = true ∧ frz H5 (Addr.add a8 2) = false ∧ ∀ H10 : Hp, H10 = setc H5 (Addr.add a8 2) (.pointer r7) → (
 ∃ a15 : Addr, p0 = some a15 ∧ (
 ∃ x18 : Sl, cell H10 (Addr.add a15 1) = some (Sl.v x18) ∧ (
 F42_L2 Q p0 x18 ((x18).n : Int) 0 H10)))))))
theorem walk42 {w0 : World} {p0 : (Option Addr)} {H : Hp} {Q : Hp → Prop} (h : F42 p0 H Q) :
  Good prog w0 42 #[(.pointer p0)] H (fun v H => v = (.tuple #[]) ∧ Q H) := by
 unfold F42 at h
 refine Good.enter' (fn := f42) func42 rfl rfl rfl (ws (wr_ (hv (v := (.pointer p0)) rfl (mv rfl) (hv (v := (.pointer p0)) rfl (mv rfl) ?_))))
 obtain ⟨a1, e2, h⟩ := h
 refine hv (v := (pp a1)) rfl (HVal.nilCheck (congrArg Value.pointer e2)) (hv (v := (pp a1)) rfl (HVal.fieldAddr0 runUnderlying66 rfl rfl sizeOf35 rfl) ?_)
 obtain ⟨x4, c3, h⟩ := h
 refine hv (v := (Sl.v x4)) rfl (l1 isAgg35 rfl c3) (hv (v := (iv ((x4).n : Int))) rfl (HVal.len runUnderlying35 rfl) (ho rfl (HOp.call' 56 [(iv ((x4).n : Int))] (cap := []) rfl rfl call56 (walk56 h)) ?_))
 rintro _ H5 ⟨r7, rfl, h⟩
 obtain ⟨a8, e9, h⟩ := h
 refine hv (v := (pp a8)) rfl (HVal.nilCheck (congrArg Value.pointer e9)) (hv (v := (pp (Addr.add a8 2))) rfl (fa runUnderlying66 rfl rfl sizeOf64 rfl) ?_)
 obtain ⟨z12, z13, h⟩ := h
 refine hq (HOp.store1 sizeOf64 rfl rfl rfl z12 z13) ?_
 rintro _ H10 e11
 replace h := h H10 e11
 refine hn (nt (wc (fun ρ H_1 => Env.Is ρ [(0, (.pointer p0))] ∧ F42_1 Q p0 H_1) ?_ ?_))
 ·refine ws (wr_ (hv (v := (.pointer p0)) rfl (mv rfl) ?_))
  obtain ⟨a15, e16, h⟩ := h
  refine hv (v := (pp a15)) rfl (HVal.nilCheck (congrArg Value.pointer e16)) (hv (v := (pp (Addr.add a15 1))) rfl (fa runUnderlying66 rfl rfl sizeOf63 rfl) ?_)
  obtain ⟨x18, c17, h⟩ := h
  refine hv (v := (Sl.v x18)) rfl (l1 isAgg63 rfl c17) (hv (v := (iv ((x18).n : Int))) rfl (HVal.len runUnderlying63 rfl) (hv (v := (iv 0)) rfl (mv rfl) ?_))
  refine hn (nt (wb (HW.loop' (fun L2 hL2 => ?_))))
  obtain ⟨X2, hX2⟩ : ∃ X2 : Int → Hp → Prop, ∀ (y19 : Int) (H_2 : Hp), X2 y19 H_2 ↔ ∀ ρ, Env.Is ρ [(0, (.pointer p0)), (24, (Sl.v x18)), (25, (iv ((x18).n : Int))), (26, (iv y19))] → L2 ρ H_2 := ⟨_, fun _ _ => Iff.rfl⟩
  refine (hX2 _ _).1 (h X2 ?_) _ ?_
  rotate_left
  ·exact (isp rfl)
  clear h
  intro y19 H_2 h
  refine (hX2 _ _).2 fun ρ hI => ?_
  obtain ⟨ρ0, rfl⟩ := hI.ex
  clear hI; unfold F42_L2b at h; refine hL2 _ _ ?_
  refine ws (wr_ (hv (v := (bv (decide (y19 < ((x18).n : Int))))) rfl (HVal.lss rfl rfl) (hn (nt (ws ?_)))))
  obtain ⟨hT, hF⟩ := h
  refine wk (decide (y19 < ((x18).n : Int))) rfl (fun hb23 => ?_) (fun hb23 => ?_)
  ·have h := hT hb23
   refine wp_ (nt (wc (fun ρ H_3 => Env.Is ρ [(0, (.pointer p0)), (24, (Sl.v x18)), (25, (iv ((x18).n : Int))), (26, (iv y19))] ∧ F42_3 Q X2 p0 x18 ((x18).n : Int) y19 H_3) ?_ ?_))
   ·refine wb (ws (wr_ ?_))
    obtain ⟨a28, e29, b30, b31, h⟩ := h
    refine hv (v := (pp (Addr.add a28 (y19.toNat * 2)))) rfl (ia runUnderlying63 sizeOf68 (Sl.v_some rfl e29) rfl b30 b31) ?_
    obtain ⟨x33, x34, c32, h⟩ := h
    refine hv (v := (.agg #[(Sl.v x33), (bv x34)])) rfl (ln [(Sl.v x33), (bv x34)] isAgg68 sizeOf68 rfl c32) (ho rfl (HOp.alloc zeroValue68) ?_)
    rintro _ H35 ⟨rfl, e36⟩
    replace h := h H35 e36
    obtain ⟨z39, h⟩ := h
    refine hq (HOp.storeN' (l := [(Sl.v x33), (bv x34)]) sizeOf68 rfl rfl rfl z39) ?_
    rintro _ H37 e38
    replace h := h H37 e38
    refine hn (nt (ws (wr_ (hv (v := (pp (bk H_2))) rfl (HVal.fieldAddr0 runUnderlying68 rfl rfl sizeOf62 rfl) ?_))))
    obtain ⟨x41, c40, h⟩ := h
    refine hv (v := (Sl.v x41)) rfl (l1 isAgg62 rfl c40) (hv (v := (iv ((x41).n : Int))) rfl (HVal.len runUnderlying62 rfl) ?_)
    refine hv (v := (iv 0)) rfl (mv rfl) (hn (nt (wb (HW.loop' (fun L4 hL4 => ?_)))))
    obtain ⟨X4, hX4⟩ : ∃ X4 : Int → Hp → Prop, ∀ (y42 : Int) (H_4 : Hp), X4 y42 H_4 ↔ ∀ ρ, Env.Is ρ [(0, (.pointer p0)), (24, (Sl.v x18)), (25, (iv ((x18).n : Int))), (26, (iv y19)), (31, (Sl.v x41)), (32, (iv ((x41).n : Int))), (33, (iv y42))] → L4 ρ H_4 := ⟨_, fun _ _ => Iff.rfl⟩
    refine (hX4 _ _).1 (h X4 ?_) _ ?_
    rotate_left
    ·exact (isp rfl)
    clear h
    intro y42 H_4 h
    refine (hX4 _ _).2 fun ρ hI => ?_
    obtain ⟨ρ0, rfl⟩ := hI.ex
    clear hI; unfold F42_L4b at h; refine hL4 _ _ ?_
    refine ws (wr_ (hv (v := (bv (decide (y42 < ((x41).n : Int))))) rfl (HVal.lss rfl rfl) (hn (nt (ws ?_)))))
    obtain ⟨hT, hF⟩ := h
    refine wk (decide (y42 < ((x41).n : Int))) rfl (fun hb49 => ?_) (fun hb49 => ?_)
    ·have h := hT hb49
     refine wp_ (nt (wc (fun ρ H_5 => Env.Is ρ [(0, (.pointer p0)), (24, (Sl.v x18)), (25, (iv ((x18).n : Int))), (26, (iv y19)), (31, (Sl.v x41)), (32, (iv ((x41).n : Int))), (33, (iv y42))] ∧ F42_5 Q X2 X4 p0 x18 ((x18).n : Int) y19 x41 ((x41).n : Int) y42 H_5) ?_ ?_))
     ·refine wb (ws (wr_ ?_))
      obtain ⟨a57, e58, b59, b60, h⟩ := h
      refine hv (v := (pp (Addr.add a57 (y42.toNat * 8)))) rfl (ia runUnderlying62 sizeOf80 (Sl.v_some rfl e58) rfl b59 b60) ?_
      obtain ⟨x62, x63, x64, x65, x66, x67, x68, x69, c61, h⟩ := h
      refine hv (v := (.agg (lR x62 x63 x64 x65 x66 x67 x68 x69).toArray)) rfl (ln (lR x62 x63 x64 x65 x66 x67 x68 x69) isAgg80 sizeOf80 rfl c61) ?_
      refine ho rfl (HOp.alloc zeroValue80) ?_
      rintro _ H70 ⟨rfl, e71⟩
      replace h := h H70 e71
      obtain ⟨z74, h⟩ := h
      refine hq (HOp.storeN' (l := (lR x62 x63 x64 x65 x66 x67 x68 x69)) sizeOf80 rfl rfl rfl z74) ?_
      rintro _ H72 e73
      replace h := h H72 e73
      refine hn (nt (ws (wr_ (hv (v := (pp (Addr.add (bk H_4) 3))) rfl (fa runUnderlying80 rfl rfl sizeOf4 rfl) ?_))))
      obtain ⟨x76, c75, h⟩ := h
      refine hv (v := (bv x76)) rfl (l1 isAgg4 rfl c75) (hn (nt ?_))
      obtain ⟨hT, hF⟩ := h
      refine wk x76 rfl (fun hb77 => ?_) (fun hb77 => ?_)
      ·have h := hT hb77
       refine HW.draw mixed [(0, some []), (1, some []), (2, some []), (3, some [8]), (4, some []), (5, some [8]), (6, some []), (7, some [8]), (8, none)] rfl (by kernel_rfl) (by kernel_rfl) ?_
       refine pv (v := (.pointer p0)) rfl rfl (fun _ => mv rfl) ?_
       obtain ⟨a78, e79, h⟩ := h
       refine pv (v := (pp a78)) rfl rfl (fun _ => HVal.nilCheck (congrArg Value.pointer e79)) (pv (v := (pp (Addr.add a78 2))) rfl rfl (fun _ => fa runUnderlying66 rfl rfl sizeOf64 rfl) ?_)
       obtain ⟨x81, c80, h⟩ := h
       refine pl (v := (.pointer x81)) (fun X => cell X (Addr.add a78 2) = some (.pointer x81)) rfl rfl (fun _ hX => l1 isAgg64 rfl hX) c80 ?_
       refine pv (v := (pp (Addr.add (bk H_4) 1))) rfl rfl (fun _ => fa runUnderlying80 rfl rfl sizeOf3 rfl) ?_
       obtain ⟨x83, c82, h⟩ := h
       refine pl (v := (iv x83)) (fun X => cell X (Addr.add (bk H_4) 1) = some (iv x83)) rfl rfl (fun _ hX => l1 isAgg3 rfl hX) c82 (pv (v := (pp (Addr.add (bk H_4) 2))) rfl rfl (fun _ => fa runUnderlying80 rfl rfl sizeOf3 rfl) ?_)
       obtain ⟨x85, c84, h⟩ := h
       refine pl (v := (iv x85)) (fun X => cell X (Addr.add (bk H_4) 2) = some (iv x85)) rfl rfl (fun _ hX => l1 isAgg3 rfl hX) c84 (po rfl rfl (HOp.call' 57 [(.pointer x81), (iv x83), (iv x85)] (cap := []) rfl rfl call57 (walk57 h)) ?_)
       rintro _ H86 ⟨rfl, h⟩
       refine ⟨SC_of ⟨nofun, nofun, nofun, trivial⟩, ?_⟩
       refine HPlan.done (nb (nt ?_))
       exact ⟨(isp rfl), h⟩
      have h := hF hb77
      refine wp_ (nb (nt ?_))
      exact ⟨(isp rfl), h⟩
     rintro ρ H_5 ⟨hI, h⟩
     obtain ⟨ρ0, rfl⟩ := hI.ex
     clear hI; unfold F42_5 at h
     refine wr_ (hv (v := (iv (IntKind.i64.wrap (y42 + 1)))) rfl (HVal.add rfl rfl) (hv (v := (iv (IntKind.i64.wrap (y42 + 1)))) rfl (mv rfl) ?_))
     refine hn (nt ?_)
     exact (hX4 _ _).1 h _ (isp rfl)
    have h := hF hb49
    refine we (te (te (be (nb (nt ?_)))))
    exact ⟨(isp rfl), h⟩
   rintro ρ H_3 ⟨hI, h⟩
   obtain ⟨ρ0, rfl⟩ := hI.ex
   clear hI; unfold F42_3 at h
   refine wr_ (hv (v := (iv (IntKind.i64.wrap (y19 + 1)))) rfl (HVal.add rfl rfl) (hv (v := (iv (IntKind.i64.wrap (y19 + 1)))) rfl (mv rfl) ?_))
   refine hn (nt ?_)
   exact (hX2 _ _).1 h _ (isp rfl)
  have h := hF hb23
  refine we (te (te (be (nt ?_))))
  exact ⟨⟨rfl, trivial⟩, h⟩
 rintro ρ H_1 ⟨hI, h⟩
 obtain ⟨ρ0, rfl⟩ := hI.ex
 clear hI; unfold F42_1 at h
 refine ws (wr_ (hv (v := (.pointer p0)) rfl (mv rfl) (hv (v := (.pointer p0)) rfl (mv rfl) ?_)))
 obtain ⟨a88, e89, h⟩ := h
 refine hv (v := (pp a88)) rfl (HVal.nilCheck (congrArg Value.pointer e89)) (hv (v := (pp a88)) rfl (HVal.fieldAddr0 runUnderlying66 rfl rfl sizeOf35 rfl) ?_)
 obtain ⟨x91, c90, h⟩ := h
 refine hv (v := (Sl.v x91)) rfl (l1 isAgg35 rfl c90) (hv (v := (iv ((x91).n : Int))) rfl (HVal.len runUnderlying35 rfl) ?_)
 obtain ⟨z94, z95, z96, z97, h⟩ := h
 refine ho rfl (HOp.makeSlice' (b := 8) runUnderlying47 typeInfo3 rfl zeroValue3 sizeOf3 rfl rfl z94 z95 z96 z97) ?_
 rintro _ H92 ⟨rfl, e93⟩
 replace h := h H92 e93
 obtain ⟨a98, e99, h⟩ := h
 refine hv (v := (pp a98)) rfl (HVal.nilCheck (congrArg Value.pointer e99)) (hv (v := (pp (Addr.add a98 3))) rfl (fa runUnderlying66 rfl rfl sizeOf47 rfl) ?_)
 obtain ⟨z102, z103, h⟩ := h
 refine hq (HOp.store1 sizeOf47 rfl rfl rfl z102 z103) ?_
 rintro _ H100 e101
 replace h := h H100 e101
 refine hn (nt (wc (fun ρ H_6 => Env.Is ρ [(0, (.pointer p0))] ∧ F42_6 Q p0 H_6) ?_ ?_))
 ·refine ws (wr_ (hv (v := (.pointer p0)) rfl (mv rfl) ?_))
  obtain ⟨a105, e106, h⟩ := h
  refine hv (v := (pp a105)) rfl (HVal.nilCheck (congrArg Value.pointer e106)) (hv (v := (pp a105)) rfl (HVal.fieldAddr0 runUnderlying66 rfl rfl sizeOf35 rfl) ?_)
  obtain ⟨x108, c107, h⟩ := h
  refine hv (v := (Sl.v x108)) rfl (l1 isAgg35 rfl c107) (hv (v := (iv ((x108).n : Int))) rfl (HVal.len runUnderlying35 rfl) ?_)
  refine hv (v := (iv 0)) rfl (mv rfl) (hn (nt (wb (HW.loop' (fun L7 hL7 => ?_)))))
  obtain ⟨X7, hX7⟩ : ∃ X7 : Int → Hp → Prop, ∀ (y109 : Int) (H_7 : Hp), X7 y109 H_7 ↔ ∀ ρ, Env.Is ρ [(0, (.pointer p0)), (62, (Sl.v x108)), (63, (iv ((x108).n : Int))), (64, (iv y109))] → L7 ρ H_7 := ⟨_, fun _ _ => Iff.rfl⟩
  refine (hX7 _ _).1 (h X7 ?_) _ ?_
  rotate_left
  ·exact (isp rfl)
  clear h
  intro y109 H_7 h
  refine (hX7 _ _).2 fun ρ hI => ?_
  obtain ⟨ρ0, rfl⟩ := hI.ex
  clear hI; unfold F42_L7b at h; refine hL7 _ _ ?_
  refine ws (wr_ (hv (v := (bv (decide (y109 < ((x108).n : Int))))) rfl (HVal.lss rfl rfl) (hn (nt (ws ?_)))))
  obtain ⟨hT, hF⟩ := h
  refine wk (decide (y109 < ((x108).n : Int))) rfl (fun hb113 => ?_) (fun hb113 => ?_)
  ·have h := hT hb113
   refine wp_ (nt (wc (fun ρ H_8 => Env.Is ρ [(0, (.pointer p0)), (62, (Sl.v x108)), (63, (iv ((x108).n : Int))), (64, (iv y109))] ∧ F42_8 Q X7 p0 x108 ((x108).n : Int) y109 H_8) ?_ ?_))
   ·refine wb (ws (wr_ (hv (v := (iv y109)) rfl (mv rfl) ?_)))
    obtain ⟨a118, e119, b120, b121, h⟩ := h
    refine hv (v := (pp (Addr.add a118 (y109.toNat * 10)))) rfl (ia runUnderlying35 sizeOf41 (Sl.v_some rfl e119) rfl b120 b121) ?_
    obtain ⟨x123, x124, x125, x126, x127, x128, x129, x130, x131, x132, c122, h⟩ := h
    refine hv (v := (.agg (eR x123 x124 x125 x126 x127 x128 x129 x130 x131 x132).toArray)) rfl (ln (eR x123 x124 x125 x126 x127 x128 x129 x130 x131 x132) isAgg41 sizeOf41 rfl c122) ?_
    refine ho rfl (HOp.alloc zeroValue41) ?_
    rintro _ H133 ⟨rfl, e134⟩
    replace h := h H133 e134
    refine hv (v := (iv y109)) rfl (av rfl) ?_
    obtain ⟨z137, h⟩ := h
    refine hq (HOp.storeN' (l := (eR x123 x124 x125 x126 x127 x128 x129 x130 x131 x132)) sizeOf41 rfl rfl rfl z137) ?_
    rintro _ H135 e136
    replace h := h H135 e136
    refine hn (nt (wc (fun ρ H_9 => ∃ (y147 : Bool), Env.Is ρ [(0, (.pointer p0)), (6, (iv y109)), (62, (Sl.v x108)), (63, (iv ((x108).n : Int))), (64, (iv y109)), (76, (bv y147))] ∧ F42_9 Q X7 p0 y109 x108 ((x108).n : Int) y109 y147 H_9) ?_ ?_))
    ·refine wr_ (hv (v := (pp (bk H_7))) rfl (HVal.fieldAddr0 runUnderlying41 rfl rfl sizeOf3 rfl) ?_)
     obtain ⟨x144, c143, h⟩ := h
     refine hv (v := (iv x144)) rfl (l1 isAgg3 rfl c143) (hv (v := (bv (decide (x144 = 3)))) rfl (HVal.eqlI rfl rfl) (hv (v := (bv (decide (x144 = 3)))) rfl (mv rfl) ?_))
     obtain ⟨hT, hF⟩ := h
     rcases Bool.eq_false_or_eq_true (decide (x144 = 3)) with hb145 | hb146
     ·have h := hT hb145
      refine hs_ rfl rfl rfl rfl (cB hb145) (hs_ rfl rfl rfl rfl (cB hb145) (hs_ rfl rfl rfl rfl (cB hb145) (hv (v := (bv true)) rfl (pt_ rfl hb145 rfl) ?_)))
      refine hn (nt ?_)
      exact ⟨true, (isp rfl), h⟩
     have h := hF hb146
     refine hg (v := (pp (Addr.add (bk H_7) 8))) rfl rfl rfl rfl (cB hb146) (fa runUnderlying41 rfl rfl sizeOf9 rfl) ?_
     obtain ⟨x149, c148, h⟩ := h
     refine hg (v := (sv x149)) rfl rfl rfl rfl (cB hb146) (l1 isAgg9 rfl c148) (hg (v := (bv (seq x149 S_time))) rfl rfl rfl rfl (cB hb146) (HVal.eqlS rfl rfl) ?_)
     refine hv (v := (bv (seq x149 S_time))) rfl (pf_ rfl hb146 rfl) (hn (nt ?_))
     exact ⟨(seq x149 S_time), (isp rfl), h⟩
    rintro ρ H_9 ⟨y147, hI, h⟩
    obtain ⟨ρ0, rfl⟩ := hI.ex
    clear hI; unfold F42_9 at h
    obtain ⟨hT, hF⟩ := h
    refine wk y147 rfl (fun hb150 => ?_) (fun hb150 => ?_)
    ·have h := hT hb150
     refine HW.draw mixed [(0, some []), (1, some []), (2, some []), (3, some [14]), (4, some []), (5, some []), (6, some []), (7, some [9, 14]), (8, some []), (9, none), (10, some []), (11, some [14]), (12, some []), (13, some []), (14, none)] rfl (by kernel_rfl) (by kernel_rfl) ?_
     refine pv (v := (.pointer p0)) rfl rfl (fun _ => mv rfl) ?_
     obtain ⟨a151, e152, h⟩ := h
     refine pv (v := (pp a151)) rfl rfl (fun _ => HVal.nilCheck (congrArg Value.pointer e152)) (pv (v := (pp (Addr.add a151 3))) rfl rfl (fun _ => fa runUnderlying66 rfl rfl sizeOf47 rfl) ?_)
     obtain ⟨x154, c153, h⟩ := h
     refine pl (v := (Sl.v x154)) (fun X => cell X (Addr.add a151 3) = some (Sl.v x154)) rfl rfl (fun _ hX => l1 isAgg47 rfl hX) c153 (pv (v := (.pointer p0)) rfl rfl (fun _ => mv rfl) ?_)
     obtain ⟨a155, e156, h⟩ := h
     refine pv (v := (pp a155)) rfl rfl (fun _ => HVal.nilCheck (congrArg Value.pointer e156)) (pv (v := (pp (Addr.add a155 2))) rfl rfl (fun _ => fa runUnderlying66 rfl rfl sizeOf64 rfl) ?_)
     obtain ⟨x158, c157, h⟩ := h
     refine pl (v := (.pointer x158)) (fun X => cell X (Addr.add a155 2) = some (.pointer x158)) rfl rfl (fun _ hX => l1 isAgg64 rfl hX) c157 ?_
     refine pv (v := (iv y109)) rfl rfl (fun _ => mv rfl) (po rfl rfl (HOp.call' 48 [(.pointer x158), (iv y109)] (cap := []) rfl rfl call48 (walk48 h)) ?_)
     rintro _ H159 ⟨r161, rfl, h⟩
     obtain ⟨s162, h⟩ := h
     refine ⟨SC_of ⟨nofun, fun _ => s162, trivial⟩, ?_⟩
     obtain ⟨a163, e164, b165, b166, h⟩ := h
     refine pv (v := (pp (Addr.add a163 (r161.toNat * 1)))) rfl rfl (fun _ => ia runUnderlying47 sizeOf3 (Sl.v_some rfl e164) rfl b165 b166) ?_
     obtain ⟨x168, c167, h⟩ := h
     refine pl (v := (iv x168)) (fun X => cell X (Addr.add a163 (r161.toNat * 1)) = some (iv x168)) rfl rfl (fun _ hX => l1 isAgg3 rfl hX) c167 ?_
     refine pv (v := (iv (orB .i64 x168 2))) rfl rfl (fun _ => HVal.or rfl rfl) ?_
     obtain ⟨a169, e170, b171, b172, h⟩ := h
     refine pv (v := (pp (Addr.add a169 (r161.toNat * 1)))) rfl rfl (fun _ => ia runUnderlying47 sizeOf3 (Sl.v_some rfl e170) rfl b171 b172) ?_
     obtain ⟨z175, z176, h⟩ := h
     refine pn rfl (HOp.store1 sizeOf3 rfl rfl rfl z175 z176) ?_
     rintro _ H173 e174
     replace h := h H173 e174
     refine ⟨SC_of ⟨nofun, nofun, nofun, trivial⟩, ?_⟩
     refine HPlan.done (nb (nt ?_))
     exact ⟨(isp rfl), h⟩
    have h := hF hb150
    refine wp_ (nb (nt ?_))
    exact ⟨(isp rfl), h⟩
   rintro ρ H_8 ⟨hI, h⟩
   obtain ⟨ρ0, rfl⟩ := hI.ex
   clear hI; unfold F42_8 at h
   refine wr_ (hv (v := (iv (IntKind.i64.wrap (y109 + 1)))) rfl (HVal.add rfl rfl) (hv (v := (iv (IntKind.i64.wrap (y109 + 1)))) rfl (mv rfl) ?_))
   refine hn (nt ?_)
   exact (hX7 _ _).1 h _ (isp rfl)
  have h := hF hb113
  refine we (te (te (be (nt ?_))))
  exact ⟨⟨rfl, trivial⟩, h⟩
 rintro ρ H_6 ⟨hI, h⟩
 obtain ⟨ρ0, rfl⟩ := hI.ex
 clear hI; unfold F42_6 at h
 refine ws (wr_ (hv (v := (.pointer p0)) rfl (mv rfl) ?_))
 obtain ⟨a177, e178, h⟩ := h
 refine hv (v := (pp a177)) rfl (HVal.nilCheck (congrArg Value.pointer e178)) (hv (v := (pp (Addr.add a177 1))) rfl (fa runUnderlying66 rfl rfl sizeOf63 rfl) ?_)
 obtain ⟨x180, c179, h⟩ := h
 refine hv (v := (Sl.v x180)) rfl (l1 isAgg63 rfl c179) (hv (v := (iv ((x180).n : Int))) rfl (HVal.len runUnderlying63 rfl) ?_)
 refine hv (v := (iv 0)) rfl (mv rfl) (hn (nt (wb (HW.loop' (fun L10 hL10 => ?_)))))
 obtain ⟨X10, hX10⟩ : ∃ X10 : Int → Hp → Prop, ∀ (y181 : Int) (H_10 : Hp), X10 y181 H_10 ↔ ∀ ρ, Env.Is ρ [(0, (.pointer p0)), (95, (Sl.v x180)), (96, (iv ((x180).n : Int))), (97, (iv y181))] → L10 ρ H_10 := ⟨_, fun _ _ => Iff.rfl⟩
 refine (hX10 _ _).1 (h X10 ?_) _ ?_
 rotate_left
 ·exact (isp rfl)
 clear h
 intro y181 H_10 h
 refine (hX10 _ _).2 fun ρ hI => ?_
 obtain ⟨ρ0, rfl⟩ := hI.ex
 clear hI; unfold F42_L10b at h; refine hL10 _ _ ?_
 refine ws (wr_ (hv (v := (bv (decide (y181 < ((x180).n : Int))))) rfl (HVal.lss rfl rfl) (hn (nt (ws ?_)))))
 obtain ⟨hT, hF⟩ := h
 refine wk (decide (y181 < ((x180).n : Int))) rfl (fun hb185 => ?_) (fun hb185 => ?_)
 ·have h := hT hb185
  refine wp_ (nt (wc (fun ρ H_11 => Env.Is ρ [(0, (.pointer p0)), (95, (Sl.v x180)), (96, (iv ((x180).n : Int))), (97, (iv y181))] ∧ F42_11 Q X10 p0 x180 ((x180).n : Int) y181 H_11) ?_ ?_))
  ·refine wb (ws (wr_ ?_))
   obtain ⟨a190, e191, b192, b193, h⟩ := h
   refine hv (v := (pp (Addr.add a190 (y181.toNat * 2)))) rfl (ia runUnderlying63 sizeOf68 (Sl.v_some rfl e191) rfl b192 b193) ?_
   obtain ⟨x195, x196, c194, h⟩ := h
   refine hv (v := (.agg #[(Sl.v x195), (bv x196)])) rfl (ln [(Sl.v x195), (bv x196)] isAgg68 sizeOf68 rfl c194) (ho rfl (HOp.alloc zeroValue68) ?_)
   rintro _ H197 ⟨rfl, e198⟩
   replace h := h H197 e198
   obtain ⟨z201, h⟩ := h
   refine hq (HOp.storeN' (l := [(Sl.v x195), (bv x196)]) sizeOf68 rfl rfl rfl z201) ?_
   rintro _ H199 e200
   replace h := h H199 e200
   refine hn (nt (ws (wr_ (hv (v := (pp (bk H_10))) rfl (HVal.fieldAddr0 runUnderlying68 rfl rfl sizeOf62 rfl) ?_))))
   obtain ⟨x203, c202, h⟩ := h
   refine hv (v := (Sl.v x203)) rfl (l1 isAgg62 rfl c202) (hv (v := (iv ((x203).n : Int))) rfl (HVal.len runUnderlying62 rfl) ?_)
   refine hv (v := (iv 0)) rfl (mv rfl) (hn (nt (wb (HW.loop' (fun L12 hL12 => ?_)))))
   obtain ⟨X12, hX12⟩ : ∃ X12 : Int → Hp → Prop, ∀ (y204 : Int) (H_12 : Hp), X12 y204 H_12 ↔ ∀ ρ, Env.Is ρ [(0, (.pointer p0)), (95, (Sl.v x180)), (96, (iv ((x180).n : Int))), (97, (iv y181)), (102, (Sl.v x203)), (103, (iv ((x203).n : Int))), (104, (iv y204))] → L12 ρ H_12 := ⟨_, fun _ _ => Iff.rfl⟩
   refine (hX12 _ _).1 (h X12 ?_) _ ?_
   rotate_left
   ·exact (isp rfl)
   clear h
   intro y204 H_12 h
   refine (hX12 _ _).2 fun ρ hI => ?_
   obtain ⟨ρ0, rfl⟩ := hI.ex
   clear hI; unfold F42_L12b at h; refine hL12 _ _ ?_
   refine ws (wr_ (hv (v := (bv (decide (y204 < ((x203).n : Int))))) rfl (HVal.lss rfl rfl) (hn (nt (ws ?_)))))
   obtain ⟨hT, hF⟩ := h
   refine wk (decide (y204 < ((x203).n : Int))) rfl (fun hb211 => ?_) (fun hb211 => ?_)
   ·have h := hT hb211
    refine wp_ (nt (wc (fun ρ H_13 => Env.Is ρ [(0, (.pointer p0)), (95, (Sl.v x180)), (96, (iv ((x180).n : Int))), (97, (iv y181)), (102, (Sl.v x203)), (103, (iv ((x203).n : Int))), (104, (iv y204))] ∧ F42_13 Q X10 X12 p0 x180 ((x180).n : Int) y181 x203 ((x203).n : Int) y204 H_13) ?_ ?_))
    ·refine wb (ws (wr_ ?_))
     obtain ⟨a219, e220, b221, b222, h⟩ := h
     refine hv (v := (pp (Addr.add a219 (y204.toNat * 8)))) rfl (ia runUnderlying62 sizeOf80 (Sl.v_some rfl e220) rfl b221 b222) ?_
     obtain ⟨x224, x225, x226, x227, x228, x229, x230, x231, c223, h⟩ := h
     refine hv (v := (.agg (lR x224 x225 x226 x227 x228 x229 x230 x231).toArray)) rfl (ln (lR x224 x225 x226 x227 x228 x229 x230 x231) isAgg80 sizeOf80 rfl c223) ?_
     refine ho rfl (HOp.alloc zeroValue80) ?_
     rintro _ H232 ⟨rfl, e233⟩
     replace h := h H232 e233
     obtain ⟨z236, h⟩ := h
     refine hq (HOp.storeN' (l := (lR x224 x225 x226 x227 x228 x229 x230 x231)) sizeOf80 rfl rfl rfl z236) ?_
     rintro _ H234 e235
     replace h := h H234 e235
     refine hn (nt (ws (wr_ (hv (v := (pp (Addr.add (bk H_12) 3))) rfl (fa runUnderlying80 rfl rfl sizeOf4 rfl) ?_))))
     obtain ⟨x238, c237, h⟩ := h
     refine hv (v := (bv x238)) rfl (l1 isAgg4 rfl c237) (hv (v := (bv (!x238))) rfl (HVal.not rfl) (hn (nt ?_)))
     obtain ⟨hT, hF⟩ := h
     refine wk (!x238) rfl (fun hb239 => ?_) (fun hb239 => ?_)
     ·have h := hT hb239
      refine HW.draw mixed [(0, some []), (1, some []), (2, some []), (3, some [19]), (4, some []), (5, some []), (6, some []), (7, some [10, 19]), (8, some []), (9, some [10, 19]), (13, some []), (14, some []), (15, some [19]), (16, some []), (10, none), (11, some []), (12, some [19]), (17, some []), (18, some []), (19, none)] rfl (by kernel_rfl) (by kernel_rfl) ?_
      refine pv (v := (.pointer p0)) rfl rfl (fun _ => mv rfl) ?_
      obtain ⟨a240, e241, h⟩ := h
      refine pv (v := (pp a240)) rfl rfl (fun _ => HVal.nilCheck (congrArg Value.pointer e241)) (pv (v := (pp (Addr.add a240 3))) rfl rfl (fun _ => fa runUnderlying66 rfl rfl sizeOf47 rfl) ?_)
      obtain ⟨x243, c242, h⟩ := h
      refine pl (v := (Sl.v x243)) (fun X => cell X (Addr.add a240 3) = some (Sl.v x243)) rfl rfl (fun _ hX => l1 isAgg47 rfl hX) c242 (pv (v := (.pointer p0)) rfl rfl (fun _ => mv rfl) ?_)
      obtain ⟨a244, e245, h⟩ := h
      refine pv (v := (pp a244)) rfl rfl (fun _ => HVal.nilCheck (congrArg Value.pointer e245)) (pv (v := (pp (Addr.add a244 2))) rfl rfl (fun _ => fa runUnderlying66 rfl rfl sizeOf64 rfl) ?_)
      obtain ⟨x247, c246, h⟩ := h
      refine pl (v := (.pointer x247)) (fun X => cell X (Addr.add a244 2) = some (.pointer x247)) rfl rfl (fun _ hX => l1 isAgg64 rfl hX) c246 ?_
      refine pv (v := (pp (Addr.add (bk H_12) 1))) rfl rfl (fun _ => fa runUnderlying80 rfl rfl sizeOf3 rfl) ?_
      obtain ⟨x249, c248, h⟩ := h
      refine pl (v := (iv x249)) (fun X => cell X (Addr.add (bk H_12) 1) = some (iv x249)) rfl rfl (fun _ hX => l1 isAgg3 rfl hX) c248 (pv (v := (pp (Addr.add (bk H_12) 4))) rfl rfl (fun _ => fa runUnderlying80 rfl rfl sizeOf25 rfl) ?_)
      refine pv (v := (pp (Addr.add (bk H_12) 4))) rfl rfl (fun _ => HVal.fieldAddr0 runUnderlying25 rfl rfl sizeOf3 rfl) ?_
      obtain ⟨x251, c250, h⟩ := h
      refine pl (v := (iv x251)) (fun X => cell X (Addr.add (bk H_12) 4) = some (iv x251)) rfl rfl (fun _ hX => l1 isAgg3 rfl hX) c250 ?_
      obtain ⟨z252, h⟩ := h
      refine pv (v := (iv (shlB .i64 1 x251))) rfl rfl (fun _ => HVal.shl rfl rfl z252) (po rfl rfl (HOp.call' 48 [(.pointer x247), (iv x249)] (cap := []) rfl rfl call48 (walk48 h)) ?_)
      rintro _ H253 ⟨r255, rfl, h⟩
      obtain ⟨s256, s257, h⟩ := h
      refine ⟨SC_of ⟨fun _ => s256, nofun, nofun, fun _ => s257, trivial⟩, ?_⟩
      obtain ⟨a258, e259, b260, b261, h⟩ := h
      refine pv (v := (pp (Addr.add a258 (r255.toNat * 1)))) rfl rfl (fun _ => ia runUnderlying47 sizeOf3 (Sl.v_some rfl e259) rfl b260 b261) ?_
      obtain ⟨x263, c262, h⟩ := h
      refine pl (v := (iv x263)) (fun X => cell X (Addr.add a258 (r255.toNat * 1)) = some (iv x263)) rfl rfl (fun _ hX => l1 isAgg3 rfl hX) c262 ?_
      refine pv (v := (iv (orB .i64 x263 (shlB .i64 1 x251)))) rfl rfl (fun _ => HVal.or rfl rfl) ?_
      obtain ⟨a264, e265, b266, b267, h⟩ := h
      refine pv (v := (pp (Addr.add a264 (r255.toNat * 1)))) rfl rfl (fun _ => ia runUnderlying47 sizeOf3 (Sl.v_some rfl e265) rfl b266 b267) ?_
      obtain ⟨z270, z271, h⟩ := h
      refine pn rfl (HOp.store1 sizeOf3 rfl rfl rfl z270 z271) ?_
      rintro _ H268 e269
      replace h := h H268 e269
      refine ⟨SC_of ⟨nofun, nofun, nofun, nofun, nofun, trivial⟩, ?_⟩
      refine HPlan.done (nb (nt ?_))
      exact ⟨(isp rfl), h⟩
     have h := hF hb239
     refine wp_ (nb (nt ?_))
     exact ⟨(isp rfl), h⟩
    rintro ρ H_13 ⟨hI, h⟩
    obtain ⟨ρ0, rfl⟩ := hI.ex
    clear hI; unfold F42_13 at h
    refine wr_ (hv (v := (iv (IntKind.i64.wrap (y204 + 1)))) rfl (HVal.add rfl rfl) (hv (v := (iv (IntKind.i64.wrap (y204 + 1)))) rfl (mv rfl) ?_))
    refine hn (nt ?_)
    exact (hX12 _ _).1 h _ (isp rfl)
   have h := hF hb211
   refine we (te (te (be (nb (nt ?_)))))
   exact ⟨(isp rfl), h⟩
  rintro ρ H_11 ⟨hI, h⟩
  obtain ⟨ρ0, rfl⟩ := hI.ex
  clear hI; unfold F42_11 at h
  refine wr_ (hv (v := (iv (IntKind.i64.wrap (y181 + 1)))) rfl (HVal.add rfl rfl) (hv (v := (iv (IntKind.i64.wrap (y181 + 1)))) rfl (mv rfl) ?_))
  refine hn (nt ?_)
  exact (hX10 _ _).1 h _ (isp rfl)
 have h := hF hb185
 refine we (te (te (be ?_)))
 exact ⟨_, resOf0 rfl , ⟨rfl, h⟩⟩

def F23_1 (Q : (Option Addr) → Hp → Prop) (y3 : Addr) (H_1 : Hp) : Prop :=
F42 (some y3) H_1 (fun (H298 : Hp) => 
 Q (some y3) H298)
def F23_3 (Q : (Option Addr) → Hp → Prop) (X2 : Int → Hp → Prop) (y34 y35 : Addr) (y36 : Sl) (y37 y38 : Int) (H_3 : Hp) : Prop :=
∃ x284 : Sl, cell H_3 (Addr.add y34 1) = some (Sl.v x284) ∧ (
 ∃ (x286 : Sl) (x287 : Bool), cells H_3 y35 [(Sl.v x286), (bv x287)] 0 ∧ (
 ∀ H288 : Hp, H288 = Array.push H_3 (.cells #[(Sl.v x286), (bv x287)] 68) → (
 cell H288 (Addr.add y34 1) = some (Sl.v x284) ∧ (
 AppendF H288 68 2 32 #[sN, (bv false)] x284 ((Sl.mk (some (bk H_3)) 1 1)).b ((Sl.mk (some (bk H_3)) 1 1)).n (fun (r293 : Sl) (H291 : Hp) => 
 (cell H291 (Addr.add y34 1)).isSome = true ∧ frz H291 (Addr.add y34 1) = false ∧ ∀ H294 : Hp, H294 = setc H291 (Addr.add y34 1) (Sl.v r293) → (
 X2 (IntKind.i64.wrap (y38 + 1)) H294))))))
def F23_5 (Q : (Option Addr) → Hp → Prop) (X2 X4 : Int → Hp → Prop) (y62 y63 : Addr) (y64 : Sl) (y65 y66 : Int) (y67 : Sl) (y68 y69 : Int) (H_5 : Hp) : Prop :=
X4 (IntKind.i64.wrap (y69 + 1)) H_5
def F23_7 (Q : (Option Addr) → Hp → Prop) (X2 X4 : Int → Hp → Prop) (y212 y213 y214 : Addr) (y215 : Sl) (y216 y217 : Int) (y218 : Sl) (y219 y220 : Int) (H_7 : Hp) : Prop :=
∃ x264 : Sl, cell H_7 y213 = some (Sl.v x264) ∧ (
 ∃ (x266 x267 x268 : Int) (x269 : Bool) (x270 x271 : Int) (x272 : ByteArray) (x273 : Bool), cells H_7 y214 (lR x266 x267 x268 x269 x270 x271 x272 x273) 0 ∧ (
 ∀ H274 : Hp, H274 = Array.push H_7 (.cells (lR x266 x267 x268 x269 x270 x271 x272 x273).toArray 80) → (
 AppendF H274 80 8 72 (lR 0 0 0 false 0 0 bE false).toArray x264 ((Sl.mk (some (bk H_7)) 1 1)).b ((Sl.mk (some (bk H_7)) 1 1)).n (fun (r278 : Sl) (H276 : Hp) => 
 (cell H276 y213).isSome = true ∧ frz H276 y213 = false ∧ ∀ H279 : Hp, H279 = setc H276 y213 (Sl.v r278) → (
 F23_5 Q X2 X4 y212 y213 y215 y216 y217 y218 y219 y220 H279)))))
def F23_6 (Q : (Option Addr) → Hp → Prop) (X2 X4 : Int → Hp → Prop) (y135 y136 y137 : Addr) (y138 : Sl) (y139 y140 : Int) (y141 : Sl) (y142 y143 : Int) (y183 : Addr) (H_6 : Hp) : Prop :=
∃ x222 : Bool, cell H_6 (Addr.add y183 3) = some (bv x222) ∧ (
 (x222 = true → (∃ (x225 x226 x227 x228 : Int) (x229 : ByteArray) (x230 : Bool) (x231 : ByteArray) (x232 : Int) (x233 : ByteArray) (x234 : Sl), cells H_6 (Addr.add y137 11) (eR x225 x226 x227 x228 x229 x230 x231 x232 x233 x234) 0 ∧ (
 F39 (some y135) x225 x226 x227 x228 x229 x230 x231 x232 x233 x234 H_6 (fun (r237 : Int) (H235 : Hp) => 
 (cell H235 (Addr.add y183 2)).isSome = true ∧ frz H235 (Addr.add y183 2) = false ∧ ∀ H238 : Hp, H238 = setc H235 (Addr.add y183 2) (iv r237) → (
 F23_7 Q X2 X4 y135 y136 y183 y138 y139 y140 y141 y142 y143 H238))))) ∧
 (x222 = false → (∃ (x243 x244 x245 x246 : Int) (x247 : ByteArray) (x248 : Bool) (x249 : ByteArray) (x250 : Int) (x251 : ByteArray) (x252 : Sl), cells H_6 (Addr.add y137 11) (eR x243 x244 x245 x246 x247 x248 x249 x250 x251 x252) 0 ∧ (
 F41 x243 x244 x245 x246 x247 x248 x249 x250 x251 x252 H_6 (fun (r255 r256 : Int) (r257 : ByteArray) (r258 r259 : Bool) (H253 : Hp) => 
 mayw H253 (Addr.add y183 4) 4 0 ∧ ∀ H260 : Hp, H260 = sets H253 (Addr.add y183 4) (vR r255 r256 r257 r258) 0 → (
 F23_7 Q X2 X4 y135 y136 y183 y138 y139 y140 y141 y142 y143 H260))))))
def F23_L4b (Q : (Option Addr) → Hp → Prop) (X2 X4 : Int → Hp → Prop) (y54 y55 : Addr) (y56 : Sl) (y57 y58 : Int) (y59 : Sl) (y60 y53 : Int) (H_4 : Hp) : Prop :=
((decide (y53 < y60)) = true → (∃ a70 : Addr, (y59).b = some a70 ∧ (0 : Int) ≤ y53 ∧ y53 < ((y59).n : Int) ∧ (
 ∃ (x75 x76 x77 x78 : Int) (x79 : ByteArray) (x80 : Bool) (x81 : ByteArray) (x82 : Int) (x83 : ByteArray) (x84 : Sl), cells H_4 (Addr.add a70 (y53.toNat * 10)) (eR x75 x76 x77 x78 x79 x80 x81 x82 x83 x84) 0 ∧ (
 ∀ H85 : Hp, H85 = Array.push H_4 (.cells zR.toArray 41) → (
 mayw H85 (bk H_4) 10 0 ∧ ∀ H87 : Hp, H87 = sets H85 (bk H_4) (eR x75 x76 x77 x78 x79 x80 x81 x82 x83 x84) 0 → (
 ∃ (x91 x92 x93 x94 : Int) (x95 : ByteArray) (x96 : Bool) (x97 : ByteArray) (x98 : Int) (x99 : ByteArray) (x100 : Sl), cells H87 (bk H_4) (eR x91 x92 x93 x94 x95 x96 x97 x98 x99 x100) 0 ∧ (
 F36 x91 x92 x93 x94 x95 x96 x97 x98 x99 x100 H87 (fun (r103 r104 r105 r106 r107 : Int) (r108 : ByteArray) (r109 : Bool) (r110 : ByteArray) (r111 : Int) (r112 : ByteArray) (r113 : Sl) (r114 r115 r116 r117 : Int) (r118 : ByteArray) (r119 : Bool) (r120 : ByteArray) (r121 : Int) (r122 : ByteArray) (r123 : Sl) (r124 : Bool) (H101 : Hp) => 
 ∀ H125 : Hp, H125 = Array.push H101 (.cells #[(iv 0), (iv 0), (iv 0), (iv 0), (iv 0), (sv bE), (bv false), (sv bE), (iv 0), (sv bE), sN, (iv 0), (iv 0), (iv 0), (iv 0), (sv bE), (bv false), (sv bE), (iv 0), (sv bE), sN] 89) → (
 mayw H125 (bk H101) 21 0 ∧ ∀ H127 : Hp, H127 = sets H125 (bk H101) [(iv r103), (iv r104), (iv r105), (iv r106), (iv r107), (sv r108), (bv r109), (sv r110), (iv r111), (sv r112), (Sl.v r113), (iv r114), (iv r115), (iv r116), (iv r117), (sv r118), (bv r119), (sv r120), (iv r121), (sv r122), (Sl.v r123)] 0 → (
 ((!r124) = true → ((cell H127 (Addr.add y55 1)).isSome = true ∧ frz H127 (Addr.add y55 1) = false ∧ ∀ H131 : Hp, H131 = setc H127 (Addr.add y55 1) (bv false) → (
 F23_5 Q X2 X4 y54 y55 y56 y57 y58 y59 y60 y53 H131))) ∧
 ((!r124) = false → (∃ x145 : Int, cell H127 (bk H101) = some (iv x145) ∧ (
 ∃ (x147 x148 x149 x150 : Int) (x151 : ByteArray) (x152 : Bool) (x153 : ByteArray) (x154 : Int) (x155 : ByteArray) (x156 : Sl), cells H127 (Addr.add (bk H101) 1) (eR x147 x148 x149 x150 x151 x152 x153 x154 x155 x156) 0 ∧ (
 ∃ (x158 x159 x160 x161 : Int) (x162 : ByteArray) (x163 : Bool) (x164 : ByteArray) (x165 : Int) (x166 : ByteArray) (x167 : Sl), cells H127 (Addr.add (bk H101) 11) (eR x158 x159 x160 x161 x162 x163 x164 x165 x166 x167) 0 ∧ (
 (F39 (some y54) x147 x148 x149 x150 x151 x152 x153 x154 x155 x156 H127 (fun (r170 : Int) (H168 : Hp) => 
 cells H168 (Addr.add (bk H101) 11) (eR x158 x159 x160 x161 x162 x163 x164 x165 x166 x167) 0 ∧ cell H168 (bk H101) = some (iv x145) ∧ (
 (F40 x158 x159 x160 x161 x162 x163 x164 x165 x166 x167 H168 (fun (r175 : Bool) (H173 : Hp) => 
 cell H173 (bk H101) = some (iv x145) ∧ (
 ∀ H177 : Hp, H177 = Array.push H173 (.cells (lR 0 0 0 false 0 0 bE false).toArray 80) → (
 cell H177 (bk H101) = some (iv x145) ∧ (
 mayw H177 (bk H173) 8 0 ∧ ∀ H180 : Hp, H180 = sets H177 (bk H173) (lR x145 r170 0 r175 0 0 bE false) 0 → (
 F23_6 Q X2 X4 y54 y55 (bk H101) y56 y57 y58 y59 y60 y53 (bk H173) H180)))))) ∧
 (∀ H184 : Hp, H184 = Array.push H168 (.cells (lR 0 0 0 false 0 0 bE false).toArray 80) → (
 cells H184 (Addr.add (bk H101) 11) (eR x158 x159 x160 x161 x162 x163 x164 x165 x166 x167) 0 ∧ cell H184 (bk H101) = some (iv x145) ∧ (
 F40 x158 x159 x160 x161 x162 x163 x164 x165 x166 x167 H184 (fun (r190 : Bool) (H188 : Hp) => 
 cell H188 (bk H101) = some (iv x145) ∧ (
 mayw H188 (bk H168) 8 0 ∧ ∀ H192 : Hp, H192 = sets H188 (bk H168) (lR x145 r170 0 r190 0 0 bE false) 0 → (
 F23_6 Q X2 X4 y54 y55 (bk H101) y56 y57 y58 y59 y60 y53 (bk H168) H192))))))))) ∧
 (∀ H195 : Hp, H195 = Array.push H127 (.cells (lR 0 0 0 false 0 0 bE false).toArray 80) → (
 cells H195 (Addr.add (bk H101) 11) (eR x158 x159 x160 x161 x162 x163 x164 x165 x166 x167) 0 ∧ cells H195 (Addr.add (bk H101) 1) (eR x147 x148 x149 x150 x151 x152 x153 x154 x155 x156) 0 ∧ cell H195 (bk H101) = some (iv x145) ∧ (
 F39 (some y54) x147 x148 x149 x150 x151 x152 x153 x154 x155 x156 H195 (fun (r202 : Int) (H200 : Hp) => 
 cells H200 (Addr.add (bk H101) 11) (eR x158 x159 x160 x161 x162 x163 x164 x165 x166 x167) 0 ∧ cell H200 (bk H101) = some (iv x145) ∧ (
 F40 x158 x159 x160 x161 x162 x163 x164 x165 x166 x167 H200 (fun (r207 : Bool) (H205 : Hp) => 
 cell H205 (bk H101) = some (iv x145) ∧ (
 mayw H205 (bk H127) 8 0 ∧ ∀ H209 : Hp, H209 = sets H205 (bk H127) (lR x145 r202 0 r207 0 0 bE false) 0 → (
 F23_6 Q X2 X4 y54 y55 (bk H101) y56 y57 y58 y59 y60 y53 (bk H127) H209))))))))))))))))))))))) ∧
 ((decide (y53 < y60)) = false → (F23_3 Q X2 y54 y55 y56 y57 y58 H_4))
def F23_L4 (Q : (Option Addr) → Hp → Prop) (X2 : Int → Hp → Prop) (y54 y55 : Addr) (y56 : Sl) (y57 y58 : Int) (y59 : Sl) (y60 y53 : Int) (H_4 : Hp) : Prop :=
 ∀ X4 : Int → Hp → Prop, (∀ (y53 : Int) (H_4 : Hp), F23_L4b Q X2 X4 y54 y55 y56 y57 y58 y59 y60 y53 H_4 → X4 y53 H_4) → X4 y53 H_4
def F23_L2b (Q : (Option Addr) → Hp → Prop) (X2 : Int → Hp → Prop) (y5 : Addr) (y6 : Sl) (y7 y4 : Int) (H_2 : Hp) : Prop :=
((decide (y4 < y7)) = true → (∃ a9 : Addr, (y6).b = some a9 ∧ (0 : Int) ≤ y4 ∧ y4 < ((y6).n : Int) ∧ (
 ∃ (x14 x15 x16 x17 : Int) (x18 : ByteArray) (x19 : Bool) (x20 : ByteArray) (x21 : Int) (x22 : ByteArray) (x23 : Sl), cells H_2 (Addr.add a9 (y4.toNat * 10)) (eR x14 x15 x16 x17 x18 x19 x20 x21 x22 x23) 0 ∧ (
 ∀ H24 : Hp, H24 = Array.push H_2 (.cells zR.toArray 41) → (
 mayw H24 (bk H_2) 10 0 ∧ ∀ H26 : Hp, H26 = sets H24 (bk H_2) (eR x14 x15 x16 x17 x18 x19 x20 x21 x22 x23) 0 → (
 ∀ H29 : Hp, H29 = Array.push H26 (.cells #[sN, (bv false)] 68) → (
 mayw H29 (bk H26) 2 0 ∧ ∀ H31 : Hp, H31 = sets H29 (bk H26) [sN, (bv true)] 0 → (
 ∃ (x40 x41 x42 x43 : Int) (x44 : ByteArray) (x45 : Bool) (x46 : ByteArray) (x47 : Int) (x48 : ByteArray) (x49 : Sl), cells H31 (bk H_2) (eR x40 x41 x42 x43 x44 x45 x46 x47 x48 x49) 0 ∧ (
 F35 x40 x41 x42 x43 x44 x45 x46 x47 x48 x49 H31 (fun (r52 : Sl) (H50 : Hp) => 
 F23_L4 Q X2 y5 (bk H26) y6 y7 y4 r52 ((r52).n : Int) 0 H50)))))))))) ∧
 ((decide (y4 < y7)) = false → (F23_1 Q y5 H_2))
def F23_L2 (Q : (Option Addr) → Hp → Prop) (y5 : Addr) (y6 : Sl) (y7 y4 : Int) (H_2 : Hp) : Prop :=
 ∀ X2 : Int → Hp → Prop, (∀ (y4 : Int) (H_2 : Hp), F23_L2b Q X2 y5 y6 y7 y4 H_2 → X2 y4 H_2) → X2 y4 H_2
def F23 (p0 : Sl) (H : Hp) (Q : (Option Addr) → Hp → Prop) : Prop :=
∀ H1 : Hp, H1 = Array.push H (.cells #[sN, sN, (.pointer none), sN] 66) → (
 F23_L2 Q (bk H) p0 ((p0).n : Int) 0 H1)
theorem walk23 {w0 : World} {p0 : Sl} {H : Hp} {Q : (Option Addr) → Hp → Prop} (h : F23 p0 H Q) :
  Good prog w0 23 #[(Sl.v p0)] H (fun v H => ∃ (r0 : (Option Addr)) , v = (.pointer r0) ∧ Q r0 H) := by
 unfold F23 at h
 refine Good.enter' (fn := f23) func23 rfl rfl rfl (ws (wr_ (hv (v := (.pointer none)) rfl (av rfl) (hn (nt ?_)))))
 refine ws (wr_ (hv (v := (.agg #[sN, sN, (.pointer none), sN])) rfl (HVal.build' (cs := [sN, sN, (.pointer none), sN]) runUnderlying66 zeroValue66 places66 rfl) ?_))
 refine ho rfl (ob (v := (.agg #[sN, sN, (.pointer none), sN])) rfl) ?_
 rintro _ H1 ⟨rfl, e2⟩
 replace h := h H1 e2
 refine hv (v := (pp (bk H))) rfl (av rfl) (hn (nt (wc (fun ρ H_1 => Env.Is ρ [(3, (pp (bk H)))] ∧ F23_1 Q (bk H) H_1) ?_ ?_)))
 ·refine ws (wr_ (hv (v := (Sl.v p0)) rfl (mv rfl) (hv (v := (iv ((p0).n : Int))) rfl (HVal.len runUnderlying35 rfl) ?_)))
  refine hv (v := (iv 0)) rfl (mv rfl) (hn (nt (wb (HW.loop' (fun L2 hL2 => ?_)))))
  obtain ⟨X2, hX2⟩ : ∃ X2 : Int → Hp → Prop, ∀ (y4 : Int) (H_2 : Hp), X2 y4 H_2 ↔ ∀ ρ, Env.Is ρ [(3, (pp (bk H))), (14, (Sl.v p0)), (15, (iv ((p0).n : Int))), (16, (iv y4))] → L2 ρ H_2 := ⟨_, fun _ _ => Iff.rfl⟩
  refine (hX2 _ _).1 (h X2 ?_) _ ?_
  rotate_left
  ·exact (isp rfl)
  clear h
  intro y4 H_2 h
  refine (hX2 _ _).2 fun ρ hI => ?_
  obtain ⟨ρ0, rfl⟩ := hI.ex
  clear hI; unfold F23_L2b at h; refine hL2 _ _ ?_
  refine ws (wr_ (hv (v := (bv (decide (y4 < ((p0).n : Int))))) rfl (HVal.lss rfl rfl) (hn (nt (ws ?_)))))
  obtain ⟨hT, hF⟩ := h
  refine wk (decide (y4 < ((p0).n : Int))) rfl (fun hb8 => ?_) (fun hb8 => ?_)
  ·have h := hT hb8
   refine wp_ (nt (ws (wb (ws (wr_ ?_)))))
   obtain ⟨a9, e10, b11, b12, h⟩ := h
   refine hv (v := (pp (Addr.add a9 (y4.toNat * 10)))) rfl (ia runUnderlying35 sizeOf41 (Sl.v_some rfl e10) rfl b11 b12) ?_
   obtain ⟨x14, x15, x16, x17, x18, x19, x20, x21, x22, x23, c13, h⟩ := h
   refine hv (v := (.agg (eR x14 x15 x16 x17 x18 x19 x20 x21 x22 x23).toArray)) rfl (ln (eR x14 x15 x16 x17 x18 x19 x20 x21 x22 x23) isAgg41 sizeOf41 rfl c13) ?_
   refine ho rfl (HOp.alloc zeroValue41) ?_
   rintro _ H24 ⟨rfl, e25⟩
   replace h := h H24 e25
   obtain ⟨z28, h⟩ := h
   refine hq (HOp.storeN' (l := (eR x14 x15 x16 x17 x18 x19 x20 x21 x22 x23)) sizeOf41 rfl rfl rfl z28) ?_
   rintro _ H26 e27
   replace h := h H26 e27
   refine hn (nt (ws (wr_ (hv (v := (.agg #[sN, (bv true)])) rfl (HVal.build' (cs := [sN, (bv true)]) runUnderlying68 zeroValue68 places68 rfl) ?_))))
   refine ho rfl (HOp.alloc zeroValue68) ?_
   rintro _ H29 ⟨rfl, e30⟩
   replace h := h H29 e30
   obtain ⟨z33, h⟩ := h
   refine hq (HOp.storeN' (l := [sN, (bv true)]) sizeOf68 rfl rfl rfl z33) ?_
   rintro _ H31 e32
   replace h := h H31 e32
   refine hn (nt (wc (fun ρ H_3 => Env.Is ρ [(3, (pp (bk H))), (6, (pp (bk H26))), (14, (Sl.v p0)), (15, (iv ((p0).n : Int))), (16, (iv y4))] ∧ F23_3 Q X2 (bk H) (bk H26) p0 ((p0).n : Int) y4 H_3) ?_ ?_))
   ·refine ws (wr_ ?_)
    obtain ⟨x40, x41, x42, x43, x44, x45, x46, x47, x48, x49, c39, h⟩ := h
    refine hv (v := (.agg (eR x40 x41 x42 x43 x44 x45 x46 x47 x48 x49).toArray)) rfl (ln (eR x40 x41 x42 x43 x44 x45 x46 x47 x48 x49) isAgg41 sizeOf41 rfl c39) ?_
    refine ho rfl (HOp.call' 35 [(.agg (eR x40 x41 x42 x43 x44 x45 x46 x47 x48 x49).toArray)] (cap := []) rfl rfl call35 (walk35 h)) ?_
    rintro _ H50 ⟨r52, rfl, h⟩
    refine hv (v := (iv ((r52).n : Int))) rfl (HVal.len runUnderlying35 rfl) (hv (v := (iv 0)) rfl (mv rfl) (hn (nt (wb ?_))))
    refine HW.loop' (fun L4 hL4 => ?_)
    obtain ⟨X4, hX4⟩ : ∃ X4 : Int → Hp → Prop, ∀ (y53 : Int) (H_4 : Hp), X4 y53 H_4 ↔ ∀ ρ, Env.Is ρ [(3, (pp (bk H))), (6, (pp (bk H26))), (14, (Sl.v p0)), (15, (iv ((p0).n : Int))), (16, (iv y4)), (22, (Sl.v r52)), (23, (iv ((r52).n : Int))), (24, (iv y53))] → L4 ρ H_4 := ⟨_, fun _ _ => Iff.rfl⟩
    refine (hX4 _ _).1 (h X4 ?_) _ ?_
    rotate_left
    ·exact (isp rfl)
    clear h
    intro y53 H_4 h
    refine (hX4 _ _).2 fun ρ hI => ?_
    obtain ⟨ρ0, rfl⟩ := hI.ex
    clear hI; unfold F23_L4b at h; refine hL4 _ _ ?_
    refine ws (wr_ (hv (v := (bv (decide (y53 < ((r52).n : Int))))) rfl (HVal.lss rfl rfl) (hn (nt (ws ?_)))))
    obtain ⟨hT, hF⟩ := h
    refine wk (decide (y53 < ((r52).n : Int))) rfl (fun hb61 => ?_) (fun hb61 => ?_)
    ·have h := hT hb61
     refine wp_ (nt (wc (fun ρ H_5 => Env.Is ρ [(3, (pp (bk H))), (6, (pp (bk H26))), (14, (Sl.v p0)), (15, (iv ((p0).n : Int))), (16, (iv y4)), (22, (Sl.v r52)), (23, (iv ((r52).n : Int))), (24, (iv y53))] ∧ F23_5 Q X2 X4 (bk H) (bk H26) p0 ((p0).n : Int) y4 r52 ((r52).n : Int) y53 H_5) ?_ ?_))
     ·refine wb (ws (wr_ ?_))
      obtain ⟨a70, e71, b72, b73, h⟩ := h
      refine hv (v := (pp (Addr.add a70 (y53.toNat * 10)))) rfl (ia runUnderlying35 sizeOf41 (Sl.v_some rfl e71) rfl b72 b73) ?_
      obtain ⟨x75, x76, x77, x78, x79, x80, x81, x82, x83, x84, c74, h⟩ := h
      refine hv (v := (.agg (eR x75 x76 x77 x78 x79 x80 x81 x82 x83 x84).toArray)) rfl (ln (eR x75 x76 x77 x78 x79 x80 x81 x82 x83 x84) isAgg41 sizeOf41 rfl c74) ?_
      refine ho rfl (HOp.alloc zeroValue41) ?_
      rintro _ H85 ⟨rfl, e86⟩
      replace h := h H85 e86
      obtain ⟨z89, h⟩ := h
      refine hq (HOp.storeN' (l := (eR x75 x76 x77 x78 x79 x80 x81 x82 x83 x84)) sizeOf41 rfl rfl rfl z89) ?_
      rintro _ H87 e88
      replace h := h H87 e88
      refine hn (nt (ws (wr_ ?_)))
      obtain ⟨x91, x92, x93, x94, x95, x96, x97, x98, x99, x100, c90, h⟩ := h
      refine hv (v := (.agg (eR x91 x92 x93 x94 x95 x96 x97 x98 x99 x100).toArray)) rfl (ln (eR x91 x92 x93 x94 x95 x96 x97 x98 x99 x100) isAgg41 sizeOf41 rfl c90) ?_
      refine ho rfl (HOp.call' 36 [(.agg (eR x91 x92 x93 x94 x95 x96 x97 x98 x99 x100).toArray)] (cap := []) rfl rfl call36 (walk36 h)) ?_
      rintro _ H101 ⟨r103, r104, r105, r106, r107, r108, r109, r110, r111, r112, r113, r114, r115, r116, r117, r118, r119, r120, r121, r122, r123, r124, rfl, h⟩
      refine hv (v := (.tuple #[(.agg #[(iv r103), (iv r104), (iv r105), (iv r106), (iv r107), (sv r108), (bv r109), (sv r110), (iv r111), (sv r112), (Sl.v r113), (iv r114), (iv r115), (iv r116), (iv r117), (sv r118), (bv r119), (sv r120), (iv r121), (sv r122), (Sl.v r123)]), (bv r124)])) rfl (mv rfl) ?_
      refine hv (v := (.agg #[(iv r103), (iv r104), (iv r105), (iv r106), (iv r107), (sv r108), (bv r109), (sv r110), (iv r111), (sv r112), (Sl.v r113), (iv r114), (iv r115), (iv r116), (iv r117), (sv r118), (bv r119), (sv r120), (iv r121), (sv r122), (Sl.v r123)])) rfl (HVal.extract rfl rfl) ?_
      refine hv (v := (bv r124)) rfl (HVal.extract rfl rfl) (ho rfl (HOp.alloc zeroValue89) ?_)
      rintro _ H125 ⟨rfl, e126⟩
      replace h := h H125 e126
      obtain ⟨z129, h⟩ := h
      refine hq (HOp.storeN' (l := [(iv r103), (iv r104), (iv r105), (iv r106), (iv r107), (sv r108), (bv r109), (sv r110), (iv r111), (sv r112), (Sl.v r113), (iv r114), (iv r115), (iv r116), (iv r117), (sv r118), (bv r119), (sv r120), (iv r121), (sv r122), (Sl.v r123)]) sizeOf89 rfl rfl rfl z129) ?_
      rintro _ H127 e128
      replace h := h H127 e128
      refine hv (v := (bv r124)) rfl (av rfl) (hn (nt (ws (ws (wr_ (hv (v := (bv r124)) rfl (mv rfl) ?_))))))
      refine hv (v := (bv (!r124))) rfl (HVal.not rfl) (hn (nt ?_))
      obtain ⟨hT, hF⟩ := h
      refine wk (!r124) rfl (fun hb130 => ?_) (fun hb130 => ?_)
      ·have h := hT hb130
       refine ws (wr_ (hv (v := (pp (Addr.add (bk H26) 1))) rfl (fa runUnderlying68 rfl rfl sizeOf4 rfl) ?_))
       obtain ⟨z133, z134, h⟩ := h
       refine hq (HOp.store1 sizeOf4 rfl rfl rfl z133 z134) ?_
       rintro _ H131 e132
       replace h := h H131 e132
       refine hn (nt (we (te (be (nt ?_)))))
       exact ⟨(isp rfl), h⟩
      have h := hF hb130
      refine wp_ (nt (wc (fun ρ H_6 => ∃ (y183 : Addr), Env.Is ρ [(3, (pp (bk H))), (6, (pp (bk H26))), (9, (pp (bk H101))), (14, (Sl.v p0)), (15, (iv ((p0).n : Int))), (16, (iv y4)), (22, (Sl.v r52)), (23, (iv ((r52).n : Int))), (24, (iv y53)), (11, (pp y183))] ∧ F23_6 Q X2 X4 (bk H) (bk H26) (bk H101) p0 ((p0).n : Int) y4 r52 ((r52).n : Int) y53 y183 H_6) ?_ ?_))
      ·refine HW.draw mixed [(0, some []), (1, some [11]), (2, some []), (3, some []), (4, some [5, 11]), (6, some []), (7, some [8, 11]), (12, none), (12, none), (12, none), (12, none), (12, none)] rfl (by kernel_rfl) (by kernel_rfl) ?_
       refine pv (v := (pp (bk H101))) rfl rfl (fun _ => HVal.fieldAddr0 runUnderlying89 rfl rfl sizeOf3 rfl) ?_
       obtain ⟨x145, c144, h⟩ := h
       refine pl (v := (iv x145)) (fun X => cell X (bk H101) = some (iv x145)) rfl rfl (fun _ hX => l1 isAgg3 rfl hX) c144 (pv (v := (pp (bk H))) rfl rfl (fun _ => mv rfl) ?_)
       refine pv (v := (pp (Addr.add (bk H101) 1))) rfl rfl (fun _ => fa runUnderlying89 rfl rfl sizeOf41 rfl) ?_
       obtain ⟨x147, x148, x149, x150, x151, x152, x153, x154, x155, x156, c146, h⟩ := h
       refine pl (v := (.agg (eR x147 x148 x149 x150 x151 x152 x153 x154 x155 x156).toArray)) (fun X => cells X (Addr.add (bk H101) 1) (eR x147 x148 x149 x150 x151 x152 x153 x154 x155 x156) 0) rfl rfl (fun _ hX => ln (eR x147 x148 x149 x150 x151 x152 x153 x154 x155 x156) isAgg41 sizeOf41 rfl hX) c146 ?_
       refine pv (v := (pp (Addr.add (bk H101) 11))) rfl rfl (fun _ => fa runUnderlying89 rfl rfl sizeOf41 rfl) ?_
       obtain ⟨x158, x159, x160, x161, x162, x163, x164, x165, x166, x167, c157, h⟩ := h
       refine pl (v := (.agg (eR x158 x159 x160 x161 x162 x163 x164 x165 x166 x167).toArray)) (fun X => cells X (Addr.add (bk H101) 11) (eR x158 x159 x160 x161 x162 x163 x164 x165 x166 x167) 0) rfl rfl (fun _ hX => ln (eR x158 x159 x160 x161 x162 x163 x164 x165 x166 x167) isAgg41 sizeOf41 rfl hX) c157 ?_
       obtain ⟨hB5, hB10⟩ := h
       refine HPlan.fork2 (i := 5) (j := 10) (by kernel_rfl) ?_ ?_
       ·have h := hB5
        clear hB5 hB10
        refine HBr.ops' [(12, none), (12, none), (12, none), (12, none)] rfl (by kernel_rfl) (by kernel_rfl) rfl rfl rfl (HOp.call' 39 [(pp (bk H)), (.agg (eR x147 x148 x149 x150 x151 x152 x153 x154 x155 x156).toArray)] (cap := []) rfl rfl call39 (walk39 h)) ?_
        rintro _ H168 ⟨r170, rfl, h⟩
        obtain ⟨s171, s172, h⟩ := h
        refine ⟨SC_of ⟨fun _ => s171, nofun, fun _ => s172, trivial⟩, ?_⟩
        obtain ⟨hB8, hB10⟩ := h
        refine HPlan.fork2 (i := 8) (j := 10) (by kernel_rfl) ?_ ?_
        ·have h := hB8
         clear hB8 hB10
         refine HBr.ops' [(9, some []), (10, none), (11, none)] rfl (by kernel_rfl) (by kernel_rfl) rfl rfl rfl (HOp.call' 40 [(.agg (eR x158 x159 x160 x161 x162 x163 x164 x165 x166 x167).toArray)] (cap := []) rfl rfl call40 (walk40 h)) ?_
         rintro _ H173 ⟨r175, rfl, h⟩
         obtain ⟨s176, h⟩ := h
         refine ⟨SC_of ⟨nofun, nofun, fun _ => s176, trivial⟩, ?_⟩
         refine pv (v := (.agg (lR x145 r170 0 r175 0 0 bE false).toArray)) rfl rfl (fun _ => HVal.build' (cs := (lR x145 r170 0 r175 0 0 bE false)) runUnderlying80 zeroValue80 places80 (by kernel_rfl)) ?_
         refine po rfl rfl (HOp.alloc zeroValue80) ?_
         rintro _ H177 ⟨rfl, e178⟩
         replace h := h H177 e178
         obtain ⟨s179, h⟩ := h
         refine ⟨SC_of ⟨nofun, nofun, fun _ => s179, trivial⟩, ?_⟩
         obtain ⟨z182, h⟩ := h
         refine pn rfl (HOp.storeN' (l := (lR x145 r170 0 r175 0 0 bE false)) sizeOf80 rfl rfl rfl z182) ?_
         rintro _ H180 e181
         replace h := h H180 e181
         refine ⟨SC_of ⟨nofun, nofun, nofun, trivial⟩, ?_⟩
         refine HPlan.done (nt ?_)
         exact ⟨(bk H173), (isp rfl), h⟩
        have h := hB10
        clear hB8 hB10
        refine HBr.ops' [(8, none), (9, some []), (11, none)] rfl (by kernel_rfl) (by kernel_rfl) rfl rfl rfl (HOp.alloc zeroValue80) ?_
        rintro _ H184 ⟨rfl, e185⟩
        replace h := h H184 e185
        obtain ⟨s186, s187, h⟩ := h
        refine ⟨SC_of ⟨fun _ => s186, nofun, fun _ => s187, trivial⟩, ?_⟩
        refine po rfl rfl (HOp.call' 40 [(.agg (eR x158 x159 x160 x161 x162 x163 x164 x165 x166 x167).toArray)] (cap := []) rfl rfl call40 (walk40 h)) ?_
        rintro _ H188 ⟨r190, rfl, h⟩
        obtain ⟨s191, h⟩ := h
        refine ⟨SC_of ⟨nofun, nofun, fun _ => s191, trivial⟩, ?_⟩
        refine pv (v := (.agg (lR x145 r170 0 r190 0 0 bE false).toArray)) rfl rfl (fun _ => HVal.build' (cs := (lR x145 r170 0 r190 0 0 bE false)) runUnderlying80 zeroValue80 places80 (by kernel_rfl)) ?_
        obtain ⟨z194, h⟩ := h
        refine pn rfl (HOp.storeN' (l := (lR x145 r170 0 r190 0 0 bE false)) sizeOf80 rfl rfl rfl z194) ?_
        rintro _ H192 e193
        replace h := h H192 e193
        refine ⟨SC_of ⟨nofun, nofun, nofun, trivial⟩, ?_⟩
        refine HPlan.done (nt ?_)
        exact ⟨(bk H168), (isp rfl), h⟩
       have h := hB10
       clear hB5 hB10
       refine HBr.ops' [(5, none), (8, none), (9, some []), (11, none)] rfl (by kernel_rfl) (by kernel_rfl) rfl rfl rfl (HOp.alloc zeroValue80) ?_
       rintro _ H195 ⟨rfl, e196⟩
       replace h := h H195 e196
       obtain ⟨s197, s198, s199, h⟩ := h
       refine ⟨SC_of ⟨fun _ => s197, fun _ => s198, fun _ => s199, trivial⟩, ?_⟩
       refine po rfl rfl (HOp.call' 39 [(pp (bk H)), (.agg (eR x147 x148 x149 x150 x151 x152 x153 x154 x155 x156).toArray)] (cap := []) rfl rfl call39 (walk39 h)) ?_
       rintro _ H200 ⟨r202, rfl, h⟩
       obtain ⟨s203, s204, h⟩ := h
       refine ⟨SC_of ⟨fun _ => s203, nofun, fun _ => s204, trivial⟩, ?_⟩
       refine po rfl rfl (HOp.call' 40 [(.agg (eR x158 x159 x160 x161 x162 x163 x164 x165 x166 x167).toArray)] (cap := []) rfl rfl call40 (walk40 h)) ?_
       rintro _ H205 ⟨r207, rfl, h⟩
       obtain ⟨s208, h⟩ := h
       refine ⟨SC_of ⟨nofun, nofun, fun _ => s208, trivial⟩, ?_⟩
       refine pv (v := (.agg (lR x145 r202 0 r207 0 0 bE false).toArray)) rfl rfl (fun _ => HVal.build' (cs := (lR x145 r202 0 r207 0 0 bE false)) runUnderlying80 zeroValue80 places80 (by kernel_rfl)) ?_
       obtain ⟨z211, h⟩ := h
       refine pn rfl (HOp.storeN' (l := (lR x145 r202 0 r207 0 0 bE false)) sizeOf80 rfl rfl rfl z211) ?_
       rintro _ H209 e210
       replace h := h H209 e210
       refine ⟨SC_of ⟨nofun, nofun, nofun, trivial⟩, ?_⟩
       refine HPlan.done (nt ?_)
       exact ⟨(bk H127), (isp rfl), h⟩
      rintro ρ H_6 ⟨y183, hI, h⟩
      obtain ⟨ρ0, rfl⟩ := hI.ex
      clear hI; unfold F23_6 at h
      refine wc (fun ρ H_7 => Env.Is ρ [(3, (pp (bk H))), (6, (pp (bk H26))), (11, (pp y183)), (14, (Sl.v p0)), (15, (iv ((p0).n : Int))), (16, (iv y4)), (22, (Sl.v r52)), (23, (iv ((r52).n : Int))), (24, (iv y53))] ∧ F23_7 Q X2 X4 (bk H) (bk H26) y183 p0 ((p0).n : Int) y4 r52 ((r52).n : Int) y53 H_7) ?_ ?_
      ·refine ws (wr_ (hv (v := (pp (Addr.add y183 3))) rfl (fa runUnderlying80 rfl rfl sizeOf4 rfl) ?_))
       obtain ⟨x222, c221, h⟩ := h
       refine hv (v := (bv x222)) rfl (l1 isAgg4 rfl c221) (hn (nt ?_))
       obtain ⟨hT, hF⟩ := h
       refine wk x222 rfl (fun hb223 => ?_) (fun hb223 => ?_)
       ·have h := hT hb223
        refine wr_ (hv (v := (pp (bk H))) rfl (mv rfl) (hv (v := (pp (Addr.add (bk H101) 11))) rfl (fa runUnderlying89 rfl rfl sizeOf41 rfl) ?_))
        obtain ⟨x225, x226, x227, x228, x229, x230, x231, x232, x233, x234, c224, h⟩ := h
        refine hv (v := (.agg (eR x225 x226 x227 x228 x229 x230 x231 x232 x233 x234).toArray)) rfl (ln (eR x225 x226 x227 x228 x229 x230 x231 x232 x233 x234) isAgg41 sizeOf41 rfl c224) ?_
        refine ho rfl (HOp.call' 39 [(pp (bk H)), (.agg (eR x225 x226 x227 x228 x229 x230 x231 x232 x233 x234).toArray)] (cap := []) rfl rfl call39 (walk39 h)) ?_
        rintro _ H235 ⟨r237, rfl, h⟩
        refine hv (v := (pp (Addr.add y183 2))) rfl (fa runUnderlying80 rfl rfl sizeOf3 rfl) ?_
        obtain ⟨z240, z241, h⟩ := h
        refine hq (HOp.store1 sizeOf3 rfl rfl rfl z240 z241) ?_
        rintro _ H238 e239
        replace h := h H238 e239
        refine hn (nt ?_)
        exact ⟨(isp rfl), h⟩
       have h := hF hb223
       refine wr_ (hv (v := (pp (Addr.add (bk H101) 11))) rfl (fa runUnderlying89 rfl rfl sizeOf41 rfl) ?_)
       obtain ⟨x243, x244, x245, x246, x247, x248, x249, x250, x251, x252, c242, h⟩ := h
       refine hv (v := (.agg (eR x243 x244 x245 x246 x247 x248 x249 x250 x251 x252).toArray)) rfl (ln (eR x243 x244 x245 x246 x247 x248 x249 x250 x251 x252) isAgg41 sizeOf41 rfl c242) ?_
       refine ho rfl (HOp.call' 41 [(.agg (eR x243 x244 x245 x246 x247 x248 x249 x250 x251 x252).toArray)] (cap := []) rfl rfl call41 (walk41 h)) ?_
       rintro _ H253 ⟨r255, r256, r257, r258, r259, rfl, h⟩
       refine hv (v := (.tuple #[(.agg (vR r255 r256 r257 r258).toArray), (bv r259)])) rfl (mv rfl) (hv (v := (.agg (vR r255 r256 r257 r258).toArray)) rfl (HVal.extract rfl rfl) ?_)
       refine hv (v := (bv r259)) rfl (HVal.extract rfl rfl) (hv (v := (pp (Addr.add y183 4))) rfl (fa runUnderlying80 rfl rfl sizeOf25 rfl) ?_)
       obtain ⟨z262, h⟩ := h
       refine hq (HOp.storeN' (l := (vR r255 r256 r257 r258)) sizeOf25 rfl rfl rfl z262) ?_
       rintro _ H260 e261
       replace h := h H260 e261
       refine hn (nt ?_)
       exact ⟨(isp rfl), h⟩
      rintro ρ H_7 ⟨hI, h⟩
      obtain ⟨ρ0, rfl⟩ := hI.ex
      clear hI; unfold F23_7 at h
      refine wr_ (hv (v := (pp (bk H26))) rfl (HVal.fieldAddr0 runUnderlying68 rfl rfl sizeOf62 rfl) ?_)
      obtain ⟨x264, c263, h⟩ := h
      refine hv (v := (Sl.v x264)) rfl (l1 isAgg62 rfl c263) ?_
      obtain ⟨x266, x267, x268, x269, x270, x271, x272, x273, c265, h⟩ := h
      refine hv (v := (.agg (lR x266 x267 x268 x269 x270 x271 x272 x273).toArray)) rfl (ln (lR x266 x267 x268 x269 x270 x271 x272 x273) isAgg80 sizeOf80 rfl c265) ?_
      refine ho rfl (HOp.buildSlice' (zs := (lR 0 0 0 false 0 0 bE false)) (cs := (lR x266 x267 x268 x269 x270 x271 x272 x273)) runUnderlying62 sizeOf80 zeroValue80 (by decide) (by kernel_rfl) (by kernel_rfl) (by decide)) ?_
      rintro _ H274 ⟨rfl, e275⟩
      replace h := h H274 e275
      refine ho rfl (HOp.append (k := 8) (b := 72) runUnderlying62 runUnderlying62 typeInfo80 rfl rfl zeroValue80 rfl rfl h) ?_
      rintro _ H276 ⟨r278, rfl, h⟩
      refine hv (v := (pp (bk H26))) rfl (HVal.fieldAddr0 runUnderlying68 rfl rfl sizeOf62 rfl) ?_
      obtain ⟨z281, z282, h⟩ := h
      refine hq (HOp.store1 sizeOf62 rfl rfl rfl z281 z282) ?_
      rintro _ H279 e280
      replace h := h H279 e280
      refine hn (nb (nt ?_))
      exact ⟨(isp rfl), h⟩
     rintro ρ H_5 ⟨hI, h⟩
     obtain ⟨ρ0, rfl⟩ := hI.ex
     clear hI; unfold F23_5 at h
     refine wr_ (hv (v := (iv (IntKind.i64.wrap (y53 + 1)))) rfl (HVal.add rfl rfl) (hv (v := (iv (IntKind.i64.wrap (y53 + 1)))) rfl (mv rfl) ?_))
     refine hn (nt ?_)
     exact (hX4 _ _).1 h _ (isp rfl)
    have h := hF hb61
    refine we (te (te (be (nt ?_))))
    exact ⟨(isp rfl), h⟩
   rintro ρ H_3 ⟨hI, h⟩
   obtain ⟨ρ0, rfl⟩ := hI.ex
   clear hI; unfold F23_3 at h
   refine HW.draw mixed [(0, some []), (1, some []), (2, some []), (3, some []), (4, some [7, 10]), (5, some [6, 10]), (6, none), (7, none), (8, some []), (9, some []), (10, none)] rfl (by kernel_rfl) (by kernel_rfl) ?_
   refine pv (v := (pp (bk H))) rfl rfl (fun _ => mv rfl) (pv (v := (pp (bk H))) rfl rfl (fun _ => mv rfl) ?_)
   refine pv (v := (pp (bk H))) rfl rfl (fun _ => HVal.nilCheck rfl) (pv (v := (pp (Addr.add (bk H) 1))) rfl rfl (fun _ => fa runUnderlying66 rfl rfl sizeOf63 rfl) ?_)
   obtain ⟨x284, c283, h⟩ := h
   refine pl (v := (Sl.v x284)) (fun X => cell X (Addr.add (bk H) 1) = some (Sl.v x284)) rfl rfl (fun _ hX => l1 isAgg63 rfl hX) c283 ?_
   obtain ⟨x286, x287, c285, h⟩ := h
   refine pl (v := (.agg #[(Sl.v x286), (bv x287)])) (fun X => cells X (bk H26) [(Sl.v x286), (bv x287)] 0) rfl rfl (fun _ hX => ln [(Sl.v x286), (bv x287)] isAgg68 sizeOf68 rfl hX) c285 ?_
   refine po rfl rfl (HOp.buildSlice' (zs := [sN, (bv false)]) (cs := [(Sl.v x286), (bv x287)]) runUnderlying63 sizeOf68 zeroValue68 (by decide) (by kernel_rfl) rfl (by decide)) ?_
   rintro _ H288 ⟨rfl, e289⟩
   replace h := h H288 e289
   obtain ⟨s290, h⟩ := h
   refine ⟨SC_of ⟨nofun, fun _ => s290, trivial⟩, ?_⟩
   refine po rfl rfl (HOp.append (k := 2) (b := 32) runUnderlying63 runUnderlying63 typeInfo68 rfl rfl zeroValue68 rfl rfl h) ?_
   rintro _ H291 ⟨r293, rfl, h⟩
   refine ⟨SC_of ⟨nofun, nofun, trivial⟩, ?_⟩
   refine pv (v := (pp (bk H))) rfl rfl (fun _ => HVal.nilCheck rfl) (pv (v := (pp (Addr.add (bk H) 1))) rfl rfl (fun _ => fa runUnderlying66 rfl rfl sizeOf63 rfl) ?_)
   obtain ⟨z296, z297, h⟩ := h
   refine pn rfl (HOp.store1 sizeOf63 rfl rfl rfl z296 z297) ?_
   rintro _ H294 e295
   replace h := h H294 e295
   refine ⟨SC_of ⟨nofun, nofun, trivial⟩, ?_⟩
   refine HPlan.done (nb (nt (wr_ (hv (v := (iv (IntKind.i64.wrap (y4 + 1)))) rfl (HVal.add rfl rfl) (hv (v := (iv (IntKind.i64.wrap (y4 + 1)))) rfl (mv rfl) ?_)))))
   refine hn (nt ?_)
   exact (hX2 _ _).1 h _ (isp rfl)
  have h := hF hb8
  refine we (te (te (be (nt ?_))))
  exact ⟨⟨rfl, trivial⟩, h⟩
 rintro ρ H_1 ⟨hI, h⟩
 obtain ⟨ρ0, rfl⟩ := hI.ex
 clear hI; unfold F23_1 at h
 refine ws (wr_ (hv (v := (pp (bk H))) rfl (mv rfl) (ho rfl (HOp.call' 42 [(pp (bk H))] (cap := []) rfl rfl call42 (walk42 h)) ?_)))
 rintro _ H298 ⟨rfl, h⟩
 refine hn (nt (ws (wr_ (hv (v := (pp (bk H))) rfl (mv rfl) (hv (v := (pp (bk H))) rfl (av rfl) ?_)))))
 refine hn (nt (HW.ret ?_))
 exact ⟨_, resOf1 rfl Res1.t, ⟨(some (bk H)), rfl, h⟩⟩

def F24_L1b (Q : Bool → Hp → Prop) (X1 : Int → Hp → Prop) (y6 : Sl) (y7 y5 : Int) (H_1 : Hp) : Prop :=
((decide (y5 < y7)) = true → (∃ a9 : Addr, (y6).b = some a9 ∧ (0 : Int) ≤ y5 ∧ y5 < ((y6).n : Int) ∧ (
 ∃ x14 : Int, cell H_1 (Addr.add a9 (y5.toNat * 1)) = some (iv x14) ∧ (
 ((decide ((andB .i64 x14 (IntKind.i64.wrap (x14 - 1))) ≠ 0)) = true → (Q true H_1)) ∧
 ((decide ((andB .i64 x14 (IntKind.i64.wrap (x14 - 1))) ≠ 0)) = false → (X1 (IntKind.i64.wrap (y5 + 1)) H_1)))))) ∧
 ((decide (y5 < y7)) = false → (Q false H_1))
def F24_L1 (Q : Bool → Hp → Prop) (y6 : Sl) (y7 y5 : Int) (H_1 : Hp) : Prop :=
 ∀ X1 : Int → Hp → Prop, (∀ (y5 : Int) (H_1 : Hp), F24_L1b Q X1 y6 y7 y5 H_1 → X1 y5 H_1) → X1 y5 H_1
def F24 (p0 : (Option Addr)) (H : Hp) (Q : Bool → Hp → Prop) : Prop :=
∃ a1 : Addr, p0 = some a1 ∧ (
 ∃ x4 : Sl, cell H (Addr.add a1 3) = some (Sl.v x4) ∧ (
 F24_L1 Q x4 ((x4).n : Int) 0 H))
theorem walk24 {w0 : World} {p0 : (Option Addr)} {H : Hp} {Q : Bool → Hp → Prop} (h : F24 p0 H Q) :
  Good prog w0 24 #[(.pointer p0)] H (fun v H => ∃ (r0 : Bool) , v = (bv r0) ∧ Q r0 H) := by
 unfold F24 at h
 refine Good.enter' (fn := f24) func24 rfl rfl rfl (ws (wr_ (hv (v := (bv false)) rfl (av rfl) (hn (nt (ws ?_))))))
 refine ws (wr_ (hv (v := (.pointer p0)) rfl (mv rfl) ?_))
 obtain ⟨a1, e2, h⟩ := h
 refine hv (v := (pp a1)) rfl (HVal.nilCheck (congrArg Value.pointer e2)) (hv (v := (pp (Addr.add a1 3))) rfl (fa runUnderlying66 rfl rfl sizeOf47 rfl) ?_)
 obtain ⟨x4, c3, h⟩ := h
 refine hv (v := (Sl.v x4)) rfl (l1 isAgg47 rfl c3) (hv (v := (iv ((x4).n : Int))) rfl (HVal.len runUnderlying47 rfl) (hv (v := (iv 0)) rfl (mv rfl) ?_))
 refine hn (nt (wb (HW.loop' (fun L1 hL1 => ?_))))
 obtain ⟨X1, hX1⟩ : ∃ X1 : Int → Hp → Prop, ∀ (y5 : Int) (H_1 : Hp), X1 y5 H_1 ↔ ∀ ρ, Env.Is ρ [(8, (Sl.v x4)), (9, (iv ((x4).n : Int))), (10, (iv y5))] → L1 ρ H_1 := ⟨_, fun _ _ => Iff.rfl⟩
 refine (hX1 _ _).1 (h X1 ?_) _ ?_
 rotate_left
 ·exact (isp rfl)
 clear h
 intro y5 H_1 h
 refine (hX1 _ _).2 fun ρ hI => ?_
 obtain ⟨ρ0, rfl⟩ := hI.ex
 clear hI; unfold F24_L1b at h; refine hL1 _ _ ?_
 refine ws (wr_ (hv (v := (bv (decide (y5 < ((x4).n : Int))))) rfl (HVal.lss rfl rfl) (hn (nt (ws ?_)))))
 obtain ⟨hT, hF⟩ := h
 refine wk (decide (y5 < ((x4).n : Int))) rfl (fun hb8 => ?_) (fun hb8 => ?_)
 ·have h := hT hb8
  refine wp_ (nt (ws (wb (ws (wr_ ?_)))))
  obtain ⟨a9, e10, b11, b12, h⟩ := h
  refine hv (v := (pp (Addr.add a9 (y5.toNat * 1)))) rfl (ia runUnderlying47 sizeOf3 (Sl.v_some rfl e10) rfl b11 b12) ?_
  obtain ⟨x14, c13, h⟩ := h
  refine hv (v := (iv x14)) rfl (l1 isAgg3 rfl c13) (hv (v := (iv x14)) rfl (av rfl) (hn (nt (ws (wr_ ?_)))))
  refine hv (v := (iv x14)) rfl (mv rfl) (hv (v := (iv x14)) rfl (mv rfl) (hv (v := (iv (IntKind.i64.wrap (x14 - 1)))) rfl (HVal.sub rfl rfl) ?_))
  refine hv (v := (iv (andB .i64 x14 (IntKind.i64.wrap (x14 - 1))))) rfl (HVal.and rfl rfl) (hv (v := (bv (decide ((andB .i64 x14 (IntKind.i64.wrap (x14 - 1))) ≠ 0)))) rfl (HVal.neqI rfl rfl) ?_)
  refine hn (nt ?_)
  obtain ⟨hT, hF⟩ := h
  refine wk (decide ((andB .i64 x14 (IntKind.i64.wrap (x14 - 1))) ≠ 0)) rfl (fun hb15 => ?_) (fun hb15 => ?_)
  ·have h := hT hb15
   refine ws (wr_ (hv (v := (bv true)) rfl (av rfl) (hn (nt (HW.ret (br (tr (tr (br (tr ?_))))))))))
   exact ⟨_, resOf1 rfl Res1.t, ⟨true, rfl, h⟩⟩
  have h := hF hb15
  refine wp_ (nb (nt (wr_ (hv (v := (iv (IntKind.i64.wrap (y5 + 1)))) rfl (HVal.add rfl rfl) (hv (v := (iv (IntKind.i64.wrap (y5 + 1)))) rfl (mv rfl) ?_)))))
  refine hn (nt ?_)
  exact (hX1 _ _).1 h _ (isp rfl)
 have h := hF hb8
 refine we (te (te (be (nt (ws (wr_ (hv (v := (bv false)) rfl (av rfl) (hn (nt (HW.ret ?_))))))))))
 exact ⟨_, resOf1 rfl Res1.t, ⟨false, rfl, h⟩⟩

def F44 (p0 : (Option Addr)) (p1 : Int) (H : Hp) (Q : Int → Hp → Prop) : Prop :=
∃ a1 : Addr, p0 = some a1 ∧ (
 ∃ x4 : Sl, cell H (Addr.add a1 3) = some (Sl.v x4) ∧ (
 ∃ a5 : Addr, p0 = some a5 ∧ (
 ∃ x8 : (Option Addr), cell H (Addr.add a5 2) = some (.pointer x8) ∧ (
 F48 x8 p1 H (fun (r11 : Int) (H9 : Hp) => 
 cell H9 (Addr.add a1 3) = some (Sl.v x4) ∧ (
 ∃ a13 : Addr, (x4).b = some a13 ∧ (0 : Int) ≤ r11 ∧ r11 < ((x4).n : Int) ∧ (
 ∃ x18 : Int, cell H9 (Addr.add a13 (r11.toNat * 1)) = some (iv x18) ∧ (
 ((decide (x18 = 4)) = true → (Q 2 H9)) ∧
 ((decide (x18 = 4)) = false → (((decide (x18 = 8)) = true → (Q 3 H9)) ∧
 ((decide (x18 = 8)) = false → (Q 1 H9))))))))))))
theorem walk44 {w0 : World} {p0 : (Option Addr)} {p1 : Int} {H : Hp} {Q : Int → Hp → Prop} (h : F44 p0 p1 H Q) :
  Good prog w0 44 #[(.pointer p0), (iv p1)] H (fun v H => ∃ (r0 : Int) , v = (iv r0) ∧ Q r0 H) := by
 unfold F44 at h
 refine Good.enter' (fn := f44) func44 rfl rfl rfl (ws (wr_ (hv (v := (iv 0)) rfl (av rfl) (hn (nt (ws ?_))))))
 refine ws (HW.draw mixed [(0, some []), (1, some []), (2, some []), (3, some []), (4, some []), (5, some []), (6, some []), (7, some [9]), (8, some []), (9, none), (10, some []), (11, some [])] rfl (by kernel_rfl) (by kernel_rfl) ?_)
 refine pv (v := (.pointer p0)) rfl rfl (fun _ => mv rfl) ?_
 obtain ⟨a1, e2, h⟩ := h
 refine pv (v := (pp a1)) rfl rfl (fun _ => HVal.nilCheck (congrArg Value.pointer e2)) (pv (v := (pp (Addr.add a1 3))) rfl rfl (fun _ => fa runUnderlying66 rfl rfl sizeOf47 rfl) ?_)
 obtain ⟨x4, c3, h⟩ := h
 refine pl (v := (Sl.v x4)) (fun X => cell X (Addr.add a1 3) = some (Sl.v x4)) rfl rfl (fun _ hX => l1 isAgg47 rfl hX) c3 (pv (v := (.pointer p0)) rfl rfl (fun _ => mv rfl) ?_)
 obtain ⟨a5, e6, h⟩ := h
 refine pv (v := (pp a5)) rfl rfl (fun _ => HVal.nilCheck (congrArg Value.pointer e6)) (pv (v := (pp (Addr.add a5 2))) rfl rfl (fun _ => fa runUnderlying66 rfl rfl sizeOf64 rfl) ?_)
 obtain ⟨x8, c7, h⟩ := h
 refine pl (v := (.pointer x8)) (fun X => cell X (Addr.add a5 2) = some (.pointer x8)) rfl rfl (fun _ hX => l1 isAgg64 rfl hX) c7 (pv (v := (iv p1)) rfl rfl (fun _ => mv rfl) ?_)
 refine po rfl rfl (HOp.call' 48 [(.pointer x8), (iv p1)] (cap := []) rfl rfl call48 (walk48 h)) ?_
 rintro _ H9 ⟨r11, rfl, h⟩
 obtain ⟨s12, h⟩ := h
 refine ⟨SC_of ⟨nofun, fun _ => s12, trivial⟩, ?_⟩
 obtain ⟨a13, e14, b15, b16, h⟩ := h
 refine pv (v := (pp (Addr.add a13 (r11.toNat * 1)))) rfl rfl (fun _ => ia runUnderlying47 sizeOf3 (Sl.v_some rfl e14) rfl b15 b16) ?_
 obtain ⟨x18, c17, h⟩ := h
 refine pl (v := (iv x18)) (fun X => cell X (Addr.add a13 (r11.toNat * 1)) = some (iv x18)) rfl rfl (fun _ hX => l1 isAgg3 rfl hX) c17 (HPlan.done ?_)
 refine nt (wb (ws (wr_ (hv (v := (bv (decide (x18 = 4)))) rfl (HVal.eqlI rfl rfl) (hv (v := (bv (decide (x18 = 4)))) rfl (av rfl) ?_)))))
 refine hn (nt ?_)
 obtain ⟨hT, hF⟩ := h
 refine wk (decide (x18 = 4)) rfl (fun hb19 => ?_) (fun hb19 => ?_)
 ·have h := hT hb19
  refine ws (wr_ (hv (v := (iv 2)) rfl (av rfl) (hn (nt (HW.ret (br (tr ?_)))))))
  exact ⟨_, resOf1 rfl Res1.t, ⟨2, rfl, h⟩⟩
 have h := hF hb19
 refine ws (wr_ (hv (v := (bv (decide (x18 = 8)))) rfl (HVal.eqlI rfl rfl) (hv (v := (bv (decide (x18 = 8)))) rfl (av rfl) ?_)))
 refine hn (nt ?_)
 obtain ⟨hT, hF⟩ := h
 refine wk (decide (x18 = 8)) rfl (fun hb20 => ?_) (fun hb20 => ?_)
 ·have h := hT hb20
  refine ws (wr_ (hv (v := (iv 3)) rfl (av rfl) (hn (nt (HW.ret (br (tr ?_)))))))
  exact ⟨_, resOf1 rfl Res1.t, ⟨3, rfl, h⟩⟩
 have h := hF hb20
 refine wp_ (nb (nt (ws (wr_ (hv (v := (iv 1)) rfl (av rfl) (hn (nt (HW.ret ?_))))))))
 exact ⟨_, resOf1 rfl Res1.t, ⟨1, rfl, h⟩⟩

def F43 (p0 : (Option Addr)) (p1_0 p1_1 p1_2 : Int) (p1_3 : Bool) (p1_4 p1_5 : Int) (p1_6 : ByteArray) (p1_7 : Bool) (H : Hp) (Q : Bool → Hp → Prop) : Prop :=
∀ H1 : Hp, H1 = Array.push H (.cells (lR p1_0 p1_1 p1_2 p1_3 p1_4 p1_5 p1_6 p1_7).toArray 80) → (
 ∃ x4 : Bool, cell H1 (Addr.add (bk H) 3) = some (bv x4) ∧ (
 ((!x4) = true → (Q true H1)) ∧
 ((!x4) = false → (∃ x8 : Int, cell H1 (bk H) = some (iv x8) ∧ (
 ((decide (x8 = 6)) = true → (Q true H1)) ∧
 ((decide (x8 = 6)) = false → (∃ x12 : Int, cell H1 (Addr.add (bk H) 1) = some (iv x12) ∧ (
 F44 p0 x12 H1 (fun (r15 : Int) (H13 : Hp) => 
 Q (decide (r15 = 1)) H13)))))))))
theorem walk43 {w0 : World} {p0 : (Option Addr)} {p1_0 p1_1 p1_2 : Int} {p1_3 : Bool} {p1_4 p1_5 : Int} {p1_6 : ByteArray} {p1_7 : Bool} {H : Hp} {Q : Bool → Hp → Prop} (h : F43 p0 p1_0 p1_1 p1_2 p1_3 p1_4 p1_5 p1_6 p1_7 H Q) :
  Good prog w0 43 #[(.pointer p0), (.agg (lR p1_0 p1_1 p1_2 p1_3 p1_4 p1_5 p1_6 p1_7).toArray)] H (fun v H => ∃ (r0 : Bool) , v = (bv r0) ∧ Q r0 H) := by
 unfold F43 at h
 refine Good.enter' (fn := f43) func43 rfl rfl rfl (ws (wr_ (ho rfl (ob (v := (.agg (lR p1_0 p1_1 p1_2 p1_3 p1_4 p1_5 p1_6 p1_7).toArray)) rfl) ?_)))
 rintro _ H1 ⟨rfl, e2⟩
 replace h := h H1 e2
 refine hv (v := (bv false)) rfl (av rfl) (hn (nt (ws (wr_ (hv (v := (pp (Addr.add (bk H) 3))) rfl (fa runUnderlying80 rfl rfl sizeOf4 rfl) ?_)))))
 obtain ⟨x4, c3, h⟩ := h
 refine hv (v := (bv x4)) rfl (l1 isAgg4 rfl c3) (hv (v := (bv (!x4))) rfl (HVal.not rfl) (hv (v := (bv (!x4))) rfl (mv rfl) ?_))
 obtain ⟨hT, hF⟩ := h
 rcases Bool.eq_false_or_eq_true (!x4) with hb5 | hb6
 ·have h := hT hb5
  refine hs_ rfl rfl rfl rfl (cB hb5) (hs_ rfl rfl rfl rfl (cB hb5) (hs_ rfl rfl rfl rfl (cB hb5) (hv (v := (bv true)) rfl (pt_ rfl hb5 rfl) ?_)))
  refine hv (v := (bv true)) rfl (mv rfl) (hs_ rfl rfl rfl rfl rfl (hs_ rfl rfl rfl rfl rfl (hs_ rfl rfl rfl rfl rfl ?_)))
  refine hs_ rfl rfl rfl rfl rfl (hs_ rfl rfl rfl rfl rfl (hv (v := (bv true)) rfl (pt_ rfl rfl rfl) (hv (v := (bv true)) rfl (av rfl) ?_)))
  refine hn (nt (HW.ret ?_))
  exact ⟨_, resOf1 rfl Res1.t, ⟨true, rfl, h⟩⟩
 have h := hF hb6
 refine hg (v := (pp (bk H))) rfl rfl rfl rfl (cB hb6) (HVal.fieldAddr0 runUnderlying80 rfl rfl sizeOf3 rfl) ?_
 obtain ⟨x8, c7, h⟩ := h
 refine hg (v := (iv x8)) rfl rfl rfl rfl (cB hb6) (l1 isAgg3 rfl c7) (hg (v := (bv (decide (x8 = 6)))) rfl rfl rfl rfl (cB hb6) (HVal.eqlI rfl rfl) ?_)
 refine hv (v := (bv (decide (x8 = 6)))) rfl (pf_ rfl hb6 rfl) (hv (v := (bv (decide (x8 = 6)))) rfl (mv rfl) ?_)
 obtain ⟨hT, hF⟩ := h
 rcases Bool.eq_false_or_eq_true (decide (x8 = 6)) with hb9 | hb10
 ·have h := hT hb9
  refine hs_ rfl rfl rfl rfl (cB hb9) (hs_ rfl rfl rfl rfl (cB hb9) (hs_ rfl rfl rfl rfl (cB hb9) (hs_ rfl rfl rfl rfl (cB hb9) ?_)))
  refine hs_ rfl rfl rfl rfl (cB hb9) (hv (v := (bv true)) rfl (pt_ rfl hb9 rfl) (hv (v := (bv true)) rfl (av rfl) ?_))
  refine hn (nt (HW.ret ?_))
  exact ⟨_, resOf1 rfl Res1.t, ⟨true, rfl, h⟩⟩
 have h := hF hb10
 refine hg (v := (.pointer p0)) rfl rfl rfl rfl (cB hb10) (mv rfl) (hg (v := (pp (Addr.add (bk H) 1))) rfl rfl rfl rfl (cB hb10) (fa runUnderlying80 rfl rfl sizeOf3 rfl) ?_)
 obtain ⟨x12, c11, h⟩ := h
 refine hg (v := (iv x12)) rfl rfl rfl rfl (cB hb10) (l1 isAgg3 rfl c11) (HList.gops rfl rfl rfl rfl (cB hb10) (HOp.call' 44 [(.pointer p0), (iv x12)] (cap := []) rfl rfl call44 (walk44 h)) ?_)
 rintro _ H13 ⟨r15, rfl, h⟩
 refine hg (v := (bv (decide (r15 = 1)))) rfl rfl rfl rfl (cB hb10) (HVal.eqlI rfl rfl) (hv (v := (bv (decide (r15 = 1)))) rfl (pf_ rfl hb10 rfl) ?_)
 refine hv (v := (bv (decide (r15 = 1)))) rfl (av rfl) (hn (nt (HW.ret ?_)))
 exact ⟨_, resOf1 rfl Res1.t, ⟨(decide (r15 = 1)), rfl, h⟩⟩

def F25_1 (Q : Sl → Bool → Hp → Prop) (y65 : Sl) (y66 : Bool) (H_1 : Hp) : Prop :=
Q y65 y66 H_1
def F25_3 (Q : Sl → Bool → Hp → Prop) (X2 : Sl → Bool → Int → Hp → Prop) (y14 : (Option Addr)) (y15 : Sl) (y16 y17 : Int) (y63 : Sl) (y64 : Bool) (H_3 : Hp) : Prop :=
X2 y63 y64 (IntKind.i64.wrap (y17 + 1)) H_3
def F25_L2b (Q : Sl → Bool → Hp → Prop) (X2 : Sl → Bool → Int → Hp → Prop) (y10 : (Option Addr)) (y11 : Sl) (y12 : Int) (y7 : Sl) (y8 : Bool) (y9 : Int) (H_2 : Hp) : Prop :=
((decide (y9 < y12)) = true → (∃ a18 : Addr, (y11).b = some a18 ∧ (0 : Int) ≤ y9 ∧ y9 < ((y11).n : Int) ∧ (
 ∃ (x23 x24 x25 : Int) (x26 : Bool) (x27 x28 : Int) (x29 : ByteArray) (x30 : Bool), cells H_2 (Addr.add a18 (y9.toNat * 8)) (lR x23 x24 x25 x26 x27 x28 x29 x30) 0 ∧ (
 ∀ H31 : Hp, H31 = Array.push H_2 (.cells (lR 0 0 0 false 0 0 bE false).toArray 80) → (
 mayw H31 (bk H_2) 8 0 ∧ ∀ H33 : Hp, H33 = sets H31 (bk H_2) (lR x23 x24 x25 x26 x27 x28 x29 x30) 0 → (
 ∃ (x37 x38 x39 : Int) (x40 : Bool) (x41 x42 : Int) (x43 : ByteArray) (x44 : Bool), cells H33 (bk H_2) (lR x37 x38 x39 x40 x41 x42 x43 x44) 0 ∧ (
 F43 y10 x37 x38 x39 x40 x41 x42 x43 x44 H33 (fun (r47 : Bool) (H45 : Hp) => 
 (r47 = true → (∃ (x50 x51 x52 : Int) (x53 : Bool) (x54 x55 : Int) (x56 : ByteArray) (x57 : Bool), cells H45 (bk H_2) (lR x50 x51 x52 x53 x54 x55 x56 x57) 0 ∧ (
 ∀ H58 : Hp, H58 = Array.push H45 (.cells (lR x50 x51 x52 x53 x54 x55 x56 x57).toArray 80) → (
 AppendF H58 80 8 72 (lR 0 0 0 false 0 0 bE false).toArray y7 ((Sl.mk (some (bk H45)) 1 1)).b ((Sl.mk (some (bk H45)) 1 1)).n (fun (r62 : Sl) (H60 : Hp) => 
 F25_3 Q X2 y10 y11 y12 y9 r62 y8 H60))))) ∧
 (r47 = false → (F25_3 Q X2 y10 y11 y12 y9 y7 false H45)))))))))) ∧
 ((decide (y9 < y12)) = false → (F25_1 Q y7 y8 H_2))
def F25_L2 (Q : Sl → Bool → Hp → Prop) (y10 : (Option Addr)) (y11 : Sl) (y12 : Int) (y7 : Sl) (y8 : Bool) (y9 : Int) (H_2 : Hp) : Prop :=
 ∀ X2 : Sl → Bool → Int → Hp → Prop, (∀ (y7 : Sl) (y8 : Bool) (y9 : Int) (H_2 : Hp), F25_L2b Q X2 y10 y11 y12 y7 y8 y9 H_2 → X2 y7 y8 y9 H_2) → X2 y7 y8 y9 H_2
def F25 (p0 : (Option Addr)) (p1_0 : Sl) (p1_1 : Bool) (H : Hp) (Q : Sl → Bool → Hp → Prop) : Prop :=
∀ H1 : Hp, H1 = Array.push H (.cells #[(Sl.v p1_0), (bv p1_1)] 68) → (
 ∃ x4 : Bool, cell H1 (Addr.add (bk H) 1) = some (bv x4) ∧ (
 ∃ x6 : Sl, cell H1 (bk H) = some (Sl.v x6) ∧ (
 F25_L2 Q p0 x6 ((x6).n : Int) Sl.nil x4 0 H1)))
theorem walk25 {w0 : World} {p0 : (Option Addr)} {p1_0 : Sl} {p1_1 : Bool} {H : Hp} {Q : Sl → Bool → Hp → Prop} (h : F25 p0 p1_0 p1_1 H Q) :
  Good prog w0 25 #[(.pointer p0), (.agg #[(Sl.v p1_0), (bv p1_1)])] H (fun v H => ∃ (r0 : Sl) (r1 : Bool) , v = (.tuple #[(Sl.v r0), (bv r1)]) ∧ Q r0 r1 H) := by
 unfold F25 at h
 refine Good.enter' (fn := f25) func25 rfl rfl rfl (ws (wr_ (ho rfl (ob (v := (.agg #[(Sl.v p1_0), (bv p1_1)])) rfl) ?_)))
 rintro _ H1 ⟨rfl, e2⟩
 replace h := h H1 e2
 refine hv (v := sN) rfl (av rfl) (hv (v := (bv false)) rfl (av rfl) (hn (nt (ws (wr_ (hv (v := (pp (Addr.add (bk H) 1))) rfl (fa runUnderlying68 rfl rfl sizeOf4 rfl) ?_))))))
 obtain ⟨x4, c3, h⟩ := h
 refine hv (v := (bv x4)) rfl (l1 isAgg4 rfl c3) (hv (v := (bv x4)) rfl (av rfl) (hn (nt (wc (fun ρ H_1 => ∃ (y65 : Sl) (y66 : Bool), Env.Is ρ [(4, (Sl.v y65)), (5, (bv y66))] ∧ F25_1 Q y65 y66 H_1) ?_ ?_))))
 ·refine ws (wr_ (hv (v := (pp (bk H))) rfl (HVal.fieldAddr0 runUnderlying68 rfl rfl sizeOf62 rfl) ?_))
  obtain ⟨x6, c5, h⟩ := h
  refine hv (v := (Sl.v x6)) rfl (l1 isAgg62 rfl c5) (hv (v := (iv ((x6).n : Int))) rfl (HVal.len runUnderlying62 rfl) (hv (v := (iv 0)) rfl (mv rfl) ?_))
  refine hn (nt (wb (HW.loop' (fun L2 hL2 => ?_))))
  obtain ⟨X2, hX2⟩ : ∃ X2 : Sl → Bool → Int → Hp → Prop, ∀ (y7 : Sl) (y8 : Bool) (y9 : Int) (H_2 : Hp), X2 y7 y8 y9 H_2 ↔ ∀ ρ, Env.Is ρ [(0, (.pointer p0)), (11, (Sl.v x6)), (12, (iv ((x6).n : Int))), (4, (Sl.v y7)), (5, (bv y8)), (13, (iv y9))] → L2 ρ H_2 := ⟨_, fun _ _ _ _ => Iff.rfl⟩
  refine (hX2 _ _ _ _).1 (h X2 ?_) _ ?_
  rotate_left
  ·exact (isp rfl)
  clear h
  intro y7 y8 y9 H_2 h
  refine (hX2 _ _ _ _).2 fun ρ hI => ?_
  obtain ⟨ρ0, rfl⟩ := hI.ex
  clear hI; unfold F25_L2b at h; refine hL2 _ _ ?_
  refine ws (wr_ (hv (v := (bv (decide (y9 < ((x6).n : Int))))) rfl (HVal.lss rfl rfl) (hn (nt (ws ?_)))))
  obtain ⟨hT, hF⟩ := h
  refine wk (decide (y9 < ((x6).n : Int))) rfl (fun hb13 => ?_) (fun hb13 => ?_)
  ·have h := hT hb13
   refine wp_ (nt (wc (fun ρ H_3 => ∃ (y63 : Sl) (y64 : Bool), Env.Is ρ [(0, (.pointer p0)), (11, (Sl.v x6)), (12, (iv ((x6).n : Int))), (13, (iv y9)), (4, (Sl.v y63)), (5, (bv y64))] ∧ F25_3 Q X2 p0 x6 ((x6).n : Int) y9 y63 y64 H_3) ?_ ?_))
   ·refine wb (ws (wr_ ?_))
    obtain ⟨a18, e19, b20, b21, h⟩ := h
    refine hv (v := (pp (Addr.add a18 (y9.toNat * 8)))) rfl (ia runUnderlying62 sizeOf80 (Sl.v_some rfl e19) rfl b20 b21) ?_
    obtain ⟨x23, x24, x25, x26, x27, x28, x29, x30, c22, h⟩ := h
    refine hv (v := (.agg (lR x23 x24 x25 x26 x27 x28 x29 x30).toArray)) rfl (ln (lR x23 x24 x25 x26 x27 x28 x29 x30) isAgg80 sizeOf80 rfl c22) ?_
    refine ho rfl (HOp.alloc zeroValue80) ?_
    rintro _ H31 ⟨rfl, e32⟩
    replace h := h H31 e32
    obtain ⟨z35, h⟩ := h
    refine hq (HOp.storeN' (l := (lR x23 x24 x25 x26 x27 x28 x29 x30)) sizeOf80 rfl rfl rfl z35) ?_
    rintro _ H33 e34
    replace h := h H33 e34
    refine hn (nt (ws (wr_ (hv (v := (.pointer p0)) rfl (mv rfl) ?_))))
    obtain ⟨x37, x38, x39, x40, x41, x42, x43, x44, c36, h⟩ := h
    refine hv (v := (.agg (lR x37 x38 x39 x40 x41 x42 x43 x44).toArray)) rfl (ln (lR x37 x38 x39 x40 x41 x42 x43 x44) isAgg80 sizeOf80 rfl c36) ?_
    refine ho rfl (HOp.call' 43 [(.pointer p0), (.agg (lR x37 x38 x39 x40 x41 x42 x43 x44).toArray)] (cap := []) rfl rfl call43 (walk43 h)) ?_
    rintro _ H45 ⟨r47, rfl, h⟩
    refine hn (nt ?_)
    obtain ⟨hT, hF⟩ := h
    refine wk r47 rfl (fun hb48 => ?_) (fun hb48 => ?_)
    ·have h := hT hb48
     refine wr_ (hv (v := (Sl.v y7)) rfl (mv rfl) ?_)
     obtain ⟨x50, x51, x52, x53, x54, x55, x56, x57, c49, h⟩ := h
     refine hv (v := (.agg (lR x50 x51 x52 x53 x54 x55 x56 x57).toArray)) rfl (ln (lR x50 x51 x52 x53 x54 x55 x56 x57) isAgg80 sizeOf80 rfl c49) ?_
     refine ho rfl (HOp.buildSlice' (zs := (lR 0 0 0 false 0 0 bE false)) (cs := (lR x50 x51 x52 x53 x54 x55 x56 x57)) runUnderlying62 sizeOf80 zeroValue80 (by decide) (by kernel_rfl) (by kernel_rfl) (by decide)) ?_
     rintro _ H58 ⟨rfl, e59⟩
     replace h := h H58 e59
     refine ho rfl (HOp.append (k := 8) (b := 72) runUnderlying62 runUnderlying62 typeInfo80 rfl rfl zeroValue80 rfl rfl h) ?_
     rintro _ H60 ⟨r62, rfl, h⟩
     refine hv (v := (Sl.v r62)) rfl (av rfl) (hn (nb (nt ?_)))
     exact ⟨r62, y8, (isp rfl), h⟩
    have h := hF hb48
    refine wr_ (hv (v := (bv false)) rfl (av rfl) (hn (nb (nt ?_))))
    exact ⟨y7, false, (isp rfl), h⟩
   rintro ρ H_3 ⟨y63, y64, hI, h⟩
   obtain ⟨ρ0, rfl⟩ := hI.ex
   clear hI; unfold F25_3 at h
   refine wr_ (hv (v := (iv (IntKind.i64.wrap (y9 + 1)))) rfl (HVal.add rfl rfl) (hv (v := (iv (IntKind.i64.wrap (y9 + 1)))) rfl (mv rfl) ?_))
   refine hn (nt ?_)
   exact (hX2 _ _ _ _).1 h _ (isp rfl)
  have h := hF hb13
  refine we (te (te (be (nt ?_))))
  exact ⟨y7, y8, (isp rfl), h⟩
 rintro ρ H_1 ⟨y65, y66, hI, h⟩
 obtain ⟨ρ0, rfl⟩ := hI.ex
 clear hI; unfold F25_1 at h
 refine ws (wr_ (hv (v := (Sl.v y65)) rfl (mv rfl) (hv (v := (bv y66)) rfl (mv rfl) (hv (v := (Sl.v y65)) rfl (av rfl) ?_))))
 refine hv (v := (bv y66)) rfl (av rfl) (hn (nt (HW.ret ?_)))
 exact ⟨_, resOf2 rfl Res1.t Res1.t, ⟨y65, y66, rfl, h⟩⟩

def F59_1 (Q : Bool → Hp → Prop) (y1 : (Option Addr)) (y2 y3 : Int) (y10 : Bool) (H_1 : Hp) : Prop :=
(y10 = true → (Q false H_1)) ∧
 (y10 = false → (∃ a22 : Addr, y1 = some a22 ∧ (
 ∃ x25 : Sl, cell H_1 a22 = some (Sl.v x25) ∧ (
 ∃ a26 : Addr, (x25).b = some a26 ∧ (0 : Int) ≤ y2 ∧ y2 < ((x25).n : Int) ∧ (
 (cell H_1 (Addr.add a26 (y2.toNat * 1))).isSome = true ∧ frz H_1 (Addr.add a26 (y2.toNat * 1)) = false ∧ ∀ H30 : Hp, H30 = setc H_1 (Addr.add a26 (y2.toNat * 1)) (iv y3) → (
 Q true H30))))))
def F59 (p0 : (Option Addr)) (p1 p2 : Int) (H : Hp) (Q : Bool → Hp → Prop) : Prop :=
∃ a4 : Addr, p0 = some a4 ∧ (
 ∃ x7 : Bool, cell H (Addr.add a4 3) = some (bv x7) ∧ (
 (x7 = true → (F59_1 Q p0 p1 p2 true H)) ∧
 (x7 = false → (∃ a11 : Addr, p0 = some a11 ∧ (
 ∃ x14 : Sl, cell H a11 = some (Sl.v x14) ∧ (
 ∃ a15 : Addr, (x14).b = some a15 ∧ (0 : Int) ≤ p1 ∧ p1 < ((x14).n : Int) ∧ (
 ∃ x20 : Int, cell H (Addr.add a15 (p1.toNat * 1)) = some (iv x20) ∧ (
 F59_1 Q p0 p1 p2 (decide (p2 ≤ x20)) H))))))))
theorem walk59 {w0 : World} {p0 : (Option Addr)} {p1 p2 : Int} {H : Hp} {Q : Bool → Hp → Prop} (h : F59 p0 p1 p2 H Q) :
  Good prog w0 59 #[(.pointer p0), (iv p1), (iv p2)] H (fun v H => ∃ (r0 : Bool) , v = (bv r0) ∧ Q r0 H) := by
 unfold F59 at h
 refine Good.enter' (fn := f59) func59 rfl rfl rfl (ws (wr_ (hv (v := (bv false)) rfl (av rfl) (hn (nt (ws ?_))))))
 refine wc (fun ρ H_1 => ∃ (y10 : Bool), Env.Is ρ [(0, (.pointer p0)), (1, (iv p1)), (2, (iv p2)), (21, (bv y10))] ∧ F59_1 Q p0 p1 p2 y10 H_1) ?_ ?_
 ·refine wr_ (hv (v := (.pointer p0)) rfl (mv rfl) ?_)
  obtain ⟨a4, e5, h⟩ := h
  refine hv (v := (pp a4)) rfl (HVal.nilCheck (congrArg Value.pointer e5)) (hv (v := (pp (Addr.add a4 3))) rfl (fa runUnderlying101 rfl rfl sizeOf4 rfl) ?_)
  obtain ⟨x7, c6, h⟩ := h
  refine hv (v := (bv x7)) rfl (l1 isAgg4 rfl c6) (hv (v := (bv x7)) rfl (mv rfl) ?_)
  obtain ⟨hT, hF⟩ := h
  rcases Bool.eq_false_or_eq_true x7 with hb8 | hb9
  ·have h := hT hb8
   refine hs_ rfl rfl rfl rfl (cB hb8) (hs_ rfl rfl rfl rfl (cB hb8) (hs_ rfl rfl rfl rfl (cB hb8) (hs_ rfl rfl rfl rfl (cB hb8) ?_)))
   refine hs_ rfl rfl rfl rfl (cB hb8) (hs_ rfl rfl rfl rfl (cB hb8) (hs_ rfl rfl rfl rfl (cB hb8) (hs_ rfl rfl rfl rfl (cB hb8) ?_)))
   refine hs_ rfl rfl rfl rfl (cB hb8) (hv (v := (bv true)) rfl (pt_ rfl hb8 rfl) (hn (nt ?_)))
   exact ⟨true, (isp rfl), h⟩
  have h := hF hb9
  refine hg (v := (iv p2)) rfl rfl rfl rfl (cB hb9) (mv rfl) (hg (v := (.pointer p0)) rfl rfl rfl rfl (cB hb9) (mv rfl) ?_)
  obtain ⟨a11, e12, h⟩ := h
  refine hg (v := (pp a11)) rfl rfl rfl rfl (cB hb9) (HVal.nilCheck (congrArg Value.pointer e12)) (hg (v := (pp a11)) rfl rfl rfl rfl (cB hb9) (HVal.fieldAddr0 runUnderlying101 rfl rfl sizeOf98 rfl) ?_)
  obtain ⟨x14, c13, h⟩ := h
  refine hg (v := (Sl.v x14)) rfl rfl rfl rfl (cB hb9) (l1 isAgg98 rfl c13) (hg (v := (iv p1)) rfl rfl rfl rfl (cB hb9) (mv rfl) ?_)
  obtain ⟨a15, e16, b17, b18, h⟩ := h
  refine hg (v := (pp (Addr.add a15 (p1.toNat * 1)))) rfl rfl rfl rfl (cB hb9) (ia runUnderlying98 sizeOf2 (Sl.v_some rfl e16) rfl b17 b18) ?_
  obtain ⟨x20, c19, h⟩ := h
  refine hg (v := (iv x20)) rfl rfl rfl rfl (cB hb9) (l1 isAgg2 rfl c19) (hg (v := (bv (decide (p2 ≤ x20)))) rfl rfl rfl rfl (cB hb9) (HVal.leq rfl rfl) ?_)
  refine hv (v := (bv (decide (p2 ≤ x20)))) rfl (pf_ rfl hb9 rfl) (hn (nt ?_))
  exact ⟨(decide (p2 ≤ x20)), (isp rfl), h⟩
 rintro ρ H_1 ⟨y10, hI, h⟩
 obtain ⟨ρ0, rfl⟩ := hI.ex
 clear hI; unfold F59_1 at h
 obtain ⟨hT, hF⟩ := h
 refine wk y10 rfl (fun hb21 => ?_) (fun hb21 => ?_)
 ·have h := hT hb21
  refine ws (wr_ (hv (v := (bv false)) rfl (av rfl) (hn (nt (HW.ret (tr ?_))))))
  exact ⟨_, resOf1 rfl Res1.t, ⟨false, rfl, h⟩⟩
 have h := hF hb21
 refine wp_ (nt (ws (wr_ (hv (v := (.pointer p0)) rfl (mv rfl) ?_))))
 obtain ⟨a22, e23, h⟩ := h
 refine hv (v := (pp a22)) rfl (HVal.nilCheck (congrArg Value.pointer e23)) (hv (v := (pp a22)) rfl (HVal.fieldAddr0 runUnderlying101 rfl rfl sizeOf98 rfl) ?_)
 obtain ⟨x25, c24, h⟩ := h
 refine hv (v := (Sl.v x25)) rfl (l1 isAgg98 rfl c24) (hv (v := (iv p1)) rfl (mv rfl) (hv (v := (iv p2)) rfl (mv rfl) ?_))
 obtain ⟨a26, e27, b28, b29, h⟩ := h
 refine hv (v := (pp (Addr.add a26 (p1.toNat * 1)))) rfl (ia runUnderlying98 sizeOf2 (Sl.v_some rfl e27) rfl b28 b29) ?_
 obtain ⟨z32, z33, h⟩ := h
 refine hq (HOp.store1 sizeOf2 rfl rfl rfl z32 z33) ?_
 rintro _ H30 e31
 replace h := h H30 e31
 refine hn (nt (ws (wr_ (hv (v := (bv true)) rfl (av rfl) (hn (nt (HW.ret ?_)))))))
 exact ⟨_, resOf1 rfl Res1.t, ⟨true, rfl, h⟩⟩

end Go.Hw
