/- The walks of this seat, printed by a program of this session (wip/tools/gen.py): of each function what it does to the heap, and that it does so. -/
import Derived.Test.YtkdjcmfmflljlaaDoorHwZ
import Derived.Test.YtkdjcmfmflljlaaDoorProg
import Derived.Test.YtkdjcmfmflljlaaDoorWAux
import Derived.Test.YtkdjcmfmflljlaaDoorWalkA
set_option linter.unusedVariables false
set_option linter.unusedSimpArgs false
set_option maxRecDepth 100000
set_option maxHeartbeats 4000000
namespace Go.Hw
open Go Go.Proofs Tryd
def F58_1 (Q : Hp → Prop) (y8 : (Option Addr)) (y9 : Addr) (y10 : Int) (H_1 : Hp) : Prop :=
∃ x30 : Int, cell H_1 (Addr.add y9 1) = some (iv x30) ∧ (
 F59 y8 x30 (IntKind.i64.wrap (y10 + 1)) H_1 (fun (r33 : Bool) (H31 : Hp) => 
 Q H31))
def F58_2 (Q : Hp → Prop) (y35 : (Option Addr)) (y36 : Addr) (y37 : Int) (H_2 : Hp) : Prop :=
∃ a56 : Addr, y35 = some a56 ∧ (
 ∃ x59 : Sl, cell H_2 (Addr.add a56 1) = some (Sl.v x59) ∧ (
 ∃ x61 : Int, cell H_2 (Addr.add y36 1) = some (iv x61) ∧ (
 ∃ a62 : Addr, y35 = some a62 ∧ (
 ∃ x65 : Sl, cell H_2 (Addr.add a62 1) = some (Sl.v x65) ∧ (
 ∃ x67 : Int, cell H_2 (Addr.add y36 1) = some (iv x67) ∧ (
 ∃ a68 : Addr, (x65).b = some a68 ∧ (0 : Int) ≤ x67 ∧ x67 < ((x65).n : Int) ∧ (
 ∃ x73 : Int, cell H_2 (Addr.add a68 (x67.toNat * 1)) = some (iv x73) ∧ (
 ∃ a74 : Addr, (x59).b = some a74 ∧ (0 : Int) ≤ x61 ∧ x61 < ((x59).n : Int) ∧ (
 (cell H_2 (Addr.add a74 (x61.toNat * 1))).isSome = true ∧ frz H_2 (Addr.add a74 (x61.toNat * 1)) = false ∧ ∀ H78 : Hp, H78 = setc H_2 (Addr.add a74 (x61.toNat * 1)) (iv (if (IntKind.i64.wrap (y37 - 1)) < x73 then (IntKind.i64.wrap (y37 - 1)) else x73)) → (
 Q H78))))))))))
def F58 (p0 : (Option Addr)) (p1_0 p1_1 p1_2 : Int) (p1_3 : Bool) (p1_4 p1_5 : Int) (p1_6 : ByteArray) (p1_7 : Bool) (H : Hp) (Q : Hp → Prop) : Prop :=
∀ H1 : Hp, H1 = Array.push H (.cells (lR p1_0 p1_1 p1_2 p1_3 p1_4 p1_5 p1_6 p1_7).toArray 80) → (
 ∃ x4 : Int, cell H1 (Addr.add (Addr.add (bk H) 4) 1) = some (iv x4) ∧ (
 ∃ x6 : Int, cell H1 (bk H) = some (iv x6) ∧ (
 ((decide (x6 = 10)) = true → (∃ a11 : Addr, p0 = some a11 ∧ (
 ∃ x14 : Bool, cell H1 (Addr.add a11 3) = some (bv x14) ∧ (
 (x14 = true → (∃ a17 : Addr, p0 = some a17 ∧ (
 (cell H1 (Addr.add a17 3)).isSome = true ∧ frz H1 (Addr.add a17 3) = false ∧ ∀ H19 : Hp, H19 = setc H1 (Addr.add a17 3) (bv true) → (
 F58_1 Q p0 (bk H) x4 H19)))) ∧
 (x14 = false → (∃ a23 : Addr, p0 = some a23 ∧ (
 (cell H1 (Addr.add a23 3)).isSome = true ∧ frz H1 (Addr.add a23 3) = false ∧ ∀ H25 : Hp, H25 = setc H1 (Addr.add a23 3) (bv (decide (x4 = 9223372036854775807))) → (
 F58_1 Q p0 (bk H) x4 H25)))))))) ∧
 ((decide (x6 = 10)) = false → (((decide (x6 = 8)) = true → (∃ a38 : Addr, p0 = some a38 ∧ (
 ∃ x41 : Bool, cell H1 (Addr.add a38 3) = some (bv x41) ∧ (
 (x41 = true → (∃ a44 : Addr, p0 = some a44 ∧ (
 (cell H1 (Addr.add a44 3)).isSome = true ∧ frz H1 (Addr.add a44 3) = false ∧ ∀ H46 : Hp, H46 = setc H1 (Addr.add a44 3) (bv true) → (
 F58_2 Q p0 (bk H) x4 H46)))) ∧
 (x41 = false → (∃ a50 : Addr, p0 = some a50 ∧ (
 (cell H1 (Addr.add a50 3)).isSome = true ∧ frz H1 (Addr.add a50 3) = false ∧ ∀ H52 : Hp, H52 = setc H1 (Addr.add a50 3) (bv (decide (x4 = (-9223372036854775808)))) → (
 F58_2 Q p0 (bk H) x4 H52)))))))) ∧
 ((decide (x6 = 8)) = false → (((decide (x6 = 11)) = true → (∃ x84 : Int, cell H1 (Addr.add (bk H) 1) = some (iv x84) ∧ (
 F59 p0 x84 x4 H1 (fun (r87 : Bool) (H85 : Hp) => 
 Q H85)))) ∧
 ((decide (x6 = 11)) = false → (((decide (x6 = 9)) = true → (∃ a89 : Addr, p0 = some a89 ∧ (
 ∃ x92 : Sl, cell H1 (Addr.add a89 1) = some (Sl.v x92) ∧ (
 ∃ x94 : Int, cell H1 (Addr.add (bk H) 1) = some (iv x94) ∧ (
 ∃ a95 : Addr, p0 = some a95 ∧ (
 ∃ x98 : Sl, cell H1 (Addr.add a95 1) = some (Sl.v x98) ∧ (
 ∃ x100 : Int, cell H1 (Addr.add (bk H) 1) = some (iv x100) ∧ (
 ∃ a101 : Addr, (x98).b = some a101 ∧ (0 : Int) ≤ x100 ∧ x100 < ((x98).n : Int) ∧ (
 ∃ x106 : Int, cell H1 (Addr.add a101 (x100.toNat * 1)) = some (iv x106) ∧ (
 ∃ a107 : Addr, (x92).b = some a107 ∧ (0 : Int) ≤ x94 ∧ x94 < ((x92).n : Int) ∧ (
 (cell H1 (Addr.add a107 (x94.toNat * 1))).isSome = true ∧ frz H1 (Addr.add a107 (x94.toNat * 1)) = false ∧ ∀ H111 : Hp, H111 = setc H1 (Addr.add a107 (x94.toNat * 1)) (iv (if x4 < x106 then x4 else x106)) → (
 Q H111)))))))))))) ∧
 ((decide (x6 = 9)) = false → (((decide (x6 = 6)) = true → (∃ x117 : Int, cell H1 (Addr.add (bk H) 1) = some (iv x117) ∧ (
 F59 p0 x117 x4 H1 (fun (r120 : Bool) (H118 : Hp) => 
 ∃ a121 : Addr, p0 = some a121 ∧ (
 ∃ x124 : Sl, cell H118 (Addr.add a121 1) = some (Sl.v x124) ∧ (
 ∃ x126 : Int, cell H118 (Addr.add (bk H) 1) = some (iv x126) ∧ (
 ∃ a127 : Addr, p0 = some a127 ∧ (
 ∃ x130 : Sl, cell H118 (Addr.add a127 1) = some (Sl.v x130) ∧ (
 ∃ x132 : Int, cell H118 (Addr.add (bk H) 1) = some (iv x132) ∧ (
 ∃ a133 : Addr, (x130).b = some a133 ∧ (0 : Int) ≤ x132 ∧ x132 < ((x130).n : Int) ∧ (
 ∃ x138 : Int, cell H118 (Addr.add a133 (x132.toNat * 1)) = some (iv x138) ∧ (
 ∃ a139 : Addr, (x124).b = some a139 ∧ (0 : Int) ≤ x126 ∧ x126 < ((x124).n : Int) ∧ (
 (cell H118 (Addr.add a139 (x126.toNat * 1))).isSome = true ∧ frz H118 (Addr.add a139 (x126.toNat * 1)) = false ∧ ∀ H143 : Hp, H143 = setc H118 (Addr.add a139 (x126.toNat * 1)) (iv (if x4 < x138 then x4 else x138)) → (
 Q H143)))))))))))))) ∧
 ((decide (x6 = 6)) = false → (Q H1)))))))))))))
theorem walk58 {w0 : World} {p0 : (Option Addr)} {p1_0 p1_1 p1_2 : Int} {p1_3 : Bool} {p1_4 p1_5 : Int} {p1_6 : ByteArray} {p1_7 : Bool} {H : Hp} {Q : Hp → Prop} (h : F58 p0 p1_0 p1_1 p1_2 p1_3 p1_4 p1_5 p1_6 p1_7 H Q) :
  Good prog w0 58 #[(.pointer p0), (.agg (lR p1_0 p1_1 p1_2 p1_3 p1_4 p1_5 p1_6 p1_7).toArray)] H (fun v H => v = (.tuple #[]) ∧ Q H) := by
 unfold F58 at h
 refine Good.enter' (fn := f58) func58 rfl rfl rfl (ws (wr_ (ho rfl (ob (v := (.agg (lR p1_0 p1_1 p1_2 p1_3 p1_4 p1_5 p1_6 p1_7).toArray)) rfl) ?_)))
 rintro _ H1 ⟨rfl, e2⟩
 replace h := h H1 e2
 refine hn (nt (ws (wr_ (hv (v := (pp (Addr.add (bk H) 4))) rfl (fa runUnderlying80 rfl rfl sizeOf25 rfl) ?_))))
 refine hv (v := (pp (Addr.add (Addr.add (bk H) 4) 1))) rfl (fa runUnderlying25 rfl rfl sizeOf2 rfl) ?_
 obtain ⟨x4, c3, h⟩ := h
 refine hv (v := (iv x4)) rfl (l1 isAgg2 rfl c3) (hv (v := (iv x4)) rfl (av rfl) (hn (nt (ws (wr_ ?_)))))
 refine hv (v := (pp (bk H))) rfl (HVal.fieldAddr0 runUnderlying80 rfl rfl sizeOf3 rfl) ?_
 obtain ⟨x6, c5, h⟩ := h
 refine hv (v := (iv x6)) rfl (l1 isAgg3 rfl c5) (hn (nt (wb (ws (wr_ (hv (v := (bv (decide (x6 = 10)))) rfl (HVal.eqlI rfl rfl) ?_))))))
 refine hv (v := (bv (decide (x6 = 10)))) rfl (av rfl) (hn (nt ?_))
 obtain ⟨hT, hF⟩ := h
 refine wk (decide (x6 = 10)) rfl (fun hb7 => ?_) (fun hb7 => ?_)
 ·have h := hT hb7
  refine wc (fun ρ H_1 => Env.Is ρ [(0, (.pointer p0)), (3, (pp (bk H))), (4, (iv x4))] ∧ F58_1 Q p0 (bk H) x4 H_1) ?_ ?_
  ·refine wr_ (hv (v := (.pointer p0)) rfl (mv rfl) (hv (v := (.pointer p0)) rfl (mv rfl) ?_))
   obtain ⟨a11, e12, h⟩ := h
   refine hv (v := (pp a11)) rfl (HVal.nilCheck (congrArg Value.pointer e12)) (hv (v := (pp (Addr.add a11 3))) rfl (fa runUnderlying101 rfl rfl sizeOf4 rfl) ?_)
   obtain ⟨x14, c13, h⟩ := h
   refine hv (v := (bv x14)) rfl (l1 isAgg4 rfl c13) (hv (v := (bv x14)) rfl (mv rfl) ?_)
   obtain ⟨hT, hF⟩ := h
   rcases Bool.eq_false_or_eq_true x14 with hb15 | hb16
   ·have h := hT hb15
    refine hs_ rfl rfl rfl rfl (cB hb15) (hs_ rfl rfl rfl rfl (cB hb15) (hv (v := (bv true)) rfl (pt_ rfl hb15 rfl) ?_))
    obtain ⟨a17, e18, h⟩ := h
    refine hv (v := (pp a17)) rfl (HVal.nilCheck (congrArg Value.pointer e18)) (hv (v := (pp (Addr.add a17 3))) rfl (fa runUnderlying101 rfl rfl sizeOf4 rfl) ?_)
    obtain ⟨z21, z22, h⟩ := h
    refine hq (HOp.store1 sizeOf4 rfl rfl rfl z21 z22) ?_
    rintro _ H19 e20
    replace h := h H19 e20
    refine hn (nt ?_)
    exact ⟨(isp rfl), h⟩
   have h := hF hb16
   refine hg (v := (iv x4)) rfl rfl rfl rfl (cB hb16) (mv rfl) (hg (v := (bv (decide (x4 = 9223372036854775807)))) rfl rfl rfl rfl (cB hb16) (HVal.eqlI rfl rfl) ?_)
   refine hv (v := (bv (decide (x4 = 9223372036854775807)))) rfl (pf_ rfl hb16 rfl) ?_
   obtain ⟨a23, e24, h⟩ := h
   refine hv (v := (pp a23)) rfl (HVal.nilCheck (congrArg Value.pointer e24)) (hv (v := (pp (Addr.add a23 3))) rfl (fa runUnderlying101 rfl rfl sizeOf4 rfl) ?_)
   obtain ⟨z27, z28, h⟩ := h
   refine hq (HOp.store1 sizeOf4 rfl rfl rfl z27 z28) ?_
   rintro _ H25 e26
   replace h := h H25 e26
   refine hn (nt ?_)
   exact ⟨(isp rfl), h⟩
  rintro ρ H_1 ⟨hI, h⟩
  obtain ⟨ρ0, rfl⟩ := hI.ex
  clear hI; unfold F58_1 at h
  refine wr_ (hv (v := (.pointer p0)) rfl (mv rfl) (hv (v := (pp (Addr.add (bk H) 1))) rfl (fa runUnderlying80 rfl rfl sizeOf3 rfl) ?_))
  obtain ⟨x30, c29, h⟩ := h
  refine hv (v := (iv x30)) rfl (l1 isAgg3 rfl c29) (hv (v := (iv x4)) rfl (mv rfl) (hv (v := (iv (IntKind.i64.wrap (x4 + 1)))) rfl (HVal.add rfl rfl) ?_))
  refine ho rfl (HOp.call' 59 [(.pointer p0), (iv x30), (iv (IntKind.i64.wrap (x4 + 1)))] (cap := []) rfl rfl call59 (walk59 h)) ?_
  rintro _ H31 ⟨r33, rfl, h⟩
  refine hn (nb ?_)
  exact ⟨_, resOf0 rfl , ⟨rfl, h⟩⟩
 have h := hF hb7
 refine ws (wr_ (hv (v := (bv (decide (x6 = 8)))) rfl (HVal.eqlI rfl rfl) (hv (v := (bv (decide (x6 = 8)))) rfl (av rfl) ?_)))
 refine hn (nt ?_)
 obtain ⟨hT, hF⟩ := h
 refine wk (decide (x6 = 8)) rfl (fun hb34 => ?_) (fun hb34 => ?_)
 ·have h := hT hb34
  refine wc (fun ρ H_2 => Env.Is ρ [(0, (.pointer p0)), (3, (pp (bk H))), (4, (iv x4))] ∧ F58_2 Q p0 (bk H) x4 H_2) ?_ ?_
  ·refine wr_ (hv (v := (.pointer p0)) rfl (mv rfl) (hv (v := (.pointer p0)) rfl (mv rfl) ?_))
   obtain ⟨a38, e39, h⟩ := h
   refine hv (v := (pp a38)) rfl (HVal.nilCheck (congrArg Value.pointer e39)) (hv (v := (pp (Addr.add a38 3))) rfl (fa runUnderlying101 rfl rfl sizeOf4 rfl) ?_)
   obtain ⟨x41, c40, h⟩ := h
   refine hv (v := (bv x41)) rfl (l1 isAgg4 rfl c40) (hv (v := (bv x41)) rfl (mv rfl) ?_)
   obtain ⟨hT, hF⟩ := h
   rcases Bool.eq_false_or_eq_true x41 with hb42 | hb43
   ·have h := hT hb42
    refine hs_ rfl rfl rfl rfl (cB hb42) (hs_ rfl rfl rfl rfl (cB hb42) (hv (v := (bv true)) rfl (pt_ rfl hb42 rfl) ?_))
    obtain ⟨a44, e45, h⟩ := h
    refine hv (v := (pp a44)) rfl (HVal.nilCheck (congrArg Value.pointer e45)) (hv (v := (pp (Addr.add a44 3))) rfl (fa runUnderlying101 rfl rfl sizeOf4 rfl) ?_)
    obtain ⟨z48, z49, h⟩ := h
    refine hq (HOp.store1 sizeOf4 rfl rfl rfl z48 z49) ?_
    rintro _ H46 e47
    replace h := h H46 e47
    refine hn (nt ?_)
    exact ⟨(isp rfl), h⟩
   have h := hF hb43
   refine hg (v := (iv x4)) rfl rfl rfl rfl (cB hb43) (mv rfl) (hg (v := (bv (decide (x4 = (-9223372036854775808))))) rfl rfl rfl rfl (cB hb43) (HVal.eqlI rfl rfl) ?_)
   refine hv (v := (bv (decide (x4 = (-9223372036854775808))))) rfl (pf_ rfl hb43 rfl) ?_
   obtain ⟨a50, e51, h⟩ := h
   refine hv (v := (pp a50)) rfl (HVal.nilCheck (congrArg Value.pointer e51)) (hv (v := (pp (Addr.add a50 3))) rfl (fa runUnderlying101 rfl rfl sizeOf4 rfl) ?_)
   obtain ⟨z54, z55, h⟩ := h
   refine hq (HOp.store1 sizeOf4 rfl rfl rfl z54 z55) ?_
   rintro _ H52 e53
   replace h := h H52 e53
   refine hn (nt ?_)
   exact ⟨(isp rfl), h⟩
  rintro ρ H_2 ⟨hI, h⟩
  obtain ⟨ρ0, rfl⟩ := hI.ex
  clear hI; unfold F58_2 at h
  refine HW.draw mixed [(0, some []), (1, some []), (2, some []), (3, some [18]), (4, some []), (5, some [18]), (6, some []), (7, some []), (8, some []), (9, some [18]), (10, some []), (11, some [18]), (12, some []), (13, some [18]), (14, some []), (15, some []), (16, some []), (17, some []), (18, none)] rfl (by kernel_rfl) (by kernel_rfl) ?_
  refine pv (v := (.pointer p0)) rfl rfl (fun _ => mv rfl) ?_
  obtain ⟨a56, e57, h⟩ := h
  refine pv (v := (pp a56)) rfl rfl (fun _ => HVal.nilCheck (congrArg Value.pointer e57)) (pv (v := (pp (Addr.add a56 1))) rfl rfl (fun _ => fa runUnderlying101 rfl rfl sizeOf98 rfl) ?_)
  obtain ⟨x59, c58, h⟩ := h
  refine pl (v := (Sl.v x59)) (fun X => cell X (Addr.add a56 1) = some (Sl.v x59)) rfl rfl (fun _ hX => l1 isAgg98 rfl hX) c58 (pv (v := (pp (Addr.add (bk H) 1))) rfl rfl (fun _ => fa runUnderlying80 rfl rfl sizeOf3 rfl) ?_)
  obtain ⟨x61, c60, h⟩ := h
  refine pl (v := (iv x61)) (fun X => cell X (Addr.add (bk H) 1) = some (iv x61)) rfl rfl (fun _ hX => l1 isAgg3 rfl hX) c60 (pv (v := (.pointer p0)) rfl rfl (fun _ => mv rfl) ?_)
  obtain ⟨a62, e63, h⟩ := h
  refine pv (v := (pp a62)) rfl rfl (fun _ => HVal.nilCheck (congrArg Value.pointer e63)) (pv (v := (pp (Addr.add a62 1))) rfl rfl (fun _ => fa runUnderlying101 rfl rfl sizeOf98 rfl) ?_)
  obtain ⟨x65, c64, h⟩ := h
  refine pl (v := (Sl.v x65)) (fun X => cell X (Addr.add a62 1) = some (Sl.v x65)) rfl rfl (fun _ hX => l1 isAgg98 rfl hX) c64 (pv (v := (pp (Addr.add (bk H) 1))) rfl rfl (fun _ => fa runUnderlying80 rfl rfl sizeOf3 rfl) ?_)
  obtain ⟨x67, c66, h⟩ := h
  refine pl (v := (iv x67)) (fun X => cell X (Addr.add (bk H) 1) = some (iv x67)) rfl rfl (fun _ hX => l1 isAgg3 rfl hX) c66 ?_
  obtain ⟨a68, e69, b70, b71, h⟩ := h
  refine pv (v := (pp (Addr.add a68 (x67.toNat * 1)))) rfl rfl (fun _ => ia runUnderlying98 sizeOf2 (Sl.v_some rfl e69) rfl b70 b71) ?_
  obtain ⟨x73, c72, h⟩ := h
  refine pl (v := (iv x73)) (fun X => cell X (Addr.add a68 (x67.toNat * 1)) = some (iv x73)) rfl rfl (fun _ hX => l1 isAgg2 rfl hX) c72 ?_
  refine pv (v := (iv x4)) rfl rfl (fun _ => mv rfl) (pv (v := (iv (IntKind.i64.wrap (x4 - 1)))) rfl rfl (fun _ => HVal.sub rfl rfl) ?_)
  refine pv (v := (iv (if (IntKind.i64.wrap (x4 - 1)) < x73 then (IntKind.i64.wrap (x4 - 1)) else x73))) rfl rfl (fun _ => HVal.min rfl rfl) ?_
  obtain ⟨a74, e75, b76, b77, h⟩ := h
  refine pv (v := (pp (Addr.add a74 (x61.toNat * 1)))) rfl rfl (fun _ => ia runUnderlying98 sizeOf2 (Sl.v_some rfl e75) rfl b76 b77) ?_
  obtain ⟨z80, z81, h⟩ := h
  refine pn rfl (HOp.store1 sizeOf2 rfl rfl rfl z80 z81) ?_
  rintro _ H78 e79
  replace h := h H78 e79
  refine ⟨SC_of ⟨nofun, nofun, nofun, nofun, nofun, trivial⟩, ?_⟩
  refine HPlan.done (nb ?_)
  exact ⟨_, resOf0 rfl , ⟨rfl, h⟩⟩
 have h := hF hb34
 refine ws (wr_ (hv (v := (bv (decide (x6 = 11)))) rfl (HVal.eqlI rfl rfl) (hv (v := (bv (decide (x6 = 11)))) rfl (av rfl) ?_)))
 refine hn (nt ?_)
 obtain ⟨hT, hF⟩ := h
 refine wk (decide (x6 = 11)) rfl (fun hb82 => ?_) (fun hb82 => ?_)
 ·have h := hT hb82
  refine wr_ (hv (v := (.pointer p0)) rfl (mv rfl) (hv (v := (pp (Addr.add (bk H) 1))) rfl (fa runUnderlying80 rfl rfl sizeOf3 rfl) ?_))
  obtain ⟨x84, c83, h⟩ := h
  refine hv (v := (iv x84)) rfl (l1 isAgg3 rfl c83) (hv (v := (iv x4)) rfl (mv rfl) (ho rfl (HOp.call' 59 [(.pointer p0), (iv x84), (iv x4)] (cap := []) rfl rfl call59 (walk59 h)) ?_))
  rintro _ H85 ⟨r87, rfl, h⟩
  refine hn (nb ?_)
  exact ⟨_, resOf0 rfl , ⟨rfl, h⟩⟩
 have h := hF hb82
 refine ws (wr_ (hv (v := (bv (decide (x6 = 9)))) rfl (HVal.eqlI rfl rfl) (hv (v := (bv (decide (x6 = 9)))) rfl (av rfl) ?_)))
 refine hn (nt ?_)
 obtain ⟨hT, hF⟩ := h
 refine wk (decide (x6 = 9)) rfl (fun hb88 => ?_) (fun hb88 => ?_)
 ·have h := hT hb88
  refine HW.draw mixed [(0, some []), (1, some []), (2, some []), (3, some [17]), (4, some []), (5, some [17]), (6, some []), (7, some []), (8, some []), (9, some [17]), (10, some []), (11, some [17]), (12, some []), (13, some [17]), (14, some []), (15, some []), (16, some []), (17, none)] rfl (by kernel_rfl) (by kernel_rfl) ?_
  refine pv (v := (.pointer p0)) rfl rfl (fun _ => mv rfl) ?_
  obtain ⟨a89, e90, h⟩ := h
  refine pv (v := (pp a89)) rfl rfl (fun _ => HVal.nilCheck (congrArg Value.pointer e90)) (pv (v := (pp (Addr.add a89 1))) rfl rfl (fun _ => fa runUnderlying101 rfl rfl sizeOf98 rfl) ?_)
  obtain ⟨x92, c91, h⟩ := h
  refine pl (v := (Sl.v x92)) (fun X => cell X (Addr.add a89 1) = some (Sl.v x92)) rfl rfl (fun _ hX => l1 isAgg98 rfl hX) c91 (pv (v := (pp (Addr.add (bk H) 1))) rfl rfl (fun _ => fa runUnderlying80 rfl rfl sizeOf3 rfl) ?_)
  obtain ⟨x94, c93, h⟩ := h
  refine pl (v := (iv x94)) (fun X => cell X (Addr.add (bk H) 1) = some (iv x94)) rfl rfl (fun _ hX => l1 isAgg3 rfl hX) c93 (pv (v := (.pointer p0)) rfl rfl (fun _ => mv rfl) ?_)
  obtain ⟨a95, e96, h⟩ := h
  refine pv (v := (pp a95)) rfl rfl (fun _ => HVal.nilCheck (congrArg Value.pointer e96)) (pv (v := (pp (Addr.add a95 1))) rfl rfl (fun _ => fa runUnderlying101 rfl rfl sizeOf98 rfl) ?_)
  obtain ⟨x98, c97, h⟩ := h
  refine pl (v := (Sl.v x98)) (fun X => cell X (Addr.add a95 1) = some (Sl.v x98)) rfl rfl (fun _ hX => l1 isAgg98 rfl hX) c97 (pv (v := (pp (Addr.add (bk H) 1))) rfl rfl (fun _ => fa runUnderlying80 rfl rfl sizeOf3 rfl) ?_)
  obtain ⟨x100, c99, h⟩ := h
  refine pl (v := (iv x100)) (fun X => cell X (Addr.add (bk H) 1) = some (iv x100)) rfl rfl (fun _ hX => l1 isAgg3 rfl hX) c99 ?_
  obtain ⟨a101, e102, b103, b104, h⟩ := h
  refine pv (v := (pp (Addr.add a101 (x100.toNat * 1)))) rfl rfl (fun _ => ia runUnderlying98 sizeOf2 (Sl.v_some rfl e102) rfl b103 b104) ?_
  obtain ⟨x106, c105, h⟩ := h
  refine pl (v := (iv x106)) (fun X => cell X (Addr.add a101 (x100.toNat * 1)) = some (iv x106)) rfl rfl (fun _ hX => l1 isAgg2 rfl hX) c105 ?_
  refine pv (v := (iv x4)) rfl rfl (fun _ => mv rfl) (pv (v := (iv (if x4 < x106 then x4 else x106))) rfl rfl (fun _ => HVal.min rfl rfl) ?_)
  obtain ⟨a107, e108, b109, b110, h⟩ := h
  refine pv (v := (pp (Addr.add a107 (x94.toNat * 1)))) rfl rfl (fun _ => ia runUnderlying98 sizeOf2 (Sl.v_some rfl e108) rfl b109 b110) ?_
  obtain ⟨z113, z114, h⟩ := h
  refine pn rfl (HOp.store1 sizeOf2 rfl rfl rfl z113 z114) ?_
  rintro _ H111 e112
  replace h := h H111 e112
  refine ⟨SC_of ⟨nofun, nofun, nofun, nofun, nofun, trivial⟩, ?_⟩
  refine HPlan.done (nb ?_)
  exact ⟨_, resOf0 rfl , ⟨rfl, h⟩⟩
 have h := hF hb88
 refine ws (wr_ (hv (v := (bv (decide (x6 = 6)))) rfl (HVal.eqlI rfl rfl) (hv (v := (bv (decide (x6 = 6)))) rfl (av rfl) ?_)))
 refine hn (nt ?_)
 obtain ⟨hT, hF⟩ := h
 refine wk (decide (x6 = 6)) rfl (fun hb115 => ?_) (fun hb115 => ?_)
 ·have h := hT hb115
  refine ws (wr_ (hv (v := (.pointer p0)) rfl (mv rfl) (hv (v := (pp (Addr.add (bk H) 1))) rfl (fa runUnderlying80 rfl rfl sizeOf3 rfl) ?_)))
  obtain ⟨x117, c116, h⟩ := h
  refine hv (v := (iv x117)) rfl (l1 isAgg3 rfl c116) (hv (v := (iv x4)) rfl (mv rfl) (ho rfl (HOp.call' 59 [(.pointer p0), (iv x117), (iv x4)] (cap := []) rfl rfl call59 (walk59 h)) ?_))
  rintro _ H118 ⟨r120, rfl, h⟩
  refine hn (nt (HW.draw mixed [(0, some []), (1, some []), (2, some []), (3, some [17]), (4, some []), (5, some [17]), (6, some []), (7, some []), (8, some []), (9, some [17]), (10, some []), (11, some [17]), (12, some []), (13, some [17]), (14, some []), (15, some []), (16, some []), (17, none)] rfl (by kernel_rfl) (by kernel_rfl) ?_))
  refine pv (v := (.pointer p0)) rfl rfl (fun _ => mv rfl) ?_
  obtain ⟨a121, e122, h⟩ := h
  refine pv (v := (pp a121)) rfl rfl (fun _ => HVal.nilCheck (congrArg Value.pointer e122)) (pv (v := (pp (Addr.add a121 1))) rfl rfl (fun _ => fa runUnderlying101 rfl rfl sizeOf98 rfl) ?_)
  obtain ⟨x124, c123, h⟩ := h
  refine pl (v := (Sl.v x124)) (fun X => cell X (Addr.add a121 1) = some (Sl.v x124)) rfl rfl (fun _ hX => l1 isAgg98 rfl hX) c123 (pv (v := (pp (Addr.add (bk H) 1))) rfl rfl (fun _ => fa runUnderlying80 rfl rfl sizeOf3 rfl) ?_)
  obtain ⟨x126, c125, h⟩ := h
  refine pl (v := (iv x126)) (fun X => cell X (Addr.add (bk H) 1) = some (iv x126)) rfl rfl (fun _ hX => l1 isAgg3 rfl hX) c125 (pv (v := (.pointer p0)) rfl rfl (fun _ => mv rfl) ?_)
  obtain ⟨a127, e128, h⟩ := h
  refine pv (v := (pp a127)) rfl rfl (fun _ => HVal.nilCheck (congrArg Value.pointer e128)) (pv (v := (pp (Addr.add a127 1))) rfl rfl (fun _ => fa runUnderlying101 rfl rfl sizeOf98 rfl) ?_)
  obtain ⟨x130, c129, h⟩ := h
  refine pl (v := (Sl.v x130)) (fun X => cell X (Addr.add a127 1) = some (Sl.v x130)) rfl rfl (fun _ hX => l1 isAgg98 rfl hX) c129 (pv (v := (pp (Addr.add (bk H) 1))) rfl rfl (fun _ => fa runUnderlying80 rfl rfl sizeOf3 rfl) ?_)
  obtain ⟨x132, c131, h⟩ := h
  refine pl (v := (iv x132)) (fun X => cell X (Addr.add (bk H) 1) = some (iv x132)) rfl rfl (fun _ hX => l1 isAgg3 rfl hX) c131 ?_
  obtain ⟨a133, e134, b135, b136, h⟩ := h
  refine pv (v := (pp (Addr.add a133 (x132.toNat * 1)))) rfl rfl (fun _ => ia runUnderlying98 sizeOf2 (Sl.v_some rfl e134) rfl b135 b136) ?_
  obtain ⟨x138, c137, h⟩ := h
  refine pl (v := (iv x138)) (fun X => cell X (Addr.add a133 (x132.toNat * 1)) = some (iv x138)) rfl rfl (fun _ hX => l1 isAgg2 rfl hX) c137 ?_
  refine pv (v := (iv x4)) rfl rfl (fun _ => mv rfl) (pv (v := (iv (if x4 < x138 then x4 else x138))) rfl rfl (fun _ => HVal.min rfl rfl) ?_)
  obtain ⟨a139, e140, b141, b142, h⟩ := h
  refine pv (v := (pp (Addr.add a139 (x126.toNat * 1)))) rfl rfl (fun _ => ia runUnderlying98 sizeOf2 (Sl.v_some rfl e140) rfl b141 b142) ?_
  obtain ⟨z145, z146, h⟩ := h
  refine pn rfl (HOp.store1 sizeOf2 rfl rfl rfl z145 z146) ?_
  rintro _ H143 e144
  replace h := h H143 e144
  refine ⟨SC_of ⟨nofun, nofun, nofun, nofun, nofun, trivial⟩, ?_⟩
  refine HPlan.done (nb ?_)
  exact ⟨_, resOf0 rfl , ⟨rfl, h⟩⟩
 have h := hF hb115
 refine wp_ (nb ?_)
 exact ⟨_, resOf0 rfl , ⟨rfl, h⟩⟩

def F45 (p0 : (Option Addr)) (p1_0 p1_1 p1_2 : Int) (p1_3 : Bool) (p1_4 p1_5 : Int) (p1_6 : ByteArray) (p1_7 : Bool) (H : Hp) (Q : Hp → Prop) : Prop :=
∀ H1 : Hp, H1 = Array.push H (.cells (lR p1_0 p1_1 p1_2 p1_3 p1_4 p1_5 p1_6 p1_7).toArray 80) → (
 ∃ x4 : Bool, cell H1 (Addr.add (bk H) 3) = some (bv x4) ∧ (
 ((!x4) = true → (∃ (x7 x8 x9 : Int) (x10 : Bool) (x11 x12 : Int) (x13 : ByteArray) (x14 : Bool), cells H1 (bk H) (lR x7 x8 x9 x10 x11 x12 x13 x14) 0 ∧ (
 F58 p0 x7 x8 x9 x10 x11 x12 x13 x14 H1 (fun (H15 : Hp) => 
 Q H15)))) ∧
 ((!x4) = false → (∃ x18 : Int, cell H1 (bk H) = some (iv x18) ∧ (
 ((decide (x18 = 10)) = true → (∃ a20 : Addr, p0 = some a20 ∧ (
 ∃ x23 : Sl, cell H1 (Addr.add a20 2) = some (Sl.v x23) ∧ (
 ∃ x25 : Int, cell H1 (Addr.add (bk H) 1) = some (iv x25) ∧ (
 ∃ x27 : Int, cell H1 (Addr.add (bk H) 2) = some (iv x27) ∧ (
 ∀ H28 : Hp, H28 = Array.push H1 (.cells #[(iv x25), (iv x27), (iv 1)] 118) → (
 cell H28 (Addr.add (bk H) 2) = some (iv x27) ∧ cell H28 (Addr.add (bk H) 1) = some (iv x25) ∧ cell H28 (Addr.add a20 2) = some (Sl.v x23) ∧ (
 AppendF H28 118 3 24 #[(iv 0), (iv 0), (iv 0)] x23 ((Sl.mk (some (bk H1)) 1 1)).b ((Sl.mk (some (bk H1)) 1 1)).n (fun (r35 : Sl) (H33 : Hp) => 
 cell H33 (Addr.add (bk H) 2) = some (iv x27) ∧ cell H33 (Addr.add (bk H) 1) = some (iv x25) ∧ (
 ∃ a38 : Addr, p0 = some a38 ∧ (
 (cell H33 (Addr.add a38 2)).isSome = true ∧ frz H33 (Addr.add a38 2) = false ∧ ∀ H40 : Hp, H40 = setc H33 (Addr.add a38 2) (Sl.v r35) → (
 Q H40)))))))))))) ∧
 ((decide (x18 = 10)) = false → (((decide (x18 = 8)) = true → (∃ a45 : Addr, p0 = some a45 ∧ (
 ∃ x48 : Sl, cell H1 (Addr.add a45 2) = some (Sl.v x48) ∧ (
 ∃ x50 : Int, cell H1 (Addr.add (bk H) 2) = some (iv x50) ∧ (
 ∃ x52 : Int, cell H1 (Addr.add (bk H) 1) = some (iv x52) ∧ (
 ∀ H53 : Hp, H53 = Array.push H1 (.cells #[(iv x50), (iv x52), (iv 1)] 118) → (
 cell H53 (Addr.add (bk H) 1) = some (iv x52) ∧ cell H53 (Addr.add (bk H) 2) = some (iv x50) ∧ cell H53 (Addr.add a45 2) = some (Sl.v x48) ∧ (
 AppendF H53 118 3 24 #[(iv 0), (iv 0), (iv 0)] x48 ((Sl.mk (some (bk H1)) 1 1)).b ((Sl.mk (some (bk H1)) 1 1)).n (fun (r60 : Sl) (H58 : Hp) => 
 cell H58 (Addr.add (bk H) 1) = some (iv x52) ∧ cell H58 (Addr.add (bk H) 2) = some (iv x50) ∧ (
 ∃ a63 : Addr, p0 = some a63 ∧ (
 (cell H58 (Addr.add a63 2)).isSome = true ∧ frz H58 (Addr.add a63 2) = false ∧ ∀ H65 : Hp, H65 = setc H58 (Addr.add a63 2) (Sl.v r60) → (
 Q H65)))))))))))) ∧
 ((decide (x18 = 8)) = false → (((decide (x18 = 11)) = true → (∃ a70 : Addr, p0 = some a70 ∧ (
 ∃ x73 : Sl, cell H1 (Addr.add a70 2) = some (Sl.v x73) ∧ (
 ∃ x75 : Int, cell H1 (Addr.add (bk H) 1) = some (iv x75) ∧ (
 ∃ x77 : Int, cell H1 (Addr.add (bk H) 2) = some (iv x77) ∧ (
 ∀ H78 : Hp, H78 = Array.push H1 (.cells #[(iv x75), (iv x77), (iv 0)] 118) → (
 cell H78 (Addr.add (bk H) 2) = some (iv x77) ∧ cell H78 (Addr.add (bk H) 1) = some (iv x75) ∧ cell H78 (Addr.add a70 2) = some (Sl.v x73) ∧ (
 AppendF H78 118 3 24 #[(iv 0), (iv 0), (iv 0)] x73 ((Sl.mk (some (bk H1)) 1 1)).b ((Sl.mk (some (bk H1)) 1 1)).n (fun (r85 : Sl) (H83 : Hp) => 
 cell H83 (Addr.add (bk H) 2) = some (iv x77) ∧ cell H83 (Addr.add (bk H) 1) = some (iv x75) ∧ (
 ∃ a88 : Addr, p0 = some a88 ∧ (
 (cell H83 (Addr.add a88 2)).isSome = true ∧ frz H83 (Addr.add a88 2) = false ∧ ∀ H90 : Hp, H90 = setc H83 (Addr.add a88 2) (Sl.v r85) → (
 Q H90)))))))))))) ∧
 ((decide (x18 = 11)) = false → (((decide (x18 = 9)) = true → (∃ a95 : Addr, p0 = some a95 ∧ (
 ∃ x98 : Sl, cell H1 (Addr.add a95 2) = some (Sl.v x98) ∧ (
 ∃ x100 : Int, cell H1 (Addr.add (bk H) 2) = some (iv x100) ∧ (
 ∃ x102 : Int, cell H1 (Addr.add (bk H) 1) = some (iv x102) ∧ (
 ∀ H103 : Hp, H103 = Array.push H1 (.cells #[(iv x100), (iv x102), (iv 0)] 118) → (
 cell H103 (Addr.add (bk H) 1) = some (iv x102) ∧ cell H103 (Addr.add (bk H) 2) = some (iv x100) ∧ cell H103 (Addr.add a95 2) = some (Sl.v x98) ∧ (
 AppendF H103 118 3 24 #[(iv 0), (iv 0), (iv 0)] x98 ((Sl.mk (some (bk H1)) 1 1)).b ((Sl.mk (some (bk H1)) 1 1)).n (fun (r110 : Sl) (H108 : Hp) => 
 cell H108 (Addr.add (bk H) 1) = some (iv x102) ∧ cell H108 (Addr.add (bk H) 2) = some (iv x100) ∧ (
 ∃ a113 : Addr, p0 = some a113 ∧ (
 (cell H108 (Addr.add a113 2)).isSome = true ∧ frz H108 (Addr.add a113 2) = false ∧ ∀ H115 : Hp, H115 = setc H108 (Addr.add a113 2) (Sl.v r110) → (
 Q H115)))))))))))) ∧
 ((decide (x18 = 9)) = false → (((decide (x18 = 6)) = true → (∃ a120 : Addr, p0 = some a120 ∧ (
 ∃ x123 : Sl, cell H1 (Addr.add a120 2) = some (Sl.v x123) ∧ (
 ∃ x125 : Int, cell H1 (Addr.add (bk H) 1) = some (iv x125) ∧ (
 ∃ x127 : Int, cell H1 (Addr.add (bk H) 2) = some (iv x127) ∧ (
 ∃ x129 : Int, cell H1 (Addr.add (bk H) 2) = some (iv x129) ∧ (
 ∃ x131 : Int, cell H1 (Addr.add (bk H) 1) = some (iv x131) ∧ (
 ∀ H132 : Hp, H132 = Array.push H1 (.cells #[(iv x125), (iv x127), (iv 0), (iv x129), (iv x131), (iv 0)] 118) → (
 cell H132 (Addr.add (bk H) 1) = some (iv x131) ∧ cell H132 (Addr.add (bk H) 2) = some (iv x129) ∧ cell H132 (Addr.add (bk H) 2) = some (iv x127) ∧ cell H132 (Addr.add (bk H) 1) = some (iv x125) ∧ cell H132 (Addr.add a120 2) = some (Sl.v x123) ∧ (
 AppendF H132 118 3 24 #[(iv 0), (iv 0), (iv 0)] x123 ((Sl.mk (some (bk H1)) 2 2)).b ((Sl.mk (some (bk H1)) 2 2)).n (fun (r141 : Sl) (H139 : Hp) => 
 cell H139 (Addr.add (bk H) 1) = some (iv x131) ∧ cell H139 (Addr.add (bk H) 2) = some (iv x129) ∧ cell H139 (Addr.add (bk H) 2) = some (iv x127) ∧ cell H139 (Addr.add (bk H) 1) = some (iv x125) ∧ (
 ∃ a146 : Addr, p0 = some a146 ∧ (
 (cell H139 (Addr.add a146 2)).isSome = true ∧ frz H139 (Addr.add a146 2) = false ∧ ∀ H148 : Hp, H148 = setc H139 (Addr.add a146 2) (Sl.v r141) → (
 Q H148)))))))))))))) ∧
 ((decide (x18 = 6)) = false → (Q H1)))))))))))))))
theorem walk45 {w0 : World} {p0 : (Option Addr)} {p1_0 p1_1 p1_2 : Int} {p1_3 : Bool} {p1_4 p1_5 : Int} {p1_6 : ByteArray} {p1_7 : Bool} {H : Hp} {Q : Hp → Prop} (h : F45 p0 p1_0 p1_1 p1_2 p1_3 p1_4 p1_5 p1_6 p1_7 H Q) :
  Good prog w0 45 #[(.pointer p0), (.agg (lR p1_0 p1_1 p1_2 p1_3 p1_4 p1_5 p1_6 p1_7).toArray)] H (fun v H => v = (.tuple #[]) ∧ Q H) := by
 unfold F45 at h
 refine Good.enter' (fn := f45) func45 rfl rfl rfl (ws (wr_ (ho rfl (ob (v := (.agg (lR p1_0 p1_1 p1_2 p1_3 p1_4 p1_5 p1_6 p1_7).toArray)) rfl) ?_)))
 rintro _ H1 ⟨rfl, e2⟩
 replace h := h H1 e2
 refine hn (nt (ws (ws (wr_ (hv (v := (pp (Addr.add (bk H) 3))) rfl (fa runUnderlying80 rfl rfl sizeOf4 rfl) ?_)))))
 obtain ⟨x4, c3, h⟩ := h
 refine hv (v := (bv x4)) rfl (l1 isAgg4 rfl c3) (hv (v := (bv (!x4))) rfl (HVal.not rfl) (hn (nt ?_)))
 obtain ⟨hT, hF⟩ := h
 refine wk (!x4) rfl (fun hb5 => ?_) (fun hb5 => ?_)
 ·have h := hT hb5
  refine ws (wr_ (hv (v := (.pointer p0)) rfl (mv rfl) ?_))
  obtain ⟨x7, x8, x9, x10, x11, x12, x13, x14, c6, h⟩ := h
  refine hv (v := (.agg (lR x7 x8 x9 x10 x11 x12 x13 x14).toArray)) rfl (ln (lR x7 x8 x9 x10 x11 x12 x13 x14) isAgg80 sizeOf80 rfl c6) ?_
  refine ho rfl (HOp.call' 58 [(.pointer p0), (.agg (lR x7 x8 x9 x10 x11 x12 x13 x14).toArray)] (cap := []) rfl rfl call58 (walk58 h)) ?_
  rintro _ H15 ⟨rfl, h⟩
  refine hn (nt (HW.ret (tr ?_)))
  exact ⟨_, resOf0 rfl , ⟨rfl, h⟩⟩
 have h := hF hb5
 refine wp_ (nt (ws (wr_ (hv (v := (pp (bk H))) rfl (HVal.fieldAddr0 runUnderlying80 rfl rfl sizeOf3 rfl) ?_))))
 obtain ⟨x18, c17, h⟩ := h
 refine hv (v := (iv x18)) rfl (l1 isAgg3 rfl c17) (hn (nt (wb (ws (wr_ (hv (v := (bv (decide (x18 = 10)))) rfl (HVal.eqlI rfl rfl) ?_))))))
 refine hv (v := (bv (decide (x18 = 10)))) rfl (av rfl) (hn (nt ?_))
 obtain ⟨hT, hF⟩ := h
 refine wk (decide (x18 = 10)) rfl (fun hb19 => ?_) (fun hb19 => ?_)
 ·have h := hT hb19
  refine HW.draw mixed [(0, some []), (1, some []), (2, some []), (3, some []), (4, some [11, 14]), (5, some []), (6, some [14]), (7, some []), (8, some [14]), (9, some []), (10, none), (11, none), (12, some []), (13, some []), (14, none)] rfl (by kernel_rfl) (by kernel_rfl) ?_
  refine pv (v := (.pointer p0)) rfl rfl (fun _ => mv rfl) (pv (v := (.pointer p0)) rfl rfl (fun _ => mv rfl) ?_)
  obtain ⟨a20, e21, h⟩ := h
  refine pv (v := (pp a20)) rfl rfl (fun _ => HVal.nilCheck (congrArg Value.pointer e21)) (pv (v := (pp (Addr.add a20 2))) rfl rfl (fun _ => fa runUnderlying101 rfl rfl sizeOf99 rfl) ?_)
  obtain ⟨x23, c22, h⟩ := h
  refine pl (v := (Sl.v x23)) (fun X => cell X (Addr.add a20 2) = some (Sl.v x23)) rfl rfl (fun _ hX => l1 isAgg99 rfl hX) c22 (pv (v := (pp (Addr.add (bk H) 1))) rfl rfl (fun _ => fa runUnderlying80 rfl rfl sizeOf3 rfl) ?_)
  obtain ⟨x25, c24, h⟩ := h
  refine pl (v := (iv x25)) (fun X => cell X (Addr.add (bk H) 1) = some (iv x25)) rfl rfl (fun _ hX => l1 isAgg3 rfl hX) c24 (pv (v := (pp (Addr.add (bk H) 2))) rfl rfl (fun _ => fa runUnderlying80 rfl rfl sizeOf3 rfl) ?_)
  obtain ⟨x27, c26, h⟩ := h
  refine pl (v := (iv x27)) (fun X => cell X (Addr.add (bk H) 2) = some (iv x27)) rfl rfl (fun _ hX => l1 isAgg3 rfl hX) c26 (pv (v := (.agg #[(iv x25), (iv x27), (iv 1)])) rfl rfl (fun _ => HVal.build' (cs := [(iv x25), (iv x27), (iv 1)]) runUnderlying118 zeroValue118 places118 rfl) ?_)
  refine po rfl rfl (HOp.buildSlice' (zs := [(iv 0), (iv 0), (iv 0)]) (cs := [(iv x25), (iv x27), (iv 1)]) runUnderlying99 sizeOf118 zeroValue118 (by decide) (by kernel_rfl) rfl (by decide)) ?_
  rintro _ H28 ⟨rfl, e29⟩
  replace h := h H28 e29
  obtain ⟨s30, s31, s32, h⟩ := h
  refine ⟨SC_of ⟨fun _ => s30, fun _ => s31, fun _ => s32, trivial⟩, ?_⟩
  refine po rfl rfl (HOp.append (k := 3) (b := 24) runUnderlying99 runUnderlying99 typeInfo118 rfl rfl zeroValue118 rfl rfl h) ?_
  rintro _ H33 ⟨r35, rfl, h⟩
  obtain ⟨s36, s37, h⟩ := h
  refine ⟨SC_of ⟨fun _ => s36, fun _ => s37, nofun, trivial⟩, ?_⟩
  obtain ⟨a38, e39, h⟩ := h
  refine pv (v := (pp a38)) rfl rfl (fun _ => HVal.nilCheck (congrArg Value.pointer e39)) (pv (v := (pp (Addr.add a38 2))) rfl rfl (fun _ => fa runUnderlying101 rfl rfl sizeOf99 rfl) ?_)
  obtain ⟨z42, z43, h⟩ := h
  refine pn rfl (HOp.store1 sizeOf99 rfl rfl rfl z42 z43) ?_
  rintro _ H40 e41
  replace h := h H40 e41
  refine ⟨SC_of ⟨nofun, nofun, nofun, trivial⟩, ?_⟩
  refine HPlan.done (nb ?_)
  exact ⟨_, resOf0 rfl , ⟨rfl, h⟩⟩
 have h := hF hb19
 refine ws (wr_ (hv (v := (bv (decide (x18 = 8)))) rfl (HVal.eqlI rfl rfl) (hv (v := (bv (decide (x18 = 8)))) rfl (av rfl) ?_)))
 refine hn (nt ?_)
 obtain ⟨hT, hF⟩ := h
 refine wk (decide (x18 = 8)) rfl (fun hb44 => ?_) (fun hb44 => ?_)
 ·have h := hT hb44
  refine HW.draw mixed [(0, some []), (1, some []), (2, some []), (3, some []), (4, some [11, 14]), (5, some []), (6, some [14]), (7, some []), (8, some [14]), (9, some []), (10, none), (11, none), (12, some []), (13, some []), (14, none)] rfl (by kernel_rfl) (by kernel_rfl) ?_
  refine pv (v := (.pointer p0)) rfl rfl (fun _ => mv rfl) (pv (v := (.pointer p0)) rfl rfl (fun _ => mv rfl) ?_)
  obtain ⟨a45, e46, h⟩ := h
  refine pv (v := (pp a45)) rfl rfl (fun _ => HVal.nilCheck (congrArg Value.pointer e46)) (pv (v := (pp (Addr.add a45 2))) rfl rfl (fun _ => fa runUnderlying101 rfl rfl sizeOf99 rfl) ?_)
  obtain ⟨x48, c47, h⟩ := h
  refine pl (v := (Sl.v x48)) (fun X => cell X (Addr.add a45 2) = some (Sl.v x48)) rfl rfl (fun _ hX => l1 isAgg99 rfl hX) c47 (pv (v := (pp (Addr.add (bk H) 2))) rfl rfl (fun _ => fa runUnderlying80 rfl rfl sizeOf3 rfl) ?_)
  obtain ⟨x50, c49, h⟩ := h
  refine pl (v := (iv x50)) (fun X => cell X (Addr.add (bk H) 2) = some (iv x50)) rfl rfl (fun _ hX => l1 isAgg3 rfl hX) c49 (pv (v := (pp (Addr.add (bk H) 1))) rfl rfl (fun _ => fa runUnderlying80 rfl rfl sizeOf3 rfl) ?_)
  obtain ⟨x52, c51, h⟩ := h
  refine pl (v := (iv x52)) (fun X => cell X (Addr.add (bk H) 1) = some (iv x52)) rfl rfl (fun _ hX => l1 isAgg3 rfl hX) c51 (pv (v := (.agg #[(iv x50), (iv x52), (iv 1)])) rfl rfl (fun _ => HVal.build' (cs := [(iv x50), (iv x52), (iv 1)]) runUnderlying118 zeroValue118 places118 rfl) ?_)
  refine po rfl rfl (HOp.buildSlice' (zs := [(iv 0), (iv 0), (iv 0)]) (cs := [(iv x50), (iv x52), (iv 1)]) runUnderlying99 sizeOf118 zeroValue118 (by decide) (by kernel_rfl) rfl (by decide)) ?_
  rintro _ H53 ⟨rfl, e54⟩
  replace h := h H53 e54
  obtain ⟨s55, s56, s57, h⟩ := h
  refine ⟨SC_of ⟨fun _ => s55, fun _ => s56, fun _ => s57, trivial⟩, ?_⟩
  refine po rfl rfl (HOp.append (k := 3) (b := 24) runUnderlying99 runUnderlying99 typeInfo118 rfl rfl zeroValue118 rfl rfl h) ?_
  rintro _ H58 ⟨r60, rfl, h⟩
  obtain ⟨s61, s62, h⟩ := h
  refine ⟨SC_of ⟨fun _ => s61, fun _ => s62, nofun, trivial⟩, ?_⟩
  obtain ⟨a63, e64, h⟩ := h
  refine pv (v := (pp a63)) rfl rfl (fun _ => HVal.nilCheck (congrArg Value.pointer e64)) (pv (v := (pp (Addr.add a63 2))) rfl rfl (fun _ => fa runUnderlying101 rfl rfl sizeOf99 rfl) ?_)
  obtain ⟨z67, z68, h⟩ := h
  refine pn rfl (HOp.store1 sizeOf99 rfl rfl rfl z67 z68) ?_
  rintro _ H65 e66
  replace h := h H65 e66
  refine ⟨SC_of ⟨nofun, nofun, nofun, trivial⟩, ?_⟩
  refine HPlan.done (nb ?_)
  exact ⟨_, resOf0 rfl , ⟨rfl, h⟩⟩
 have h := hF hb44
 refine ws (wr_ (hv (v := (bv (decide (x18 = 11)))) rfl (HVal.eqlI rfl rfl) (hv (v := (bv (decide (x18 = 11)))) rfl (av rfl) ?_)))
 refine hn (nt ?_)
 obtain ⟨hT, hF⟩ := h
 refine wk (decide (x18 = 11)) rfl (fun hb69 => ?_) (fun hb69 => ?_)
 ·have h := hT hb69
  refine HW.draw mixed [(0, some []), (1, some []), (2, some []), (3, some []), (4, some [11, 14]), (5, some []), (6, some [14]), (7, some []), (8, some [14]), (9, some []), (10, none), (11, none), (12, some []), (13, some []), (14, none)] rfl (by kernel_rfl) (by kernel_rfl) ?_
  refine pv (v := (.pointer p0)) rfl rfl (fun _ => mv rfl) (pv (v := (.pointer p0)) rfl rfl (fun _ => mv rfl) ?_)
  obtain ⟨a70, e71, h⟩ := h
  refine pv (v := (pp a70)) rfl rfl (fun _ => HVal.nilCheck (congrArg Value.pointer e71)) (pv (v := (pp (Addr.add a70 2))) rfl rfl (fun _ => fa runUnderlying101 rfl rfl sizeOf99 rfl) ?_)
  obtain ⟨x73, c72, h⟩ := h
  refine pl (v := (Sl.v x73)) (fun X => cell X (Addr.add a70 2) = some (Sl.v x73)) rfl rfl (fun _ hX => l1 isAgg99 rfl hX) c72 (pv (v := (pp (Addr.add (bk H) 1))) rfl rfl (fun _ => fa runUnderlying80 rfl rfl sizeOf3 rfl) ?_)
  obtain ⟨x75, c74, h⟩ := h
  refine pl (v := (iv x75)) (fun X => cell X (Addr.add (bk H) 1) = some (iv x75)) rfl rfl (fun _ hX => l1 isAgg3 rfl hX) c74 (pv (v := (pp (Addr.add (bk H) 2))) rfl rfl (fun _ => fa runUnderlying80 rfl rfl sizeOf3 rfl) ?_)
  obtain ⟨x77, c76, h⟩ := h
  refine pl (v := (iv x77)) (fun X => cell X (Addr.add (bk H) 2) = some (iv x77)) rfl rfl (fun _ hX => l1 isAgg3 rfl hX) c76 (pv (v := (.agg #[(iv x75), (iv x77), (iv 0)])) rfl rfl (fun _ => HVal.build' (cs := [(iv x75), (iv x77), (iv 0)]) runUnderlying118 zeroValue118 places118 rfl) ?_)
  refine po rfl rfl (HOp.buildSlice' (zs := [(iv 0), (iv 0), (iv 0)]) (cs := [(iv x75), (iv x77), (iv 0)]) runUnderlying99 sizeOf118 zeroValue118 (by decide) (by kernel_rfl) rfl (by decide)) ?_
  rintro _ H78 ⟨rfl, e79⟩
  replace h := h H78 e79
  obtain ⟨s80, s81, s82, h⟩ := h
  refine ⟨SC_of ⟨fun _ => s80, fun _ => s81, fun _ => s82, trivial⟩, ?_⟩
  refine po rfl rfl (HOp.append (k := 3) (b := 24) runUnderlying99 runUnderlying99 typeInfo118 rfl rfl zeroValue118 rfl rfl h) ?_
  rintro _ H83 ⟨r85, rfl, h⟩
  obtain ⟨s86, s87, h⟩ := h
  refine ⟨SC_of ⟨fun _ => s86, fun _ => s87, nofun, trivial⟩, ?_⟩
  obtain ⟨a88, e89, h⟩ := h
  refine pv (v := (pp a88)) rfl rfl (fun _ => HVal.nilCheck (congrArg Value.pointer e89)) (pv (v := (pp (Addr.add a88 2))) rfl rfl (fun _ => fa runUnderlying101 rfl rfl sizeOf99 rfl) ?_)
  obtain ⟨z92, z93, h⟩ := h
  refine pn rfl (HOp.store1 sizeOf99 rfl rfl rfl z92 z93) ?_
  rintro _ H90 e91
  replace h := h H90 e91
  refine ⟨SC_of ⟨nofun, nofun, nofun, trivial⟩, ?_⟩
  refine HPlan.done (nb ?_)
  exact ⟨_, resOf0 rfl , ⟨rfl, h⟩⟩
 have h := hF hb69
 refine ws (wr_ (hv (v := (bv (decide (x18 = 9)))) rfl (HVal.eqlI rfl rfl) (hv (v := (bv (decide (x18 = 9)))) rfl (av rfl) ?_)))
 refine hn (nt ?_)
 obtain ⟨hT, hF⟩ := h
 refine wk (decide (x18 = 9)) rfl (fun hb94 => ?_) (fun hb94 => ?_)
 ·have h := hT hb94
  refine HW.draw mixed [(0, some []), (1, some []), (2, some []), (3, some []), (4, some [11, 14]), (5, some []), (6, some [14]), (7, some []), (8, some [14]), (9, some []), (10, none), (11, none), (12, some []), (13, some []), (14, none)] rfl (by kernel_rfl) (by kernel_rfl) ?_
  refine pv (v := (.pointer p0)) rfl rfl (fun _ => mv rfl) (pv (v := (.pointer p0)) rfl rfl (fun _ => mv rfl) ?_)
  obtain ⟨a95, e96, h⟩ := h
  refine pv (v := (pp a95)) rfl rfl (fun _ => HVal.nilCheck (congrArg Value.pointer e96)) (pv (v := (pp (Addr.add a95 2))) rfl rfl (fun _ => fa runUnderlying101 rfl rfl sizeOf99 rfl) ?_)
  obtain ⟨x98, c97, h⟩ := h
  refine pl (v := (Sl.v x98)) (fun X => cell X (Addr.add a95 2) = some (Sl.v x98)) rfl rfl (fun _ hX => l1 isAgg99 rfl hX) c97 (pv (v := (pp (Addr.add (bk H) 2))) rfl rfl (fun _ => fa runUnderlying80 rfl rfl sizeOf3 rfl) ?_)
  obtain ⟨x100, c99, h⟩ := h
  refine pl (v := (iv x100)) (fun X => cell X (Addr.add (bk H) 2) = some (iv x100)) rfl rfl (fun _ hX => l1 isAgg3 rfl hX) c99 (pv (v := (pp (Addr.add (bk H) 1))) rfl rfl (fun _ => fa runUnderlying80 rfl rfl sizeOf3 rfl) ?_)
  obtain ⟨x102, c101, h⟩ := h
  refine pl (v := (iv x102)) (fun X => cell X (Addr.add (bk H) 1) = some (iv x102)) rfl rfl (fun _ hX => l1 isAgg3 rfl hX) c101 (pv (v := (.agg #[(iv x100), (iv x102), (iv 0)])) rfl rfl (fun _ => HVal.build' (cs := [(iv x100), (iv x102), (iv 0)]) runUnderlying118 zeroValue118 places118 rfl) ?_)
  refine po rfl rfl (HOp.buildSlice' (zs := [(iv 0), (iv 0), (iv 0)]) (cs := [(iv x100), (iv x102), (iv 0)]) runUnderlying99 sizeOf118 zeroValue118 (by decide) (by kernel_rfl) rfl (by decide)) ?_
  rintro _ H103 ⟨rfl, e104⟩
  replace h := h H103 e104
  obtain ⟨s105, s106, s107, h⟩ := h
  refine ⟨SC_of ⟨fun _ => s105, fun _ => s106, fun _ => s107, trivial⟩, ?_⟩
  refine po rfl rfl (HOp.append (k := 3) (b := 24) runUnderlying99 runUnderlying99 typeInfo118 rfl rfl zeroValue118 rfl rfl h) ?_
  rintro _ H108 ⟨r110, rfl, h⟩
  obtain ⟨s111, s112, h⟩ := h
  refine ⟨SC_of ⟨fun _ => s111, fun _ => s112, nofun, trivial⟩, ?_⟩
  obtain ⟨a113, e114, h⟩ := h
  refine pv (v := (pp a113)) rfl rfl (fun _ => HVal.nilCheck (congrArg Value.pointer e114)) (pv (v := (pp (Addr.add a113 2))) rfl rfl (fun _ => fa runUnderlying101 rfl rfl sizeOf99 rfl) ?_)
  obtain ⟨z117, z118, h⟩ := h
  refine pn rfl (HOp.store1 sizeOf99 rfl rfl rfl z117 z118) ?_
  rintro _ H115 e116
  replace h := h H115 e116
  refine ⟨SC_of ⟨nofun, nofun, nofun, trivial⟩, ?_⟩
  refine HPlan.done (nb ?_)
  exact ⟨_, resOf0 rfl , ⟨rfl, h⟩⟩
 have h := hF hb94
 refine ws (wr_ (hv (v := (bv (decide (x18 = 6)))) rfl (HVal.eqlI rfl rfl) (hv (v := (bv (decide (x18 = 6)))) rfl (av rfl) ?_)))
 refine hn (nt ?_)
 obtain ⟨hT, hF⟩ := h
 refine wk (decide (x18 = 6)) rfl (fun hb119 => ?_) (fun hb119 => ?_)
 ·have h := hT hb119
  refine HW.draw mixed [(0, some []), (1, some []), (2, some []), (3, some []), (4, some [16, 19]), (5, some []), (6, some [19]), (7, some []), (8, some [19]), (9, some []), (10, some []), (11, some [19]), (12, some []), (13, some [19]), (14, some []), (15, none), (16, none), (17, some []), (18, some []), (19, none)] rfl (by kernel_rfl) (by kernel_rfl) ?_
  refine pv (v := (.pointer p0)) rfl rfl (fun _ => mv rfl) (pv (v := (.pointer p0)) rfl rfl (fun _ => mv rfl) ?_)
  obtain ⟨a120, e121, h⟩ := h
  refine pv (v := (pp a120)) rfl rfl (fun _ => HVal.nilCheck (congrArg Value.pointer e121)) (pv (v := (pp (Addr.add a120 2))) rfl rfl (fun _ => fa runUnderlying101 rfl rfl sizeOf99 rfl) ?_)
  obtain ⟨x123, c122, h⟩ := h
  refine pl (v := (Sl.v x123)) (fun X => cell X (Addr.add a120 2) = some (Sl.v x123)) rfl rfl (fun _ hX => l1 isAgg99 rfl hX) c122 (pv (v := (pp (Addr.add (bk H) 1))) rfl rfl (fun _ => fa runUnderlying80 rfl rfl sizeOf3 rfl) ?_)
  obtain ⟨x125, c124, h⟩ := h
  refine pl (v := (iv x125)) (fun X => cell X (Addr.add (bk H) 1) = some (iv x125)) rfl rfl (fun _ hX => l1 isAgg3 rfl hX) c124 (pv (v := (pp (Addr.add (bk H) 2))) rfl rfl (fun _ => fa runUnderlying80 rfl rfl sizeOf3 rfl) ?_)
  obtain ⟨x127, c126, h⟩ := h
  refine pl (v := (iv x127)) (fun X => cell X (Addr.add (bk H) 2) = some (iv x127)) rfl rfl (fun _ hX => l1 isAgg3 rfl hX) c126 (pv (v := (.agg #[(iv x125), (iv x127), (iv 0)])) rfl rfl (fun _ => HVal.build' (cs := [(iv x125), (iv x127), (iv 0)]) runUnderlying118 zeroValue118 places118 rfl) ?_)
  refine pv (v := (pp (Addr.add (bk H) 2))) rfl rfl (fun _ => fa runUnderlying80 rfl rfl sizeOf3 rfl) ?_
  obtain ⟨x129, c128, h⟩ := h
  refine pl (v := (iv x129)) (fun X => cell X (Addr.add (bk H) 2) = some (iv x129)) rfl rfl (fun _ hX => l1 isAgg3 rfl hX) c128 (pv (v := (pp (Addr.add (bk H) 1))) rfl rfl (fun _ => fa runUnderlying80 rfl rfl sizeOf3 rfl) ?_)
  obtain ⟨x131, c130, h⟩ := h
  refine pl (v := (iv x131)) (fun X => cell X (Addr.add (bk H) 1) = some (iv x131)) rfl rfl (fun _ hX => l1 isAgg3 rfl hX) c130 (pv (v := (.agg #[(iv x129), (iv x131), (iv 0)])) rfl rfl (fun _ => HVal.build' (cs := [(iv x129), (iv x131), (iv 0)]) runUnderlying118 zeroValue118 places118 rfl) ?_)
  refine po rfl rfl (HOp.buildSlice' (zs := [(iv 0), (iv 0), (iv 0), (iv 0), (iv 0), (iv 0)]) (cs := [(iv x125), (iv x127), (iv 0), (iv x129), (iv x131), (iv 0)]) runUnderlying99 sizeOf118 zeroValue118 (by decide) (by kernel_rfl) (by kernel_rfl) (by decide)) ?_
  rintro _ H132 ⟨rfl, e133⟩
  replace h := h H132 e133
  obtain ⟨s134, s135, s136, s137, s138, h⟩ := h
  refine ⟨SC_of ⟨fun _ => s134, fun _ => s135, fun _ => s136, fun _ => s137, fun _ => s138, trivial⟩, ?_⟩
  refine po rfl rfl (HOp.append (k := 3) (b := 24) runUnderlying99 runUnderlying99 typeInfo118 rfl rfl zeroValue118 rfl rfl h) ?_
  rintro _ H139 ⟨r141, rfl, h⟩
  obtain ⟨s142, s143, s144, s145, h⟩ := h
  refine ⟨SC_of ⟨fun _ => s142, fun _ => s143, fun _ => s144, fun _ => s145, nofun, trivial⟩, ?_⟩
  obtain ⟨a146, e147, h⟩ := h
  refine pv (v := (pp a146)) rfl rfl (fun _ => HVal.nilCheck (congrArg Value.pointer e147)) (pv (v := (pp (Addr.add a146 2))) rfl rfl (fun _ => fa runUnderlying101 rfl rfl sizeOf99 rfl) ?_)
  obtain ⟨z150, z151, h⟩ := h
  refine pn rfl (HOp.store1 sizeOf99 rfl rfl rfl z150 z151) ?_
  rintro _ H148 e149
  replace h := h H148 e149
  refine ⟨SC_of ⟨nofun, nofun, nofun, nofun, nofun, trivial⟩, ?_⟩
  refine HPlan.done (nb ?_)
  exact ⟨_, resOf0 rfl , ⟨rfl, h⟩⟩
 have h := hF hb119
 refine wp_ (nb ?_)
 exact ⟨_, resOf0 rfl , ⟨rfl, h⟩⟩

def F46_5 (Q : (Option Addr) → Bool → Hp → Prop) (y72 : Addr) (H_5 : Hp) : Prop :=
Q (some y72) true H_5
def F46_7 (Q : (Option Addr) → Bool → Hp → Prop) (X6 : Int → Hp → Prop) (y79 : (Option Addr)) (y80 : Addr) (y81 : Sl) (y82 y83 : Int) (H_7 : Hp) : Prop :=
X6 (IntKind.i64.wrap (y83 + 1)) H_7
def F46_8 (Q : (Option Addr) → Bool → Hp → Prop) (X6 : Int → Hp → Prop) (y129 : (Option Addr)) (y130 y131 : Addr) (y132 : Int) (y133 : Sl) (y134 y135 : Int) (y148 : Bool) (H_8 : Hp) : Prop :=
(y148 = true → (Q none false H_8)) ∧
 (y148 = false → (∃ x151 : (Option Nat), cell H_8 (Addr.add y130 1) = some (.map x151) ∧ (
 ∃ (x153 x154 : Int) (x155 : ByteArray) (x156 : Bool), cells H_8 (Addr.add y131 4) (vR x153 x154 x155 x156) 0 ∧ (
 ∃ (r159 : Nat) (L160 : ML Int (Int × Int × ByteArray × Bool)) (c161 : Nat), x151 = some r159 ∧ MapK mk3 mv25 Always H_8 (some r159) L160 c161 y132 ∧ ∀ H157 : Hp, H157 = seto H_8 r159 (mapo mk3 mv25 (mput L160 c161 y132 (x153, x154, x155, x156)).1 (mput L160 c161 y132 (x153, x154, x155, x156)).2) → (
 F46_7 Q X6 y129 y130 y133 y134 y135 H157)))))
def F46_L6b (Q : (Option Addr) → Bool → Hp → Prop) (X6 : Int → Hp → Prop) (y74 : (Option Addr)) (y75 : Addr) (y76 : Sl) (y77 y73 : Int) (H_6 : Hp) : Prop :=
((decide (y73 < y77)) = true → (∃ a84 : Addr, (y76).b = some a84 ∧ (0 : Int) ≤ y73 ∧ y73 < ((y76).n : Int) ∧ (
 ∃ (x89 x90 x91 : Int) (x92 : Bool) (x93 x94 : Int) (x95 : ByteArray) (x96 : Bool), cells H_6 (Addr.add a84 (y73.toNat * 8)) (lR x89 x90 x91 x92 x93 x94 x95 x96) 0 ∧ (
 ∀ H97 : Hp, H97 = Array.push H_6 (.cells (lR 0 0 0 false 0 0 bE false).toArray 80) → (
 mayw H97 (bk H_6) 8 0 ∧ ∀ H99 : Hp, H99 = sets H97 (bk H_6) (lR x89 x90 x91 x92 x93 x94 x95 x96) 0 → (
 ∃ x103 : Bool, cell H99 (Addr.add (bk H_6) 3) = some (bv x103) ∧ (
 (x103 = true → (F46_7 Q X6 y74 y75 y76 y77 y73 H99)) ∧
 (x103 = false → (∃ x107 : Int, cell H99 (Addr.add (bk H_6) 1) = some (iv x107) ∧ (
 F44 y74 x107 H99 (fun (r110 : Int) (H108 : Hp) => 
 ((decide (r110 = 1)) = true → (F46_7 Q X6 y74 y75 y76 y77 y73 H108)) ∧
 ((decide (r110 = 1)) = false → (∃ x113 : (Option Addr), cell H108 y75 = some (.pointer x113) ∧ (
 ∃ x115 : Int, cell H108 (Addr.add (bk H_6) 1) = some (iv x115) ∧ (
 F48 x113 x115 H108 (fun (r118 : Int) (H116 : Hp) => 
 ∃ x120 : (Option Nat), cell H116 (Addr.add y75 1) = some (.map x120) ∧ (
 ∃ (L121 : ML Int (Int × Int × ByteArray × Bool)) (c122 : Nat), MapK mk3 mv25 Always H116 x120 L121 c122 r118 ∧ (
 ∀ H124 : Hp, H124 = Array.push H116 (.cells (vR 0 0 bE false).toArray 25) → (
 mayw H124 (bk H116) 4 0 ∧ ∀ H126 : Hp, H126 = sets H124 (bk H116) (vR (((mget L121 r118).getD ((0 : Int), (0 : Int), bE, false)).1) (((mget L121 r118).getD ((0 : Int), (0 : Int), bE, false)).2.1) (((mget L121 r118).getD ((0 : Int), (0 : Int), bE, false)).2.2.1) (((mget L121 r118).getD ((0 : Int), (0 : Int), bE, false)).2.2.2)) 0 → (
 (((mget L121 r118).isSome) = true → (∃ (x139 x140 : Int) (x141 : ByteArray) (x142 : Bool), cells H126 (bk H116) (vR x139 x140 x141 x142) 0 ∧ (
 ∃ (x144 x145 : Int) (x146 : ByteArray) (x147 : Bool), cells H126 (Addr.add (bk H_6) 4) (vR x144 x145 x146 x147) 0 ∧ (
 F46_8 Q X6 y74 y75 (bk H_6) r118 y76 y77 y73 (!(decide (x139 = x144) && (decide (x140 = x145) && (seq x141 x146 && (x142 == x147))))) H126)))) ∧
 (((mget L121 r118).isSome) = false → (F46_8 Q X6 y74 y75 (bk H_6) r118 y76 y77 y73 false H126)))))))))))))))))))))) ∧
 ((decide (y73 < y77)) = false → (F46_5 Q y75 H_6))
def F46_L6 (Q : (Option Addr) → Bool → Hp → Prop) (y74 : (Option Addr)) (y75 : Addr) (y76 : Sl) (y77 y73 : Int) (H_6 : Hp) : Prop :=
 ∀ X6 : Int → Hp → Prop, (∀ (y73 : Int) (H_6 : Hp), F46_L6b Q X6 y74 y75 y76 y77 y73 H_6 → X6 y73 H_6) → X6 y73 H_6
def F46_1 (Q : (Option Addr) → Bool → Hp → Prop) (y12 : (Option Addr)) (y13 : Sl) (y14 : Addr) (H_1 : Hp) : Prop :=
F46_L6 Q y12 y14 y13 ((y13).n : Int) 0 H_1
def F46_3 (Q : (Option Addr) → Bool → Hp → Prop) (X2 : Int → Hp → Prop) (y22 : (Option Addr)) (y23 : Sl) (y24 : Addr) (y25 : Sl) (y26 y27 : Int) (H_3 : Hp) : Prop :=
X2 (IntKind.i64.wrap (y27 + 1)) H_3
def F46_4 (Q : (Option Addr) → Bool → Hp → Prop) (X2 : Int → Hp → Prop) (y46 : (Option Addr)) (y47 : Sl) (y48 y49 : Addr) (y50 : Sl) (y51 y52 : Int) (y62 : Bool) (H_4 : Hp) : Prop :=
(y62 = true → (∃ x65 : (Option Addr), cell H_4 y48 = some (.pointer x65) ∧ (
 ∃ x67 : Int, cell H_4 (Addr.add y49 1) = some (iv x67) ∧ (
 ∃ x69 : Int, cell H_4 (Addr.add y49 2) = some (iv x69) ∧ (
 F57 x65 x67 x69 H_4 (fun (H70 : Hp) => 
 F46_3 Q X2 y46 y47 y48 y50 y51 y52 H70)))))) ∧
 (y62 = false → (F46_3 Q X2 y46 y47 y48 y50 y51 y52 H_4))
def F46_L2b (Q : (Option Addr) → Bool → Hp → Prop) (X2 : Int → Hp → Prop) (y16 : (Option Addr)) (y17 : Sl) (y18 : Addr) (y19 : Sl) (y20 y15 : Int) (H_2 : Hp) : Prop :=
((decide (y15 < y20)) = true → (∃ a28 : Addr, (y19).b = some a28 ∧ (0 : Int) ≤ y15 ∧ y15 < ((y19).n : Int) ∧ (
 ∃ (x33 x34 x35 : Int) (x36 : Bool) (x37 x38 : Int) (x39 : ByteArray) (x40 : Bool), cells H_2 (Addr.add a28 (y15.toNat * 8)) (lR x33 x34 x35 x36 x37 x38 x39 x40) 0 ∧ (
 ∀ H41 : Hp, H41 = Array.push H_2 (.cells (lR 0 0 0 false 0 0 bE false).toArray 80) → (
 mayw H41 (bk H_2) 8 0 ∧ ∀ H43 : Hp, H43 = sets H41 (bk H_2) (lR x33 x34 x35 x36 x37 x38 x39 x40) 0 → (
 ∃ x54 : Bool, cell H43 (Addr.add (bk H_2) 3) = some (bv x54) ∧ (
 (x54 = true → (∃ x58 : Int, cell H43 (Addr.add (bk H_2) 1) = some (iv x58) ∧ (
 F44 y16 x58 H43 (fun (r61 : Int) (H59 : Hp) => 
 F46_4 Q X2 y16 y17 y18 (bk H_2) y19 y20 y15 (decide (r61 ≠ 1)) H59)))) ∧
 (x54 = false → (F46_4 Q X2 y16 y17 y18 (bk H_2) y19 y20 y15 false H43))))))))) ∧
 ((decide (y15 < y20)) = false → (F46_1 Q y16 y17 y18 H_2))
def F46_L2 (Q : (Option Addr) → Bool → Hp → Prop) (y16 : (Option Addr)) (y17 : Sl) (y18 : Addr) (y19 : Sl) (y20 y15 : Int) (H_2 : Hp) : Prop :=
 ∀ X2 : Int → Hp → Prop, (∀ (y15 : Int) (H_2 : Hp), F46_L2b Q X2 y16 y17 y18 y19 y20 y15 H_2 → X2 y15 H_2) → X2 y15 H_2
def F46 (p0 : (Option Addr)) (p1 : Sl) (H : Hp) (Q : (Option Addr) → Bool → Hp → Prop) : Prop :=
∃ a1 : Addr, p0 = some a1 ∧ (
 ∃ x4 : Sl, cell H a1 = some (Sl.v x4) ∧ (
 F56 ((x4).n : Int) H (fun (r7 : (Option Addr)) (H5 : Hp) => 
 ∀ H8 : Hp, H8 = Array.push H5 (.map #[] 0) → (
 ∀ H10 : Hp, H10 = Array.push H8 (.cells #[(.pointer r7), (.map (some (Array.size H5)))] 108) → (
 F46_L2 Q p0 p1 (bk H8) p1 ((p1).n : Int) 0 H10)))))
theorem walk46 {w0 : World} {p0 : (Option Addr)} {p1 : Sl} {H : Hp} {Q : (Option Addr) → Bool → Hp → Prop} (h : F46 p0 p1 H Q) :
  Good prog w0 46 #[(.pointer p0), (Sl.v p1)] H (fun v H => ∃ (r0 : (Option Addr)) (r1 : Bool) , v = (.tuple #[(.pointer r0), (bv r1)]) ∧ Q r0 r1 H) := by
 unfold F46 at h
 refine Good.enter' (fn := f46) func46 rfl rfl rfl (ws (wr_ (hv (v := (.pointer none)) rfl (av rfl) (hv (v := (bv false)) rfl (av rfl) ?_))))
 refine hn (nt (ws (wr_ (hv (v := (.pointer p0)) rfl (mv rfl) ?_))))
 obtain ⟨a1, e2, h⟩ := h
 refine hv (v := (pp a1)) rfl (HVal.nilCheck (congrArg Value.pointer e2)) (hv (v := (pp a1)) rfl (HVal.fieldAddr0 runUnderlying66 rfl rfl sizeOf35 rfl) ?_)
 obtain ⟨x4, c3, h⟩ := h
 refine hv (v := (Sl.v x4)) rfl (l1 isAgg35 rfl c3) (hv (v := (iv ((x4).n : Int))) rfl (HVal.len runUnderlying35 rfl) (ho rfl (HOp.call' 56 [(iv ((x4).n : Int))] (cap := []) rfl rfl call56 (walk56 h)) ?_))
 rintro _ H5 ⟨r7, rfl, h⟩
 refine ho rfl (HOp.makeMap) ?_
 rintro _ H8 ⟨rfl, e9⟩
 replace h := h H8 e9
 refine hv (v := (.agg #[(.pointer r7), (.map (some (Array.size H5)))])) rfl (HVal.build' (cs := [(.pointer r7), (.map (some (Array.size H5)))]) runUnderlying108 zeroValue108 places108 rfl) ?_
 refine ho rfl (ob (v := (.agg #[(.pointer r7), (.map (some (Array.size H5)))])) rfl) ?_
 rintro _ H10 ⟨rfl, e11⟩
 replace h := h H10 e11
 refine hv (v := (pp (bk H8))) rfl (av rfl) (hn (nt (wc (fun ρ H_1 => Env.Is ρ [(0, (.pointer p0)), (1, (Sl.v p1)), (6, (pp (bk H8)))] ∧ F46_1 Q p0 p1 (bk H8) H_1) ?_ ?_)))
 ·refine ws (wr_ (hv (v := (Sl.v p1)) rfl (mv rfl) (hv (v := (iv ((p1).n : Int))) rfl (HVal.len runUnderlying62 rfl) ?_)))
  refine hv (v := (iv 0)) rfl (mv rfl) (hn (nt (wb (HW.loop' (fun L2 hL2 => ?_)))))
  obtain ⟨X2, hX2⟩ : ∃ X2 : Int → Hp → Prop, ∀ (y15 : Int) (H_2 : Hp), X2 y15 H_2 ↔ ∀ ρ, Env.Is ρ [(0, (.pointer p0)), (1, (Sl.v p1)), (6, (pp (bk H8))), (23, (Sl.v p1)), (24, (iv ((p1).n : Int))), (25, (iv y15))] → L2 ρ H_2 := ⟨_, fun _ _ => Iff.rfl⟩
  refine (hX2 _ _).1 (h X2 ?_) _ ?_
  rotate_left
  ·exact (isp rfl)
  clear h
  intro y15 H_2 h
  refine (hX2 _ _).2 fun ρ hI => ?_
  obtain ⟨ρ0, rfl⟩ := hI.ex
  clear hI; unfold F46_L2b at h; refine hL2 _ _ ?_
  refine ws (wr_ (hv (v := (bv (decide (y15 < ((p1).n : Int))))) rfl (HVal.lss rfl rfl) (hn (nt (ws ?_)))))
  obtain ⟨hT, hF⟩ := h
  refine wk (decide (y15 < ((p1).n : Int))) rfl (fun hb21 => ?_) (fun hb21 => ?_)
  ·have h := hT hb21
   refine wp_ (nt (wc (fun ρ H_3 => Env.Is ρ [(0, (.pointer p0)), (1, (Sl.v p1)), (6, (pp (bk H8))), (23, (Sl.v p1)), (24, (iv ((p1).n : Int))), (25, (iv y15))] ∧ F46_3 Q X2 p0 p1 (bk H8) p1 ((p1).n : Int) y15 H_3) ?_ ?_))
   ·refine wb (ws (wr_ ?_))
    obtain ⟨a28, e29, b30, b31, h⟩ := h
    refine hv (v := (pp (Addr.add a28 (y15.toNat * 8)))) rfl (ia runUnderlying62 sizeOf80 (Sl.v_some rfl e29) rfl b30 b31) ?_
    obtain ⟨x33, x34, x35, x36, x37, x38, x39, x40, c32, h⟩ := h
    refine hv (v := (.agg (lR x33 x34 x35 x36 x37 x38 x39 x40).toArray)) rfl (ln (lR x33 x34 x35 x36 x37 x38 x39 x40) isAgg80 sizeOf80 rfl c32) ?_
    refine ho rfl (HOp.alloc zeroValue80) ?_
    rintro _ H41 ⟨rfl, e42⟩
    replace h := h H41 e42
    obtain ⟨z45, h⟩ := h
    refine hq (HOp.storeN' (l := (lR x33 x34 x35 x36 x37 x38 x39 x40)) sizeOf80 rfl rfl rfl z45) ?_
    rintro _ H43 e44
    replace h := h H43 e44
    refine hn (nt (wc (fun ρ H_4 => ∃ (y62 : Bool), Env.Is ρ [(0, (.pointer p0)), (1, (Sl.v p1)), (6, (pp (bk H8))), (8, (pp (bk H_2))), (23, (Sl.v p1)), (24, (iv ((p1).n : Int))), (25, (iv y15)), (37, (bv y62))] ∧ F46_4 Q X2 p0 p1 (bk H8) (bk H_2) p1 ((p1).n : Int) y15 y62 H_4) ?_ ?_))
    ·refine wr_ (hv (v := (pp (Addr.add (bk H_2) 3))) rfl (fa runUnderlying80 rfl rfl sizeOf4 rfl) ?_)
     obtain ⟨x54, c53, h⟩ := h
     refine hv (v := (bv x54)) rfl (l1 isAgg4 rfl c53) (hv (v := (bv x54)) rfl (mv rfl) ?_)
     obtain ⟨hT, hF⟩ := h
     rcases Bool.eq_false_or_eq_true x54 with hb55 | hb56
     ·have h := hT hb55
      refine hg (v := (.pointer p0)) rfl rfl rfl rfl (cB hb55) (mv rfl) (hg (v := (pp (Addr.add (bk H_2) 1))) rfl rfl rfl rfl (cB hb55) (fa runUnderlying80 rfl rfl sizeOf3 rfl) ?_)
      obtain ⟨x58, c57, h⟩ := h
      refine hg (v := (iv x58)) rfl rfl rfl rfl (cB hb55) (l1 isAgg3 rfl c57) (HList.gops rfl rfl rfl rfl (cB hb55) (HOp.call' 44 [(.pointer p0), (iv x58)] (cap := []) rfl rfl call44 (walk44 h)) ?_)
      rintro _ H59 ⟨r61, rfl, h⟩
      refine hg (v := (bv (decide (r61 ≠ 1)))) rfl rfl rfl rfl (cB hb55) (HVal.neqI rfl rfl) (hv (v := (bv (decide (r61 ≠ 1)))) rfl (pt_ rfl hb55 rfl) ?_)
      refine hn (nt ?_)
      exact ⟨(decide (r61 ≠ 1)), (isp rfl), h⟩
     have h := hF hb56
     refine hs_ rfl rfl rfl rfl (cB hb56) (hs_ rfl rfl rfl rfl (cB hb56) (hs_ rfl rfl rfl rfl (cB hb56) (hs_ rfl rfl rfl rfl (cB hb56) ?_)))
     refine hs_ rfl rfl rfl rfl (cB hb56) (hv (v := (bv false)) rfl (pf_ rfl hb56 rfl) (hn (nt ?_)))
     exact ⟨false, (isp rfl), h⟩
    rintro ρ H_4 ⟨y62, hI, h⟩
    obtain ⟨ρ0, rfl⟩ := hI.ex
    clear hI; unfold F46_4 at h
    obtain ⟨hT, hF⟩ := h
    refine wk y62 rfl (fun hb63 => ?_) (fun hb63 => ?_)
    ·have h := hT hb63
     refine HW.draw mixed [(0, some []), (1, some []), (2, some []), (3, some [8]), (4, some []), (5, some [8]), (6, some []), (7, some [8]), (8, none)] rfl (by kernel_rfl) (by kernel_rfl) ?_
     refine pv (v := (pp (bk H8))) rfl rfl (fun _ => mv rfl) (pv (v := (pp (bk H8))) rfl rfl (fun _ => HVal.nilCheck rfl) ?_)
     refine pv (v := (pp (bk H8))) rfl rfl (fun _ => HVal.fieldAddr0 runUnderlying108 rfl rfl sizeOf64 rfl) ?_
     obtain ⟨x65, c64, h⟩ := h
     refine pl (v := (.pointer x65)) (fun X => cell X (bk H8) = some (.pointer x65)) rfl rfl (fun _ hX => l1 isAgg64 rfl hX) c64 (pv (v := (pp (Addr.add (bk H_2) 1))) rfl rfl (fun _ => fa runUnderlying80 rfl rfl sizeOf3 rfl) ?_)
     obtain ⟨x67, c66, h⟩ := h
     refine pl (v := (iv x67)) (fun X => cell X (Addr.add (bk H_2) 1) = some (iv x67)) rfl rfl (fun _ hX => l1 isAgg3 rfl hX) c66 (pv (v := (pp (Addr.add (bk H_2) 2))) rfl rfl (fun _ => fa runUnderlying80 rfl rfl sizeOf3 rfl) ?_)
     obtain ⟨x69, c68, h⟩ := h
     refine pl (v := (iv x69)) (fun X => cell X (Addr.add (bk H_2) 2) = some (iv x69)) rfl rfl (fun _ hX => l1 isAgg3 rfl hX) c68 (po rfl rfl (HOp.call' 57 [(.pointer x65), (iv x67), (iv x69)] (cap := []) rfl rfl call57 (walk57 h)) ?_)
     rintro _ H70 ⟨rfl, h⟩
     refine ⟨SC_of ⟨nofun, nofun, nofun, trivial⟩, ?_⟩
     refine HPlan.done (nb (nt ?_))
     exact ⟨(isp rfl), h⟩
    have h := hF hb63
    refine wp_ (nb (nt ?_))
    exact ⟨(isp rfl), h⟩
   rintro ρ H_3 ⟨hI, h⟩
   obtain ⟨ρ0, rfl⟩ := hI.ex
   clear hI; unfold F46_3 at h
   refine wr_ (hv (v := (iv (IntKind.i64.wrap (y15 + 1)))) rfl (HVal.add rfl rfl) (hv (v := (iv (IntKind.i64.wrap (y15 + 1)))) rfl (mv rfl) ?_))
   refine hn (nt ?_)
   exact (hX2 _ _).1 h _ (isp rfl)
  have h := hF hb21
  refine we (te (te (be (nt ?_))))
  exact ⟨(isp rfl), h⟩
 rintro ρ H_1 ⟨hI, h⟩
 obtain ⟨ρ0, rfl⟩ := hI.ex
 clear hI; unfold F46_1 at h
 refine wc (fun ρ H_5 => Env.Is ρ [(6, (pp (bk H8)))] ∧ F46_5 Q (bk H8) H_5) ?_ ?_
 ·refine ws (wr_ (hv (v := (Sl.v p1)) rfl (mv rfl) (hv (v := (iv ((p1).n : Int))) rfl (HVal.len runUnderlying62 rfl) ?_)))
  refine hv (v := (iv 0)) rfl (mv rfl) (hn (nt (wb (HW.loop' (fun L6 hL6 => ?_)))))
  obtain ⟨X6, hX6⟩ : ∃ X6 : Int → Hp → Prop, ∀ (y73 : Int) (H_6 : Hp), X6 y73 H_6 ↔ ∀ ρ, Env.Is ρ [(0, (.pointer p0)), (6, (pp (bk H8))), (48, (Sl.v p1)), (49, (iv ((p1).n : Int))), (50, (iv y73))] → L6 ρ H_6 := ⟨_, fun _ _ => Iff.rfl⟩
  refine (hX6 _ _).1 (h X6 ?_) _ ?_
  rotate_left
  ·exact (isp rfl)
  clear h
  intro y73 H_6 h
  refine (hX6 _ _).2 fun ρ hI => ?_
  obtain ⟨ρ0, rfl⟩ := hI.ex
  clear hI; unfold F46_L6b at h; refine hL6 _ _ ?_
  refine ws (wr_ (hv (v := (bv (decide (y73 < ((p1).n : Int))))) rfl (HVal.lss rfl rfl) (hn (nt (ws ?_)))))
  obtain ⟨hT, hF⟩ := h
  refine wk (decide (y73 < ((p1).n : Int))) rfl (fun hb78 => ?_) (fun hb78 => ?_)
  ·have h := hT hb78
   refine wp_ (nt (wc (fun ρ H_7 => Env.Is ρ [(0, (.pointer p0)), (6, (pp (bk H8))), (48, (Sl.v p1)), (49, (iv ((p1).n : Int))), (50, (iv y73))] ∧ F46_7 Q X6 p0 (bk H8) p1 ((p1).n : Int) y73 H_7) ?_ ?_))
   ·refine wb (ws (wr_ ?_))
    obtain ⟨a84, e85, b86, b87, h⟩ := h
    refine hv (v := (pp (Addr.add a84 (y73.toNat * 8)))) rfl (ia runUnderlying62 sizeOf80 (Sl.v_some rfl e85) rfl b86 b87) ?_
    obtain ⟨x89, x90, x91, x92, x93, x94, x95, x96, c88, h⟩ := h
    refine hv (v := (.agg (lR x89 x90 x91 x92 x93 x94 x95 x96).toArray)) rfl (ln (lR x89 x90 x91 x92 x93 x94 x95 x96) isAgg80 sizeOf80 rfl c88) ?_
    refine ho rfl (HOp.alloc zeroValue80) ?_
    rintro _ H97 ⟨rfl, e98⟩
    replace h := h H97 e98
    obtain ⟨z101, h⟩ := h
    refine hq (HOp.storeN' (l := (lR x89 x90 x91 x92 x93 x94 x95 x96)) sizeOf80 rfl rfl rfl z101) ?_
    rintro _ H99 e100
    replace h := h H99 e100
    refine hn (nt (ws (ws (wr_ (hv (v := (pp (Addr.add (bk H_6) 3))) rfl (fa runUnderlying80 rfl rfl sizeOf4 rfl) ?_)))))
    obtain ⟨x103, c102, h⟩ := h
    refine hv (v := (bv x103)) rfl (l1 isAgg4 rfl c102) (hv (v := (bv x103)) rfl (mv rfl) ?_)
    obtain ⟨hT, hF⟩ := h
    rcases Bool.eq_false_or_eq_true x103 with hb104 | hb105
    ·have h := hT hb104
     refine hs_ rfl rfl rfl rfl (cB hb104) (hs_ rfl rfl rfl rfl (cB hb104) (hs_ rfl rfl rfl rfl (cB hb104) (hs_ rfl rfl rfl rfl (cB hb104) ?_)))
     refine hs_ rfl rfl rfl rfl (cB hb104) (hv (v := (bv true)) rfl (pt_ rfl hb104 rfl) (hn (nt (HW.condT true rfl rfl (we ?_)))))
     refine te (be (nt ?_))
     exact ⟨(isp rfl), h⟩
    have h := hF hb105
    refine hg (v := (.pointer p0)) rfl rfl rfl rfl (cB hb105) (mv rfl) (hg (v := (pp (Addr.add (bk H_6) 1))) rfl rfl rfl rfl (cB hb105) (fa runUnderlying80 rfl rfl sizeOf3 rfl) ?_)
    obtain ⟨x107, c106, h⟩ := h
    refine hg (v := (iv x107)) rfl rfl rfl rfl (cB hb105) (l1 isAgg3 rfl c106) (HList.gops rfl rfl rfl rfl (cB hb105) (HOp.call' 44 [(.pointer p0), (iv x107)] (cap := []) rfl rfl call44 (walk44 h)) ?_)
    rintro _ H108 ⟨r110, rfl, h⟩
    refine hg (v := (bv (decide (r110 = 1)))) rfl rfl rfl rfl (cB hb105) (HVal.eqlI rfl rfl) (hv (v := (bv (decide (r110 = 1)))) rfl (pf_ rfl hb105 rfl) ?_)
    refine hn (nt ?_)
    obtain ⟨hT, hF⟩ := h
    refine wk (decide (r110 = 1)) rfl (fun hb111 => ?_) (fun hb111 => ?_)
    ·have h := hT hb111
     refine we (te (be (nt ?_)))
     exact ⟨(isp rfl), h⟩
    have h := hF hb111
    refine wp_ (nt (ws (HW.draw mixed [(0, some []), (1, some []), (2, some []), (3, some [6]), (4, some []), (5, some [6]), (6, none), (7, some [])] rfl (by kernel_rfl) (by kernel_rfl) ?_)))
    refine pv (v := (pp (bk H8))) rfl rfl (fun _ => mv rfl) (pv (v := (pp (bk H8))) rfl rfl (fun _ => HVal.nilCheck rfl) ?_)
    refine pv (v := (pp (bk H8))) rfl rfl (fun _ => HVal.fieldAddr0 runUnderlying108 rfl rfl sizeOf64 rfl) ?_
    obtain ⟨x113, c112, h⟩ := h
    refine pl (v := (.pointer x113)) (fun X => cell X (bk H8) = some (.pointer x113)) rfl rfl (fun _ hX => l1 isAgg64 rfl hX) c112 (pv (v := (pp (Addr.add (bk H_6) 1))) rfl rfl (fun _ => fa runUnderlying80 rfl rfl sizeOf3 rfl) ?_)
    obtain ⟨x115, c114, h⟩ := h
    refine pl (v := (iv x115)) (fun X => cell X (Addr.add (bk H_6) 1) = some (iv x115)) rfl rfl (fun _ hX => l1 isAgg3 rfl hX) c114 (po rfl rfl (HOp.call' 48 [(.pointer x113), (iv x115)] (cap := []) rfl rfl call48 (walk48 h)) ?_)
    rintro _ H116 ⟨r118, rfl, h⟩
    refine ⟨SC_of ⟨nofun, nofun, trivial⟩, ?_⟩
    refine pv (v := (iv r118)) rfl rfl (fun _ => av rfl) (HPlan.done (nt (ws (ws (wr_ (hv (v := (pp (bk H8))) rfl (mv rfl) ?_))))))
    refine hv (v := (pp (bk H8))) rfl (HVal.nilCheck rfl) (hv (v := (pp (Addr.add (bk H8) 1))) rfl (fa runUnderlying108 rfl rfl sizeOf106 rfl) ?_)
    obtain ⟨x120, c119, h⟩ := h
    refine hv (v := (.map x120)) rfl (l1 isAgg106 rfl c119) (hv (v := (iv r118)) rfl (mv rfl) ?_)
    obtain ⟨L121, c122, c123, h⟩ := h
    refine hv (v := (.tuple #[(.agg (vR (((mget L121 r118).getD ((0 : Int), (0 : Int), bE, false)).1) (((mget L121 r118).getD ((0 : Int), (0 : Int), bE, false)).2.1) (((mget L121 r118).getD ((0 : Int), (0 : Int), bE, false)).2.2.1) (((mget L121 r118).getD ((0 : Int), (0 : Int), bE, false)).2.2.2)).toArray), (bv ((mget L121 r118).isSome))])) rfl (HVal.lookupOk (f := mk3) (g := mv25) (k := r118) (z := ((0 : Int), (0 : Int), bE, false)) runUnderlying106 mkk3 zeroValue25 rfl rfl c123) ?_
    refine hv (v := (.tuple #[(.agg (vR (((mget L121 r118).getD ((0 : Int), (0 : Int), bE, false)).1) (((mget L121 r118).getD ((0 : Int), (0 : Int), bE, false)).2.1) (((mget L121 r118).getD ((0 : Int), (0 : Int), bE, false)).2.2.1) (((mget L121 r118).getD ((0 : Int), (0 : Int), bE, false)).2.2.2)).toArray), (bv ((mget L121 r118).isSome))])) rfl (mv rfl) ?_
    refine hv (v := (.agg (vR (((mget L121 r118).getD ((0 : Int), (0 : Int), bE, false)).1) (((mget L121 r118).getD ((0 : Int), (0 : Int), bE, false)).2.1) (((mget L121 r118).getD ((0 : Int), (0 : Int), bE, false)).2.2.1) (((mget L121 r118).getD ((0 : Int), (0 : Int), bE, false)).2.2.2)).toArray)) rfl (HVal.extract rfl rfl) ?_
    refine hv (v := (bv ((mget L121 r118).isSome))) rfl (HVal.extract rfl rfl) (ho rfl (HOp.alloc zeroValue25) ?_)
    rintro _ H124 ⟨rfl, e125⟩
    replace h := h H124 e125
    obtain ⟨z128, h⟩ := h
    refine hq (HOp.storeN' (l := (vR (((mget L121 r118).getD ((0 : Int), (0 : Int), bE, false)).1) (((mget L121 r118).getD ((0 : Int), (0 : Int), bE, false)).2.1) (((mget L121 r118).getD ((0 : Int), (0 : Int), bE, false)).2.2.1) (((mget L121 r118).getD ((0 : Int), (0 : Int), bE, false)).2.2.2))) sizeOf25 rfl rfl rfl z128) ?_
    rintro _ H126 e127
    replace h := h H126 e127
    refine hv (v := (bv ((mget L121 r118).isSome))) rfl (av rfl) (hn (nt (wc (fun ρ H_8 => ∃ (y148 : Bool), Env.Is ρ [(0, (.pointer p0)), (6, (pp (bk H8))), (10, (pp (bk H_6))), (11, (iv r118)), (48, (Sl.v p1)), (49, (iv ((p1).n : Int))), (50, (iv y73)), (85, (bv y148))] ∧ F46_8 Q X6 p0 (bk H8) (bk H_6) r118 p1 ((p1).n : Int) y73 y148 H_8) ?_ ?_)))
    ·refine wr_ (hv (v := (bv ((mget L121 r118).isSome))) rfl (mv rfl) (hv (v := (bv ((mget L121 r118).isSome))) rfl (mv rfl) ?_))
     obtain ⟨hT, hF⟩ := h
     rcases Bool.eq_false_or_eq_true ((mget L121 r118).isSome) with hb136 | hb137
     ·have h := hT hb136
      obtain ⟨x139, x140, x141, x142, c138, h⟩ := h
      refine hg (v := (.agg (vR x139 x140 x141 x142).toArray)) rfl rfl rfl rfl (cB hb136) (ln (vR x139 x140 x141 x142) isAgg25 sizeOf25 rfl c138) ?_
      refine hg (v := (pp (Addr.add (bk H_6) 4))) rfl rfl rfl rfl (cB hb136) (fa runUnderlying80 rfl rfl sizeOf25 rfl) ?_
      obtain ⟨x144, x145, x146, x147, c143, h⟩ := h
      refine hg (v := (.agg (vR x144 x145 x146 x147).toArray)) rfl rfl rfl rfl (cB hb136) (ln (vR x144 x145 x146 x147) isAgg25 sizeOf25 rfl c143) ?_
      refine hg (v := (bv (!(decide (x139 = x144) && (decide (x140 = x145) && (seq x141 x146 && (x142 == x147))))))) rfl rfl rfl rfl (cB hb136) (eqs25_neq rfl rfl) ?_
      refine hv (v := (bv (!(decide (x139 = x144) && (decide (x140 = x145) && (seq x141 x146 && (x142 == x147))))))) rfl (pt_ rfl hb136 rfl) (hn (nt ?_))
      exact ⟨(!(decide (x139 = x144) && (decide (x140 = x145) && (seq x141 x146 && (x142 == x147))))), (isp rfl), h⟩
     have h := hF hb137
     refine hs_ rfl rfl rfl rfl (cB hb137) (hs_ rfl rfl rfl rfl (cB hb137) (hs_ rfl rfl rfl rfl (cB hb137) (hs_ rfl rfl rfl rfl (cB hb137) ?_)))
     refine hv (v := (bv false)) rfl (pf_ rfl hb137 rfl) (hn (nt ?_))
     exact ⟨false, (isp rfl), h⟩
    rintro ρ H_8 ⟨y148, hI, h⟩
    obtain ⟨ρ0, rfl⟩ := hI.ex
    clear hI; unfold F46_8 at h
    obtain ⟨hT, hF⟩ := h
    refine wk y148 rfl (fun hb149 => ?_) (fun hb149 => ?_)
    ·have h := hT hb149
     refine ws (wr_ (hv (v := (.pointer none)) rfl (av rfl) (hv (v := (bv false)) rfl (av rfl) (hn (nt ?_)))))
     refine HW.ret (tr (br (tr (tr (br (tr ?_))))))
     exact ⟨_, resOf2 rfl Res1.t Res1.t, ⟨none, false, rfl, h⟩⟩
    have h := hF hb149
    refine wp_ (nt (HW.draw mixed [(0, some []), (1, some []), (2, some []), (3, some [7]), (4, some []), (5, some []), (6, some [7]), (7, none)] rfl (by kernel_rfl) (by kernel_rfl) ?_))
    refine pv (v := (pp (bk H8))) rfl rfl (fun _ => mv rfl) (pv (v := (pp (bk H8))) rfl rfl (fun _ => HVal.nilCheck rfl) ?_)
    refine pv (v := (pp (Addr.add (bk H8) 1))) rfl rfl (fun _ => fa runUnderlying108 rfl rfl sizeOf106 rfl) ?_
    obtain ⟨x151, c150, h⟩ := h
    refine pl (v := (.map x151)) (fun X => cell X (Addr.add (bk H8) 1) = some (.map x151)) rfl rfl (fun _ hX => l1 isAgg106 rfl hX) c150 ?_
    refine pv (v := (iv r118)) rfl rfl (fun _ => mv rfl) (pv (v := (pp (Addr.add (bk H_6) 4))) rfl rfl (fun _ => fa runUnderlying80 rfl rfl sizeOf25 rfl) ?_)
    obtain ⟨x153, x154, x155, x156, c152, h⟩ := h
    refine pl (v := (.agg (vR x153 x154 x155 x156).toArray)) (fun X => cells X (Addr.add (bk H_6) 4) (vR x153 x154 x155 x156) 0) rfl rfl (fun _ hX => ln (vR x153 x154 x155 x156) isAgg25 sizeOf25 rfl hX) c152 ?_
    obtain ⟨r159, L160, c161, e163, c162, h⟩ := h
    refine pn rfl (HOp.mapUpdate (f := mk3) (g := mv25) (k := r118) (v := (x153, x154, x155, x156)) runUnderlying106 mkk3 (congrArg Value.map e163) rfl rfl c162) ?_
    rintro _ H157 e158
    replace h := h H157 e158
    refine ⟨SC_of ⟨nofun, nofun, trivial⟩, ?_⟩
    refine HPlan.done (nb (nt ?_))
    exact ⟨(isp rfl), h⟩
   rintro ρ H_7 ⟨hI, h⟩
   obtain ⟨ρ0, rfl⟩ := hI.ex
   clear hI; unfold F46_7 at h
   refine wr_ (hv (v := (iv (IntKind.i64.wrap (y73 + 1)))) rfl (HVal.add rfl rfl) (hv (v := (iv (IntKind.i64.wrap (y73 + 1)))) rfl (mv rfl) ?_))
   refine hn (nt ?_)
   exact (hX6 _ _).1 h _ (isp rfl)
  have h := hF hb78
  refine we (te (te (be (nt ?_))))
  exact ⟨⟨rfl, trivial⟩, h⟩
 rintro ρ H_5 ⟨hI, h⟩
 obtain ⟨ρ0, rfl⟩ := hI.ex
 clear hI; unfold F46_5 at h
 refine ws (wr_ (hv (v := (pp (bk H8))) rfl (mv rfl) (hv (v := (pp (bk H8))) rfl (av rfl) ?_)))
 refine hv (v := (bv true)) rfl (av rfl) (hn (nt (HW.ret ?_)))
 exact ⟨_, resOf2 rfl Res1.t Res1.t, ⟨(some (bk H8)), true, rfl, h⟩⟩

def F47_L7b (Q : Bool → Hp → Prop) (X7 : Int → Hp → Prop) (y87 : (Option Addr)) (y88 : Sl) (y89 y86 : Int) (H_7 : Hp) : Prop :=
((decide (y86 < y89)) = true → (∃ a91 : Addr, (y88).b = some a91 ∧ (0 : Int) ≤ y86 ∧ y86 < ((y88).n : Int) ∧ (
 ∃ x96 : Int, cell H_7 (Addr.add a91 (y86.toNat * 1)) = some (iv x96) ∧ (
 ∃ a97 : Addr, y87 = some a97 ∧ (
 ∃ x100 : Sl, cell H_7 (Addr.add a97 1) = some (Sl.v x100) ∧ (
 ∃ a101 : Addr, (x100).b = some a101 ∧ (0 : Int) ≤ y86 ∧ y86 < ((x100).n : Int) ∧ (
 ∃ x106 : Int, cell H_7 (Addr.add a101 (y86.toNat * 1)) = some (iv x106) ∧ (
 ((decide (x106 < x96)) = true → (Q false H_7)) ∧
 ((decide (x106 < x96)) = false → (X7 (IntKind.i64.wrap (y86 + 1)) H_7)))))))))) ∧
 ((decide (y86 < y89)) = false → (Q true H_7))
def F47_L7 (Q : Bool → Hp → Prop) (y87 : (Option Addr)) (y88 : Sl) (y89 y86 : Int) (H_7 : Hp) : Prop :=
 ∀ X7 : Int → Hp → Prop, (∀ (y86 : Int) (H_7 : Hp), F47_L7b Q X7 y87 y88 y89 y86 H_7 → X7 y86 H_7) → X7 y86 H_7
def F47_1 (Q : Bool → Hp → Prop) (y6 : (Option Addr)) (H_1 : Hp) : Prop :=
∃ a82 : Addr, y6 = some a82 ∧ (
 ∃ x85 : Sl, cell H_1 a82 = some (Sl.v x85) ∧ (
 F47_L7 Q y6 x85 ((x85).n : Int) 0 H_1))
def F47_3 (Q : Bool → Hp → Prop) (X2 : Int → Hp → Prop) (y9 : (Option Addr)) (y10 : Int) (y75 : Bool) (H_3 : Hp) : Prop :=
((!y75) = true → (F47_1 Q y9 H_3)) ∧
 ((!y75) = false → (∃ a77 : Addr, y9 = some a77 ∧ (
 ∃ x80 : Sl, cell H_3 a77 = some (Sl.v x80) ∧ (
 ((decide (((x80).n : Int) < y10)) = true → (Q false H_3)) ∧
 ((decide (((x80).n : Int) < y10)) = false → (X2 (IntKind.i64.wrap (y10 + 1)) H_3))))))
def F47_5 (Q : Bool → Hp → Prop) (X2 : Int → Hp → Prop) (X4 : Bool → Int → Hp → Prop) (y22 : (Option Addr)) (y23 : Int) (y24 : Sl) (y25 y26 : Int) (y74 : Bool) (H_5 : Hp) : Prop :=
X4 y74 (IntKind.i64.wrap (y26 + 1)) H_5
def F47_6 (Q : Bool → Hp → Prop) (X2 : Int → Hp → Prop) (X4 : Bool → Int → Hp → Prop) (y52 : (Option Addr)) (y53 : Int) (y54 : Bool) (y55 : Addr) (y56 : Int) (y57 : Sl) (y58 y59 : Int) (y64 : Bool) (H_6 : Hp) : Prop :=
(y64 = true → (Q false H_6)) ∧
 (y64 = false → (∃ x67 : Int, cell H_6 y55 = some (iv x67) ∧ (
 ∃ x69 : Int, cell H_6 (Addr.add y55 2) = some (iv x69) ∧ (
 F59 y52 x67 (IntKind.i64.wrap (y56 + x69)) H_6 (fun (r72 : Bool) (H70 : Hp) => 
 (r72 = true → (F47_5 Q X2 X4 y52 y53 y57 y58 y59 true H70)) ∧
 (r72 = false → (F47_5 Q X2 X4 y52 y53 y57 y58 y59 y54 H70)))))))
def F47_L4b (Q : Bool → Hp → Prop) (X2 : Int → Hp → Prop) (X4 : Bool → Int → Hp → Prop) (y17 : (Option Addr)) (y18 : Int) (y19 : Sl) (y20 : Int) (y15 : Bool) (y16 : Int) (H_4 : Hp) : Prop :=
((decide (y16 < y20)) = true → (∃ a27 : Addr, (y19).b = some a27 ∧ (0 : Int) ≤ y16 ∧ y16 < ((y19).n : Int) ∧ (
 ∃ (x32 x33 x34 : Int), cells H_4 (Addr.add a27 (y16.toNat * 3)) [(iv x32), (iv x33), (iv x34)] 0 ∧ (
 ∀ H35 : Hp, H35 = Array.push H_4 (.cells #[(iv 0), (iv 0), (iv 0)] 118) → (
 mayw H35 (bk H_4) 3 0 ∧ ∀ H37 : Hp, H37 = sets H35 (bk H_4) [(iv x32), (iv x33), (iv x34)] 0 → (
 ∃ a40 : Addr, y17 = some a40 ∧ (
 ∃ x43 : Sl, cell H37 a40 = some (Sl.v x43) ∧ (
 ∃ x45 : Int, cell H37 (Addr.add (bk H_4) 1) = some (iv x45) ∧ (
 ∃ a46 : Addr, (x43).b = some a46 ∧ (0 : Int) ≤ x45 ∧ x45 < ((x43).n : Int) ∧ (
 ∃ x51 : Int, cell H37 (Addr.add a46 (x45.toNat * 1)) = some (iv x51) ∧ (
 ∃ x61 : Int, cell H37 (Addr.add (bk H_4) 2) = some (iv x61) ∧ (
 ((decide ((0 : Int) < x61)) = true → (F47_6 Q X2 X4 y17 y18 y15 (bk H_4) x51 y19 y20 y16 (decide (x51 = 9223372036854775807)) H37)) ∧
 ((decide ((0 : Int) < x61)) = false → (F47_6 Q X2 X4 y17 y18 y15 (bk H_4) x51 y19 y20 y16 false H37)))))))))))))) ∧
 ((decide (y16 < y20)) = false → (F47_3 Q X2 y17 y18 y15 H_4))
def F47_L4 (Q : Bool → Hp → Prop) (X2 : Int → Hp → Prop) (y17 : (Option Addr)) (y18 : Int) (y19 : Sl) (y20 : Int) (y15 : Bool) (y16 : Int) (H_4 : Hp) : Prop :=
 ∀ X4 : Bool → Int → Hp → Prop, (∀ (y15 : Bool) (y16 : Int) (H_4 : Hp), F47_L4b Q X2 X4 y17 y18 y19 y20 y15 y16 H_4 → X4 y15 y16 H_4) → X4 y15 y16 H_4
def F47_L2b (Q : Bool → Hp → Prop) (X2 : Int → Hp → Prop) (y8 : (Option Addr)) (y7 : Int) (H_2 : Hp) : Prop :=
∃ a11 : Addr, y8 = some a11 ∧ (
 ∃ x14 : Sl, cell H_2 (Addr.add a11 2) = some (Sl.v x14) ∧ (
 F47_L4 Q X2 y8 y7 x14 ((x14).n : Int) false 0 H_2))
def F47_L2 (Q : Bool → Hp → Prop) (y8 : (Option Addr)) (y7 : Int) (H_2 : Hp) : Prop :=
 ∀ X2 : Int → Hp → Prop, (∀ (y7 : Int) (H_2 : Hp), F47_L2b Q X2 y8 y7 H_2 → X2 y7 H_2) → X2 y7 H_2
def F47 (p0 : (Option Addr)) (H : Hp) (Q : Bool → Hp → Prop) : Prop :=
∃ a1 : Addr, p0 = some a1 ∧ (
 ∃ x4 : Bool, cell H (Addr.add a1 3) = some (bv x4) ∧ (
 (x4 = true → (Q false H)) ∧
 (x4 = false → (F47_L2 Q p0 0 H))))
theorem walk47 {w0 : World} {p0 : (Option Addr)} {H : Hp} {Q : Bool → Hp → Prop} (h : F47 p0 H Q) :
  Good prog w0 47 #[(.pointer p0)] H (fun v H => ∃ (r0 : Bool) , v = (bv r0) ∧ Q r0 H) := by
 unfold F47 at h
 refine Good.enter' (fn := f47) func47 rfl rfl rfl (ws (wr_ (hv (v := (bv false)) rfl (av rfl) (hn (nt (HW.scope ?_))))))
 refine ws (ws (wr_ (hv (v := (.pointer p0)) rfl (mv rfl) ?_)))
 obtain ⟨a1, e2, h⟩ := h
 refine hv (v := (pp a1)) rfl (HVal.nilCheck (congrArg Value.pointer e2)) (hv (v := (pp (Addr.add a1 3))) rfl (fa runUnderlying101 rfl rfl sizeOf4 rfl) ?_)
 obtain ⟨x4, c3, h⟩ := h
 refine hv (v := (bv x4)) rfl (l1 isAgg4 rfl c3) (hn (nt ?_))
 obtain ⟨hT, hF⟩ := h
 refine wk x4 rfl (fun hb5 => ?_) (fun hb5 => ?_)
 ·have h := hT hb5
  refine ws (wr_ (hv (v := (bv false)) rfl (av rfl) (hn (nt (HW.ret (tr (sr ?_)))))))
  exact ⟨_, resOf1 rfl Res1.t, ⟨false, rfl, h⟩⟩
 have h := hF hb5
 refine wp_ (nt (ws (HW.label (nt (wc (fun ρ H_1 => Env.Is ρ [(0, (.pointer p0))] ∧ F47_1 Q p0 H_1) ?_ ?_)))))
 ·refine ws (wr_ (hv (v := (iv 0)) rfl (av rfl) (hn (nt (wb (HW.loop' (fun L2 hL2 => ?_)))))))
  obtain ⟨X2, hX2⟩ : ∃ X2 : Int → Hp → Prop, ∀ (y7 : Int) (H_2 : Hp), X2 y7 H_2 ↔ ∀ ρ, Env.Is ρ [(0, (.pointer p0)), (3, (iv y7))] → L2 ρ H_2 := ⟨_, fun _ _ => Iff.rfl⟩
  refine (hX2 _ _).1 (h X2 ?_) _ ?_
  rotate_left
  ·exact (isp rfl)
  clear h
  intro y7 H_2 h
  refine (hX2 _ _).2 fun ρ hI => ?_
  obtain ⟨ρ0, rfl⟩ := hI.ex
  clear hI; unfold F47_L2b at h; refine hL2 _ _ ?_
  refine ws (wb (ws (wr_ (hv (v := (bv false)) rfl (av rfl) (hn (nt (wc (fun ρ H_3 => ∃ (y75 : Bool), Env.Is ρ [(0, (.pointer p0)), (3, (iv y7)), (4, (bv y75))] ∧ F47_3 Q X2 p0 y7 y75 H_3) ?_ ?_)))))))
  ·refine ws (wr_ (hv (v := (.pointer p0)) rfl (mv rfl) ?_))
   obtain ⟨a11, e12, h⟩ := h
   refine hv (v := (pp a11)) rfl (HVal.nilCheck (congrArg Value.pointer e12)) (hv (v := (pp (Addr.add a11 2))) rfl (fa runUnderlying101 rfl rfl sizeOf99 rfl) ?_)
   obtain ⟨x14, c13, h⟩ := h
   refine hv (v := (Sl.v x14)) rfl (l1 isAgg99 rfl c13) (hv (v := (iv ((x14).n : Int))) rfl (HVal.len runUnderlying99 rfl) ?_)
   refine hv (v := (iv 0)) rfl (mv rfl) (hn (nt (wb (HW.loop' (fun L4 hL4 => ?_)))))
   obtain ⟨X4, hX4⟩ : ∃ X4 : Bool → Int → Hp → Prop, ∀ (y15 : Bool) (y16 : Int) (H_4 : Hp), X4 y15 y16 H_4 ↔ ∀ ρ, Env.Is ρ [(0, (.pointer p0)), (3, (iv y7)), (19, (Sl.v x14)), (20, (iv ((x14).n : Int))), (4, (bv y15)), (21, (iv y16))] → L4 ρ H_4 := ⟨_, fun _ _ _ => Iff.rfl⟩
   refine (hX4 _ _ _).1 (h X4 ?_) _ ?_
   rotate_left
   ·exact (isp rfl)
   clear h
   intro y15 y16 H_4 h
   refine (hX4 _ _ _).2 fun ρ hI => ?_
   obtain ⟨ρ0, rfl⟩ := hI.ex
   clear hI; unfold F47_L4b at h; refine hL4 _ _ ?_
   refine ws (wr_ (hv (v := (bv (decide (y16 < ((x14).n : Int))))) rfl (HVal.lss rfl rfl) (hn (nt (ws ?_)))))
   obtain ⟨hT, hF⟩ := h
   refine wk (decide (y16 < ((x14).n : Int))) rfl (fun hb21 => ?_) (fun hb21 => ?_)
   ·have h := hT hb21
    refine wp_ (nt (wc (fun ρ H_5 => ∃ (y74 : Bool), Env.Is ρ [(0, (.pointer p0)), (3, (iv y7)), (19, (Sl.v x14)), (20, (iv ((x14).n : Int))), (21, (iv y16)), (4, (bv y74))] ∧ F47_5 Q X2 X4 p0 y7 x14 ((x14).n : Int) y16 y74 H_5) ?_ ?_))
    ·refine wb (ws (wr_ ?_))
     obtain ⟨a27, e28, b29, b30, h⟩ := h
     refine hv (v := (pp (Addr.add a27 (y16.toNat * 3)))) rfl (ia runUnderlying99 sizeOf118 (Sl.v_some rfl e28) rfl b29 b30) ?_
     obtain ⟨x32, x33, x34, c31, h⟩ := h
     refine hv (v := (.agg #[(iv x32), (iv x33), (iv x34)])) rfl (ln [(iv x32), (iv x33), (iv x34)] isAgg118 sizeOf118 rfl c31) (ho rfl (HOp.alloc zeroValue118) ?_)
     rintro _ H35 ⟨rfl, e36⟩
     replace h := h H35 e36
     obtain ⟨z39, h⟩ := h
     refine hq (HOp.storeN' (l := [(iv x32), (iv x33), (iv x34)]) sizeOf118 rfl rfl rfl z39) ?_
     rintro _ H37 e38
     replace h := h H37 e38
     refine hn (nt (ws (HW.draw mixed [(0, some []), (1, some []), (2, some []), (3, some []), (4, some []), (5, some []), (6, some []), (7, some []), (8, some [])] rfl (by kernel_rfl) (by kernel_rfl) ?_)))
     refine pv (v := (.pointer p0)) rfl rfl (fun _ => mv rfl) ?_
     obtain ⟨a40, e41, h⟩ := h
     refine pv (v := (pp a40)) rfl rfl (fun _ => HVal.nilCheck (congrArg Value.pointer e41)) (pv (v := (pp a40)) rfl rfl (fun _ => HVal.fieldAddr0 runUnderlying101 rfl rfl sizeOf98 rfl) ?_)
     obtain ⟨x43, c42, h⟩ := h
     refine pl (v := (Sl.v x43)) (fun X => cell X a40 = some (Sl.v x43)) rfl rfl (fun _ hX => l1 isAgg98 rfl hX) c42 (pv (v := (pp (Addr.add (bk H_4) 1))) rfl rfl (fun _ => fa runUnderlying118 rfl rfl sizeOf3 rfl) ?_)
     obtain ⟨x45, c44, h⟩ := h
     refine pl (v := (iv x45)) (fun X => cell X (Addr.add (bk H_4) 1) = some (iv x45)) rfl rfl (fun _ hX => l1 isAgg3 rfl hX) c44 ?_
     obtain ⟨a46, e47, b48, b49, h⟩ := h
     refine pv (v := (pp (Addr.add a46 (x45.toNat * 1)))) rfl rfl (fun _ => ia runUnderlying98 sizeOf2 (Sl.v_some rfl e47) rfl b48 b49) ?_
     obtain ⟨x51, c50, h⟩ := h
     refine pl (v := (iv x51)) (fun X => cell X (Addr.add a46 (x45.toNat * 1)) = some (iv x51)) rfl rfl (fun _ hX => l1 isAgg2 rfl hX) c50 ?_
     refine pv (v := (iv x51)) rfl rfl (fun _ => av rfl) (HPlan.done (nt (ws (wc (fun ρ H_6 => ∃ (y64 : Bool), Env.Is ρ [(0, (.pointer p0)), (3, (iv y7)), (4, (bv y15)), (6, (pp (bk H_4))), (7, (iv x51)), (19, (Sl.v x14)), (20, (iv ((x14).n : Int))), (21, (iv y16)), (39, (bv y64))] ∧ F47_6 Q X2 X4 p0 y7 y15 (bk H_4) x51 x14 ((x14).n : Int) y16 y64 H_6) ?_ ?_))))
     ·refine wr_ (hv (v := (pp (Addr.add (bk H_4) 2))) rfl (fa runUnderlying118 rfl rfl sizeOf2 rfl) ?_)
      obtain ⟨x61, c60, h⟩ := h
      refine hv (v := (iv x61)) rfl (l1 isAgg2 rfl c60) (hv (v := (bv (decide ((0 : Int) < x61)))) rfl (HVal.gtr rfl rfl) (hv (v := (bv (decide ((0 : Int) < x61)))) rfl (mv rfl) ?_))
      obtain ⟨hT, hF⟩ := h
      rcases Bool.eq_false_or_eq_true (decide ((0 : Int) < x61)) with hb62 | hb63
      ·have h := hT hb62
       refine hg (v := (iv x51)) rfl rfl rfl rfl (cB hb62) (mv rfl) (hg (v := (bv (decide (x51 = 9223372036854775807)))) rfl rfl rfl rfl (cB hb62) (HVal.eqlI rfl rfl) ?_)
       refine hv (v := (bv (decide (x51 = 9223372036854775807)))) rfl (pt_ rfl hb62 rfl) (hn (nt ?_))
       exact ⟨(decide (x51 = 9223372036854775807)), (isp rfl), h⟩
      have h := hF hb63
      refine hs_ rfl rfl rfl rfl (cB hb63) (hs_ rfl rfl rfl rfl (cB hb63) (hv (v := (bv false)) rfl (pf_ rfl hb63 rfl) (hn (nt ?_))))
      exact ⟨false, (isp rfl), h⟩
     rintro ρ H_6 ⟨y64, hI, h⟩
     obtain ⟨ρ0, rfl⟩ := hI.ex
     clear hI; unfold F47_6 at h
     obtain ⟨hT, hF⟩ := h
     refine wk y64 rfl (fun hb65 => ?_) (fun hb65 => ?_)
     ·have h := hT hb65
      refine ws (wr_ (hv (v := (bv false)) rfl (av rfl) (hn (nt (HW.ret (tr (br (tr (tr (br (tr (br (tr (tr (br ?_)))))))))))))))
      refine tr (sr ?_)
      exact ⟨_, resOf1 rfl Res1.t, ⟨false, rfl, h⟩⟩
     have h := hF hb65
     refine wp_ (nt (ws (wr_ (hv (v := (.pointer p0)) rfl (mv rfl) (hv (v := (pp (bk H_4))) rfl (HVal.fieldAddr0 runUnderlying118 rfl rfl sizeOf3 rfl) ?_)))))
     obtain ⟨x67, c66, h⟩ := h
     refine hv (v := (iv x67)) rfl (l1 isAgg3 rfl c66) (hv (v := (iv x51)) rfl (mv rfl) (hv (v := (pp (Addr.add (bk H_4) 2))) rfl (fa runUnderlying118 rfl rfl sizeOf2 rfl) ?_))
     obtain ⟨x69, c68, h⟩ := h
     refine hv (v := (iv x69)) rfl (l1 isAgg2 rfl c68) (hv (v := (iv (IntKind.i64.wrap (x51 + x69)))) rfl (HVal.add rfl rfl) (ho rfl (HOp.call' 59 [(.pointer p0), (iv x67), (iv (IntKind.i64.wrap (x51 + x69)))] (cap := []) rfl rfl call59 (walk59 h)) ?_))
     rintro _ H70 ⟨r72, rfl, h⟩
     refine hn (nt ?_)
     obtain ⟨hT, hF⟩ := h
     refine wk r72 rfl (fun hb73 => ?_) (fun hb73 => ?_)
     ·have h := hT hb73
      refine wr_ (hv (v := (bv true)) rfl (av rfl) (hn (nb (nt ?_))))
      exact ⟨true, (isp rfl), h⟩
     have h := hF hb73
     refine wp_ (nb (nt ?_))
     exact ⟨y15, (isp rfl), h⟩
    rintro ρ H_5 ⟨y74, hI, h⟩
    obtain ⟨ρ0, rfl⟩ := hI.ex
    clear hI; unfold F47_5 at h
    refine wr_ (hv (v := (iv (IntKind.i64.wrap (y16 + 1)))) rfl (HVal.add rfl rfl) (hv (v := (iv (IntKind.i64.wrap (y16 + 1)))) rfl (mv rfl) ?_))
    refine hn (nt ?_)
    exact (hX4 _ _ _).1 h _ (isp rfl)
   have h := hF hb21
   refine we (te (te (be (nt ?_))))
   exact ⟨y15, (isp rfl), h⟩
  rintro ρ H_3 ⟨y75, hI, h⟩
  obtain ⟨ρ0, rfl⟩ := hI.ex
  clear hI; unfold F47_3 at h
  refine wb (ws (wr_ (hv (v := (bv y75)) rfl (mv rfl) (hv (v := (bv (!y75))) rfl (HVal.not rfl) (hv (v := (bv (!y75))) rfl (av rfl) ?_)))))
  refine hn (nt ?_)
  obtain ⟨hT, hF⟩ := h
  refine wk (!y75) rfl (fun hb76 => ?_) (fun hb76 => ?_)
  ·have h := hT hb76
   refine we (bx rfl (bx rfl (te (te (be (nt ?_))))))
   exact ⟨⟨rfl, trivial⟩, h⟩
  have h := hF hb76
  refine ws (wr_ (hv (v := (iv y7)) rfl (mv rfl) (hv (v := (.pointer p0)) rfl (mv rfl) ?_)))
  obtain ⟨a77, e78, h⟩ := h
  refine hv (v := (pp a77)) rfl (HVal.nilCheck (congrArg Value.pointer e78)) (hv (v := (pp a77)) rfl (HVal.fieldAddr0 runUnderlying101 rfl rfl sizeOf98 rfl) ?_)
  obtain ⟨x80, c79, h⟩ := h
  refine hv (v := (Sl.v x80)) rfl (l1 isAgg98 rfl c79) (hv (v := (iv ((x80).n : Int))) rfl (HVal.len runUnderlying98 rfl) (hv (v := (bv (decide (((x80).n : Int) < y7)))) rfl (HVal.gtr rfl rfl) ?_))
  refine hv (v := (bv (decide (((x80).n : Int) < y7)))) rfl (av rfl) (hn (nt ?_))
  obtain ⟨hT, hF⟩ := h
  refine wk (decide (((x80).n : Int) < y7)) rfl (fun hb81 => ?_) (fun hb81 => ?_)
  ·have h := hT hb81
   refine ws (wr_ (hv (v := (bv false)) rfl (av rfl) (hn (nt (HW.ret (br (br (tr (tr (br (tr (sr ?_))))))))))))
   exact ⟨_, resOf1 rfl Res1.t, ⟨false, rfl, h⟩⟩
  have h := hF hb81
  refine wp_ (nb (nb (nt (wr_ (hv (v := (iv y7)) rfl (mv rfl) (hv (v := (iv (IntKind.i64.wrap (y7 + 1)))) rfl (HVal.add rfl rfl) ?_))))))
  refine hv (v := (iv (IntKind.i64.wrap (y7 + 1)))) rfl (av rfl) (hn (nt ?_))
  exact (hX2 _ _).1 h _ (isp rfl)
 rintro ρ H_1 ⟨hI, h⟩
 obtain ⟨ρ0, rfl⟩ := hI.ex
 clear hI; unfold F47_1 at h
 refine ws (ws (wr_ (hv (v := (.pointer p0)) rfl (mv rfl) ?_)))
 obtain ⟨a82, e83, h⟩ := h
 refine hv (v := (pp a82)) rfl (HVal.nilCheck (congrArg Value.pointer e83)) (hv (v := (pp a82)) rfl (HVal.fieldAddr0 runUnderlying101 rfl rfl sizeOf98 rfl) ?_)
 obtain ⟨x85, c84, h⟩ := h
 refine hv (v := (Sl.v x85)) rfl (l1 isAgg98 rfl c84) (hv (v := (iv ((x85).n : Int))) rfl (HVal.len runUnderlying98 rfl) (hv (v := (iv 0)) rfl (mv rfl) ?_))
 refine hn (nt (wb (HW.loop' (fun L7 hL7 => ?_))))
 obtain ⟨X7, hX7⟩ : ∃ X7 : Int → Hp → Prop, ∀ (y86 : Int) (H_7 : Hp), X7 y86 H_7 ↔ ∀ ρ, Env.Is ρ [(0, (.pointer p0)), (63, (Sl.v x85)), (64, (iv ((x85).n : Int))), (65, (iv y86))] → L7 ρ H_7 := ⟨_, fun _ _ => Iff.rfl⟩
 refine (hX7 _ _).1 (h X7 ?_) _ ?_
 rotate_left
 ·exact (isp rfl)
 clear h
 intro y86 H_7 h
 refine (hX7 _ _).2 fun ρ hI => ?_
 obtain ⟨ρ0, rfl⟩ := hI.ex
 clear hI; unfold F47_L7b at h; refine hL7 _ _ ?_
 refine ws (wr_ (hv (v := (bv (decide (y86 < ((x85).n : Int))))) rfl (HVal.lss rfl rfl) (hn (nt (ws ?_)))))
 obtain ⟨hT, hF⟩ := h
 refine wk (decide (y86 < ((x85).n : Int))) rfl (fun hb90 => ?_) (fun hb90 => ?_)
 ·have h := hT hb90
  refine wp_ (nt (ws (wb (ws (wr_ (hv (v := (iv y86)) rfl (mv rfl) ?_))))))
  obtain ⟨a91, e92, b93, b94, h⟩ := h
  refine hv (v := (pp (Addr.add a91 (y86.toNat * 1)))) rfl (ia runUnderlying98 sizeOf2 (Sl.v_some rfl e92) rfl b93 b94) ?_
  obtain ⟨x96, c95, h⟩ := h
  refine hv (v := (iv x96)) rfl (l1 isAgg2 rfl c95) (hv (v := (iv y86)) rfl (av rfl) (hv (v := (iv x96)) rfl (av rfl) ?_))
  refine hn (nt (ws (wr_ (hv (v := (iv x96)) rfl (mv rfl) (hv (v := (.pointer p0)) rfl (mv rfl) ?_)))))
  obtain ⟨a97, e98, h⟩ := h
  refine hv (v := (pp a97)) rfl (HVal.nilCheck (congrArg Value.pointer e98)) (hv (v := (pp (Addr.add a97 1))) rfl (fa runUnderlying101 rfl rfl sizeOf98 rfl) ?_)
  obtain ⟨x100, c99, h⟩ := h
  refine hv (v := (Sl.v x100)) rfl (l1 isAgg98 rfl c99) (hv (v := (iv y86)) rfl (mv rfl) ?_)
  obtain ⟨a101, e102, b103, b104, h⟩ := h
  refine hv (v := (pp (Addr.add a101 (y86.toNat * 1)))) rfl (ia runUnderlying98 sizeOf2 (Sl.v_some rfl e102) rfl b103 b104) ?_
  obtain ⟨x106, c105, h⟩ := h
  refine hv (v := (iv x106)) rfl (l1 isAgg2 rfl c105) (hv (v := (bv (decide (x106 < x96)))) rfl (HVal.gtr rfl rfl) (hn (nt ?_)))
  obtain ⟨hT, hF⟩ := h
  refine wk (decide (x106 < x96)) rfl (fun hb107 => ?_) (fun hb107 => ?_)
  ·have h := hT hb107
   refine ws (wr_ (hv (v := (bv false)) rfl (av rfl) (hn (nt (HW.ret (br (tr (tr (br (tr (sr ?_)))))))))))
   exact ⟨_, resOf1 rfl Res1.t, ⟨false, rfl, h⟩⟩
  have h := hF hb107
  refine wp_ (nb (nt (wr_ (hv (v := (iv (IntKind.i64.wrap (y86 + 1)))) rfl (HVal.add rfl rfl) (hv (v := (iv (IntKind.i64.wrap (y86 + 1)))) rfl (mv rfl) ?_)))))
  refine hn (nt ?_)
  exact (hX7 _ _).1 h _ (isp rfl)
 have h := hF hb90
 refine we (te (te (be (nt (ws (wr_ (hv (v := (bv true)) rfl (av rfl) (hn (nt (HW.ret (sr ?_)))))))))))
 exact ⟨_, resOf1 rfl Res1.t, ⟨true, rfl, h⟩⟩

def F26_7 (Q : Sl → (Option Addr) → Bool → Hp → Prop) (y117 : Addr) (y118 : (Option Addr)) (y223 : Sl) (H_7 : Hp) : Prop :=
mayw H_7 y117 2 0 ∧ ∀ H224 : Hp, H224 = sets H_7 y117 [(Sl.v y223), (.pointer y118)] 0 → (
 ∃ (x227 : Sl) (x228 : (Option Addr)), cells H224 y117 [(Sl.v x227), (.pointer x228)] 0 ∧ (
 Q x227 x228 true H224))
def F26_10 (Q : Sl → (Option Addr) → Bool → Hp → Prop) (X8 : Sl → Int → Hp → Prop) (y177 : (Option Addr)) (y178 y179 : Addr) (y180 : (Option Addr)) (y181 : Sl) (y182 : Addr) (y183 y184 : Int) (H_10 : Hp) : Prop :=
∃ (x214 x215 : Int) (x216 : ByteArray) (x217 : Bool), cells H_10 y182 (vR x214 x215 x216 x217) 0 ∧ (
 ∀ H218 : Hp, H218 = Array.push H_10 (.cells (vR x214 x215 x216 x217).toArray 25) → (
 AppendF H218 25 4 40 (vR 0 0 bE false).toArray y181 ((Sl.mk (some (bk H_10)) 1 1)).b ((Sl.mk (some (bk H_10)) 1 1)).n (fun (r222 : Sl) (H220 : Hp) => 
 X8 r222 (IntKind.i64.wrap (y184 + 1)) H220)))
def F26_9 (Q : Sl → (Option Addr) → Bool → Hp → Prop) (X8 : Sl → Int → Hp → Prop) (y131 : (Option Addr)) (y132 y133 : Addr) (y134 : (Option Addr)) (y135 : Sl) (y136 y137 y138 : Int) (y161 : Addr) (y162 : Bool) (H_9 : Hp) : Prop :=
F44 y131 y136 H_9 (fun (r187 : Int) (H185 : Hp) => 
 ((decide (r187 = 1)) = true → (∃ x190 : Sl, cell H185 y133 = some (Sl.v x190) ∧ (
 ∃ a191 : Addr, (x190).b = some a191 ∧ (0 : Int) ≤ y136 ∧ y136 < ((x190).n : Int) ∧ (
 ∃ x196 : Int, cell H185 (Addr.add a191 (y136.toNat * 1)) = some (iv x196) ∧ (
 F49 x196 H185 (fun (r199 r200 : Int) (r201 : ByteArray) (r202 : Bool) (H197 : Hp) => 
 mayw H197 y161 4 0 ∧ ∀ H203 : Hp, H203 = sets H197 y161 (vR r199 r200 r201 r202) 0 → (
 F26_10 Q X8 y131 y132 y133 y134 y135 y161 y137 y138 H203))))))) ∧
 ((decide (r187 = 1)) = false → (((!y162) = true → (F44 y131 y136 H185 (fun (r209 : Int) (H207 : Hp) => 
 mayw H207 y161 4 0 ∧ ∀ H210 : Hp, H210 = sets H207 y161 (vR r209 0 bE false) 0 → (
 F26_10 Q X8 y131 y132 y133 y134 y135 y161 y137 y138 H210)))) ∧
 ((!y162) = false → (F26_10 Q X8 y131 y132 y133 y134 y135 y161 y137 y138 H185)))))
def F26_L8b (Q : Sl → (Option Addr) → Bool → Hp → Prop) (X8 : Sl → Int → Hp → Prop) (y125 : (Option Addr)) (y126 y127 : Addr) (y128 : (Option Addr)) (y129 : Int) (y123 : Sl) (y124 : Int) (H_8 : Hp) : Prop :=
((decide (y124 < y129)) = true → (∃ a139 : Addr, y128 = some a139 ∧ (
 ∃ x142 : (Option Nat), cell H_8 (Addr.add a139 1) = some (.map x142) ∧ (
 ∃ a143 : Addr, y128 = some a143 ∧ (
 ∃ x146 : (Option Addr), cell H_8 a143 = some (.pointer x146) ∧ (
 (F48 x146 y124 H_8 (fun (r149 : Int) (H147 : Hp) => 
 cell H147 (Addr.add a139 1) = some (.map x142) ∧ (
 ∃ (L151 : ML Int (Int × Int × ByteArray × Bool)) (c152 : Nat), MapK mk3 mv25 Always H147 x142 L151 c152 r149 ∧ (
 ∀ H154 : Hp, H154 = Array.push H147 (.cells (vR 0 0 bE false).toArray 25) → (
 MapK mk3 mv25 Always H154 x142 L151 c152 r149 ∧ cell H154 (Addr.add a139 1) = some (.map x142) ∧ (
 mayw H154 (bk H147) 4 0 ∧ ∀ H158 : Hp, H158 = sets H154 (bk H147) (vR (((mget L151 r149).getD ((0 : Int), (0 : Int), bE, false)).1) (((mget L151 r149).getD ((0 : Int), (0 : Int), bE, false)).2.1) (((mget L151 r149).getD ((0 : Int), (0 : Int), bE, false)).2.2.1) (((mget L151 r149).getD ((0 : Int), (0 : Int), bE, false)).2.2.2)) 0 → (
 F26_9 Q X8 y125 y126 y127 y128 y123 y124 y129 y124 (bk H147) ((mget L151 r149).isSome) H158))))))) ∧
 (∀ H163 : Hp, H163 = Array.push H_8 (.cells (vR 0 0 bE false).toArray 25) → (
 cell H163 a143 = some (.pointer x146) ∧ cell H163 (Addr.add a139 1) = some (.map x142) ∧ (
 F48 x146 y124 H163 (fun (r169 : Int) (H167 : Hp) => 
 cell H167 (Addr.add a139 1) = some (.map x142) ∧ (
 ∃ (L171 : ML Int (Int × Int × ByteArray × Bool)) (c172 : Nat), MapK mk3 mv25 Always H167 x142 L171 c172 r169 ∧ (
 mayw H167 (bk H_8) 4 0 ∧ ∀ H174 : Hp, H174 = sets H167 (bk H_8) (vR (((mget L171 r169).getD ((0 : Int), (0 : Int), bE, false)).1) (((mget L171 r169).getD ((0 : Int), (0 : Int), bE, false)).2.1) (((mget L171 r169).getD ((0 : Int), (0 : Int), bE, false)).2.2.1) (((mget L171 r169).getD ((0 : Int), (0 : Int), bE, false)).2.2.2)) 0 → (
 F26_9 Q X8 y125 y126 y127 y128 y123 y124 y129 y124 (bk H_8) ((mget L171 r169).isSome) H174))))))))))))) ∧
 ((decide (y124 < y129)) = false → (F26_7 Q y126 y128 y123 H_8))
def F26_L8 (Q : Sl → (Option Addr) → Bool → Hp → Prop) (y125 : (Option Addr)) (y126 y127 : Addr) (y128 : (Option Addr)) (y129 : Int) (y123 : Sl) (y124 : Int) (H_8 : Hp) : Prop :=
 ∀ X8 : Sl → Int → Hp → Prop, (∀ (y123 : Sl) (y124 : Int) (H_8 : Hp), F26_L8b Q X8 y125 y126 y127 y128 y129 y123 y124 H_8 → X8 y123 y124 H_8) → X8 y123 y124 H_8
def F26_6 (Q : Sl → (Option Addr) → Bool → Hp → Prop) (y100 : (Option Addr)) (y101 y102 : Addr) (y103 : (Option Addr)) (y106 : Bool) (H_6 : Hp) : Prop :=
(y106 = true → (mayw H_6 y101 2 0 ∧ ∀ H111 : Hp, H111 = sets H_6 y101 [sN, (.pointer none)] 0 → (
 ∃ (x114 : Sl) (x115 : (Option Addr)), cells H111 y101 [(Sl.v x114), (.pointer x115)] 0 ∧ (
 Q x114 x115 false H111)))) ∧
 (y106 = false → (∃ a119 : Addr, y100 = some a119 ∧ (
 ∃ x122 : Sl, cell H_6 a119 = some (Sl.v x122) ∧ (
 F26_L8 Q y100 y101 y102 y103 ((x122).n : Int) Sl.nil 0 H_6))))
def F26_3 (Q : Sl → (Option Addr) → Bool → Hp → Prop) (y42 : (Option Addr)) (y43 : Sl) (y44 y45 : Addr) (H_3 : Hp) : Prop :=
F46 y42 y43 H_3 (fun (r98 : (Option Addr)) (r99 : Bool) (H96 : Hp) => 
 ((!r99) = true → (F26_6 Q y42 y44 y45 r98 true H96)) ∧
 ((!r99) = false → (F47 (some y45) H96 (fun (r109 : Bool) (H107 : Hp) => 
 F26_6 Q y42 y44 y45 r98 (!r109) H107))))
def F26_5 (Q : Sl → (Option Addr) → Bool → Hp → Prop) (X4 : Int → Hp → Prop) (y54 : (Option Addr)) (y55 : Sl) (y56 y57 : Addr) (y58 : Sl) (y59 y60 : Int) (H_5 : Hp) : Prop :=
X4 (IntKind.i64.wrap (y60 + 1)) H_5
def F26_L4b (Q : Sl → (Option Addr) → Bool → Hp → Prop) (X4 : Int → Hp → Prop) (y47 : (Option Addr)) (y48 : Sl) (y49 y50 : Addr) (y51 : Sl) (y52 y46 : Int) (H_4 : Hp) : Prop :=
((decide (y46 < y52)) = true → (∃ a61 : Addr, (y51).b = some a61 ∧ (0 : Int) ≤ y46 ∧ y46 < ((y51).n : Int) ∧ (
 ∃ (x66 x67 x68 : Int) (x69 : Bool) (x70 x71 : Int) (x72 : ByteArray) (x73 : Bool), cells H_4 (Addr.add a61 (y46.toNat * 8)) (lR x66 x67 x68 x69 x70 x71 x72 x73) 0 ∧ (
 ∀ H74 : Hp, H74 = Array.push H_4 (.cells (lR 0 0 0 false 0 0 bE false).toArray 80) → (
 mayw H74 (bk H_4) 8 0 ∧ ∀ H76 : Hp, H76 = sets H74 (bk H_4) (lR x66 x67 x68 x69 x70 x71 x72 x73) 0 → (
 ∃ x80 : Int, cell H76 (Addr.add (bk H_4) 1) = some (iv x80) ∧ (
 F44 y47 x80 H76 (fun (r83 : Int) (H81 : Hp) => 
 ((decide (r83 = 1)) = true → (∃ (x86 x87 x88 : Int) (x89 : Bool) (x90 x91 : Int) (x92 : ByteArray) (x93 : Bool), cells H81 (bk H_4) (lR x86 x87 x88 x89 x90 x91 x92 x93) 0 ∧ (
 F45 (some y50) x86 x87 x88 x89 x90 x91 x92 x93 H81 (fun (H94 : Hp) => 
 F26_5 Q X4 y47 y48 y49 y50 y51 y52 y46 H94)))) ∧
 ((decide (r83 = 1)) = false → (F26_5 Q X4 y47 y48 y49 y50 y51 y52 y46 H81)))))))))) ∧
 ((decide (y46 < y52)) = false → (F26_3 Q y47 y48 y49 y50 H_4))
def F26_L4 (Q : Sl → (Option Addr) → Bool → Hp → Prop) (y47 : (Option Addr)) (y48 : Sl) (y49 y50 : Addr) (y51 : Sl) (y52 y46 : Int) (H_4 : Hp) : Prop :=
 ∀ X4 : Int → Hp → Prop, (∀ (y46 : Int) (H_4 : Hp), F26_L4b Q X4 y47 y48 y49 y50 y51 y52 y46 H_4 → X4 y46 H_4) → X4 y46 H_4
def F26_1 (Q : Sl → (Option Addr) → Bool → Hp → Prop) (y5 : (Option Addr)) (y6 : Sl) (y7 y8 : Addr) (H_1 : Hp) : Prop :=
F26_L4 Q y5 y6 y7 y8 y6 ((y6).n : Int) 0 H_1
def F26_L2b (Q : Sl → (Option Addr) → Bool → Hp → Prop) (X2 : Int → Hp → Prop) (y14 : (Option Addr)) (y15 : Sl) (y16 y17 : Addr) (y18 y13 : Int) (H_2 : Hp) : Prop :=
((decide (y13 < y18)) = true → (∃ x21 : Sl, cell H_2 y17 = some (Sl.v x21) ∧ (
 ∀ H22 : Hp, H22 = Array.push H_2 (.cells #[(iv (-9223372036854775808))] 2) → (
 AppendF H22 2 1 8 #[(iv 0)] x21 ((Sl.mk (some (bk H_2)) 1 1)).b ((Sl.mk (some (bk H_2)) 1 1)).n (fun (r26 : Sl) (H24 : Hp) => 
 (cell H24 y17).isSome = true ∧ frz H24 y17 = false ∧ ∀ H27 : Hp, H27 = setc H24 y17 (Sl.v r26) → (
 ∃ x32 : Sl, cell H27 (Addr.add y17 1) = some (Sl.v x32) ∧ (
 ∀ H33 : Hp, H33 = Array.push H27 (.cells #[(iv 9223372036854775807)] 2) → (
 AppendF H33 2 1 8 #[(iv 0)] x32 ((Sl.mk (some (bk H27)) 1 1)).b ((Sl.mk (some (bk H27)) 1 1)).n (fun (r37 : Sl) (H35 : Hp) => 
 (cell H35 (Addr.add y17 1)).isSome = true ∧ frz H35 (Addr.add y17 1) = false ∧ ∀ H38 : Hp, H38 = setc H35 (Addr.add y17 1) (Sl.v r37) → (
 X2 (IntKind.i64.wrap (y13 + 1)) H38)))))))))) ∧
 ((decide (y13 < y18)) = false → (F26_1 Q y14 y15 y16 y17 H_2))
def F26_L2 (Q : Sl → (Option Addr) → Bool → Hp → Prop) (y14 : (Option Addr)) (y15 : Sl) (y16 y17 : Addr) (y18 y13 : Int) (H_2 : Hp) : Prop :=
 ∀ X2 : Int → Hp → Prop, (∀ (y13 : Int) (H_2 : Hp), F26_L2b Q X2 y14 y15 y16 y17 y18 y13 H_2 → X2 y13 H_2) → X2 y13 H_2
def F26 (p0 : (Option Addr)) (p1 : Sl) (H : Hp) (Q : Sl → (Option Addr) → Bool → Hp → Prop) : Prop :=
∀ H1 : Hp, H1 = Array.push H (.cells #[sN, (.pointer none)] 74) → (
 ∀ H3 : Hp, H3 = Array.push H1 (.cells #[sN, sN, sN, (bv false)] 101) → (
 ∃ a9 : Addr, p0 = some a9 ∧ (
 ∃ x12 : Sl, cell H3 a9 = some (Sl.v x12) ∧ (
 F26_L2 Q p0 p1 (bk H) (bk H1) ((x12).n : Int) 0 H3))))
theorem walk26 {w0 : World} {p0 : (Option Addr)} {p1 : Sl} {H : Hp} {Q : Sl → (Option Addr) → Bool → Hp → Prop} (h : F26 p0 p1 H Q) :
  Good prog w0 26 #[(.pointer p0), (Sl.v p1)] H (fun v H => ∃ (r0 : Sl) (r1 : (Option Addr)) (r2 : Bool) , v = (.tuple #[(.agg #[(Sl.v r0), (.pointer r1)]), (bv r2)]) ∧ Q r0 r1 r2 H) := by
 unfold F26 at h
 refine Good.enter' (fn := f26) func26 rfl rfl rfl (ws (wr_ (ho rfl (HOp.alloc zeroValue74) ?_)))
 rintro _ H1 ⟨rfl, e2⟩
 replace h := h H1 e2
 refine hv (v := (bv false)) rfl (av rfl) (hn (nt (ws (wr_ (hv (v := (.agg #[sN, sN, sN, (bv false)])) rfl (HVal.build' (cs := [sN, sN, sN, (bv false)]) runUnderlying101 zeroValue101 places101 rfl) ?_)))))
 refine ho rfl (ob (v := (.agg #[sN, sN, sN, (bv false)])) rfl) ?_
 rintro _ H3 ⟨rfl, e4⟩
 replace h := h H3 e4
 refine hv (v := (pp (bk H1))) rfl (av rfl) (hn (nt (wc (fun ρ H_1 => Env.Is ρ [(0, (.pointer p0)), (1, (Sl.v p1)), (4, (pp (bk H))), (6, (pp (bk H1)))] ∧ F26_1 Q p0 p1 (bk H) (bk H1) H_1) ?_ ?_)))
 ·refine ws (wr_ (hv (v := (.pointer p0)) rfl (mv rfl) ?_))
  obtain ⟨a9, e10, h⟩ := h
  refine hv (v := (pp a9)) rfl (HVal.nilCheck (congrArg Value.pointer e10)) (hv (v := (pp a9)) rfl (HVal.fieldAddr0 runUnderlying66 rfl rfl sizeOf35 rfl) ?_)
  obtain ⟨x12, c11, h⟩ := h
  refine hv (v := (Sl.v x12)) rfl (l1 isAgg35 rfl c11) (hv (v := (iv ((x12).n : Int))) rfl (HVal.len runUnderlying35 rfl) (hv (v := (iv 0)) rfl (mv rfl) ?_))
  refine hn (nt (wb (HW.loop' (fun L2 hL2 => ?_))))
  obtain ⟨X2, hX2⟩ : ∃ X2 : Int → Hp → Prop, ∀ (y13 : Int) (H_2 : Hp), X2 y13 H_2 ↔ ∀ ρ, Env.Is ρ [(0, (.pointer p0)), (1, (Sl.v p1)), (4, (pp (bk H))), (6, (pp (bk H1))), (21, (iv ((x12).n : Int))), (22, (iv y13))] → L2 ρ H_2 := ⟨_, fun _ _ => Iff.rfl⟩
  refine (hX2 _ _).1 (h X2 ?_) _ ?_
  rotate_left
  ·exact (isp rfl)
  clear h
  intro y13 H_2 h
  refine (hX2 _ _).2 fun ρ hI => ?_
  obtain ⟨ρ0, rfl⟩ := hI.ex
  clear hI; unfold F26_L2b at h; refine hL2 _ _ ?_
  refine ws (wr_ (hv (v := (bv (decide (y13 < ((x12).n : Int))))) rfl (HVal.lss rfl rfl) (hn (nt (ws ?_)))))
  obtain ⟨hT, hF⟩ := h
  refine wk (decide (y13 < ((x12).n : Int))) rfl (fun hb19 => ?_) (fun hb19 => ?_)
  ·have h := hT hb19
   refine wp_ (nt (ws (wb (ws (wr_ (hv (v := (pp (bk H1))) rfl (mv rfl) (hv (v := (pp (bk H1))) rfl (mv rfl) ?_)))))))
   refine hv (v := (pp (bk H1))) rfl (HVal.nilCheck rfl) (hv (v := (pp (bk H1))) rfl (HVal.fieldAddr0 runUnderlying101 rfl rfl sizeOf98 rfl) ?_)
   obtain ⟨x21, c20, h⟩ := h
   refine hv (v := (Sl.v x21)) rfl (l1 isAgg98 rfl c20) (ho rfl (HOp.buildSlice' (zs := [(iv 0)]) (cs := [(iv (-9223372036854775808))]) runUnderlying98 sizeOf2 zeroValue2 (by decide) (by kernel_rfl) rfl (by decide)) ?_)
   rintro _ H22 ⟨rfl, e23⟩
   replace h := h H22 e23
   refine ho rfl (HOp.append (k := 1) (b := 8) runUnderlying98 runUnderlying98 typeInfo2 rfl rfl zeroValue2 rfl rfl h) ?_
   rintro _ H24 ⟨r26, rfl, h⟩
   refine hv (v := (pp (bk H1))) rfl (HVal.nilCheck rfl) (hv (v := (pp (bk H1))) rfl (HVal.fieldAddr0 runUnderlying101 rfl rfl sizeOf98 rfl) ?_)
   obtain ⟨z29, z30, h⟩ := h
   refine hq (HOp.store1 sizeOf98 rfl rfl rfl z29 z30) ?_
   rintro _ H27 e28
   replace h := h H27 e28
   refine hn (nt (wr_ (hv (v := (pp (bk H1))) rfl (mv rfl) (hv (v := (pp (bk H1))) rfl (mv rfl) ?_))))
   refine hv (v := (pp (bk H1))) rfl (HVal.nilCheck rfl) (hv (v := (pp (Addr.add (bk H1) 1))) rfl (fa runUnderlying101 rfl rfl sizeOf98 rfl) ?_)
   obtain ⟨x32, c31, h⟩ := h
   refine hv (v := (Sl.v x32)) rfl (l1 isAgg98 rfl c31) (ho rfl (HOp.buildSlice' (zs := [(iv 0)]) (cs := [(iv 9223372036854775807)]) runUnderlying98 sizeOf2 zeroValue2 (by decide) (by kernel_rfl) rfl (by decide)) ?_)
   rintro _ H33 ⟨rfl, e34⟩
   replace h := h H33 e34
   refine ho rfl (HOp.append (k := 1) (b := 8) runUnderlying98 runUnderlying98 typeInfo2 rfl rfl zeroValue2 rfl rfl h) ?_
   rintro _ H35 ⟨r37, rfl, h⟩
   refine hv (v := (pp (bk H1))) rfl (HVal.nilCheck rfl) (hv (v := (pp (Addr.add (bk H1) 1))) rfl (fa runUnderlying101 rfl rfl sizeOf98 rfl) ?_)
   obtain ⟨z40, z41, h⟩ := h
   refine hq (HOp.store1 sizeOf98 rfl rfl rfl z40 z41) ?_
   rintro _ H38 e39
   replace h := h H38 e39
   refine hn (nb (nt (wr_ (hv (v := (iv (IntKind.i64.wrap (y13 + 1)))) rfl (HVal.add rfl rfl) (hv (v := (iv (IntKind.i64.wrap (y13 + 1)))) rfl (mv rfl) ?_)))))
   refine hn (nt ?_)
   exact (hX2 _ _).1 h _ (isp rfl)
  have h := hF hb19
  refine we (te (te (be (nt ?_))))
  exact ⟨(isp rfl), h⟩
 rintro ρ H_1 ⟨hI, h⟩
 obtain ⟨ρ0, rfl⟩ := hI.ex
 clear hI; unfold F26_1 at h
 refine wc (fun ρ H_3 => Env.Is ρ [(0, (.pointer p0)), (1, (Sl.v p1)), (4, (pp (bk H))), (6, (pp (bk H1)))] ∧ F26_3 Q p0 p1 (bk H) (bk H1) H_3) ?_ ?_
 ·refine ws (wr_ (hv (v := (Sl.v p1)) rfl (mv rfl) (hv (v := (iv ((p1).n : Int))) rfl (HVal.len runUnderlying62 rfl) ?_)))
  refine hv (v := (iv 0)) rfl (mv rfl) (hn (nt (wb (HW.loop' (fun L4 hL4 => ?_)))))
  obtain ⟨X4, hX4⟩ : ∃ X4 : Int → Hp → Prop, ∀ (y46 : Int) (H_4 : Hp), X4 y46 H_4 ↔ ∀ ρ, Env.Is ρ [(0, (.pointer p0)), (1, (Sl.v p1)), (4, (pp (bk H))), (6, (pp (bk H1))), (43, (Sl.v p1)), (44, (iv ((p1).n : Int))), (45, (iv y46))] → L4 ρ H_4 := ⟨_, fun _ _ => Iff.rfl⟩
  refine (hX4 _ _).1 (h X4 ?_) _ ?_
  rotate_left
  ·exact (isp rfl)
  clear h
  intro y46 H_4 h
  refine (hX4 _ _).2 fun ρ hI => ?_
  obtain ⟨ρ0, rfl⟩ := hI.ex
  clear hI; unfold F26_L4b at h; refine hL4 _ _ ?_
  refine ws (wr_ (hv (v := (bv (decide (y46 < ((p1).n : Int))))) rfl (HVal.lss rfl rfl) (hn (nt (ws ?_)))))
  obtain ⟨hT, hF⟩ := h
  refine wk (decide (y46 < ((p1).n : Int))) rfl (fun hb53 => ?_) (fun hb53 => ?_)
  ·have h := hT hb53
   refine wp_ (nt (wc (fun ρ H_5 => Env.Is ρ [(0, (.pointer p0)), (1, (Sl.v p1)), (4, (pp (bk H))), (6, (pp (bk H1))), (43, (Sl.v p1)), (44, (iv ((p1).n : Int))), (45, (iv y46))] ∧ F26_5 Q X4 p0 p1 (bk H) (bk H1) p1 ((p1).n : Int) y46 H_5) ?_ ?_))
   ·refine wb (ws (wr_ ?_))
    obtain ⟨a61, e62, b63, b64, h⟩ := h
    refine hv (v := (pp (Addr.add a61 (y46.toNat * 8)))) rfl (ia runUnderlying62 sizeOf80 (Sl.v_some rfl e62) rfl b63 b64) ?_
    obtain ⟨x66, x67, x68, x69, x70, x71, x72, x73, c65, h⟩ := h
    refine hv (v := (.agg (lR x66 x67 x68 x69 x70 x71 x72 x73).toArray)) rfl (ln (lR x66 x67 x68 x69 x70 x71 x72 x73) isAgg80 sizeOf80 rfl c65) ?_
    refine ho rfl (HOp.alloc zeroValue80) ?_
    rintro _ H74 ⟨rfl, e75⟩
    replace h := h H74 e75
    obtain ⟨z78, h⟩ := h
    refine hq (HOp.storeN' (l := (lR x66 x67 x68 x69 x70 x71 x72 x73)) sizeOf80 rfl rfl rfl z78) ?_
    rintro _ H76 e77
    replace h := h H76 e77
    refine hn (nt (ws (wr_ (hv (v := (.pointer p0)) rfl (mv rfl) (hv (v := (pp (Addr.add (bk H_4) 1))) rfl (fa runUnderlying80 rfl rfl sizeOf3 rfl) ?_)))))
    obtain ⟨x80, c79, h⟩ := h
    refine hv (v := (iv x80)) rfl (l1 isAgg3 rfl c79) (ho rfl (HOp.call' 44 [(.pointer p0), (iv x80)] (cap := []) rfl rfl call44 (walk44 h)) ?_)
    rintro _ H81 ⟨r83, rfl, h⟩
    refine hv (v := (bv (decide (r83 = 1)))) rfl (HVal.eqlI rfl rfl) (hn (nt ?_))
    obtain ⟨hT, hF⟩ := h
    refine wk (decide (r83 = 1)) rfl (fun hb84 => ?_) (fun hb84 => ?_)
    ·have h := hT hb84
     refine wr_ (hv (v := (pp (bk H1))) rfl (mv rfl) ?_)
     obtain ⟨x86, x87, x88, x89, x90, x91, x92, x93, c85, h⟩ := h
     refine hv (v := (.agg (lR x86 x87 x88 x89 x90 x91 x92 x93).toArray)) rfl (ln (lR x86 x87 x88 x89 x90 x91 x92 x93) isAgg80 sizeOf80 rfl c85) ?_
     refine ho rfl (HOp.call' 45 [(pp (bk H1)), (.agg (lR x86 x87 x88 x89 x90 x91 x92 x93).toArray)] (cap := []) rfl rfl call45 (walk45 h)) ?_
     rintro _ H94 ⟨rfl, h⟩
     refine hn (nb (nt ?_))
     exact ⟨(isp rfl), h⟩
    have h := hF hb84
    refine wp_ (nb (nt ?_))
    exact ⟨(isp rfl), h⟩
   rintro ρ H_5 ⟨hI, h⟩
   obtain ⟨ρ0, rfl⟩ := hI.ex
   clear hI; unfold F26_5 at h
   refine wr_ (hv (v := (iv (IntKind.i64.wrap (y46 + 1)))) rfl (HVal.add rfl rfl) (hv (v := (iv (IntKind.i64.wrap (y46 + 1)))) rfl (mv rfl) ?_))
   refine hn (nt ?_)
   exact (hX4 _ _).1 h _ (isp rfl)
  have h := hF hb53
  refine we (te (te (be (nt ?_))))
  exact ⟨(isp rfl), h⟩
 rintro ρ H_3 ⟨hI, h⟩
 obtain ⟨ρ0, rfl⟩ := hI.ex
 clear hI; unfold F26_3 at h
 refine ws (wr_ (hv (v := (.pointer p0)) rfl (mv rfl) (hv (v := (Sl.v p1)) rfl (mv rfl) (ho rfl (HOp.call' 46 [(.pointer p0), (Sl.v p1)] (cap := []) rfl rfl call46 (walk46 h)) ?_))))
 rintro _ H96 ⟨r98, r99, rfl, h⟩
 refine hv (v := (.tuple #[(.pointer r98), (bv r99)])) rfl (mv rfl) (hv (v := (.pointer r98)) rfl (HVal.extract rfl rfl) (hv (v := (bv r99)) rfl (HVal.extract rfl rfl) ?_))
 refine hv (v := (.pointer r98)) rfl (av rfl) (hv (v := (bv r99)) rfl (av rfl) (hn (nt (ws (wc (fun ρ H_6 => ∃ (y106 : Bool), Env.Is ρ [(0, (.pointer p0)), (4, (pp (bk H))), (6, (pp (bk H1))), (9, (.pointer r98)), (70, (bv y106))] ∧ F26_6 Q p0 (bk H) (bk H1) r98 y106 H_6) ?_ ?_)))))
 ·refine wr_ (hv (v := (bv r99)) rfl (mv rfl) (hv (v := (bv (!r99))) rfl (HVal.not rfl) (hv (v := (bv (!r99))) rfl (mv rfl) ?_)))
  obtain ⟨hT, hF⟩ := h
  rcases Bool.eq_false_or_eq_true (!r99) with hb104 | hb105
  ·have h := hT hb104
   refine hs_ rfl rfl rfl rfl (cB hb104) (hs_ rfl rfl rfl rfl (cB hb104) (hs_ rfl rfl rfl rfl (cB hb104) (hv (v := (bv true)) rfl (pt_ rfl hb104 rfl) ?_)))
   refine hn (nt ?_)
   exact ⟨true, (isp rfl), h⟩
  have h := hF hb105
  refine hg (v := (pp (bk H1))) rfl rfl rfl rfl (cB hb105) (mv rfl) (HList.gops rfl rfl rfl rfl (cB hb105) (HOp.call' 47 [(pp (bk H1))] (cap := []) rfl rfl call47 (walk47 h)) ?_)
  rintro _ H107 ⟨r109, rfl, h⟩
  refine hg (v := (bv (!r109))) rfl rfl rfl rfl (cB hb105) (HVal.not rfl) (hv (v := (bv (!r109))) rfl (pf_ rfl hb105 rfl) (hn (nt ?_)))
  exact ⟨(!r109), (isp rfl), h⟩
 rintro ρ H_6 ⟨y106, hI, h⟩
 obtain ⟨ρ0, rfl⟩ := hI.ex
 clear hI; unfold F26_6 at h
 obtain ⟨hT, hF⟩ := h
 refine wk y106 rfl (fun hb110 => ?_) (fun hb110 => ?_)
 ·have h := hT hb110
  refine ws (wr_ (hv (v := (.agg #[sN, (.pointer none)])) rfl (HVal.build' (cs := [sN, (.pointer none)]) runUnderlying74 zeroValue74 places74 rfl) ?_))
  obtain ⟨z113, h⟩ := h
  refine hq (HOp.storeN' (l := [sN, (.pointer none)]) sizeOf74 rfl rfl rfl z113) ?_
  rintro _ H111 e112
  replace h := h H111 e112
  refine hv (v := (bv false)) rfl (av rfl) (hn (nt (HW.ret (tr ?_))))
  obtain ⟨x114, x115, c116, h⟩ := h
  exact ⟨_, resOf2 rfl (Res1.n [(Sl.v x114), (.pointer x115)] isAgg74 sizeOf74 rfl c116) Res1.t, ⟨x114, x115, false, rfl, h⟩⟩
 have h := hF hb110
 refine wp_ (nt (ws (wr_ (hv (v := sN) rfl (av rfl) (hn (nt (wc (fun ρ H_7 => ∃ (y223 : Sl), Env.Is ρ [(4, (pp (bk H))), (9, (.pointer r98)), (11, (Sl.v y223))] ∧ F26_7 Q (bk H) r98 y223 H_7) ?_ ?_)))))))
 ·refine ws (wr_ (hv (v := (.pointer p0)) rfl (mv rfl) ?_))
  obtain ⟨a119, e120, h⟩ := h
  refine hv (v := (pp a119)) rfl (HVal.nilCheck (congrArg Value.pointer e120)) (hv (v := (pp a119)) rfl (HVal.fieldAddr0 runUnderlying66 rfl rfl sizeOf35 rfl) ?_)
  obtain ⟨x122, c121, h⟩ := h
  refine hv (v := (Sl.v x122)) rfl (l1 isAgg35 rfl c121) (hv (v := (iv ((x122).n : Int))) rfl (HVal.len runUnderlying35 rfl) ?_)
  refine hv (v := (iv 0)) rfl (mv rfl) (hn (nt (wb (HW.loop' (fun L8 hL8 => ?_)))))
  obtain ⟨X8, hX8⟩ : ∃ X8 : Sl → Int → Hp → Prop, ∀ (y123 : Sl) (y124 : Int) (H_8 : Hp), X8 y123 y124 H_8 ↔ ∀ ρ, Env.Is ρ [(0, (.pointer p0)), (4, (pp (bk H))), (6, (pp (bk H1))), (9, (.pointer r98)), (76, (iv ((x122).n : Int))), (11, (Sl.v y123)), (77, (iv y124))] → L8 ρ H_8 := ⟨_, fun _ _ _ => Iff.rfl⟩
  refine (hX8 _ _ _).1 (h X8 ?_) _ ?_
  rotate_left
  ·exact (isp rfl)
  clear h
  intro y123 y124 H_8 h
  refine (hX8 _ _ _).2 fun ρ hI => ?_
  obtain ⟨ρ0, rfl⟩ := hI.ex
  clear hI; unfold F26_L8b at h; refine hL8 _ _ ?_
  refine ws (wr_ (hv (v := (bv (decide (y124 < ((x122).n : Int))))) rfl (HVal.lss rfl rfl) (hn (nt (ws ?_)))))
  obtain ⟨hT, hF⟩ := h
  refine wk (decide (y124 < ((x122).n : Int))) rfl (fun hb130 => ?_) (fun hb130 => ?_)
  ·have h := hT hb130
   refine wp_ (nt (ws (wb (ws (wr_ (hv (v := (iv y124)) rfl (mv rfl) (hv (v := (iv y124)) rfl (av rfl) ?_)))))))
   refine hn (nt (wc (fun ρ H_9 => ∃ (y161 : Addr) (y162 : Bool), Env.Is ρ [(0, (.pointer p0)), (4, (pp (bk H))), (6, (pp (bk H1))), (9, (.pointer r98)), (11, (Sl.v y123)), (12, (iv y124)), (76, (iv ((x122).n : Int))), (77, (iv y124)), (13, (pp y161)), (14, (bv y162))] ∧ F26_9 Q X8 p0 (bk H) (bk H1) r98 y123 y124 ((x122).n : Int) y124 y161 y162 H_9) ?_ ?_))
   ·refine HW.draw mixed [(0, some []), (1, some []), (2, some []), (3, some [15]), (4, some []), (5, some []), (6, some []), (7, some [9, 15]), (8, some []), (17, none), (17, none), (17, none), (17, none), (17, none), (17, none), (17, none), (17, none)] rfl (by kernel_rfl) (by kernel_rfl) ?_
    refine pv (v := (.pointer r98)) rfl rfl (fun _ => mv rfl) ?_
    obtain ⟨a139, e140, h⟩ := h
    refine pv (v := (pp a139)) rfl rfl (fun _ => HVal.nilCheck (congrArg Value.pointer e140)) (pv (v := (pp (Addr.add a139 1))) rfl rfl (fun _ => fa runUnderlying108 rfl rfl sizeOf106 rfl) ?_)
    obtain ⟨x142, c141, h⟩ := h
    refine pl (v := (.map x142)) (fun X => cell X (Addr.add a139 1) = some (.map x142)) rfl rfl (fun _ hX => l1 isAgg106 rfl hX) c141 (pv (v := (.pointer r98)) rfl rfl (fun _ => mv rfl) ?_)
    obtain ⟨a143, e144, h⟩ := h
    refine pv (v := (pp a143)) rfl rfl (fun _ => HVal.nilCheck (congrArg Value.pointer e144)) (pv (v := (pp a143)) rfl rfl (fun _ => HVal.fieldAddr0 runUnderlying108 rfl rfl sizeOf64 rfl) ?_)
    obtain ⟨x146, c145, h⟩ := h
    refine pl (v := (.pointer x146)) (fun X => cell X a143 = some (.pointer x146)) rfl rfl (fun _ hX => l1 isAgg64 rfl hX) c145 (pv (v := (iv y124)) rfl rfl (fun _ => mv rfl) ?_)
    obtain ⟨hB9, hB14⟩ := h
    refine HPlan.fork2 (i := 9) (j := 14) (by kernel_rfl) ?_ ?_
    ·have h := hB9
     clear hB9 hB14
     refine HBr.ops' [(10, some [15]), (11, some []), (12, some []), (13, some []), (14, none), (15, none), (16, some [])] rfl (by kernel_rfl) (by kernel_rfl) rfl rfl rfl (HOp.call' 48 [(.pointer x146), (iv y124)] (cap := []) rfl rfl call48 (walk48 h)) ?_
     rintro _ H147 ⟨r149, rfl, h⟩
     obtain ⟨s150, h⟩ := h
     refine ⟨SC_of ⟨nofun, fun _ => s150, trivial⟩, ?_⟩
     obtain ⟨L151, c152, c153, h⟩ := h
     refine pl (v := (.tuple #[(.agg (vR (((mget L151 r149).getD ((0 : Int), (0 : Int), bE, false)).1) (((mget L151 r149).getD ((0 : Int), (0 : Int), bE, false)).2.1) (((mget L151 r149).getD ((0 : Int), (0 : Int), bE, false)).2.2.1) (((mget L151 r149).getD ((0 : Int), (0 : Int), bE, false)).2.2.2)).toArray), (bv ((mget L151 r149).isSome))])) (fun X => MapK mk3 mv25 Always X x142 L151 c152 r149) rfl rfl (fun _ hX => HVal.lookupOk (f := mk3) (g := mv25) (k := r149) (z := ((0 : Int), (0 : Int), bE, false)) runUnderlying106 mkk3 zeroValue25 rfl rfl hX) c153 ?_
     refine pv (v := (.tuple #[(.agg (vR (((mget L151 r149).getD ((0 : Int), (0 : Int), bE, false)).1) (((mget L151 r149).getD ((0 : Int), (0 : Int), bE, false)).2.1) (((mget L151 r149).getD ((0 : Int), (0 : Int), bE, false)).2.2.1) (((mget L151 r149).getD ((0 : Int), (0 : Int), bE, false)).2.2.2)).toArray), (bv ((mget L151 r149).isSome))])) rfl rfl (fun _ => mv rfl) ?_
     refine pv (v := (.agg (vR (((mget L151 r149).getD ((0 : Int), (0 : Int), bE, false)).1) (((mget L151 r149).getD ((0 : Int), (0 : Int), bE, false)).2.1) (((mget L151 r149).getD ((0 : Int), (0 : Int), bE, false)).2.2.1) (((mget L151 r149).getD ((0 : Int), (0 : Int), bE, false)).2.2.2)).toArray)) rfl rfl (fun _ => HVal.extract rfl rfl) ?_
     refine pv (v := (bv ((mget L151 r149).isSome))) rfl rfl (fun _ => HVal.extract rfl rfl) (po rfl rfl (HOp.alloc zeroValue25) ?_)
     rintro _ H154 ⟨rfl, e155⟩
     replace h := h H154 e155
     obtain ⟨s156, s157, h⟩ := h
     refine ⟨SC_of ⟨fun _ => s156, nofun, fun _ => s157, trivial⟩, ?_⟩
     obtain ⟨z160, h⟩ := h
     refine pn rfl (HOp.storeN' (l := (vR (((mget L151 r149).getD ((0 : Int), (0 : Int), bE, false)).1) (((mget L151 r149).getD ((0 : Int), (0 : Int), bE, false)).2.1) (((mget L151 r149).getD ((0 : Int), (0 : Int), bE, false)).2.2.1) (((mget L151 r149).getD ((0 : Int), (0 : Int), bE, false)).2.2.2))) sizeOf25 rfl rfl rfl z160) ?_
     rintro _ H158 e159
     replace h := h H158 e159
     refine ⟨SC_of ⟨nofun, nofun, nofun, trivial⟩, ?_⟩
     refine pv (v := (bv ((mget L151 r149).isSome))) rfl rfl (fun _ => av rfl) (HPlan.done (nt ?_))
     exact ⟨(bk H147), ((mget L151 r149).isSome), (isp rfl), h⟩
    have h := hB14
    clear hB9 hB14
    refine HBr.ops' [(9, none), (10, some [15]), (11, some []), (12, some []), (13, some []), (15, none), (16, some [])] rfl (by kernel_rfl) (by kernel_rfl) rfl rfl rfl (HOp.alloc zeroValue25) ?_
    rintro _ H163 ⟨rfl, e164⟩
    replace h := h H163 e164
    obtain ⟨s165, s166, h⟩ := h
    refine ⟨SC_of ⟨fun _ => s165, fun _ => s166, trivial⟩, ?_⟩
    refine po rfl rfl (HOp.call' 48 [(.pointer x146), (iv y124)] (cap := []) rfl rfl call48 (walk48 h)) ?_
    rintro _ H167 ⟨r169, rfl, h⟩
    obtain ⟨s170, h⟩ := h
    refine ⟨SC_of ⟨nofun, fun _ => s170, trivial⟩, ?_⟩
    obtain ⟨L171, c172, c173, h⟩ := h
    refine pl (v := (.tuple #[(.agg (vR (((mget L171 r169).getD ((0 : Int), (0 : Int), bE, false)).1) (((mget L171 r169).getD ((0 : Int), (0 : Int), bE, false)).2.1) (((mget L171 r169).getD ((0 : Int), (0 : Int), bE, false)).2.2.1) (((mget L171 r169).getD ((0 : Int), (0 : Int), bE, false)).2.2.2)).toArray), (bv ((mget L171 r169).isSome))])) (fun X => MapK mk3 mv25 Always X x142 L171 c172 r169) rfl rfl (fun _ hX => HVal.lookupOk (f := mk3) (g := mv25) (k := r169) (z := ((0 : Int), (0 : Int), bE, false)) runUnderlying106 mkk3 zeroValue25 rfl rfl hX) c173 ?_
    refine pv (v := (.tuple #[(.agg (vR (((mget L171 r169).getD ((0 : Int), (0 : Int), bE, false)).1) (((mget L171 r169).getD ((0 : Int), (0 : Int), bE, false)).2.1) (((mget L171 r169).getD ((0 : Int), (0 : Int), bE, false)).2.2.1) (((mget L171 r169).getD ((0 : Int), (0 : Int), bE, false)).2.2.2)).toArray), (bv ((mget L171 r169).isSome))])) rfl rfl (fun _ => mv rfl) ?_
    refine pv (v := (.agg (vR (((mget L171 r169).getD ((0 : Int), (0 : Int), bE, false)).1) (((mget L171 r169).getD ((0 : Int), (0 : Int), bE, false)).2.1) (((mget L171 r169).getD ((0 : Int), (0 : Int), bE, false)).2.2.1) (((mget L171 r169).getD ((0 : Int), (0 : Int), bE, false)).2.2.2)).toArray)) rfl rfl (fun _ => HVal.extract rfl rfl) ?_
    refine pv (v := (bv ((mget L171 r169).isSome))) rfl rfl (fun _ => HVal.extract rfl rfl) ?_
    obtain ⟨z176, h⟩ := h
    refine pn rfl (HOp.storeN' (l := (vR (((mget L171 r169).getD ((0 : Int), (0 : Int), bE, false)).1) (((mget L171 r169).getD ((0 : Int), (0 : Int), bE, false)).2.1) (((mget L171 r169).getD ((0 : Int), (0 : Int), bE, false)).2.2.1) (((mget L171 r169).getD ((0 : Int), (0 : Int), bE, false)).2.2.2))) sizeOf25 rfl rfl rfl z176) ?_
    rintro _ H174 e175
    replace h := h H174 e175
    refine ⟨SC_of ⟨nofun, nofun, nofun, trivial⟩, ?_⟩
    refine pv (v := (bv ((mget L171 r169).isSome))) rfl rfl (fun _ => av rfl) (HPlan.done (nt ?_))
    exact ⟨(bk H_8), ((mget L171 r169).isSome), (isp rfl), h⟩
   rintro ρ H_9 ⟨y161, y162, hI, h⟩
   obtain ⟨ρ0, rfl⟩ := hI.ex
   clear hI; unfold F26_9 at h
   refine wc (fun ρ H_10 => Env.Is ρ [(0, (.pointer p0)), (4, (pp (bk H))), (6, (pp (bk H1))), (9, (.pointer r98)), (11, (Sl.v y123)), (13, (pp y161)), (76, (iv ((x122).n : Int))), (77, (iv y124))] ∧ F26_10 Q X8 p0 (bk H) (bk H1) r98 y123 y161 ((x122).n : Int) y124 H_10) ?_ ?_
   ·refine wb (ws (wr_ (hv (v := (.pointer p0)) rfl (mv rfl) (hv (v := (iv y124)) rfl (mv rfl) (ho rfl (HOp.call' 44 [(.pointer p0), (iv y124)] (cap := []) rfl rfl call44 (walk44 h)) ?_)))))
    rintro _ H185 ⟨r187, rfl, h⟩
    refine hv (v := (bv (decide (r187 = 1)))) rfl (HVal.eqlI rfl rfl) (hv (v := (bv (decide (r187 = 1)))) rfl (av rfl) (hn (nt ?_)))
    obtain ⟨hT, hF⟩ := h
    refine wk (decide (r187 = 1)) rfl (fun hb188 => ?_) (fun hb188 => ?_)
    ·have h := hT hb188
     refine wr_ (hv (v := (pp (bk H1))) rfl (mv rfl) (hv (v := (pp (bk H1))) rfl (HVal.nilCheck rfl) ?_))
     refine hv (v := (pp (bk H1))) rfl (HVal.fieldAddr0 runUnderlying101 rfl rfl sizeOf98 rfl) ?_
     obtain ⟨x190, c189, h⟩ := h
     refine hv (v := (Sl.v x190)) rfl (l1 isAgg98 rfl c189) (hv (v := (iv y124)) rfl (mv rfl) ?_)
     obtain ⟨a191, e192, b193, b194, h⟩ := h
     refine hv (v := (pp (Addr.add a191 (y124.toNat * 1)))) rfl (ia runUnderlying98 sizeOf2 (Sl.v_some rfl e192) rfl b193 b194) ?_
     obtain ⟨x196, c195, h⟩ := h
     refine hv (v := (iv x196)) rfl (l1 isAgg2 rfl c195) (ho rfl (HOp.call' 49 [(iv x196)] (cap := []) rfl rfl call49 (walk49 h)) ?_)
     rintro _ H197 ⟨r199, r200, r201, r202, rfl, h⟩
     obtain ⟨z205, h⟩ := h
     refine hq (HOp.storeN' (l := (vR r199 r200 r201 r202)) sizeOf25 rfl rfl rfl z205) ?_
     rintro _ H203 e204
     replace h := h H203 e204
     refine hn (nb (nt ?_))
     exact ⟨(isp rfl), h⟩
    have h := hF hb188
    refine ws (wr_ (hv (v := (bv y162)) rfl (mv rfl) (hv (v := (bv (!y162))) rfl (HVal.not rfl) (hv (v := (bv (!y162))) rfl (av rfl) ?_))))
    refine hn (nt ?_)
    obtain ⟨hT, hF⟩ := h
    refine wk (!y162) rfl (fun hb206 => ?_) (fun hb206 => ?_)
    ·have h := hT hb206
     refine wr_ (hv (v := (.pointer p0)) rfl (mv rfl) (hv (v := (iv y124)) rfl (mv rfl) (ho rfl (HOp.call' 44 [(.pointer p0), (iv y124)] (cap := []) rfl rfl call44 (walk44 h)) ?_)))
     rintro _ H207 ⟨r209, rfl, h⟩
     refine hv (v := (.agg (vR r209 0 bE false).toArray)) rfl (HVal.build' (cs := (vR r209 0 bE false)) runUnderlying25 zeroValue25 places25 rfl) ?_
     obtain ⟨z212, h⟩ := h
     refine hq (HOp.storeN' (l := (vR r209 0 bE false)) sizeOf25 rfl rfl rfl z212) ?_
     rintro _ H210 e211
     replace h := h H210 e211
     refine hn (nb (nt ?_))
     exact ⟨(isp rfl), h⟩
    have h := hF hb206
    refine wp_ (nb (nt ?_))
    exact ⟨(isp rfl), h⟩
   rintro ρ H_10 ⟨hI, h⟩
   obtain ⟨ρ0, rfl⟩ := hI.ex
   clear hI; unfold F26_10 at h
   refine wr_ (hv (v := (Sl.v y123)) rfl (mv rfl) ?_)
   obtain ⟨x214, x215, x216, x217, c213, h⟩ := h
   refine hv (v := (.agg (vR x214 x215 x216 x217).toArray)) rfl (ln (vR x214 x215 x216 x217) isAgg25 sizeOf25 rfl c213) (ho rfl (HOp.buildSlice' (zs := (vR 0 0 bE false)) (cs := (vR x214 x215 x216 x217)) runUnderlying71 sizeOf25 zeroValue25 (by decide) (by kernel_rfl) rfl (by decide)) ?_)
   rintro _ H218 ⟨rfl, e219⟩
   replace h := h H218 e219
   refine ho rfl (HOp.append (k := 4) (b := 40) runUnderlying71 runUnderlying71 typeInfo25 rfl rfl zeroValue25 rfl rfl h) ?_
   rintro _ H220 ⟨r222, rfl, h⟩
   refine hv (v := (Sl.v r222)) rfl (av rfl) (hn (nb (nt (wr_ (hv (v := (iv (IntKind.i64.wrap (y124 + 1)))) rfl (HVal.add rfl rfl) ?_)))))
   refine hv (v := (iv (IntKind.i64.wrap (y124 + 1)))) rfl (mv rfl) (hn (nt ?_))
   exact (hX8 _ _ _).1 h _ (isp rfl)
  have h := hF hb130
  refine we (te (te (be (nt ?_))))
  exact ⟨y123, (isp rfl), h⟩
 rintro ρ H_7 ⟨y223, hI, h⟩
 obtain ⟨ρ0, rfl⟩ := hI.ex
 clear hI; unfold F26_7 at h
 refine ws (wr_ (hv (v := (Sl.v y223)) rfl (mv rfl) (hv (v := (.pointer r98)) rfl (mv rfl) (hv (v := (.agg #[(Sl.v y223), (.pointer r98)])) rfl (HVal.build' (cs := [(Sl.v y223), (.pointer r98)]) runUnderlying74 zeroValue74 places74 rfl) ?_))))
 obtain ⟨z226, h⟩ := h
 refine hq (HOp.storeN' (l := [(Sl.v y223), (.pointer r98)]) sizeOf74 rfl rfl rfl z226) ?_
 rintro _ H224 e225
 replace h := h H224 e225
 refine hv (v := (bv true)) rfl (av rfl) (hn (nt (HW.ret ?_)))
 obtain ⟨x227, x228, c229, h⟩ := h
 exact ⟨_, resOf2 rfl (Res1.n [(Sl.v x227), (.pointer x228)] isAgg74 sizeOf74 rfl c229) Res1.t, ⟨x227, x228, true, rfl, h⟩⟩

def F28_1 (X : Int → Int → Int → Int → ByteArray → Bool → ByteArray → Int → ByteArray → Sl → Hp → (Int → Int → Int → Int → ByteArray → Bool → ByteArray → Int → ByteArray → Sl → Hp → Prop) → Prop) (Q : Int → Int → Int → Int → ByteArray → Bool → ByteArray → Int → ByteArray → Sl → Hp → Prop) (y5 y6 : Addr) (y64 : Sl) (H_1 : Hp) : Prop :=
(cell H_1 (Addr.add y5 9)).isSome = true ∧ frz H_1 (Addr.add y5 9) = false ∧ ∀ H65 : Hp, H65 = setc H_1 (Addr.add y5 9) (Sl.v y64) → (
 ∃ (x70 x71 x72 x73 : Int) (x74 : ByteArray) (x75 : Bool) (x76 : ByteArray) (x77 : Int) (x78 : ByteArray) (x79 : Sl), cells H65 y5 (eR x70 x71 x72 x73 x74 x75 x76 x77 x78 x79) 0 ∧ (
 mayw H65 y6 10 0 ∧ ∀ H80 : Hp, H80 = sets H65 y6 (eR x70 x71 x72 x73 x74 x75 x76 x77 x78 x79) 0 → (
 ∃ (x83 x84 x85 x86 : Int) (x87 : ByteArray) (x88 : Bool) (x89 : ByteArray) (x90 : Int) (x91 : ByteArray) (x92 : Sl), cells H80 y6 (eR x83 x84 x85 x86 x87 x88 x89 x90 x91 x92) 0 ∧ (
 Q x83 x84 x85 x86 x87 x88 x89 x90 x91 x92 H80))))
def F28_L2b (X : Int → Int → Int → Int → ByteArray → Bool → ByteArray → Int → ByteArray → Sl → Hp → (Int → Int → Int → Int → ByteArray → Bool → ByteArray → Int → ByteArray → Sl → Hp → Prop) → Prop) (Q : Int → Int → Int → Int → ByteArray → Bool → ByteArray → Int → ByteArray → Sl → Hp → Prop) (X2 : Sl → Int → Hp → Prop) (y11 y12 : Addr) (y13 : Sl) (y14 : Int) (y9 : Sl) (y10 : Int) (H_2 : Hp) : Prop :=
((decide (y10 < y14)) = true → (∃ a16 : Addr, (y13).b = some a16 ∧ (0 : Int) ≤ y10 ∧ y10 < ((y13).n : Int) ∧ (
 ∃ (x21 x22 x23 x24 : Int) (x25 : ByteArray) (x26 : Bool) (x27 : ByteArray) (x28 : Int) (x29 : ByteArray) (x30 : Sl), cells H_2 (Addr.add a16 (y10.toNat * 10)) (eR x21 x22 x23 x24 x25 x26 x27 x28 x29 x30) 0 ∧ (
 ∀ H31 : Hp, H31 = Array.push H_2 (.cells zR.toArray 41) → (
 mayw H31 (bk H_2) 10 0 ∧ ∀ H33 : Hp, H33 = sets H31 (bk H_2) (eR x21 x22 x23 x24 x25 x26 x27 x28 x29 x30) 0 → (
 ∃ (x37 x38 x39 x40 : Int) (x41 : ByteArray) (x42 : Bool) (x43 : ByteArray) (x44 : Int) (x45 : ByteArray) (x46 : Sl), cells H33 (bk H_2) (eR x37 x38 x39 x40 x41 x42 x43 x44 x45 x46) 0 ∧ (
 X x37 x38 x39 x40 x41 x42 x43 x44 x45 x46 H33 (fun (r49 r50 r51 r52 : Int) (r53 : ByteArray) (r54 : Bool) (r55 : ByteArray) (r56 : Int) (r57 : ByteArray) (r58 : Sl) (H47 : Hp) => 
 ∀ H59 : Hp, H59 = Array.push H47 (.cells (eR r49 r50 r51 r52 r53 r54 r55 r56 r57 r58).toArray 41) → (
 AppendF H59 41 10 120 zR.toArray y9 ((Sl.mk (some (bk H47)) 1 1)).b ((Sl.mk (some (bk H47)) 1 1)).n (fun (r63 : Sl) (H61 : Hp) => 
 X2 r63 (IntKind.i64.wrap (y10 + 1)) H61)))))))))) ∧
 ((decide (y10 < y14)) = false → (F28_1 X Q y11 y12 y9 H_2))
def F28_L2 (X : Int → Int → Int → Int → ByteArray → Bool → ByteArray → Int → ByteArray → Sl → Hp → (Int → Int → Int → Int → ByteArray → Bool → ByteArray → Int → ByteArray → Sl → Hp → Prop) → Prop) (Q : Int → Int → Int → Int → ByteArray → Bool → ByteArray → Int → ByteArray → Sl → Hp → Prop) (y11 y12 : Addr) (y13 : Sl) (y14 : Int) (y9 : Sl) (y10 : Int) (H_2 : Hp) : Prop :=
 ∀ X2 : Sl → Int → Hp → Prop, (∀ (y9 : Sl) (y10 : Int) (H_2 : Hp), F28_L2b X Q X2 y11 y12 y13 y14 y9 y10 H_2 → X2 y9 y10 H_2) → X2 y9 y10 H_2
def F28b (X : Int → Int → Int → Int → ByteArray → Bool → ByteArray → Int → ByteArray → Sl → Hp → (Int → Int → Int → Int → ByteArray → Bool → ByteArray → Int → ByteArray → Sl → Hp → Prop) → Prop) (p0_0 p0_1 p0_2 p0_3 : Int) (p0_4 : ByteArray) (p0_5 : Bool) (p0_6 : ByteArray) (p0_7 : Int) (p0_8 : ByteArray) (p0_9 : Sl) (H : Hp) (Q : Int → Int → Int → Int → ByteArray → Bool → ByteArray → Int → ByteArray → Sl → Hp → Prop) : Prop :=
∀ H1 : Hp, H1 = Array.push H (.cells (eR p0_0 p0_1 p0_2 p0_3 p0_4 p0_5 p0_6 p0_7 p0_8 p0_9).toArray 41) → (
 ∀ H3 : Hp, H3 = Array.push H1 (.cells zR.toArray 41) → (
 ∃ x8 : Sl, cell H3 (Addr.add (bk H) 9) = some (Sl.v x8) ∧ (
 F28_L2 X Q (bk H) (bk H1) x8 ((x8).n : Int) Sl.nil 0 H3)))
def F28 (p0_0 p0_1 p0_2 p0_3 : Int) (p0_4 : ByteArray) (p0_5 : Bool) (p0_6 : ByteArray) (p0_7 : Int) (p0_8 : ByteArray) (p0_9 : Sl) (H : Hp) (Q : Int → Int → Int → Int → ByteArray → Bool → ByteArray → Int → ByteArray → Sl → Hp → Prop) : Prop :=
 ∀ X : Int → Int → Int → Int → ByteArray → Bool → ByteArray → Int → ByteArray → Sl → Hp → (Int → Int → Int → Int → ByteArray → Bool → ByteArray → Int → ByteArray → Sl → Hp → Prop) → Prop, (∀ (p0_0 p0_1 p0_2 p0_3 : Int) (p0_4 : ByteArray) (p0_5 : Bool) (p0_6 : ByteArray) (p0_7 : Int) (p0_8 : ByteArray) (p0_9 : Sl) (H : Hp) (Q : Int → Int → Int → Int → ByteArray → Bool → ByteArray → Int → ByteArray → Sl → Hp → Prop), F28b X p0_0 p0_1 p0_2 p0_3 p0_4 p0_5 p0_6 p0_7 p0_8 p0_9 H Q → X p0_0 p0_1 p0_2 p0_3 p0_4 p0_5 p0_6 p0_7 p0_8 p0_9 H Q) → X p0_0 p0_1 p0_2 p0_3 p0_4 p0_5 p0_6 p0_7 p0_8 p0_9 H Q
theorem walk28 {w0 : World} {p0_0 p0_1 p0_2 p0_3 : Int} {p0_4 : ByteArray} {p0_5 : Bool} {p0_6 : ByteArray} {p0_7 : Int} {p0_8 : ByteArray} {p0_9 : Sl} {H : Hp} {Q : Int → Int → Int → Int → ByteArray → Bool → ByteArray → Int → ByteArray → Sl → Hp → Prop} (h : F28 p0_0 p0_1 p0_2 p0_3 p0_4 p0_5 p0_6 p0_7 p0_8 p0_9 H Q) :
  Good prog w0 28 #[(.agg (eR p0_0 p0_1 p0_2 p0_3 p0_4 p0_5 p0_6 p0_7 p0_8 p0_9).toArray)] H (fun v H => ∃ (r0 r1 r2 r3 : Int) (r4 : ByteArray) (r5 : Bool) (r6 : ByteArray) (r7 : Int) (r8 : ByteArray) (r9 : Sl) , v = (.agg (eR r0 r1 r2 r3 r4 r5 r6 r7 r8 r9).toArray) ∧ Q r0 r1 r2 r3 r4 r5 r6 r7 r8 r9 H) := by
 obtain ⟨X, hX⟩ : ∃ X : Int → Int → Int → Int → ByteArray → Bool → ByteArray → Int → ByteArray → Sl → Hp → (Int → Int → Int → Int → ByteArray → Bool → ByteArray → Int → ByteArray → Sl → Hp → Prop) → Prop, ∀ (p0_0 p0_1 p0_2 p0_3 : Int) (p0_4 : ByteArray) (p0_5 : Bool) (p0_6 : ByteArray) (p0_7 : Int) (p0_8 : ByteArray) (p0_9 : Sl) (H : Hp) (Q : Int → Int → Int → Int → ByteArray → Bool → ByteArray → Int → ByteArray → Sl → Hp → Prop), X p0_0 p0_1 p0_2 p0_3 p0_4 p0_5 p0_6 p0_7 p0_8 p0_9 H Q ↔ Good prog w0 28 #[(.agg (eR p0_0 p0_1 p0_2 p0_3 p0_4 p0_5 p0_6 p0_7 p0_8 p0_9).toArray)] H (fun v H => ∃ (r0 r1 r2 r3 : Int) (r4 : ByteArray) (r5 : Bool) (r6 : ByteArray) (r7 : Int) (r8 : ByteArray) (r9 : Sl) , v = (.agg (eR r0 r1 r2 r3 r4 r5 r6 r7 r8 r9).toArray) ∧ Q r0 r1 r2 r3 r4 r5 r6 r7 r8 r9 H) := ⟨_, fun _ _ _ _ _ _ _ _ _ _ _ _ => Iff.rfl⟩
 refine (hX _ _ _ _ _ _ _ _ _ _ _ _).1 (h X ?_)
 clear h
 intro p0_0 p0_1 p0_2 p0_3 p0_4 p0_5 p0_6 p0_7 p0_8 p0_9 H Q h
 refine (hX _ _ _ _ _ _ _ _ _ _ _ _).2 ?_
 unfold F28b at h
 refine Good.enter' (fn := f28) func28 rfl rfl rfl (ws (wr_ (ho rfl (ob (v := (.agg (eR p0_0 p0_1 p0_2 p0_3 p0_4 p0_5 p0_6 p0_7 p0_8 p0_9).toArray)) rfl) ?_)))
 rintro _ H1 ⟨rfl, e2⟩
 replace h := h H1 e2
 refine ho rfl (HOp.alloc zeroValue41) ?_
 rintro _ H3 ⟨rfl, e4⟩
 replace h := h H3 e4
 refine hn (nt (ws (wr_ (hv (v := sN) rfl (av rfl) (hn (nt (wc (fun ρ H_1 => ∃ (y64 : Sl), Env.Is ρ [(1, (pp (bk H))), (2, (pp (bk H1))), (3, (Sl.v y64))] ∧ F28_1 X Q (bk H) (bk H1) y64 H_1) ?_ ?_)))))))
 ·refine ws (wr_ (hv (v := (pp (Addr.add (bk H) 9))) rfl (fa runUnderlying41 rfl rfl sizeOf35 rfl) ?_))
  obtain ⟨x8, c7, h⟩ := h
  refine hv (v := (Sl.v x8)) rfl (l1 isAgg35 rfl c7) (hv (v := (iv ((x8).n : Int))) rfl (HVal.len runUnderlying35 rfl) (hv (v := (iv 0)) rfl (mv rfl) ?_))
  refine hn (nt (wb (HW.loop' (fun L2 hL2 => ?_))))
  obtain ⟨X2, hX2⟩ : ∃ X2 : Sl → Int → Hp → Prop, ∀ (y9 : Sl) (y10 : Int) (H_2 : Hp), X2 y9 y10 H_2 ↔ ∀ ρ, Env.Is ρ [(1, (pp (bk H))), (2, (pp (bk H1))), (7, (Sl.v x8)), (8, (iv ((x8).n : Int))), (3, (Sl.v y9)), (9, (iv y10))] → L2 ρ H_2 := ⟨_, fun _ _ _ => Iff.rfl⟩
  refine (hX2 _ _ _).1 (h X2 ?_) _ ?_
  rotate_left
  ·exact (isp rfl)
  clear h
  intro y9 y10 H_2 h
  refine (hX2 _ _ _).2 fun ρ hI => ?_
  obtain ⟨ρ0, rfl⟩ := hI.ex
  clear hI; unfold F28_L2b at h; refine hL2 _ _ ?_
  refine ws (wr_ (hv (v := (bv (decide (y10 < ((x8).n : Int))))) rfl (HVal.lss rfl rfl) (hn (nt (ws ?_)))))
  obtain ⟨hT, hF⟩ := h
  refine wk (decide (y10 < ((x8).n : Int))) rfl (fun hb15 => ?_) (fun hb15 => ?_)
  ·have h := hT hb15
   refine wp_ (nt (ws (wb (ws (wr_ ?_)))))
   obtain ⟨a16, e17, b18, b19, h⟩ := h
   refine hv (v := (pp (Addr.add a16 (y10.toNat * 10)))) rfl (ia runUnderlying35 sizeOf41 (Sl.v_some rfl e17) rfl b18 b19) ?_
   obtain ⟨x21, x22, x23, x24, x25, x26, x27, x28, x29, x30, c20, h⟩ := h
   refine hv (v := (.agg (eR x21 x22 x23 x24 x25 x26 x27 x28 x29 x30).toArray)) rfl (ln (eR x21 x22 x23 x24 x25 x26 x27 x28 x29 x30) isAgg41 sizeOf41 rfl c20) ?_
   refine ho rfl (HOp.alloc zeroValue41) ?_
   rintro _ H31 ⟨rfl, e32⟩
   replace h := h H31 e32
   obtain ⟨z35, h⟩ := h
   refine hq (HOp.storeN' (l := (eR x21 x22 x23 x24 x25 x26 x27 x28 x29 x30)) sizeOf41 rfl rfl rfl z35) ?_
   rintro _ H33 e34
   replace h := h H33 e34
   refine hn (nt (wr_ (hv (v := (Sl.v y9)) rfl (mv rfl) ?_)))
   obtain ⟨x37, x38, x39, x40, x41, x42, x43, x44, x45, x46, c36, h⟩ := h
   refine hv (v := (.agg (eR x37 x38 x39 x40 x41 x42 x43 x44 x45 x46).toArray)) rfl (ln (eR x37 x38 x39 x40 x41 x42 x43 x44 x45 x46) isAgg41 sizeOf41 rfl c36) ?_
   refine ho rfl (HOp.call' 28 [(.agg (eR x37 x38 x39 x40 x41 x42 x43 x44 x45 x46).toArray)] (cap := []) rfl rfl call28 ((hX _ _ _ _ _ _ _ _ _ _ _ _).1 h)) ?_
   rintro _ H47 ⟨r49, r50, r51, r52, r53, r54, r55, r56, r57, r58, rfl, h⟩
   refine ho rfl (HOp.buildSlice' (zs := zR) (cs := (eR r49 r50 r51 r52 r53 r54 r55 r56 r57 r58)) runUnderlying35 sizeOf41 zeroValue41 (by decide) (by kernel_rfl) (by kernel_rfl) (by decide)) ?_
   rintro _ H59 ⟨rfl, e60⟩
   replace h := h H59 e60
   refine ho rfl (HOp.append (k := 10) (b := 120) runUnderlying35 runUnderlying35 typeInfo41 rfl rfl zeroValue41 rfl rfl h) ?_
   rintro _ H61 ⟨r63, rfl, h⟩
   refine hv (v := (Sl.v r63)) rfl (av rfl) (hn (nb (nt (wr_ (hv (v := (iv (IntKind.i64.wrap (y10 + 1)))) rfl (HVal.add rfl rfl) ?_)))))
   refine hv (v := (iv (IntKind.i64.wrap (y10 + 1)))) rfl (mv rfl) (hn (nt ?_))
   exact (hX2 _ _ _).1 h _ (isp rfl)
  have h := hF hb15
  refine we (te (te (be (nt ?_))))
  exact ⟨y9, (isp rfl), h⟩
 rintro ρ H_1 ⟨y64, hI, h⟩
 obtain ⟨ρ0, rfl⟩ := hI.ex
 clear hI; unfold F28_1 at h
 refine ws (wr_ (hv (v := (Sl.v y64)) rfl (mv rfl) (hv (v := (pp (Addr.add (bk H) 9))) rfl (fa runUnderlying41 rfl rfl sizeOf35 rfl) ?_)))
 obtain ⟨z67, z68, h⟩ := h
 refine hq (HOp.store1 sizeOf35 rfl rfl rfl z67 z68) ?_
 rintro _ H65 e66
 replace h := h H65 e66
 refine hn (nt (ws (wr_ ?_)))
 obtain ⟨x70, x71, x72, x73, x74, x75, x76, x77, x78, x79, c69, h⟩ := h
 refine hv (v := (.agg (eR x70 x71 x72 x73 x74 x75 x76 x77 x78 x79).toArray)) rfl (ln (eR x70 x71 x72 x73 x74 x75 x76 x77 x78 x79) isAgg41 sizeOf41 rfl c69) ?_
 obtain ⟨z82, h⟩ := h
 refine hq (HOp.storeN' (l := (eR x70 x71 x72 x73 x74 x75 x76 x77 x78 x79)) sizeOf41 rfl rfl rfl z82) ?_
 rintro _ H80 e81
 replace h := h H80 e81
 refine hn (nt (HW.ret ?_))
 obtain ⟨x83, x84, x85, x86, x87, x88, x89, x90, x91, x92, c93, h⟩ := h
 exact ⟨_, resOf1 rfl (Res1.n (eR x83 x84 x85 x86 x87 x88 x89 x90 x91 x92) isAgg41 sizeOf41 rfl c93), ⟨x83, x84, x85, x86, x87, x88, x89, x90, x91, x92, rfl, h⟩⟩

def F52 (p0 : Int) (H : Hp) (Q : Sl → Hp → Prop) : Prop :=
((decide (p0 = 6)) = true → (∀ H2 : Hp, H2 = Array.push H (.cells #[(iv 8), (iv 10)] 3) → (
 Q (Sl.mk (some (bk H)) 2 2) H2))) ∧
 ((decide (p0 = 6)) = false → (((decide (p0 = 8)) = true → (∀ H5 : Hp, H5 = Array.push H (.cells #[(iv 11)] 3) → (
 Q (Sl.mk (some (bk H)) 1 1) H5))) ∧
 ((decide (p0 = 8)) = false → (((decide (p0 = 9)) = true → (∀ H8 : Hp, H8 = Array.push H (.cells #[(iv 10)] 3) → (
 Q (Sl.mk (some (bk H)) 1 1) H8))) ∧
 ((decide (p0 = 9)) = false → (((decide (p0 = 10)) = true → (∀ H11 : Hp, H11 = Array.push H (.cells #[(iv 9)] 3) → (
 Q (Sl.mk (some (bk H)) 1 1) H11))) ∧
 ((decide (p0 = 10)) = false → (((decide (p0 = 11)) = true → (∀ H14 : Hp, H14 = Array.push H (.cells #[(iv 8)] 3) → (
 Q (Sl.mk (some (bk H)) 1 1) H14))) ∧
 ((decide (p0 = 11)) = false → (Q Sl.nil H))))))))))
theorem walk52 {w0 : World} {p0 : Int} {H : Hp} {Q : Sl → Hp → Prop} (h : F52 p0 H Q) :
  Good prog w0 52 #[(iv p0)] H (fun v H => ∃ (r0 : Sl) , v = (Sl.v r0) ∧ Q r0 H) := by
 unfold F52 at h
 refine Good.enter' (fn := f52) func52 rfl rfl rfl (ws (wr_ (hv (v := sN) rfl (av rfl) (hn (nt (ws (ws ?_)))))))
 refine wr_ (hv (v := (iv p0)) rfl (mv rfl) (hn (nt (wb (ws (wr_ (hv (v := (bv (decide (p0 = 6)))) rfl (HVal.eqlI rfl rfl) ?_)))))))
 refine hv (v := (bv (decide (p0 = 6)))) rfl (av rfl) (hn (nt ?_))
 obtain ⟨hT, hF⟩ := h
 refine wk (decide (p0 = 6)) rfl (fun hb1 => ?_) (fun hb1 => ?_)
 ·have h := hT hb1
  refine ws (wr_ (ho rfl (HOp.buildSlice' (zs := [(iv 0), (iv 0)]) (cs := [(iv 8), (iv 10)]) runUnderlying47 sizeOf3 zeroValue3 (by decide) (by kernel_rfl) rfl (by decide)) ?_))
  rintro _ H2 ⟨rfl, e3⟩
  replace h := h H2 e3
  refine hv (v := (Sl.v (Sl.mk (some (bk H)) 2 2))) rfl (av rfl) (hn (nt (HW.ret (br (tr ?_)))))
  exact ⟨_, resOf1 rfl Res1.t, ⟨(Sl.mk (some (bk H)) 2 2), rfl, h⟩⟩
 have h := hF hb1
 refine ws (wr_ (hv (v := (bv (decide (p0 = 8)))) rfl (HVal.eqlI rfl rfl) (hv (v := (bv (decide (p0 = 8)))) rfl (av rfl) ?_)))
 refine hn (nt ?_)
 obtain ⟨hT, hF⟩ := h
 refine wk (decide (p0 = 8)) rfl (fun hb4 => ?_) (fun hb4 => ?_)
 ·have h := hT hb4
  refine ws (wr_ (ho rfl (HOp.buildSlice' (zs := [(iv 0)]) (cs := [(iv 11)]) runUnderlying47 sizeOf3 zeroValue3 (by decide) (by kernel_rfl) rfl (by decide)) ?_))
  rintro _ H5 ⟨rfl, e6⟩
  replace h := h H5 e6
  refine hv (v := (Sl.v (Sl.mk (some (bk H)) 1 1))) rfl (av rfl) (hn (nt (HW.ret (br (tr ?_)))))
  exact ⟨_, resOf1 rfl Res1.t, ⟨(Sl.mk (some (bk H)) 1 1), rfl, h⟩⟩
 have h := hF hb4
 refine ws (wr_ (hv (v := (bv (decide (p0 = 9)))) rfl (HVal.eqlI rfl rfl) (hv (v := (bv (decide (p0 = 9)))) rfl (av rfl) ?_)))
 refine hn (nt ?_)
 obtain ⟨hT, hF⟩ := h
 refine wk (decide (p0 = 9)) rfl (fun hb7 => ?_) (fun hb7 => ?_)
 ·have h := hT hb7
  refine ws (wr_ (ho rfl (HOp.buildSlice' (zs := [(iv 0)]) (cs := [(iv 10)]) runUnderlying47 sizeOf3 zeroValue3 (by decide) (by kernel_rfl) rfl (by decide)) ?_))
  rintro _ H8 ⟨rfl, e9⟩
  replace h := h H8 e9
  refine hv (v := (Sl.v (Sl.mk (some (bk H)) 1 1))) rfl (av rfl) (hn (nt (HW.ret (br (tr ?_)))))
  exact ⟨_, resOf1 rfl Res1.t, ⟨(Sl.mk (some (bk H)) 1 1), rfl, h⟩⟩
 have h := hF hb7
 refine ws (wr_ (hv (v := (bv (decide (p0 = 10)))) rfl (HVal.eqlI rfl rfl) (hv (v := (bv (decide (p0 = 10)))) rfl (av rfl) ?_)))
 refine hn (nt ?_)
 obtain ⟨hT, hF⟩ := h
 refine wk (decide (p0 = 10)) rfl (fun hb10 => ?_) (fun hb10 => ?_)
 ·have h := hT hb10
  refine ws (wr_ (ho rfl (HOp.buildSlice' (zs := [(iv 0)]) (cs := [(iv 9)]) runUnderlying47 sizeOf3 zeroValue3 (by decide) (by kernel_rfl) rfl (by decide)) ?_))
  rintro _ H11 ⟨rfl, e12⟩
  replace h := h H11 e12
  refine hv (v := (Sl.v (Sl.mk (some (bk H)) 1 1))) rfl (av rfl) (hn (nt (HW.ret (br (tr ?_)))))
  exact ⟨_, resOf1 rfl Res1.t, ⟨(Sl.mk (some (bk H)) 1 1), rfl, h⟩⟩
 have h := hF hb10
 refine ws (wr_ (hv (v := (bv (decide (p0 = 11)))) rfl (HVal.eqlI rfl rfl) (hv (v := (bv (decide (p0 = 11)))) rfl (av rfl) ?_)))
 refine hn (nt ?_)
 obtain ⟨hT, hF⟩ := h
 refine wk (decide (p0 = 11)) rfl (fun hb13 => ?_) (fun hb13 => ?_)
 ·have h := hT hb13
  refine ws (wr_ (ho rfl (HOp.buildSlice' (zs := [(iv 0)]) (cs := [(iv 8)]) runUnderlying47 sizeOf3 zeroValue3 (by decide) (by kernel_rfl) rfl (by decide)) ?_))
  rintro _ H14 ⟨rfl, e15⟩
  replace h := h H14 e15
  refine hv (v := (Sl.v (Sl.mk (some (bk H)) 1 1))) rfl (av rfl) (hn (nt (HW.ret (br (tr ?_)))))
  exact ⟨_, resOf1 rfl Res1.t, ⟨(Sl.mk (some (bk H)) 1 1), rfl, h⟩⟩
 have h := hF hb13
 refine wp_ (nb (nt (ws (wr_ (hv (v := sN) rfl (av rfl) (hn (nt (HW.ret ?_))))))))
 exact ⟨_, resOf1 rfl Res1.t, ⟨Sl.nil, rfl, h⟩⟩

def F34_2 (Q : Bool → Hp → Prop) (X1 : Int → Hp → Prop) (y130 : (Option Addr)) (y131 : Sl) (y132 : Addr) (y133 : Sl) (y134 y135 : Int) (y165 : Bool) (H_2 : Hp) : Prop :=
(y165 = true → (Q false H_2)) ∧
 (y165 = false → (X1 (IntKind.i64.wrap (y135 + 1)) H_2))
def F34_L1b (Q : Bool → Hp → Prop) (X1 : Int → Hp → Prop) (y100 : (Option Addr)) (y101 : Sl) (y102 : Addr) (y103 : Sl) (y104 y99 : Int) (H_1 : Hp) : Prop :=
((decide (y99 < y104)) = true → (∃ a106 : Addr, (y103).b = some a106 ∧ (0 : Int) ≤ y99 ∧ y99 < ((y103).n : Int) ∧ (
 ∃ x111 : Int, cell H_1 (Addr.add a106 (y99.toNat * 1)) = some (iv x111) ∧ (
 ∃ (x113 x114 x115 : Int) (x116 : Bool) (x117 x118 : Int) (x119 : ByteArray) (x120 : Bool), cells H_1 y102 (lR x113 x114 x115 x116 x117 x118 x119 x120) 0 ∧ (
 ∀ H121 : Hp, H121 = Array.push H_1 (.cells (lR 0 0 0 false 0 0 bE false).toArray 80) → (
 mayw H121 (bk H_1) 8 0 ∧ ∀ H123 : Hp, H123 = sets H121 (bk H_1) (lR x113 x114 x115 x116 x117 x118 x119 x120) 0 → (
 (cell H123 (bk H_1)).isSome = true ∧ frz H123 (bk H_1) = false ∧ ∀ H126 : Hp, H126 = setc H123 (bk H_1) (iv x111) → (
 (0 : Int) ≤ ((y101).n : Int) ∧ (0 : Int) ≤ ((y101).n : Int) ∧ 0 ≤ ((y101).n : Int).toNat ∧ ((y101).n : Int).toNat ≤ ((y101).n : Int).toNat ∧ ((y101).n : Int).toNat ≤ (y101).c ∧ (
 ∃ (x142 x143 x144 : Int) (x145 : Bool) (x146 x147 : Int) (x148 : ByteArray) (x149 : Bool), cells H126 (bk H_1) (lR x142 x143 x144 x145 x146 x147 x148 x149) 0 ∧ (
 (∀ H150 : Hp, H150 = Array.push H126 (.cells (lR x142 x143 x144 x145 x146 x147 x148 x149).toArray 80) → (
 (AppendF H150 80 8 72 (lR 0 0 0 false 0 0 bE false).toArray (Sl.cut y101 8 0 (((y101).n : Int).toNat) (((y101).n : Int).toNat)) ((Sl.mk (some (bk H126)) 1 1)).b ((Sl.mk (some (bk H126)) 1 1)).n (fun (r154 : Sl) (H152 : Hp) => 
 (F26 y100 r154 H152 (fun (r157 : Sl) (r158 : (Option Addr)) (r159 : Bool) (H155 : Hp) => 
 ∀ H160 : Hp, H160 = Array.push H155 (.cells #[sN, (.pointer none)] 74) → (
 mayw H160 (bk H155) 2 0 ∧ ∀ H162 : Hp, H162 = sets H160 (bk H155) [(Sl.v r157), (.pointer r158)] 0 → (
 F34_2 Q X1 y100 y101 y102 y103 y104 y99 r159 H162)))) ∧
 (∀ H166 : Hp, H166 = Array.push H152 (.cells #[sN, (.pointer none)] 74) → (
 F26 y100 r154 H166 (fun (r170 : Sl) (r171 : (Option Addr)) (r172 : Bool) (H168 : Hp) => 
 mayw H168 (bk H152) 2 0 ∧ ∀ H173 : Hp, H173 = sets H168 (bk H152) [(Sl.v r170), (.pointer r171)] 0 → (
 F34_2 Q X1 y100 y101 y102 y103 y104 y99 r172 H173)))))) ∧
 (∀ H176 : Hp, H176 = Array.push H150 (.cells #[sN, (.pointer none)] 74) → (
 AppendF H176 80 8 72 (lR 0 0 0 false 0 0 bE false).toArray (Sl.cut y101 8 0 (((y101).n : Int).toNat) (((y101).n : Int).toNat)) ((Sl.mk (some (bk H126)) 1 1)).b ((Sl.mk (some (bk H126)) 1 1)).n (fun (r180 : Sl) (H178 : Hp) => 
 F26 y100 r180 H178 (fun (r183 : Sl) (r184 : (Option Addr)) (r185 : Bool) (H181 : Hp) => 
 mayw H181 (bk H150) 2 0 ∧ ∀ H186 : Hp, H186 = sets H181 (bk H150) [(Sl.v r183), (.pointer r184)] 0 → (
 F34_2 Q X1 y100 y101 y102 y103 y104 y99 r185 H186))))))) ∧
 (∀ H189 : Hp, H189 = Array.push H126 (.cells #[sN, (.pointer none)] 74) → (
 cells H189 (bk H_1) (lR x142 x143 x144 x145 x146 x147 x148 x149) 0 ∧ (
 ∀ H192 : Hp, H192 = Array.push H189 (.cells (lR x142 x143 x144 x145 x146 x147 x148 x149).toArray 80) → (
 AppendF H192 80 8 72 (lR 0 0 0 false 0 0 bE false).toArray (Sl.cut y101 8 0 (((y101).n : Int).toNat) (((y101).n : Int).toNat)) ((Sl.mk (some (bk H189)) 1 1)).b ((Sl.mk (some (bk H189)) 1 1)).n (fun (r196 : Sl) (H194 : Hp) => 
 F26 y100 r196 H194 (fun (r199 : Sl) (r200 : (Option Addr)) (r201 : Bool) (H197 : Hp) => 
 mayw H197 (bk H126) 2 0 ∧ ∀ H202 : Hp, H202 = sets H197 (bk H126) [(Sl.v r199), (.pointer r200)] 0 → (
 F34_2 Q X1 y100 y101 y102 y103 y104 y99 r201 H202))))))))))))))))) ∧
 ((decide (y99 < y104)) = false → (Q true H_1))
def F34_L1 (Q : Bool → Hp → Prop) (y100 : (Option Addr)) (y101 : Sl) (y102 : Addr) (y103 : Sl) (y104 y99 : Int) (H_1 : Hp) : Prop :=
 ∀ X1 : Int → Hp → Prop, (∀ (y99 : Int) (H_1 : Hp), F34_L1b Q X1 y100 y101 y102 y103 y104 y99 H_1 → X1 y99 H_1) → X1 y99 H_1
def F34 (p0 : (Option Addr)) (p1 p2_0 : Sl) (p2_1 : (Option Addr)) (p3_0 p3_1 p3_2 : Int) (p3_3 : Bool) (p3_4 p3_5 : Int) (p3_6 : ByteArray) (p3_7 : Bool) (H : Hp) (Q : Bool → Hp → Prop) : Prop :=
∀ H1 : Hp, H1 = Array.push H (.cells #[(Sl.v p2_0), (.pointer p2_1)] 74) → (
 ∀ H3 : Hp, H3 = Array.push H1 (.cells (lR p3_0 p3_1 p3_2 p3_3 p3_4 p3_5 p3_6 p3_7).toArray 80) → (
 ∃ x6 : Int, cell H3 (Addr.add (bk H1) 1) = some (iv x6) ∧ (
 F44 p0 x6 H3 (fun (r9 : Int) (H7 : Hp) => 
 ((decide (r9 ≠ 1)) = true → (∃ x12 : (Option Addr), cell H7 (Addr.add (bk H) 1) = some (.pointer x12) ∧ (
 ∃ a13 : Addr, x12 = some a13 ∧ (
 ∃ x16 : (Option Addr), cell H7 a13 = some (.pointer x16) ∧ (
 ∃ x18 : Int, cell H7 (Addr.add (bk H1) 1) = some (iv x18) ∧ (
 F48 x16 x18 H7 (fun (r21 : Int) (H19 : Hp) => 
 cell H19 (Addr.add (bk H) 1) = some (.pointer x12) ∧ (
 ∃ x24 : (Option Addr), cell H19 (Addr.add (bk H) 1) = some (.pointer x24) ∧ (
 ∃ a25 : Addr, x24 = some a25 ∧ (
 ∃ x28 : (Option Nat), cell H19 (Addr.add a25 1) = some (.map x28) ∧ (
 ∃ (L29 : ML Int (Int × Int × ByteArray × Bool)) (c30 : Nat), MapK mk3 mv25 Always H19 x28 L29 c30 r21 ∧ (
 ∀ H32 : Hp, H32 = Array.push H19 (.cells (vR 0 0 bE false).toArray 25) → (
 mayw H32 (bk H19) 4 0 ∧ ∀ H34 : Hp, H34 = sets H32 (bk H19) (vR (((mget L29 r21).getD ((0 : Int), (0 : Int), bE, false)).1) (((mget L29 r21).getD ((0 : Int), (0 : Int), bE, false)).2.1) (((mget L29 r21).getD ((0 : Int), (0 : Int), bE, false)).2.2.1) (((mget L29 r21).getD ((0 : Int), (0 : Int), bE, false)).2.2.2)) 0 → (
 ∃ x38 : Bool, cell H34 (Addr.add (bk H1) 3) = some (bv x38) ∧ (
 ((!x38) = true → ((((mget L29 r21).isSome) = true → (∃ (x43 x44 : Int) (x45 : ByteArray) (x46 : Bool), cells H34 (bk H19) (vR x43 x44 x45 x46) 0 ∧ (
 ∃ (x48 x49 : Int) (x50 : ByteArray) (x51 : Bool), cells H34 (Addr.add (bk H1) 4) (vR x48 x49 x50 x51) 0 ∧ (
 Q (decide (x43 = x48) && (decide (x44 = x49) && (seq x45 x50 && (x46 == x51)))) H34)))) ∧
 (((mget L29 r21).isSome) = false → (Q false H34)))) ∧
 ((!x38) = false → (∃ x53 : (Option Addr), cell H34 (Addr.add (bk H) 1) = some (.pointer x53) ∧ (
 ∃ a54 : Addr, x53 = some a54 ∧ (
 ∃ x57 : (Option Addr), cell H34 a54 = some (.pointer x57) ∧ (
 ∃ x59 : Int, cell H34 (Addr.add (bk H1) 2) = some (iv x59) ∧ (
 F48 x57 x59 H34 (fun (r62 : Int) (H60 : Hp) => 
 cell H60 (Addr.add (bk H) 1) = some (.pointer x53) ∧ (
 ∃ x65 : (Option Addr), cell H60 (Addr.add (bk H) 1) = some (.pointer x65) ∧ (
 ∃ a66 : Addr, x65 = some a66 ∧ (
 ∃ x69 : (Option Nat), cell H60 (Addr.add a66 1) = some (.map x69) ∧ (
 ∃ (L70 : ML Int (Int × Int × ByteArray × Bool)) (c71 : Nat), MapK mk3 mv25 Always H60 x69 L70 c71 r62 ∧ (
 ∀ H73 : Hp, H73 = Array.push H60 (.cells (vR 0 0 bE false).toArray 25) → (
 mayw H73 (bk H60) 4 0 ∧ ∀ H75 : Hp, H75 = sets H73 (bk H60) (vR (((mget L70 r62).getD ((0 : Int), (0 : Int), bE, false)).1) (((mget L70 r62).getD ((0 : Int), (0 : Int), bE, false)).2.1) (((mget L70 r62).getD ((0 : Int), (0 : Int), bE, false)).2.2.1) (((mget L70 r62).getD ((0 : Int), (0 : Int), bE, false)).2.2.2)) 0 → (
 ((decide (r21 = r62)) = true → (Q true H75)) ∧
 ((decide (r21 = r62)) = false → ((((mget L29 r21).isSome) = true → ((((mget L70 r62).isSome) = true → (∃ (x85 x86 : Int) (x87 : ByteArray) (x88 : Bool), cells H75 (bk H19) (vR x85 x86 x87 x88) 0 ∧ (
 ∃ (x90 x91 : Int) (x92 : ByteArray) (x93 : Bool), cells H75 (bk H60) (vR x90 x91 x92 x93) 0 ∧ (
 Q (decide (x85 = x90) && (decide (x86 = x91) && (seq x87 x92 && (x88 == x93)))) H75)))) ∧
 (((mget L70 r62).isSome) = false → (Q false H75)))) ∧
 (((mget L29 r21).isSome) = false → (Q false H75))))))))))))))))))))))))))))))))) ∧
 ((decide (r9 ≠ 1)) = false → (∃ x95 : Int, cell H7 (bk H1) = some (iv x95) ∧ (
 F52 x95 H7 (fun (r98 : Sl) (H96 : Hp) => 
 F34_L1 Q p0 p1 (bk H1) r98 ((r98).n : Int) 0 H96))))))))
theorem walk34 {w0 : World} {p0 : (Option Addr)} {p1 p2_0 : Sl} {p2_1 : (Option Addr)} {p3_0 p3_1 p3_2 : Int} {p3_3 : Bool} {p3_4 p3_5 : Int} {p3_6 : ByteArray} {p3_7 : Bool} {H : Hp} {Q : Bool → Hp → Prop} (h : F34 p0 p1 p2_0 p2_1 p3_0 p3_1 p3_2 p3_3 p3_4 p3_5 p3_6 p3_7 H Q) :
  Good prog w0 34 #[(.pointer p0), (Sl.v p1), (.agg #[(Sl.v p2_0), (.pointer p2_1)]), (.agg (lR p3_0 p3_1 p3_2 p3_3 p3_4 p3_5 p3_6 p3_7).toArray)] H (fun v H => ∃ (r0 : Bool) , v = (bv r0) ∧ Q r0 H) := by
 unfold F34 at h
 refine Good.enter' (fn := f34) func34 rfl rfl rfl (ws (wr_ (ho rfl (ob (v := (.agg #[(Sl.v p2_0), (.pointer p2_1)])) rfl) ?_)))
 rintro _ H1 ⟨rfl, e2⟩
 replace h := h H1 e2
 refine ho rfl (ob (v := (.agg (lR p3_0 p3_1 p3_2 p3_3 p3_4 p3_5 p3_6 p3_7).toArray)) rfl) ?_
 rintro _ H3 ⟨rfl, e4⟩
 replace h := h H3 e4
 refine hv (v := (bv false)) rfl (av rfl) (hn (nt (ws (ws (wr_ (hv (v := (.pointer p0)) rfl (mv rfl) ?_))))))
 refine hv (v := (pp (Addr.add (bk H1) 1))) rfl (fa runUnderlying80 rfl rfl sizeOf3 rfl) ?_
 obtain ⟨x6, c5, h⟩ := h
 refine hv (v := (iv x6)) rfl (l1 isAgg3 rfl c5) (ho rfl (HOp.call' 44 [(.pointer p0), (iv x6)] (cap := []) rfl rfl call44 (walk44 h)) ?_)
 rintro _ H7 ⟨r9, rfl, h⟩
 refine hv (v := (bv (decide (r9 ≠ 1)))) rfl (HVal.neqI rfl rfl) (hn (nt ?_))
 obtain ⟨hT, hF⟩ := h
 refine wk (decide (r9 ≠ 1)) rfl (fun hb10 => ?_) (fun hb10 => ?_)
 ·have h := hT hb10
  refine ws (HW.draw mixed [(0, some []), (1, some []), (2, some []), (3, some []), (4, some [7]), (5, some []), (6, some [7]), (7, none), (8, some [])] rfl (by kernel_rfl) (by kernel_rfl) ?_)
  refine pv (v := (pp (Addr.add (bk H) 1))) rfl rfl (fun _ => fa runUnderlying74 rfl rfl sizeOf72 rfl) ?_
  obtain ⟨x12, c11, h⟩ := h
  refine pl (v := (.pointer x12)) (fun X => cell X (Addr.add (bk H) 1) = some (.pointer x12)) rfl rfl (fun _ hX => l1 isAgg72 rfl hX) c11 ?_
  obtain ⟨a13, e14, h⟩ := h
  refine pv (v := (pp a13)) rfl rfl (fun _ => HVal.nilCheck (congrArg Value.pointer e14)) (pv (v := (pp a13)) rfl rfl (fun _ => HVal.fieldAddr0 runUnderlying108 rfl rfl sizeOf64 rfl) ?_)
  obtain ⟨x16, c15, h⟩ := h
  refine pl (v := (.pointer x16)) (fun X => cell X a13 = some (.pointer x16)) rfl rfl (fun _ hX => l1 isAgg64 rfl hX) c15 (pv (v := (pp (Addr.add (bk H1) 1))) rfl rfl (fun _ => fa runUnderlying80 rfl rfl sizeOf3 rfl) ?_)
  obtain ⟨x18, c17, h⟩ := h
  refine pl (v := (iv x18)) (fun X => cell X (Addr.add (bk H1) 1) = some (iv x18)) rfl rfl (fun _ hX => l1 isAgg3 rfl hX) c17 (po rfl rfl (HOp.call' 48 [(.pointer x16), (iv x18)] (cap := []) rfl rfl call48 (walk48 h)) ?_)
  rintro _ H19 ⟨r21, rfl, h⟩
  obtain ⟨s22, h⟩ := h
  refine ⟨SC_of ⟨nofun, nofun, fun _ => s22, trivial⟩, ?_⟩
  refine pv (v := (iv r21)) rfl rfl (fun _ => av rfl) (HPlan.done (nt (ws (wr_ (hv (v := (pp (Addr.add (bk H) 1))) rfl (fa runUnderlying74 rfl rfl sizeOf72 rfl) ?_)))))
  obtain ⟨x24, c23, h⟩ := h
  refine hv (v := (.pointer x24)) rfl (l1 isAgg72 rfl c23) ?_
  obtain ⟨a25, e26, h⟩ := h
  refine hv (v := (pp a25)) rfl (HVal.nilCheck (congrArg Value.pointer e26)) (hv (v := (pp (Addr.add a25 1))) rfl (fa runUnderlying108 rfl rfl sizeOf106 rfl) ?_)
  obtain ⟨x28, c27, h⟩ := h
  refine hv (v := (.map x28)) rfl (l1 isAgg106 rfl c27) (hv (v := (iv r21)) rfl (mv rfl) ?_)
  obtain ⟨L29, c30, c31, h⟩ := h
  refine hv (v := (.tuple #[(.agg (vR (((mget L29 r21).getD ((0 : Int), (0 : Int), bE, false)).1) (((mget L29 r21).getD ((0 : Int), (0 : Int), bE, false)).2.1) (((mget L29 r21).getD ((0 : Int), (0 : Int), bE, false)).2.2.1) (((mget L29 r21).getD ((0 : Int), (0 : Int), bE, false)).2.2.2)).toArray), (bv ((mget L29 r21).isSome))])) rfl (HVal.lookupOk (f := mk3) (g := mv25) (k := r21) (z := ((0 : Int), (0 : Int), bE, false)) runUnderlying106 mkk3 zeroValue25 rfl rfl c31) ?_
  refine hv (v := (.tuple #[(.agg (vR (((mget L29 r21).getD ((0 : Int), (0 : Int), bE, false)).1) (((mget L29 r21).getD ((0 : Int), (0 : Int), bE, false)).2.1) (((mget L29 r21).getD ((0 : Int), (0 : Int), bE, false)).2.2.1) (((mget L29 r21).getD ((0 : Int), (0 : Int), bE, false)).2.2.2)).toArray), (bv ((mget L29 r21).isSome))])) rfl (mv rfl) ?_
  refine hv (v := (.agg (vR (((mget L29 r21).getD ((0 : Int), (0 : Int), bE, false)).1) (((mget L29 r21).getD ((0 : Int), (0 : Int), bE, false)).2.1) (((mget L29 r21).getD ((0 : Int), (0 : Int), bE, false)).2.2.1) (((mget L29 r21).getD ((0 : Int), (0 : Int), bE, false)).2.2.2)).toArray)) rfl (HVal.extract rfl rfl) ?_
  refine hv (v := (bv ((mget L29 r21).isSome))) rfl (HVal.extract rfl rfl) (ho rfl (HOp.alloc zeroValue25) ?_)
  rintro _ H32 ⟨rfl, e33⟩
  replace h := h H32 e33
  obtain ⟨z36, h⟩ := h
  refine hq (HOp.storeN' (l := (vR (((mget L29 r21).getD ((0 : Int), (0 : Int), bE, false)).1) (((mget L29 r21).getD ((0 : Int), (0 : Int), bE, false)).2.1) (((mget L29 r21).getD ((0 : Int), (0 : Int), bE, false)).2.2.1) (((mget L29 r21).getD ((0 : Int), (0 : Int), bE, false)).2.2.2))) sizeOf25 rfl rfl rfl z36) ?_
  rintro _ H34 e35
  replace h := h H34 e35
  refine hv (v := (bv ((mget L29 r21).isSome))) rfl (av rfl) (hn (nt (ws (ws (wr_ (hv (v := (pp (Addr.add (bk H1) 3))) rfl (fa runUnderlying80 rfl rfl sizeOf4 rfl) ?_))))))
  obtain ⟨x38, c37, h⟩ := h
  refine hv (v := (bv x38)) rfl (l1 isAgg4 rfl c37) (hv (v := (bv (!x38))) rfl (HVal.not rfl) (hn (nt ?_)))
  obtain ⟨hT, hF⟩ := h
  refine wk (!x38) rfl (fun hb39 => ?_) (fun hb39 => ?_)
  ·have h := hT hb39
   refine ws (wr_ (hv (v := (bv ((mget L29 r21).isSome))) rfl (mv rfl) (hv (v := (bv ((mget L29 r21).isSome))) rfl (mv rfl) ?_)))
   obtain ⟨hT, hF⟩ := h
   rcases Bool.eq_false_or_eq_true ((mget L29 r21).isSome) with hb40 | hb41
   ·have h := hT hb40
    obtain ⟨x43, x44, x45, x46, c42, h⟩ := h
    refine hg (v := (.agg (vR x43 x44 x45 x46).toArray)) rfl rfl rfl rfl (cB hb40) (ln (vR x43 x44 x45 x46) isAgg25 sizeOf25 rfl c42) ?_
    refine hg (v := (pp (Addr.add (bk H1) 4))) rfl rfl rfl rfl (cB hb40) (fa runUnderlying80 rfl rfl sizeOf25 rfl) ?_
    obtain ⟨x48, x49, x50, x51, c47, h⟩ := h
    refine hg (v := (.agg (vR x48 x49 x50 x51).toArray)) rfl rfl rfl rfl (cB hb40) (ln (vR x48 x49 x50 x51) isAgg25 sizeOf25 rfl c47) ?_
    refine hg (v := (bv (decide (x43 = x48) && (decide (x44 = x49) && (seq x45 x50 && (x46 == x51)))))) rfl rfl rfl rfl (cB hb40) (eqs25_eql rfl rfl) ?_
    refine hv (v := (bv (decide (x43 = x48) && (decide (x44 = x49) && (seq x45 x50 && (x46 == x51)))))) rfl (pt_ rfl hb40 rfl) (hv (v := (bv (decide (x43 = x48) && (decide (x44 = x49) && (seq x45 x50 && (x46 == x51)))))) rfl (av rfl) ?_)
    refine hn (nt (HW.ret (tr (tr ?_))))
    exact ⟨_, resOf1 rfl Res1.t, ⟨(decide (x43 = x48) && (decide (x44 = x49) && (seq x45 x50 && (x46 == x51)))), rfl, h⟩⟩
   have h := hF hb41
   refine hs_ rfl rfl rfl rfl (cB hb41) (hs_ rfl rfl rfl rfl (cB hb41) (hs_ rfl rfl rfl rfl (cB hb41) (hs_ rfl rfl rfl rfl (cB hb41) ?_)))
   refine hv (v := (bv false)) rfl (pf_ rfl hb41 rfl) (hv (v := (bv false)) rfl (av rfl) (hn (nt (HW.ret (tr (tr ?_))))))
   exact ⟨_, resOf1 rfl Res1.t, ⟨false, rfl, h⟩⟩
  have h := hF hb39
  refine wp_ (nt (ws (HW.draw mixed [(0, some []), (1, some []), (2, some []), (3, some []), (4, some [7]), (5, some []), (6, some [7]), (7, none), (8, some [])] rfl (by kernel_rfl) (by kernel_rfl) ?_)))
  refine pv (v := (pp (Addr.add (bk H) 1))) rfl rfl (fun _ => fa runUnderlying74 rfl rfl sizeOf72 rfl) ?_
  obtain ⟨x53, c52, h⟩ := h
  refine pl (v := (.pointer x53)) (fun X => cell X (Addr.add (bk H) 1) = some (.pointer x53)) rfl rfl (fun _ hX => l1 isAgg72 rfl hX) c52 ?_
  obtain ⟨a54, e55, h⟩ := h
  refine pv (v := (pp a54)) rfl rfl (fun _ => HVal.nilCheck (congrArg Value.pointer e55)) (pv (v := (pp a54)) rfl rfl (fun _ => HVal.fieldAddr0 runUnderlying108 rfl rfl sizeOf64 rfl) ?_)
  obtain ⟨x57, c56, h⟩ := h
  refine pl (v := (.pointer x57)) (fun X => cell X a54 = some (.pointer x57)) rfl rfl (fun _ hX => l1 isAgg64 rfl hX) c56 (pv (v := (pp (Addr.add (bk H1) 2))) rfl rfl (fun _ => fa runUnderlying80 rfl rfl sizeOf3 rfl) ?_)
  obtain ⟨x59, c58, h⟩ := h
  refine pl (v := (iv x59)) (fun X => cell X (Addr.add (bk H1) 2) = some (iv x59)) rfl rfl (fun _ hX => l1 isAgg3 rfl hX) c58 (po rfl rfl (HOp.call' 48 [(.pointer x57), (iv x59)] (cap := []) rfl rfl call48 (walk48 h)) ?_)
  rintro _ H60 ⟨r62, rfl, h⟩
  obtain ⟨s63, h⟩ := h
  refine ⟨SC_of ⟨nofun, nofun, fun _ => s63, trivial⟩, ?_⟩
  refine pv (v := (iv r62)) rfl rfl (fun _ => av rfl) (HPlan.done (nt (ws (wr_ (hv (v := (pp (Addr.add (bk H) 1))) rfl (fa runUnderlying74 rfl rfl sizeOf72 rfl) ?_)))))
  obtain ⟨x65, c64, h⟩ := h
  refine hv (v := (.pointer x65)) rfl (l1 isAgg72 rfl c64) ?_
  obtain ⟨a66, e67, h⟩ := h
  refine hv (v := (pp a66)) rfl (HVal.nilCheck (congrArg Value.pointer e67)) (hv (v := (pp (Addr.add a66 1))) rfl (fa runUnderlying108 rfl rfl sizeOf106 rfl) ?_)
  obtain ⟨x69, c68, h⟩ := h
  refine hv (v := (.map x69)) rfl (l1 isAgg106 rfl c68) (hv (v := (iv r62)) rfl (mv rfl) ?_)
  obtain ⟨L70, c71, c72, h⟩ := h
  refine hv (v := (.tuple #[(.agg (vR (((mget L70 r62).getD ((0 : Int), (0 : Int), bE, false)).1) (((mget L70 r62).getD ((0 : Int), (0 : Int), bE, false)).2.1) (((mget L70 r62).getD ((0 : Int), (0 : Int), bE, false)).2.2.1) (((mget L70 r62).getD ((0 : Int), (0 : Int), bE, false)).2.2.2)).toArray), (bv ((mget L70 r62).isSome))])) rfl (HVal.lookupOk (f := mk3) (g := mv25) (k := r62) (z := ((0 : Int), (0 : Int), bE, false)) runUnderlying106 mkk3 zeroValue25 rfl rfl c72) ?_
  refine hv (v := (.tuple #[(.agg (vR (((mget L70 r62).getD ((0 : Int), (0 : Int), bE, false)).1) (((mget L70 r62).getD ((0 : Int), (0 : Int), bE, false)).2.1) (((mget L70 r62).getD ((0 : Int), (0 : Int), bE, false)).2.2.1) (((mget L70 r62).getD ((0 : Int), (0 : Int), bE, false)).2.2.2)).toArray), (bv ((mget L70 r62).isSome))])) rfl (mv rfl) ?_
  refine hv (v := (.agg (vR (((mget L70 r62).getD ((0 : Int), (0 : Int), bE, false)).1) (((mget L70 r62).getD ((0 : Int), (0 : Int), bE, false)).2.1) (((mget L70 r62).getD ((0 : Int), (0 : Int), bE, false)).2.2.1) (((mget L70 r62).getD ((0 : Int), (0 : Int), bE, false)).2.2.2)).toArray)) rfl (HVal.extract rfl rfl) ?_
  refine hv (v := (bv ((mget L70 r62).isSome))) rfl (HVal.extract rfl rfl) (ho rfl (HOp.alloc zeroValue25) ?_)
  rintro _ H73 ⟨rfl, e74⟩
  replace h := h H73 e74
  obtain ⟨z77, h⟩ := h
  refine hq (HOp.storeN' (l := (vR (((mget L70 r62).getD ((0 : Int), (0 : Int), bE, false)).1) (((mget L70 r62).getD ((0 : Int), (0 : Int), bE, false)).2.1) (((mget L70 r62).getD ((0 : Int), (0 : Int), bE, false)).2.2.1) (((mget L70 r62).getD ((0 : Int), (0 : Int), bE, false)).2.2.2))) sizeOf25 rfl rfl rfl z77) ?_
  rintro _ H75 e76
  replace h := h H75 e76
  refine hv (v := (bv ((mget L70 r62).isSome))) rfl (av rfl) (hn (nt (ws (wr_ (hv (v := (iv r21)) rfl (mv rfl) ?_)))))
  refine hv (v := (iv r62)) rfl (mv rfl) (hv (v := (bv (decide (r21 = r62)))) rfl (HVal.eqlI rfl rfl) (hv (v := (bv (decide (r21 = r62)))) rfl (mv rfl) ?_))
  obtain ⟨hT, hF⟩ := h
  rcases Bool.eq_false_or_eq_true (decide (r21 = r62)) with hb78 | hb79
  ·have h := hT hb78
   refine hs_ rfl rfl rfl rfl (cB hb78) (hs_ rfl rfl rfl rfl (cB hb78) (HList.uskips rfl rfl rfl rfl rfl (hs_ rfl rfl rfl rfl (cB hb78) ?_)))
   refine hs_ rfl rfl rfl rfl (cB hb78) (HList.uskips rfl rfl rfl rfl rfl (HList.uskips rfl rfl rfl rfl rfl (HList.uskips rfl rfl rfl rfl rfl (hs_ rfl rfl rfl rfl (cB hb78) ?_))))
   refine hv (v := (bv true)) rfl (pt_ rfl hb78 rfl) (hv (v := (bv true)) rfl (av rfl) (hn (nt (HW.ret (tr ?_)))))
   exact ⟨_, resOf1 rfl Res1.t, ⟨true, rfl, h⟩⟩
  have h := hF hb79
  refine hg (v := (bv ((mget L29 r21).isSome))) rfl rfl rfl rfl (cB hb79) (mv rfl) (hg (v := (bv ((mget L29 r21).isSome))) rfl rfl rfl rfl (cB hb79) (mv rfl) ?_)
  obtain ⟨hT, hF⟩ := h
  rcases Bool.eq_false_or_eq_true ((mget L29 r21).isSome) with hb80 | hb81
  ·have h := hT hb80
   refine hg (v := (bv ((mget L70 r62).isSome))) rfl rfl rfl rfl (cB hb80) (mv rfl) (hg (v := (bv ((mget L70 r62).isSome))) rfl rfl rfl rfl (cB hb79) (pt_ rfl hb80 rfl) ?_)
   refine hg (v := (bv ((mget L70 r62).isSome))) rfl rfl rfl rfl (cB hb79) (mv rfl) ?_
   obtain ⟨hT, hF⟩ := h
   rcases Bool.eq_false_or_eq_true ((mget L70 r62).isSome) with hb82 | hb83
   ·have h := hT hb82
    obtain ⟨x85, x86, x87, x88, c84, h⟩ := h
    refine hg (v := (.agg (vR x85 x86 x87 x88).toArray)) rfl rfl rfl rfl (cB hb82) (ln (vR x85 x86 x87 x88) isAgg25 sizeOf25 rfl c84) ?_
    obtain ⟨x90, x91, x92, x93, c89, h⟩ := h
    refine hg (v := (.agg (vR x90 x91 x92 x93).toArray)) rfl rfl rfl rfl (cB hb82) (ln (vR x90 x91 x92 x93) isAgg25 sizeOf25 rfl c89) ?_
    refine hg (v := (bv (decide (x85 = x90) && (decide (x86 = x91) && (seq x87 x92 && (x88 == x93)))))) rfl rfl rfl rfl (cB hb82) (eqs25_eql rfl rfl) ?_
    refine hg (v := (bv (decide (x85 = x90) && (decide (x86 = x91) && (seq x87 x92 && (x88 == x93)))))) rfl rfl rfl rfl (cB hb79) (pt_ rfl hb82 rfl) ?_
    refine hv (v := (bv (decide (x85 = x90) && (decide (x86 = x91) && (seq x87 x92 && (x88 == x93)))))) rfl (pf_ rfl hb79 rfl) (hv (v := (bv (decide (x85 = x90) && (decide (x86 = x91) && (seq x87 x92 && (x88 == x93)))))) rfl (av rfl) ?_)
    refine hn (nt (HW.ret (tr ?_)))
    exact ⟨_, resOf1 rfl Res1.t, ⟨(decide (x85 = x90) && (decide (x86 = x91) && (seq x87 x92 && (x88 == x93)))), rfl, h⟩⟩
   have h := hF hb83
   refine hs_ rfl rfl rfl rfl (cB hb83) (hs_ rfl rfl rfl rfl (cB hb83) (hs_ rfl rfl rfl rfl (cB hb83) (hg (v := (bv false)) rfl rfl rfl rfl (cB hb79) (pf_ rfl hb83 rfl) ?_)))
   refine hv (v := (bv false)) rfl (pf_ rfl hb79 rfl) (hv (v := (bv false)) rfl (av rfl) (hn (nt (HW.ret (tr ?_)))))
   exact ⟨_, resOf1 rfl Res1.t, ⟨false, rfl, h⟩⟩
  have h := hF hb81
  refine hs_ rfl rfl rfl rfl (cB hb81) (hg (v := (bv false)) rfl rfl rfl rfl (cB hb79) (pf_ rfl hb81 rfl) (hg (v := (bv false)) rfl rfl rfl rfl (cB hb79) (mv rfl) ?_))
  refine hs_ rfl rfl rfl rfl rfl (hs_ rfl rfl rfl rfl rfl (hs_ rfl rfl rfl rfl rfl (hg (v := (bv false)) rfl rfl rfl rfl (cB hb79) (pf_ rfl rfl rfl) ?_)))
  refine hv (v := (bv false)) rfl (pf_ rfl hb79 rfl) (hv (v := (bv false)) rfl (av rfl) (hn (nt (HW.ret (tr ?_)))))
  exact ⟨_, resOf1 rfl Res1.t, ⟨false, rfl, h⟩⟩
 have h := hF hb10
 refine wp_ (nt (ws (ws (wr_ (hv (v := (pp (bk H1))) rfl (HVal.fieldAddr0 runUnderlying80 rfl rfl sizeOf3 rfl) ?_)))))
 obtain ⟨x95, c94, h⟩ := h
 refine hv (v := (iv x95)) rfl (l1 isAgg3 rfl c94) (ho rfl (HOp.call' 52 [(iv x95)] (cap := []) rfl rfl call52 (walk52 h)) ?_)
 rintro _ H96 ⟨r98, rfl, h⟩
 refine hv (v := (iv ((r98).n : Int))) rfl (HVal.len runUnderlying47 rfl) (hv (v := (iv 0)) rfl (mv rfl) (hn (nt (wb ?_))))
 refine HW.loop' (fun L1 hL1 => ?_)
 obtain ⟨X1, hX1⟩ : ∃ X1 : Int → Hp → Prop, ∀ (y99 : Int) (H_1 : Hp), X1 y99 H_1 ↔ ∀ ρ, Env.Is ρ [(0, (.pointer p0)), (1, (Sl.v p1)), (7, (pp (bk H1))), (87, (Sl.v r98)), (88, (iv ((r98).n : Int))), (89, (iv y99))] → L1 ρ H_1 := ⟨_, fun _ _ => Iff.rfl⟩
 refine (hX1 _ _).1 (h X1 ?_) _ ?_
 rotate_left
 ·exact (isp rfl)
 clear h
 intro y99 H_1 h
 refine (hX1 _ _).2 fun ρ hI => ?_
 obtain ⟨ρ0, rfl⟩ := hI.ex
 clear hI; unfold F34_L1b at h; refine hL1 _ _ ?_
 refine ws (wr_ (hv (v := (bv (decide (y99 < ((r98).n : Int))))) rfl (HVal.lss rfl rfl) (hn (nt (ws ?_)))))
 obtain ⟨hT, hF⟩ := h
 refine wk (decide (y99 < ((r98).n : Int))) rfl (fun hb105 => ?_) (fun hb105 => ?_)
 ·have h := hT hb105
  refine wp_ (nt (ws (wb (ws (wr_ ?_)))))
  obtain ⟨a106, e107, b108, b109, h⟩ := h
  refine hv (v := (pp (Addr.add a106 (y99.toNat * 1)))) rfl (ia runUnderlying47 sizeOf3 (Sl.v_some rfl e107) rfl b108 b109) ?_
  obtain ⟨x111, c110, h⟩ := h
  refine hv (v := (iv x111)) rfl (l1 isAgg3 rfl c110) (hv (v := (iv x111)) rfl (av rfl) (hn (nt (ws (wr_ ?_)))))
  obtain ⟨x113, x114, x115, x116, x117, x118, x119, x120, c112, h⟩ := h
  refine hv (v := (.agg (lR x113 x114 x115 x116 x117 x118 x119 x120).toArray)) rfl (ln (lR x113 x114 x115 x116 x117 x118 x119 x120) isAgg80 sizeOf80 rfl c112) ?_
  refine ho rfl (HOp.alloc zeroValue80) ?_
  rintro _ H121 ⟨rfl, e122⟩
  replace h := h H121 e122
  obtain ⟨z125, h⟩ := h
  refine hq (HOp.storeN' (l := (lR x113 x114 x115 x116 x117 x118 x119 x120)) sizeOf80 rfl rfl rfl z125) ?_
  rintro _ H123 e124
  replace h := h H123 e124
  refine hn (nt (ws (wr_ (hv (v := (iv x111)) rfl (mv rfl) (hv (v := (pp (bk H_1))) rfl (HVal.fieldAddr0 runUnderlying80 rfl rfl sizeOf3 rfl) ?_)))))
  obtain ⟨z128, z129, h⟩ := h
  refine hq (HOp.store1 sizeOf3 rfl rfl rfl z128 z129) ?_
  rintro _ H126 e127
  replace h := h H126 e127
  refine hn (nt (wc (fun ρ H_2 => ∃ (y165 : Bool), Env.Is ρ [(0, (.pointer p0)), (1, (Sl.v p1)), (7, (pp (bk H1))), (87, (Sl.v r98)), (88, (iv ((r98).n : Int))), (89, (iv y99)), (19, (bv y165))] ∧ F34_2 Q X1 p0 p1 (bk H1) r98 ((r98).n : Int) y99 y165 H_2) ?_ ?_))
  ·refine HW.draw mixed [(0, some []), (1, some []), (2, some []), (3, some []), (4, some []), (5, some []), (6, some []), (7, some [8, 15]), (17, none), (17, none), (17, none), (17, none), (17, none), (17, none), (17, none), (17, none), (17, none)] rfl (by kernel_rfl) (by kernel_rfl) ?_
   refine pv (v := (.pointer p0)) rfl rfl (fun _ => mv rfl) (pv (v := (Sl.v p1)) rfl rfl (fun _ => mv rfl) (pv (v := (Sl.v p1)) rfl rfl (fun _ => mv rfl) ?_))
   refine pv (v := (iv ((p1).n : Int))) rfl rfl (fun _ => HVal.len runUnderlying62 rfl) (pv (v := (Sl.v p1)) rfl rfl (fun _ => mv rfl) ?_)
   refine pv (v := (iv ((p1).n : Int))) rfl rfl (fun _ => HVal.len runUnderlying62 rfl) ?_
   obtain ⟨z136, z137, z138, z139, z140, h⟩ := h
   refine pv (v := (Sl.v (Sl.cut p1 8 0 (((p1).n : Int).toNat) (((p1).n : Int).toNat)))) rfl rfl (fun _ => HVal.slice _ _ _ runUnderlying62 sizeOf80 rfl rfl ⟨_, _, rfl, z136, rfl⟩ ⟨_, _, rfl, z137, rfl⟩ (by decide) z138 z139 z140) ?_
   obtain ⟨x142, x143, x144, x145, x146, x147, x148, x149, c141, h⟩ := h
   refine pl (v := (.agg (lR x142 x143 x144 x145 x146 x147 x148 x149).toArray)) (fun X => cells X (bk H_1) (lR x142 x143 x144 x145 x146 x147 x148 x149) 0) rfl rfl (fun _ hX => ln (lR x142 x143 x144 x145 x146 x147 x148 x149) isAgg80 sizeOf80 rfl hX) c141 ?_
   obtain ⟨hB8, hB14⟩ := h
   refine HPlan.fork2 (i := 8) (j := 14) (by kernel_rfl) ?_ ?_
   ·have h := hB8
    clear hB8 hB14
    refine HBr.ops' [(17, none), (17, none), (17, none), (17, none), (17, none), (17, none), (17, none), (17, none)] rfl (by kernel_rfl) (by kernel_rfl) rfl rfl rfl (HOp.buildSlice' (zs := (lR 0 0 0 false 0 0 bE false)) (cs := (lR x142 x143 x144 x145 x146 x147 x148 x149)) runUnderlying62 sizeOf80 zeroValue80 (by decide) (by kernel_rfl) (by kernel_rfl) (by decide)) ?_
    rintro _ H150 ⟨rfl, e151⟩
    replace h := h H150 e151
    refine ⟨SC_of ⟨nofun, trivial⟩, ?_⟩
    obtain ⟨hB9, hB14⟩ := h
    refine HPlan.fork2 (i := 9) (j := 14) (by kernel_rfl) ?_ ?_
    ·have h := hB9
     clear hB9 hB14
     refine HBr.ops' [(17, none), (17, none), (17, none), (17, none), (17, none), (17, none), (17, none)] rfl (by kernel_rfl) (by kernel_rfl) rfl rfl rfl (HOp.append (k := 8) (b := 72) runUnderlying62 runUnderlying62 typeInfo80 rfl rfl zeroValue80 rfl rfl h) ?_
     rintro _ H152 ⟨r154, rfl, h⟩
     refine ⟨SC_of ⟨nofun, trivial⟩, ?_⟩
     obtain ⟨hB10, hB14⟩ := h
     refine HPlan.fork2 (i := 10) (j := 14) (by kernel_rfl) ?_ ?_
     ·have h := hB10
      clear hB10 hB14
      refine HBr.ops' [(11, some []), (12, some []), (13, some []), (14, none), (15, none), (16, some [])] rfl (by kernel_rfl) (by kernel_rfl) rfl rfl rfl (HOp.call' 26 [(.pointer p0), (Sl.v r154)] (cap := []) rfl rfl call26 (walk26 h)) ?_
      rintro _ H155 ⟨r157, r158, r159, rfl, h⟩
      refine ⟨SC_of ⟨nofun, trivial⟩, ?_⟩
      refine pv (v := (.tuple #[(.agg #[(Sl.v r157), (.pointer r158)]), (bv r159)])) rfl rfl (fun _ => mv rfl) (pv (v := (.agg #[(Sl.v r157), (.pointer r158)])) rfl rfl (fun _ => HVal.extract rfl rfl) ?_)
      refine pv (v := (bv r159)) rfl rfl (fun _ => HVal.extract rfl rfl) (po rfl rfl (HOp.alloc zeroValue74) ?_)
      rintro _ H160 ⟨rfl, e161⟩
      replace h := h H160 e161
      refine ⟨SC_of ⟨nofun, trivial⟩, ?_⟩
      obtain ⟨z164, h⟩ := h
      refine pn rfl (HOp.storeN' (l := [(Sl.v r157), (.pointer r158)]) sizeOf74 rfl rfl rfl z164) ?_
      rintro _ H162 e163
      replace h := h H162 e163
      refine ⟨SC_of ⟨nofun, trivial⟩, ?_⟩
      refine pv (v := (bv r159)) rfl rfl (fun _ => av rfl) (HPlan.done (nt ?_))
      exact ⟨r159, (isp rfl), h⟩
     have h := hB14
     clear hB10 hB14
     refine HBr.ops' [(10, none), (11, some []), (12, some []), (13, some []), (15, none), (16, some [])] rfl (by kernel_rfl) (by kernel_rfl) rfl rfl rfl (HOp.alloc zeroValue74) ?_
     rintro _ H166 ⟨rfl, e167⟩
     replace h := h H166 e167
     refine ⟨SC_of ⟨nofun, trivial⟩, ?_⟩
     refine po rfl rfl (HOp.call' 26 [(.pointer p0), (Sl.v r154)] (cap := []) rfl rfl call26 (walk26 h)) ?_
     rintro _ H168 ⟨r170, r171, r172, rfl, h⟩
     refine ⟨SC_of ⟨nofun, trivial⟩, ?_⟩
     refine pv (v := (.tuple #[(.agg #[(Sl.v r170), (.pointer r171)]), (bv r172)])) rfl rfl (fun _ => mv rfl) (pv (v := (.agg #[(Sl.v r170), (.pointer r171)])) rfl rfl (fun _ => HVal.extract rfl rfl) ?_)
     refine pv (v := (bv r172)) rfl rfl (fun _ => HVal.extract rfl rfl) ?_
     obtain ⟨z175, h⟩ := h
     refine pn rfl (HOp.storeN' (l := [(Sl.v r170), (.pointer r171)]) sizeOf74 rfl rfl rfl z175) ?_
     rintro _ H173 e174
     replace h := h H173 e174
     refine ⟨SC_of ⟨nofun, trivial⟩, ?_⟩
     refine pv (v := (bv r172)) rfl rfl (fun _ => av rfl) (HPlan.done (nt ?_))
     exact ⟨r172, (isp rfl), h⟩
    have h := hB14
    clear hB9 hB14
    refine HBr.ops' [(9, none), (10, none), (11, some []), (12, some []), (13, some []), (15, none), (16, some [])] rfl (by kernel_rfl) (by kernel_rfl) rfl rfl rfl (HOp.alloc zeroValue74) ?_
    rintro _ H176 ⟨rfl, e177⟩
    replace h := h H176 e177
    refine ⟨SC_of ⟨nofun, trivial⟩, ?_⟩
    refine po rfl rfl (HOp.append (k := 8) (b := 72) runUnderlying62 runUnderlying62 typeInfo80 rfl rfl zeroValue80 rfl rfl h) ?_
    rintro _ H178 ⟨r180, rfl, h⟩
    refine ⟨SC_of ⟨nofun, trivial⟩, ?_⟩
    refine po rfl rfl (HOp.call' 26 [(.pointer p0), (Sl.v r180)] (cap := []) rfl rfl call26 (walk26 h)) ?_
    rintro _ H181 ⟨r183, r184, r185, rfl, h⟩
    refine ⟨SC_of ⟨nofun, trivial⟩, ?_⟩
    refine pv (v := (.tuple #[(.agg #[(Sl.v r183), (.pointer r184)]), (bv r185)])) rfl rfl (fun _ => mv rfl) (pv (v := (.agg #[(Sl.v r183), (.pointer r184)])) rfl rfl (fun _ => HVal.extract rfl rfl) ?_)
    refine pv (v := (bv r185)) rfl rfl (fun _ => HVal.extract rfl rfl) ?_
    obtain ⟨z188, h⟩ := h
    refine pn rfl (HOp.storeN' (l := [(Sl.v r183), (.pointer r184)]) sizeOf74 rfl rfl rfl z188) ?_
    rintro _ H186 e187
    replace h := h H186 e187
    refine ⟨SC_of ⟨nofun, trivial⟩, ?_⟩
    refine pv (v := (bv r185)) rfl rfl (fun _ => av rfl) (HPlan.done (nt ?_))
    exact ⟨r185, (isp rfl), h⟩
   have h := hB14
   clear hB8 hB14
   refine HBr.ops' [(8, none), (9, none), (10, none), (11, some []), (12, some []), (13, some []), (15, none), (16, some [])] rfl (by kernel_rfl) (by kernel_rfl) rfl rfl rfl (HOp.alloc zeroValue74) ?_
   rintro _ H189 ⟨rfl, e190⟩
   replace h := h H189 e190
   obtain ⟨s191, h⟩ := h
   refine ⟨SC_of ⟨fun _ => s191, trivial⟩, ?_⟩
   refine po rfl rfl (HOp.buildSlice' (zs := (lR 0 0 0 false 0 0 bE false)) (cs := (lR x142 x143 x144 x145 x146 x147 x148 x149)) runUnderlying62 sizeOf80 zeroValue80 (by decide) (by kernel_rfl) (by kernel_rfl) (by decide)) ?_
   rintro _ H192 ⟨rfl, e193⟩
   replace h := h H192 e193
   refine ⟨SC_of ⟨nofun, trivial⟩, ?_⟩
   refine po rfl rfl (HOp.append (k := 8) (b := 72) runUnderlying62 runUnderlying62 typeInfo80 rfl rfl zeroValue80 rfl rfl h) ?_
   rintro _ H194 ⟨r196, rfl, h⟩
   refine ⟨SC_of ⟨nofun, trivial⟩, ?_⟩
   refine po rfl rfl (HOp.call' 26 [(.pointer p0), (Sl.v r196)] (cap := []) rfl rfl call26 (walk26 h)) ?_
   rintro _ H197 ⟨r199, r200, r201, rfl, h⟩
   refine ⟨SC_of ⟨nofun, trivial⟩, ?_⟩
   refine pv (v := (.tuple #[(.agg #[(Sl.v r199), (.pointer r200)]), (bv r201)])) rfl rfl (fun _ => mv rfl) (pv (v := (.agg #[(Sl.v r199), (.pointer r200)])) rfl rfl (fun _ => HVal.extract rfl rfl) ?_)
   refine pv (v := (bv r201)) rfl rfl (fun _ => HVal.extract rfl rfl) ?_
   obtain ⟨z204, h⟩ := h
   refine pn rfl (HOp.storeN' (l := [(Sl.v r199), (.pointer r200)]) sizeOf74 rfl rfl rfl z204) ?_
   rintro _ H202 e203
   replace h := h H202 e203
   refine ⟨SC_of ⟨nofun, trivial⟩, ?_⟩
   refine pv (v := (bv r201)) rfl rfl (fun _ => av rfl) (HPlan.done (nt ?_))
   exact ⟨r201, (isp rfl), h⟩
  rintro ρ H_2 ⟨y165, hI, h⟩
  obtain ⟨ρ0, rfl⟩ := hI.ex
  clear hI; unfold F34_2 at h
  refine ws (wr_ (hv (v := (bv y165)) rfl (mv rfl) (hn (nt ?_))))
  obtain ⟨hT, hF⟩ := h
  refine wk y165 rfl (fun hb205 => ?_) (fun hb205 => ?_)
  ·have h := hT hb205
   refine ws (wr_ (hv (v := (bv false)) rfl (av rfl) (hn (nt (HW.ret (br (tr (tr (br (tr ?_))))))))))
   exact ⟨_, resOf1 rfl Res1.t, ⟨false, rfl, h⟩⟩
  have h := hF hb205
  refine wp_ (nb (nt (wr_ (hv (v := (iv (IntKind.i64.wrap (y99 + 1)))) rfl (HVal.add rfl rfl) (hv (v := (iv (IntKind.i64.wrap (y99 + 1)))) rfl (mv rfl) ?_)))))
  refine hn (nt ?_)
  exact (hX1 _ _).1 h _ (isp rfl)
 have h := hF hb105
 refine we (te (te (be (nt (ws (wr_ (hv (v := (bv true)) rfl (av rfl) (hn (nt (HW.ret ?_))))))))))
 exact ⟨_, resOf1 rfl Res1.t, ⟨true, rfl, h⟩⟩

def F16_1 (Q : Sl → Hp → Prop) (y138 : Sl) (H_1 : Hp) : Prop :=
Q y138 H_1
def F16_3 (Q : Sl → Hp → Prop) (X2 : Sl → Sl → Int → Hp → Prop) (y19 : (Option Addr)) (y20 : Sl) (y21 y22 : Int) (y133 y134 : Sl) (H_3 : Hp) : Prop :=
X2 y133 y134 (IntKind.i64.wrap (y22 + 1)) H_3
def F16_4 (Q : Sl → Hp → Prop) (X2 : Sl → Sl → Int → Hp → Prop) (y52 : (Option Addr)) (y53 y54 : Sl) (y55 : Int) (y56 y57 : Sl) (y58 y59 : Int) (y126 : Bool) (H_4 : Hp) : Prop :=
(y126 = true → (∀ H128 : Hp, H128 = Array.push H_4 (.cells #[(iv y55)] 3) → (
 AppendF H128 3 1 8 #[(iv 0)] y54 ((Sl.mk (some (bk H_4)) 1 1)).b ((Sl.mk (some (bk H_4)) 1 1)).n (fun (r132 : Sl) (H130 : Hp) => 
 F16_3 Q X2 y52 y57 y58 y59 y53 r132 H130)))) ∧
 (y126 = false → (AppendF H_4 80 8 72 (lR 0 0 0 false 0 0 bE false).toArray y53 (y56).b (y56).n (fun (r137 : Sl) (H135 : Hp) => 
 F16_3 Q X2 y52 y57 y58 y59 r137 y54 H135)))
def F16_6 (Q : Sl → Hp → Prop) (X2 : Sl → Sl → Int → Hp → Prop) (X5 : Bool → Int → Hp → Prop) (y75 : (Option Addr)) (y76 y77 : Sl) (y78 : Int) (y79 : Sl) (y80 : Addr) (y81 : Bool) (y82 : Sl) (y83 y84 : Int) (y85 : Sl) (y86 y87 : Int) (y110 : Bool) (H_6 : Hp) : Prop :=
X5 y110 (IntKind.i64.wrap (y87 + 1)) H_6
def F16_L5b (Q : Sl → Hp → Prop) (X2 : Sl → Sl → Int → Hp → Prop) (X5 : Bool → Int → Hp → Prop) (y62 : (Option Addr)) (y63 y64 : Sl) (y65 : Int) (y66 : Sl) (y67 : Addr) (y68 : Bool) (y69 : Sl) (y70 y71 : Int) (y72 : Sl) (y73 : Int) (y60 : Bool) (y61 : Int) (H_5 : Hp) : Prop :=
((decide (y61 < y73)) = true → (∃ a88 : Addr, (y72).b = some a88 ∧ (0 : Int) ≤ y61 ∧ y61 < ((y72).n : Int) ∧ (
 ∃ (x93 x94 x95 : Int) (x96 : Bool) (x97 x98 : Int) (x99 : ByteArray) (x100 : Bool), cells H_5 (Addr.add a88 (y61.toNat * 8)) (lR x93 x94 x95 x96 x97 x98 x99 x100) 0 ∧ (
 ∀ H101 : Hp, H101 = Array.push H_5 (.cells (lR 0 0 0 false 0 0 bE false).toArray 80) → (
 mayw H101 (bk H_5) 8 0 ∧ ∀ H103 : Hp, H103 = sets H101 (bk H_5) (lR x93 x94 x95 x96 x97 x98 x99 x100) 0 → (
 (y60 = true → (((!y68) = true → (F16_6 Q X2 X5 y62 y63 y64 y65 y66 y67 y68 y69 y70 y71 y72 y73 y61 true H103)) ∧
 ((!y68) = false → (∃ (x112 : Sl) (x113 : (Option Addr)), cells H103 y67 [(Sl.v x112), (.pointer x113)] 0 ∧ (
 ∃ (x115 x116 x117 : Int) (x118 : Bool) (x119 x120 : Int) (x121 : ByteArray) (x122 : Bool), cells H103 (bk H_5) (lR x115 x116 x117 x118 x119 x120 x121 x122) 0 ∧ (
 F34 y62 y63 x112 x113 x115 x116 x117 x118 x119 x120 x121 x122 H103 (fun (r125 : Bool) (H123 : Hp) => 
 F16_6 Q X2 X5 y62 y63 y64 y65 y66 y67 y68 y69 y70 y71 y72 y73 y61 r125 H123))))))) ∧
 (y60 = false → (F16_6 Q X2 X5 y62 y63 y64 y65 y66 y67 y68 y69 y70 y71 y72 y73 y61 false H103)))))))) ∧
 ((decide (y61 < y73)) = false → (F16_4 Q X2 y62 y63 y64 y65 y66 y69 y70 y71 y60 H_5))
def F16_L5 (Q : Sl → Hp → Prop) (X2 : Sl → Sl → Int → Hp → Prop) (y62 : (Option Addr)) (y63 y64 : Sl) (y65 : Int) (y66 : Sl) (y67 : Addr) (y68 : Bool) (y69 : Sl) (y70 y71 : Int) (y72 : Sl) (y73 : Int) (y60 : Bool) (y61 : Int) (H_5 : Hp) : Prop :=
 ∀ X5 : Bool → Int → Hp → Prop, (∀ (y60 : Bool) (y61 : Int) (H_5 : Hp), F16_L5b Q X2 X5 y62 y63 y64 y65 y66 y67 y68 y69 y70 y71 y72 y73 y60 y61 H_5 → X5 y60 y61 H_5) → X5 y60 y61 H_5
def F16_L2b (Q : Sl → Hp → Prop) (X2 : Sl → Sl → Int → Hp → Prop) (y15 : (Option Addr)) (y16 : Sl) (y17 : Int) (y12 y13 : Sl) (y14 : Int) (H_2 : Hp) : Prop :=
((decide (y14 < y17)) = true → (∃ a23 : Addr, (y16).b = some a23 ∧ (0 : Int) ≤ y14 ∧ y14 < ((y16).n : Int) ∧ (
 ∃ (x28 : Sl) (x29 : Bool), cells H_2 (Addr.add a23 (y14.toNat * 2)) [(Sl.v x28), (bv x29)] 0 ∧ (
 ∀ H30 : Hp, H30 = Array.push H_2 (.cells #[sN, (bv false)] 68) → (
 mayw H30 (bk H_2) 2 0 ∧ ∀ H32 : Hp, H32 = sets H30 (bk H_2) [(Sl.v x28), (bv x29)] 0 → (
 ∃ (x36 : Sl) (x37 : Bool), cells H32 (bk H_2) [(Sl.v x36), (bv x37)] 0 ∧ (
 F25 y15 x36 x37 H32 (fun (r40 : Sl) (r41 : Bool) (H38 : Hp) => 
 F26 y15 y12 H38 (fun (r44 : Sl) (r45 : (Option Addr)) (r46 : Bool) (H42 : Hp) => 
 ∀ H47 : Hp, H47 = Array.push H42 (.cells #[sN, (.pointer none)] 74) → (
 mayw H47 (bk H42) 2 0 ∧ ∀ H49 : Hp, H49 = sets H47 (bk H42) [(Sl.v r44), (.pointer r45)] 0 → (
 F16_L5 Q X2 y15 y12 y13 y14 r40 (bk H42) r46 y16 y17 y14 r40 ((r40).n : Int) r41 0 H49))))))))))) ∧
 ((decide (y14 < y17)) = false → (F16_1 Q y13 H_2))
def F16_L2 (Q : Sl → Hp → Prop) (y15 : (Option Addr)) (y16 : Sl) (y17 : Int) (y12 y13 : Sl) (y14 : Int) (H_2 : Hp) : Prop :=
 ∀ X2 : Sl → Sl → Int → Hp → Prop, (∀ (y12 y13 : Sl) (y14 : Int) (H_2 : Hp), F16_L2b Q X2 y15 y16 y17 y12 y13 y14 H_2 → X2 y12 y13 y14 H_2) → X2 y12 y13 y14 H_2
def F16 (p0 : Sl) (H : Hp) (Q : Sl → Hp → Prop) : Prop :=
F23 p0 H (fun (r3 : (Option Addr)) (H1 : Hp) => 
 F24 r3 H1 (fun (r6 : Bool) (H4 : Hp) => 
 (r6 = true → (Q Sl.nil H4)) ∧
 (r6 = false → (∃ a8 : Addr, r3 = some a8 ∧ (
 ∃ x11 : Sl, cell H4 (Addr.add a8 1) = some (Sl.v x11) ∧ (
 F16_L2 Q r3 x11 ((x11).n : Int) Sl.nil Sl.nil 0 H4))))))
theorem walk16 {w0 : World} {p0 : Sl} {H : Hp} {Q : Sl → Hp → Prop} (h : F16 p0 H Q) :
  Good prog w0 16 #[(Sl.v p0)] H (fun v H => ∃ (r0 : Sl) , v = (Sl.v r0) ∧ Q r0 H) := by
 unfold F16 at h
 refine Good.enter' (fn := f16) func16 rfl rfl rfl (ws (wr_ (hv (v := sN) rfl (av rfl) (hn (nt (ws (wr_ ?_)))))))
 refine hv (v := (Sl.v p0)) rfl (mv rfl) (ho rfl (HOp.call' 23 [(Sl.v p0)] (cap := []) rfl rfl call23 (walk23 h)) ?_)
 rintro _ H1 ⟨r3, rfl, h⟩
 refine hv (v := (.pointer r3)) rfl (av rfl) (hn (nt (ws (ws (wr_ (hv (v := (.pointer r3)) rfl (mv rfl) ?_))))))
 refine ho rfl (HOp.call' 24 [(.pointer r3)] (cap := []) rfl rfl call24 (walk24 h)) ?_
 rintro _ H4 ⟨r6, rfl, h⟩
 refine hn (nt ?_)
 obtain ⟨hT, hF⟩ := h
 refine wk r6 rfl (fun hb7 => ?_) (fun hb7 => ?_)
 ·have h := hT hb7
  refine ws (wr_ (hv (v := sN) rfl (av rfl) (hn (nt (HW.ret (tr ?_))))))
  exact ⟨_, resOf1 rfl Res1.t, ⟨Sl.nil, rfl, h⟩⟩
 have h := hF hb7
 refine wp_ (nt (ws (wr_ (hv (v := sN) rfl (av rfl) (hn (nt (ws (wr_ (hv (v := sN) rfl (av rfl) ?_)))))))))
 refine hn (nt (wc (fun ρ H_1 => ∃ (y138 : Sl), Env.Is ρ [(5, (Sl.v y138))] ∧ F16_1 Q y138 H_1) ?_ ?_))
 ·refine ws (wr_ (hv (v := (.pointer r3)) rfl (mv rfl) ?_))
  obtain ⟨a8, e9, h⟩ := h
  refine hv (v := (pp a8)) rfl (HVal.nilCheck (congrArg Value.pointer e9)) (hv (v := (pp (Addr.add a8 1))) rfl (fa runUnderlying66 rfl rfl sizeOf63 rfl) ?_)
  obtain ⟨x11, c10, h⟩ := h
  refine hv (v := (Sl.v x11)) rfl (l1 isAgg63 rfl c10) (hv (v := (iv ((x11).n : Int))) rfl (HVal.len runUnderlying63 rfl) (hv (v := (iv 0)) rfl (mv rfl) ?_))
  refine hn (nt (wb (HW.loop' (fun L2 hL2 => ?_))))
  obtain ⟨X2, hX2⟩ : ∃ X2 : Sl → Sl → Int → Hp → Prop, ∀ (y12 y13 : Sl) (y14 : Int) (H_2 : Hp), X2 y12 y13 y14 H_2 ↔ ∀ ρ, Env.Is ρ [(3, (.pointer r3)), (21, (Sl.v x11)), (22, (iv ((x11).n : Int))), (4, (Sl.v y12)), (5, (Sl.v y13)), (23, (iv y14))] → L2 ρ H_2 := ⟨_, fun _ _ _ _ => Iff.rfl⟩
  refine (hX2 _ _ _ _).1 (h X2 ?_) _ ?_
  rotate_left
  ·exact (isp rfl)
  clear h
  intro y12 y13 y14 H_2 h
  refine (hX2 _ _ _ _).2 fun ρ hI => ?_
  obtain ⟨ρ0, rfl⟩ := hI.ex
  clear hI; unfold F16_L2b at h; refine hL2 _ _ ?_
  refine ws (wr_ (hv (v := (bv (decide (y14 < ((x11).n : Int))))) rfl (HVal.lss rfl rfl) (hn (nt (ws ?_)))))
  obtain ⟨hT, hF⟩ := h
  refine wk (decide (y14 < ((x11).n : Int))) rfl (fun hb18 => ?_) (fun hb18 => ?_)
  ·have h := hT hb18
   refine wp_ (nt (wc (fun ρ H_3 => ∃ (y133 y134 : Sl), Env.Is ρ [(3, (.pointer r3)), (21, (Sl.v x11)), (22, (iv ((x11).n : Int))), (23, (iv y14)), (4, (Sl.v y133)), (5, (Sl.v y134))] ∧ F16_3 Q X2 r3 x11 ((x11).n : Int) y14 y133 y134 H_3) ?_ ?_))
   ·refine wb (ws (wr_ (hv (v := (iv y14)) rfl (mv rfl) ?_)))
    obtain ⟨a23, e24, b25, b26, h⟩ := h
    refine hv (v := (pp (Addr.add a23 (y14.toNat * 2)))) rfl (ia runUnderlying63 sizeOf68 (Sl.v_some rfl e24) rfl b25 b26) ?_
    obtain ⟨x28, x29, c27, h⟩ := h
    refine hv (v := (.agg #[(Sl.v x28), (bv x29)])) rfl (ln [(Sl.v x28), (bv x29)] isAgg68 sizeOf68 rfl c27) (ho rfl (HOp.alloc zeroValue68) ?_)
    rintro _ H30 ⟨rfl, e31⟩
    replace h := h H30 e31
    refine hv (v := (iv y14)) rfl (av rfl) ?_
    obtain ⟨z34, h⟩ := h
    refine hq (HOp.storeN' (l := [(Sl.v x28), (bv x29)]) sizeOf68 rfl rfl rfl z34) ?_
    rintro _ H32 e33
    replace h := h H32 e33
    refine hn (nt (ws (wr_ (hv (v := (.pointer r3)) rfl (mv rfl) ?_))))
    obtain ⟨x36, x37, c35, h⟩ := h
    refine hv (v := (.agg #[(Sl.v x36), (bv x37)])) rfl (ln [(Sl.v x36), (bv x37)] isAgg68 sizeOf68 rfl c35) (ho rfl (HOp.call' 25 [(.pointer r3), (.agg #[(Sl.v x36), (bv x37)])] (cap := []) rfl rfl call25 (walk25 h)) ?_)
    rintro _ H38 ⟨r40, r41, rfl, h⟩
    refine hv (v := (.tuple #[(Sl.v r40), (bv r41)])) rfl (mv rfl) (hv (v := (Sl.v r40)) rfl (HVal.extract rfl rfl) (hv (v := (bv r41)) rfl (HVal.extract rfl rfl) ?_))
    refine hv (v := (Sl.v r40)) rfl (av rfl) (hv (v := (bv r41)) rfl (av rfl) (hn (nt (ws (wr_ (hv (v := (.pointer r3)) rfl (mv rfl) ?_))))))
    refine hv (v := (Sl.v y12)) rfl (mv rfl) (ho rfl (HOp.call' 26 [(.pointer r3), (Sl.v y12)] (cap := []) rfl rfl call26 (walk26 h)) ?_)
    rintro _ H42 ⟨r44, r45, r46, rfl, h⟩
    refine hv (v := (.tuple #[(.agg #[(Sl.v r44), (.pointer r45)]), (bv r46)])) rfl (mv rfl) (hv (v := (.agg #[(Sl.v r44), (.pointer r45)])) rfl (HVal.extract rfl rfl) ?_)
    refine hv (v := (bv r46)) rfl (HVal.extract rfl rfl) (ho rfl (HOp.alloc zeroValue74) ?_)
    rintro _ H47 ⟨rfl, e48⟩
    replace h := h H47 e48
    obtain ⟨z51, h⟩ := h
    refine hq (HOp.storeN' (l := [(Sl.v r44), (.pointer r45)]) sizeOf74 rfl rfl rfl z51) ?_
    rintro _ H49 e50
    replace h := h H49 e50
    refine hv (v := (bv r46)) rfl (av rfl) (hn (nt (wc (fun ρ H_4 => ∃ (y126 : Bool), Env.Is ρ [(3, (.pointer r3)), (4, (Sl.v y12)), (5, (Sl.v y13)), (6, (iv y14)), (8, (Sl.v r40)), (21, (Sl.v x11)), (22, (iv ((x11).n : Int))), (23, (iv y14)), (9, (bv y126))] ∧ F16_4 Q X2 r3 y12 y13 y14 r40 x11 ((x11).n : Int) y14 y126 H_4) ?_ ?_)))
    ·refine ws (wr_ (hv (v := (Sl.v r40)) rfl (mv rfl) (hv (v := (iv ((r40).n : Int))) rfl (HVal.len runUnderlying62 rfl) ?_)))
     refine hv (v := (iv 0)) rfl (mv rfl) (hn (nt (wb (HW.loop' (fun L5 hL5 => ?_)))))
     obtain ⟨X5, hX5⟩ : ∃ X5 : Bool → Int → Hp → Prop, ∀ (y60 : Bool) (y61 : Int) (H_5 : Hp), X5 y60 y61 H_5 ↔ ∀ ρ, Env.Is ρ [(3, (.pointer r3)), (4, (Sl.v y12)), (5, (Sl.v y13)), (6, (iv y14)), (8, (Sl.v r40)), (10, (pp (bk H42))), (11, (bv r46)), (21, (Sl.v x11)), (22, (iv ((x11).n : Int))), (23, (iv y14)), (40, (Sl.v r40)), (41, (iv ((r40).n : Int))), (9, (bv y60)), (42, (iv y61))] → L5 ρ H_5 := ⟨_, fun _ _ _ => Iff.rfl⟩
     refine (hX5 _ _ _).1 (h X5 ?_) _ ?_
     rotate_left
     ·exact (isp rfl)
     clear h
     intro y60 y61 H_5 h
     refine (hX5 _ _ _).2 fun ρ hI => ?_
     obtain ⟨ρ0, rfl⟩ := hI.ex
     clear hI; unfold F16_L5b at h; refine hL5 _ _ ?_
     refine ws (wr_ (hv (v := (bv (decide (y61 < ((r40).n : Int))))) rfl (HVal.lss rfl rfl) (hn (nt (ws ?_)))))
     obtain ⟨hT, hF⟩ := h
     refine wk (decide (y61 < ((r40).n : Int))) rfl (fun hb74 => ?_) (fun hb74 => ?_)
     ·have h := hT hb74
      refine wp_ (nt (wc (fun ρ H_6 => ∃ (y110 : Bool), Env.Is ρ [(3, (.pointer r3)), (4, (Sl.v y12)), (5, (Sl.v y13)), (6, (iv y14)), (8, (Sl.v r40)), (10, (pp (bk H42))), (11, (bv r46)), (21, (Sl.v x11)), (22, (iv ((x11).n : Int))), (23, (iv y14)), (40, (Sl.v r40)), (41, (iv ((r40).n : Int))), (42, (iv y61)), (9, (bv y110))] ∧ F16_6 Q X2 X5 r3 y12 y13 y14 r40 (bk H42) r46 x11 ((x11).n : Int) y14 r40 ((r40).n : Int) y61 y110 H_6) ?_ ?_))
      ·refine wb (ws (wr_ ?_))
       obtain ⟨a88, e89, b90, b91, h⟩ := h
       refine hv (v := (pp (Addr.add a88 (y61.toNat * 8)))) rfl (ia runUnderlying62 sizeOf80 (Sl.v_some rfl e89) rfl b90 b91) ?_
       obtain ⟨x93, x94, x95, x96, x97, x98, x99, x100, c92, h⟩ := h
       refine hv (v := (.agg (lR x93 x94 x95 x96 x97 x98 x99 x100).toArray)) rfl (ln (lR x93 x94 x95 x96 x97 x98 x99 x100) isAgg80 sizeOf80 rfl c92) ?_
       refine ho rfl (HOp.alloc zeroValue80) ?_
       rintro _ H101 ⟨rfl, e102⟩
       replace h := h H101 e102
       obtain ⟨z105, h⟩ := h
       refine hq (HOp.storeN' (l := (lR x93 x94 x95 x96 x97 x98 x99 x100)) sizeOf80 rfl rfl rfl z105) ?_
       rintro _ H103 e104
       replace h := h H103 e104
       refine hn (nt (wr_ (hv (v := (bv y60)) rfl (mv rfl) (hv (v := (bv y60)) rfl (mv rfl) ?_))))
       obtain ⟨hT, hF⟩ := h
       rcases Bool.eq_false_or_eq_true y60 with hb106 | hb107
       ·have h := hT hb106
        refine hg (v := (bv r46)) rfl rfl rfl rfl (cB hb106) (mv rfl) (hg (v := (bv (!r46))) rfl rfl rfl rfl (cB hb106) (HVal.not rfl) ?_)
        refine hg (v := (bv (!r46))) rfl rfl rfl rfl (cB hb106) (mv rfl) ?_
        obtain ⟨hT, hF⟩ := h
        rcases Bool.eq_false_or_eq_true (!r46) with hb108 | hb109
        ·have h := hT hb108
         refine hs_ rfl rfl rfl rfl (cB hb108) (hs_ rfl rfl rfl rfl (cB hb108) (hs_ rfl rfl rfl rfl (cB hb108) (hs_ rfl rfl rfl rfl (cB hb108) ?_)))
         refine hs_ rfl rfl rfl rfl (cB hb108) (hg (v := (bv true)) rfl rfl rfl rfl (cB hb106) (pt_ rfl hb108 rfl) (hv (v := (bv true)) rfl (pt_ rfl hb106 rfl) ?_))
         refine hv (v := (bv true)) rfl (av rfl) (hn (nb (nt ?_)))
         exact ⟨true, (isp rfl), h⟩
        have h := hF hb109
        refine hg (v := (.pointer r3)) rfl rfl rfl rfl (cB hb109) (mv rfl) (hg (v := (Sl.v y12)) rfl rfl rfl rfl (cB hb109) (mv rfl) ?_)
        obtain ⟨x112, x113, c111, h⟩ := h
        refine hg (v := (.agg #[(Sl.v x112), (.pointer x113)])) rfl rfl rfl rfl (cB hb109) (ln [(Sl.v x112), (.pointer x113)] isAgg74 sizeOf74 rfl c111) ?_
        obtain ⟨x115, x116, x117, x118, x119, x120, x121, x122, c114, h⟩ := h
        refine hg (v := (.agg (lR x115 x116 x117 x118 x119 x120 x121 x122).toArray)) rfl rfl rfl rfl (cB hb109) (ln (lR x115 x116 x117 x118 x119 x120 x121 x122) isAgg80 sizeOf80 rfl c114) ?_
        refine HList.gops rfl rfl rfl rfl (cB hb109) (HOp.call' 34 [(.pointer r3), (Sl.v y12), (.agg #[(Sl.v x112), (.pointer x113)]), (.agg (lR x115 x116 x117 x118 x119 x120 x121 x122).toArray)] (cap := []) rfl rfl call34 (walk34 h)) ?_
        rintro _ H123 ⟨r125, rfl, h⟩
        refine hg (v := (bv r125)) rfl rfl rfl rfl (cB hb106) (pf_ rfl hb109 rfl) (hv (v := (bv r125)) rfl (pt_ rfl hb106 rfl) ?_)
        refine hv (v := (bv r125)) rfl (av rfl) (hn (nb (nt ?_)))
        exact ⟨r125, (isp rfl), h⟩
       have h := hF hb107
       refine hs_ rfl rfl rfl rfl (cB hb107) (hs_ rfl rfl rfl rfl (cB hb107) (hs_ rfl rfl rfl rfl (cB hb107) (HList.uskips rfl rfl rfl rfl rfl ?_)))
       refine HList.uskips rfl rfl rfl rfl rfl (HList.uskips rfl rfl rfl rfl rfl (HList.uskips rfl rfl rfl rfl rfl (HList.uskips rfl rfl rfl rfl rfl (hs_ rfl rfl rfl rfl (cB hb107) ?_))))
       refine hv (v := (bv false)) rfl (pf_ rfl hb107 rfl) (hv (v := (bv false)) rfl (av rfl) (hn (nb (nt ?_))))
       exact ⟨false, (isp rfl), h⟩
      rintro ρ H_6 ⟨y110, hI, h⟩
      obtain ⟨ρ0, rfl⟩ := hI.ex
      clear hI; unfold F16_6 at h
      refine wr_ (hv (v := (iv (IntKind.i64.wrap (y61 + 1)))) rfl (HVal.add rfl rfl) (hv (v := (iv (IntKind.i64.wrap (y61 + 1)))) rfl (mv rfl) ?_))
      refine hn (nt ?_)
      exact (hX5 _ _ _).1 h _ (isp rfl)
     have h := hF hb74
     refine we (te (te (be (nt ?_))))
     exact ⟨y60, (isp rfl), h⟩
    rintro ρ H_4 ⟨y126, hI, h⟩
    obtain ⟨ρ0, rfl⟩ := hI.ex
    clear hI; unfold F16_4 at h
    refine ws (wr_ (hv (v := (bv y126)) rfl (mv rfl) (hn (nt ?_))))
    obtain ⟨hT, hF⟩ := h
    refine wk y126 rfl (fun hb127 => ?_) (fun hb127 => ?_)
    ·have h := hT hb127
     refine wr_ (hv (v := (Sl.v y13)) rfl (mv rfl) (hv (v := (iv y14)) rfl (mv rfl) (ho rfl (HOp.buildSlice' (zs := [(iv 0)]) (cs := [(iv y14)]) runUnderlying47 sizeOf3 zeroValue3 (by decide) (by kernel_rfl) rfl (by decide)) ?_)))
     rintro _ H128 ⟨rfl, e129⟩
     replace h := h H128 e129
     refine ho rfl (HOp.append (k := 1) (b := 8) runUnderlying47 runUnderlying47 typeInfo3 rfl rfl zeroValue3 rfl rfl h) ?_
     rintro _ H130 ⟨r132, rfl, h⟩
     refine hv (v := (Sl.v r132)) rfl (av rfl) (hn (nb (nt ?_)))
     exact ⟨y12, r132, (isp rfl), h⟩
    have h := hF hb127
    refine wr_ (hv (v := (Sl.v y12)) rfl (mv rfl) (hv (v := (Sl.v r40)) rfl (mv rfl) (ho rfl (HOp.append (k := 8) (b := 72) runUnderlying62 runUnderlying62 typeInfo80 rfl rfl zeroValue80 rfl rfl h) ?_)))
    rintro _ H135 ⟨r137, rfl, h⟩
    refine hv (v := (Sl.v r137)) rfl (av rfl) (hn (nb (nt ?_)))
    exact ⟨r137, y13, (isp rfl), h⟩
   rintro ρ H_3 ⟨y133, y134, hI, h⟩
   obtain ⟨ρ0, rfl⟩ := hI.ex
   clear hI; unfold F16_3 at h
   refine wr_ (hv (v := (iv (IntKind.i64.wrap (y14 + 1)))) rfl (HVal.add rfl rfl) (hv (v := (iv (IntKind.i64.wrap (y14 + 1)))) rfl (mv rfl) ?_))
   refine hn (nt ?_)
   exact (hX2 _ _ _ _).1 h _ (isp rfl)
  have h := hF hb18
  refine we (te (te (be (nt ?_))))
  exact ⟨y13, ⟨rfl, trivial⟩, h⟩
 rintro ρ H_1 ⟨y138, hI, h⟩
 obtain ⟨ρ0, rfl⟩ := hI.ex
 clear hI; unfold F16_1 at h
 refine ws (wr_ (hv (v := (Sl.v y138)) rfl (mv rfl) (hv (v := (Sl.v y138)) rfl (av rfl) (hn (nt (HW.ret ?_))))))
 exact ⟨_, resOf1 rfl Res1.t, ⟨y138, rfl, h⟩⟩

def F17_L1b (Q : Bool → Hp → Prop) (X1 : Int → Hp → Prop) (y18 : Sl) (y19 y17 : Int) (H_1 : Hp) : Prop :=
((decide (y17 < y19)) = true → (∃ a21 : Addr, (y18).b = some a21 ∧ (0 : Int) ≤ y17 ∧ y17 < ((y18).n : Int) ∧ (
 ∃ (x26 x27 x28 x29 : Int) (x30 : ByteArray) (x31 : Bool) (x32 : ByteArray) (x33 : Int) (x34 : ByteArray) (x35 : Sl), cells H_1 (Addr.add a21 (y17.toNat * 10)) (eR x26 x27 x28 x29 x30 x31 x32 x33 x34 x35) 0 ∧ (
 ∀ H36 : Hp, H36 = Array.push H_1 (.cells zR.toArray 41) → (
 mayw H36 (bk H_1) 10 0 ∧ ∀ H38 : Hp, H38 = sets H36 (bk H_1) (eR x26 x27 x28 x29 x30 x31 x32 x33 x34 x35) 0 → (
 ∃ (x42 x43 x44 x45 : Int) (x46 : ByteArray) (x47 : Bool) (x48 : ByteArray) (x49 : Int) (x50 : ByteArray) (x51 : Sl), cells H38 (bk H_1) (eR x42 x43 x44 x45 x46 x47 x48 x49 x50 x51) 0 ∧ (
 F36 x42 x43 x44 x45 x46 x47 x48 x49 x50 x51 H38 (fun (r54 r55 r56 r57 r58 : Int) (r59 : ByteArray) (r60 : Bool) (r61 : ByteArray) (r62 : Int) (r63 : ByteArray) (r64 : Sl) (r65 r66 r67 r68 : Int) (r69 : ByteArray) (r70 : Bool) (r71 : ByteArray) (r72 : Int) (r73 : ByteArray) (r74 : Sl) (r75 : Bool) (H52 : Hp) => 
 ∀ H76 : Hp, H76 = Array.push H52 (.cells #[(iv 0), (iv 0), (iv 0), (iv 0), (iv 0), (sv bE), (bv false), (sv bE), (iv 0), (sv bE), sN, (iv 0), (iv 0), (iv 0), (iv 0), (sv bE), (bv false), (sv bE), (iv 0), (sv bE), sN] 89) → (
 mayw H76 (bk H52) 21 0 ∧ ∀ H78 : Hp, H78 = sets H76 (bk H52) [(iv r54), (iv r55), (iv r56), (iv r57), (iv r58), (sv r59), (bv r60), (sv r61), (iv r62), (sv r63), (Sl.v r64), (iv r65), (iv r66), (iv r67), (iv r68), (sv r69), (bv r70), (sv r71), (iv r72), (sv r73), (Sl.v r74)] 0 → (
 ((!r75) = true → (Q false H78)) ∧
 ((!r75) = false → (X1 (IntKind.i64.wrap (y17 + 1)) H78)))))))))))) ∧
 ((decide (y17 < y19)) = false → (Q true H_1))
def F17_L1 (Q : Bool → Hp → Prop) (y18 : Sl) (y19 y17 : Int) (H_1 : Hp) : Prop :=
 ∀ X1 : Int → Hp → Prop, (∀ (y17 : Int) (H_1 : Hp), F17_L1b Q X1 y18 y19 y17 H_1 → X1 y17 H_1) → X1 y17 H_1
def F17 (p0_0 p0_1 p0_2 p0_3 : Int) (p0_4 : ByteArray) (p0_5 : Bool) (p0_6 : ByteArray) (p0_7 : Int) (p0_8 : ByteArray) (p0_9 : Sl) (H : Hp) (Q : Bool → Hp → Prop) : Prop :=
∀ H1 : Hp, H1 = Array.push H (.cells (eR p0_0 p0_1 p0_2 p0_3 p0_4 p0_5 p0_6 p0_7 p0_8 p0_9).toArray 41) → (
 ∃ (x4 x5 x6 x7 : Int) (x8 : ByteArray) (x9 : Bool) (x10 : ByteArray) (x11 : Int) (x12 : ByteArray) (x13 : Sl), cells H1 (bk H) (eR x4 x5 x6 x7 x8 x9 x10 x11 x12 x13) 0 ∧ (
 F35 x4 x5 x6 x7 x8 x9 x10 x11 x12 x13 H1 (fun (r16 : Sl) (H14 : Hp) => 
 F17_L1 Q r16 ((r16).n : Int) 0 H14)))
theorem walk17 {w0 : World} {p0_0 p0_1 p0_2 p0_3 : Int} {p0_4 : ByteArray} {p0_5 : Bool} {p0_6 : ByteArray} {p0_7 : Int} {p0_8 : ByteArray} {p0_9 : Sl} {H : Hp} {Q : Bool → Hp → Prop} (h : F17 p0_0 p0_1 p0_2 p0_3 p0_4 p0_5 p0_6 p0_7 p0_8 p0_9 H Q) :
  Good prog w0 17 #[(.agg (eR p0_0 p0_1 p0_2 p0_3 p0_4 p0_5 p0_6 p0_7 p0_8 p0_9).toArray)] H (fun v H => ∃ (r0 : Bool) , v = (bv r0) ∧ Q r0 H) := by
 unfold F17 at h
 refine Good.enter' (fn := f17) func17 rfl rfl rfl (ws (wr_ (ho rfl (ob (v := (.agg (eR p0_0 p0_1 p0_2 p0_3 p0_4 p0_5 p0_6 p0_7 p0_8 p0_9).toArray)) rfl) ?_)))
 rintro _ H1 ⟨rfl, e2⟩
 replace h := h H1 e2
 refine hv (v := (bv false)) rfl (av rfl) (hn (nt (ws (ws (wr_ ?_)))))
 obtain ⟨x4, x5, x6, x7, x8, x9, x10, x11, x12, x13, c3, h⟩ := h
 refine hv (v := (.agg (eR x4 x5 x6 x7 x8 x9 x10 x11 x12 x13).toArray)) rfl (ln (eR x4 x5 x6 x7 x8 x9 x10 x11 x12 x13) isAgg41 sizeOf41 rfl c3) ?_
 refine ho rfl (HOp.call' 35 [(.agg (eR x4 x5 x6 x7 x8 x9 x10 x11 x12 x13).toArray)] (cap := []) rfl rfl call35 (walk35 h)) ?_
 rintro _ H14 ⟨r16, rfl, h⟩
 refine hv (v := (iv ((r16).n : Int))) rfl (HVal.len runUnderlying35 rfl) (hv (v := (iv 0)) rfl (mv rfl) (hn (nt (wb ?_))))
 refine HW.loop' (fun L1 hL1 => ?_)
 obtain ⟨X1, hX1⟩ : ∃ X1 : Int → Hp → Prop, ∀ (y17 : Int) (H_1 : Hp), X1 y17 H_1 ↔ ∀ ρ, Env.Is ρ [(8, (Sl.v r16)), (9, (iv ((r16).n : Int))), (10, (iv y17))] → L1 ρ H_1 := ⟨_, fun _ _ => Iff.rfl⟩
 refine (hX1 _ _).1 (h X1 ?_) _ ?_
 rotate_left
 ·exact (isp rfl)
 clear h
 intro y17 H_1 h
 refine (hX1 _ _).2 fun ρ hI => ?_
 obtain ⟨ρ0, rfl⟩ := hI.ex
 clear hI; unfold F17_L1b at h; refine hL1 _ _ ?_
 refine ws (wr_ (hv (v := (bv (decide (y17 < ((r16).n : Int))))) rfl (HVal.lss rfl rfl) (hn (nt (ws ?_)))))
 obtain ⟨hT, hF⟩ := h
 refine wk (decide (y17 < ((r16).n : Int))) rfl (fun hb20 => ?_) (fun hb20 => ?_)
 ·have h := hT hb20
  refine wp_ (nt (ws (wb (ws (wr_ ?_)))))
  obtain ⟨a21, e22, b23, b24, h⟩ := h
  refine hv (v := (pp (Addr.add a21 (y17.toNat * 10)))) rfl (ia runUnderlying35 sizeOf41 (Sl.v_some rfl e22) rfl b23 b24) ?_
  obtain ⟨x26, x27, x28, x29, x30, x31, x32, x33, x34, x35, c25, h⟩ := h
  refine hv (v := (.agg (eR x26 x27 x28 x29 x30 x31 x32 x33 x34 x35).toArray)) rfl (ln (eR x26 x27 x28 x29 x30 x31 x32 x33 x34 x35) isAgg41 sizeOf41 rfl c25) ?_
  refine ho rfl (HOp.alloc zeroValue41) ?_
  rintro _ H36 ⟨rfl, e37⟩
  replace h := h H36 e37
  obtain ⟨z40, h⟩ := h
  refine hq (HOp.storeN' (l := (eR x26 x27 x28 x29 x30 x31 x32 x33 x34 x35)) sizeOf41 rfl rfl rfl z40) ?_
  rintro _ H38 e39
  replace h := h H38 e39
  refine hn (nt (ws (wr_ ?_)))
  obtain ⟨x42, x43, x44, x45, x46, x47, x48, x49, x50, x51, c41, h⟩ := h
  refine hv (v := (.agg (eR x42 x43 x44 x45 x46 x47 x48 x49 x50 x51).toArray)) rfl (ln (eR x42 x43 x44 x45 x46 x47 x48 x49 x50 x51) isAgg41 sizeOf41 rfl c41) ?_
  refine ho rfl (HOp.call' 36 [(.agg (eR x42 x43 x44 x45 x46 x47 x48 x49 x50 x51).toArray)] (cap := []) rfl rfl call36 (walk36 h)) ?_
  rintro _ H52 ⟨r54, r55, r56, r57, r58, r59, r60, r61, r62, r63, r64, r65, r66, r67, r68, r69, r70, r71, r72, r73, r74, r75, rfl, h⟩
  refine hv (v := (.tuple #[(.agg #[(iv r54), (iv r55), (iv r56), (iv r57), (iv r58), (sv r59), (bv r60), (sv r61), (iv r62), (sv r63), (Sl.v r64), (iv r65), (iv r66), (iv r67), (iv r68), (sv r69), (bv r70), (sv r71), (iv r72), (sv r73), (Sl.v r74)]), (bv r75)])) rfl (mv rfl) ?_
  refine hv (v := (.agg #[(iv r54), (iv r55), (iv r56), (iv r57), (iv r58), (sv r59), (bv r60), (sv r61), (iv r62), (sv r63), (Sl.v r64), (iv r65), (iv r66), (iv r67), (iv r68), (sv r69), (bv r70), (sv r71), (iv r72), (sv r73), (Sl.v r74)])) rfl (HVal.extract rfl rfl) ?_
  refine hv (v := (bv r75)) rfl (HVal.extract rfl rfl) (ho rfl (HOp.alloc zeroValue89) ?_)
  rintro _ H76 ⟨rfl, e77⟩
  replace h := h H76 e77
  obtain ⟨z80, h⟩ := h
  refine hq (HOp.storeN' (l := [(iv r54), (iv r55), (iv r56), (iv r57), (iv r58), (sv r59), (bv r60), (sv r61), (iv r62), (sv r63), (Sl.v r64), (iv r65), (iv r66), (iv r67), (iv r68), (sv r69), (bv r70), (sv r71), (iv r72), (sv r73), (Sl.v r74)]) sizeOf89 rfl rfl rfl z80) ?_
  rintro _ H78 e79
  replace h := h H78 e79
  refine hv (v := (bv r75)) rfl (av rfl) (hn (nt (ws (wr_ (hv (v := (bv r75)) rfl (mv rfl) (hv (v := (bv (!r75))) rfl (HVal.not rfl) ?_))))))
  refine hn (nt ?_)
  obtain ⟨hT, hF⟩ := h
  refine wk (!r75) rfl (fun hb81 => ?_) (fun hb81 => ?_)
  ·have h := hT hb81
   refine ws (wr_ (hv (v := (bv false)) rfl (av rfl) (hn (nt (HW.ret (br (tr (tr (br (tr ?_))))))))))
   exact ⟨_, resOf1 rfl Res1.t, ⟨false, rfl, h⟩⟩
  have h := hF hb81
  refine wp_ (nb (nt (wr_ (hv (v := (iv (IntKind.i64.wrap (y17 + 1)))) rfl (HVal.add rfl rfl) (hv (v := (iv (IntKind.i64.wrap (y17 + 1)))) rfl (mv rfl) ?_)))))
  refine hn (nt ?_)
  exact (hX1 _ _).1 h _ (isp rfl)
 have h := hF hb20
 refine we (te (te (be (nt (ws (wr_ (hv (v := (bv true)) rfl (av rfl) (hn (nt (HW.ret ?_))))))))))
 exact ⟨_, resOf1 rfl Res1.t, ⟨true, rfl, h⟩⟩

def F18 (p0 p1 : ByteArray) (H : Hp) (Q : Int → Int → Int → Int → ByteArray → Bool → ByteArray → Int → ByteArray → Sl → Hp → Prop) : Prop :=
∀ H1 : Hp, H1 = Array.push H (.cells zR.toArray 41) → (
 mayw H1 (bk H) 10 0 ∧ ∀ H3 : Hp, H3 = sets H1 (bk H) (eR 2 0 0 0 bE false p0 1 p1 Sl.nil) 0 → (
 ∃ (x6 x7 x8 x9 : Int) (x10 : ByteArray) (x11 : Bool) (x12 : ByteArray) (x13 : Int) (x14 : ByteArray) (x15 : Sl), cells H3 (bk H) (eR x6 x7 x8 x9 x10 x11 x12 x13 x14 x15) 0 ∧ (
 Q x6 x7 x8 x9 x10 x11 x12 x13 x14 x15 H3)))
theorem walk18 {w0 : World} {p0 p1 : ByteArray} {H : Hp} {Q : Int → Int → Int → Int → ByteArray → Bool → ByteArray → Int → ByteArray → Sl → Hp → Prop} (h : F18 p0 p1 H Q) :
  Good prog w0 18 #[(sv p0), (sv p1)] H (fun v H => ∃ (r0 r1 r2 r3 : Int) (r4 : ByteArray) (r5 : Bool) (r6 : ByteArray) (r7 : Int) (r8 : ByteArray) (r9 : Sl) , v = (.agg (eR r0 r1 r2 r3 r4 r5 r6 r7 r8 r9).toArray) ∧ Q r0 r1 r2 r3 r4 r5 r6 r7 r8 r9 H) := by
 unfold F18 at h
 refine Good.enter' (fn := f18) func18 rfl rfl rfl (ws (wr_ (ho rfl (HOp.alloc zeroValue41) ?_)))
 rintro _ H1 ⟨rfl, e2⟩
 replace h := h H1 e2
 refine hn (nt (ws (wr_ (hv (v := (sv p0)) rfl (mv rfl) (hv (v := (sv p1)) rfl (mv rfl) (hv (v := (.agg (eR 2 0 0 0 bE false p0 1 p1 Sl.nil).toArray)) rfl (HVal.build' (cs := (eR 2 0 0 0 bE false p0 1 p1 Sl.nil)) runUnderlying41 zeroValue41 places41 (by kernel_rfl)) ?_))))))
 obtain ⟨z5, h⟩ := h
 refine hq (HOp.storeN' (l := (eR 2 0 0 0 bE false p0 1 p1 Sl.nil)) sizeOf41 rfl rfl rfl z5) ?_
 rintro _ H3 e4
 replace h := h H3 e4
 refine hn (nt (HW.ret ?_))
 obtain ⟨x6, x7, x8, x9, x10, x11, x12, x13, x14, x15, c16, h⟩ := h
 exact ⟨_, resOf1 rfl (Res1.n (eR x6 x7 x8 x9 x10 x11 x12 x13 x14 x15) isAgg41 sizeOf41 rfl c16), ⟨x6, x7, x8, x9, x10, x11, x12, x13, x14, x15, rfl, h⟩⟩

def F19 (p0 : Int) (H : Hp) (Q : Int → Int → Int → Int → ByteArray → Bool → ByteArray → Int → ByteArray → Sl → Hp → Prop) : Prop :=
∀ H1 : Hp, H1 = Array.push H (.cells zR.toArray 41) → (
 mayw H1 (bk H) 10 0 ∧ ∀ H3 : Hp, H3 = sets H1 (bk H) (eR 1 0 1 p0 bE false bE 0 bE Sl.nil) 0 → (
 ∃ (x6 x7 x8 x9 : Int) (x10 : ByteArray) (x11 : Bool) (x12 : ByteArray) (x13 : Int) (x14 : ByteArray) (x15 : Sl), cells H3 (bk H) (eR x6 x7 x8 x9 x10 x11 x12 x13 x14 x15) 0 ∧ (
 Q x6 x7 x8 x9 x10 x11 x12 x13 x14 x15 H3)))
theorem walk19 {w0 : World} {p0 : Int} {H : Hp} {Q : Int → Int → Int → Int → ByteArray → Bool → ByteArray → Int → ByteArray → Sl → Hp → Prop} (h : F19 p0 H Q) :
  Good prog w0 19 #[(iv p0)] H (fun v H => ∃ (r0 r1 r2 r3 : Int) (r4 : ByteArray) (r5 : Bool) (r6 : ByteArray) (r7 : Int) (r8 : ByteArray) (r9 : Sl) , v = (.agg (eR r0 r1 r2 r3 r4 r5 r6 r7 r8 r9).toArray) ∧ Q r0 r1 r2 r3 r4 r5 r6 r7 r8 r9 H) := by
 unfold F19 at h
 refine Good.enter' (fn := f19) func19 rfl rfl rfl (ws (wr_ (ho rfl (HOp.alloc zeroValue41) ?_)))
 rintro _ H1 ⟨rfl, e2⟩
 replace h := h H1 e2
 refine hn (nt (ws (wr_ (hv (v := (iv p0)) rfl (mv rfl) (hv (v := (.agg (vR 1 p0 bE false).toArray)) rfl (HVal.build' (cs := (vR 1 p0 bE false)) runUnderlying25 zeroValue25 places25 rfl) ?_)))))
 refine hv (v := (.agg (eR 1 0 1 p0 bE false bE 0 bE Sl.nil).toArray)) rfl (HVal.build' (cs := (eR 1 0 1 p0 bE false bE 0 bE Sl.nil)) runUnderlying41 zeroValue41 places41 (by kernel_rfl)) ?_
 obtain ⟨z5, h⟩ := h
 refine hq (HOp.storeN' (l := (eR 1 0 1 p0 bE false bE 0 bE Sl.nil)) sizeOf41 rfl rfl rfl z5) ?_
 rintro _ H3 e4
 replace h := h H3 e4
 refine hn (nt (HW.ret ?_))
 obtain ⟨x6, x7, x8, x9, x10, x11, x12, x13, x14, x15, c16, h⟩ := h
 exact ⟨_, resOf1 rfl (Res1.n (eR x6 x7 x8 x9 x10 x11 x12 x13 x14 x15) isAgg41 sizeOf41 rfl c16), ⟨x6, x7, x8, x9, x10, x11, x12, x13, x14, x15, rfl, h⟩⟩

def F20_2 (Q : Int → Int → Int → Int → Int → ByteArray → Bool → Int → Hp → Prop) (y37 y38 : Addr) (H_2 : Hp) : Prop :=
∃ (x54 x55 x56 x57 x58 : Int) (x59 : ByteArray) (x60 : Bool) (x61 : Int), cells H_2 y37 (mR x54 x55 x56 x57 x58 x59 x60 x61) 0 ∧ (
 mayw H_2 y38 8 0 ∧ ∀ H62 : Hp, H62 = sets H_2 y38 (mR x54 x55 x56 x57 x58 x59 x60 x61) 0 → (
 ∃ (x65 x66 x67 x68 x69 : Int) (x70 : ByteArray) (x71 : Bool) (x72 : Int), cells H62 y38 (mR x65 x66 x67 x68 x69 x70 x71 x72) 0 ∧ (
 Q x65 x66 x67 x68 x69 x70 x71 x72 H62)))
def F20_3 (Q : Int → Int → Int → Int → Int → ByteArray → Bool → Int → Hp → Prop) (y39 y40 : Addr) (y45 : Bool) (H_3 : Hp) : Prop :=
(y45 = true → ((cell H_3 (Addr.add y39 7)).isSome = true ∧ frz H_3 (Addr.add y39 7) = false ∧ ∀ H49 : Hp, H49 = setc H_3 (Addr.add y39 7) (iv 2) → (
 F20_2 Q y39 y40 H49))) ∧
 (y45 = false → (F20_2 Q y39 y40 H_3))
def F20_1 (Q : Int → Int → Int → Int → Int → ByteArray → Bool → Int → Hp → Prop) (y31 y32 : Addr) (H_1 : Hp) : Prop :=
∃ x42 : Int, cell H_1 (Addr.add y31 7) = some (iv x42) ∧ (
 ((decide (x42 < 0)) = true → (F20_3 Q y31 y32 true H_1)) ∧
 ((decide (x42 < 0)) = false → (∃ x47 : Int, cell H_1 (Addr.add y31 7) = some (iv x47) ∧ (
 F20_3 Q y31 y32 (decide ((4 : Int) < x47)) H_1))))
def F20 (p0_0 p0_1 p0_2 p0_3 p0_4 : Int) (p0_5 : ByteArray) (p0_6 : Bool) (p0_7 : Int) (H : Hp) (Q : Int → Int → Int → Int → Int → ByteArray → Bool → Int → Hp → Prop) : Prop :=
∀ H1 : Hp, H1 = Array.push H (.cells (mR p0_0 p0_1 p0_2 p0_3 p0_4 p0_5 p0_6 p0_7).toArray 31) → (
 ∀ H3 : Hp, H3 = Array.push H1 (.cells (mR 0 0 0 0 0 bE false 0).toArray 31) → (
 ∃ x6 : Int, cell H3 (bk H) = some (iv x6) ∧ (
 (cell H3 (bk H)).isSome = true ∧ frz H3 (bk H) = false ∧ ∀ H7 : Hp, H7 = setc H3 (bk H) (iv (IntKind.i64.wrap (6 + (Int.tmod (IntKind.i64.wrap ((Int.tmod x6 (6 : Int)) + 6)) (6 : Int))))) → (
 ∃ x12 : Int, cell H7 (Addr.add (bk H) 1) = some (iv x12) ∧ (
 (cell H7 (Addr.add (bk H) 1)).isSome = true ∧ frz H7 (Addr.add (bk H) 1) = false ∧ ∀ H13 : Hp, H13 = setc H7 (Addr.add (bk H) 1) (iv (Int.tmod (IntKind.i64.wrap ((Int.tmod x12 (6 : Int)) + 6)) (6 : Int))) → (
 ∃ x18 : Int, cell H13 (Addr.add (bk H) 2) = some (iv x18) ∧ (
 (cell H13 (Addr.add (bk H) 2)).isSome = true ∧ frz H13 (Addr.add (bk H) 2) = false ∧ ∀ H19 : Hp, H19 = setc H13 (Addr.add (bk H) 2) (iv (Int.tmod (IntKind.i64.wrap ((Int.tmod x18 (6 : Int)) + 6)) (6 : Int))) → (
 ∃ (x24 x25 : Int) (x26 : ByteArray) (x27 : Bool), cells H19 (Addr.add (bk H) 3) (vR x24 x25 x26 x27) 0 ∧ (
 F13 x24 x25 x26 x27 H19 (fun (r30 : Bool) (H28 : Hp) => 
 ((!r30) = true → (mayw H28 (Addr.add (bk H) 3) 4 0 ∧ ∀ H34 : Hp, H34 = sets H28 (Addr.add (bk H) 3) (vR 1 0 bE false) 0 → (
 F20_1 Q (bk H) (bk H1) H34))) ∧
 ((!r30) = false → (F20_1 Q (bk H) (bk H1) H28))))))))))))
theorem walk20 {w0 : World} {p0_0 p0_1 p0_2 p0_3 p0_4 : Int} {p0_5 : ByteArray} {p0_6 : Bool} {p0_7 : Int} {H : Hp} {Q : Int → Int → Int → Int → Int → ByteArray → Bool → Int → Hp → Prop} (h : F20 p0_0 p0_1 p0_2 p0_3 p0_4 p0_5 p0_6 p0_7 H Q) :
  Good prog w0 20 #[(.agg (mR p0_0 p0_1 p0_2 p0_3 p0_4 p0_5 p0_6 p0_7).toArray)] H (fun v H => ∃ (r0 r1 r2 r3 r4 : Int) (r5 : ByteArray) (r6 : Bool) (r7 : Int) , v = (.agg (mR r0 r1 r2 r3 r4 r5 r6 r7).toArray) ∧ Q r0 r1 r2 r3 r4 r5 r6 r7 H) := by
 unfold F20 at h
 refine Good.enter' (fn := f20) func20 rfl rfl rfl (ws (wr_ (ho rfl (ob (v := (.agg (mR p0_0 p0_1 p0_2 p0_3 p0_4 p0_5 p0_6 p0_7).toArray)) rfl) ?_)))
 rintro _ H1 ⟨rfl, e2⟩
 replace h := h H1 e2
 refine ho rfl (HOp.alloc zeroValue31) ?_
 rintro _ H3 ⟨rfl, e4⟩
 replace h := h H3 e4
 refine hn (nt (ws (wr_ (hv (v := (pp (bk H))) rfl (HVal.fieldAddr0 runUnderlying31 rfl rfl sizeOf3 rfl) ?_))))
 obtain ⟨x6, c5, h⟩ := h
 refine hv (v := (iv x6)) rfl (l1 isAgg3 rfl c5) (hv (v := (iv (Int.tmod x6 (6 : Int)))) rfl (HVal.rem rfl rfl (by decide)) (hv (v := (iv (IntKind.i64.wrap ((Int.tmod x6 (6 : Int)) + 6)))) rfl (HVal.add rfl rfl) ?_))
 refine hv (v := (iv (Int.tmod (IntKind.i64.wrap ((Int.tmod x6 (6 : Int)) + 6)) (6 : Int)))) rfl (HVal.rem rfl rfl (by decide)) (hv (v := (iv (IntKind.i64.wrap (6 + (Int.tmod (IntKind.i64.wrap ((Int.tmod x6 (6 : Int)) + 6)) (6 : Int)))))) rfl (HVal.add rfl rfl) ?_)
 refine hv (v := (pp (bk H))) rfl (HVal.fieldAddr0 runUnderlying31 rfl rfl sizeOf3 rfl) ?_
 obtain ⟨z9, z10, h⟩ := h
 refine hq (HOp.store1 sizeOf3 rfl rfl rfl z9 z10) ?_
 rintro _ H7 e8
 replace h := h H7 e8
 refine hn (nt (ws (wr_ (hv (v := (pp (Addr.add (bk H) 1))) rfl (fa runUnderlying31 rfl rfl sizeOf3 rfl) ?_))))
 obtain ⟨x12, c11, h⟩ := h
 refine hv (v := (iv x12)) rfl (l1 isAgg3 rfl c11) (hv (v := (iv (Int.tmod x12 (6 : Int)))) rfl (HVal.rem rfl rfl (by decide)) (hv (v := (iv (IntKind.i64.wrap ((Int.tmod x12 (6 : Int)) + 6)))) rfl (HVal.add rfl rfl) ?_))
 refine hv (v := (iv (Int.tmod (IntKind.i64.wrap ((Int.tmod x12 (6 : Int)) + 6)) (6 : Int)))) rfl (HVal.rem rfl rfl (by decide)) (hv (v := (pp (Addr.add (bk H) 1))) rfl (fa runUnderlying31 rfl rfl sizeOf3 rfl) ?_)
 obtain ⟨z15, z16, h⟩ := h
 refine hq (HOp.store1 sizeOf3 rfl rfl rfl z15 z16) ?_
 rintro _ H13 e14
 replace h := h H13 e14
 refine hn (nt (ws (wr_ (hv (v := (pp (Addr.add (bk H) 2))) rfl (fa runUnderlying31 rfl rfl sizeOf3 rfl) ?_))))
 obtain ⟨x18, c17, h⟩ := h
 refine hv (v := (iv x18)) rfl (l1 isAgg3 rfl c17) (hv (v := (iv (Int.tmod x18 (6 : Int)))) rfl (HVal.rem rfl rfl (by decide)) (hv (v := (iv (IntKind.i64.wrap ((Int.tmod x18 (6 : Int)) + 6)))) rfl (HVal.add rfl rfl) ?_))
 refine hv (v := (iv (Int.tmod (IntKind.i64.wrap ((Int.tmod x18 (6 : Int)) + 6)) (6 : Int)))) rfl (HVal.rem rfl rfl (by decide)) (hv (v := (pp (Addr.add (bk H) 2))) rfl (fa runUnderlying31 rfl rfl sizeOf3 rfl) ?_)
 obtain ⟨z21, z22, h⟩ := h
 refine hq (HOp.store1 sizeOf3 rfl rfl rfl z21 z22) ?_
 rintro _ H19 e20
 replace h := h H19 e20
 refine hn (nt (ws (wr_ (hv (v := (pp (Addr.add (bk H) 3))) rfl (fa runUnderlying31 rfl rfl sizeOf25 rfl) ?_))))
 obtain ⟨x24, x25, x26, x27, c23, h⟩ := h
 refine hv (v := (.agg (vR x24 x25 x26 x27).toArray)) rfl (ln (vR x24 x25 x26 x27) isAgg25 sizeOf25 rfl c23) (ho rfl (HOp.call' 13 [(.agg (vR x24 x25 x26 x27).toArray)] (cap := []) rfl rfl call13 (walk13 h)) ?_)
 rintro _ H28 ⟨r30, rfl, h⟩
 refine hv (v := (bv r30)) rfl (av rfl) (hn (nt (wc (fun ρ H_1 => Env.Is ρ [(1, (pp (bk H))), (2, (pp (bk H1)))] ∧ F20_1 Q (bk H) (bk H1) H_1) ?_ ?_)))
 ·refine ws (wr_ (hv (v := (bv r30)) rfl (mv rfl) (hv (v := (bv (!r30))) rfl (HVal.not rfl) (hn (nt ?_)))))
  obtain ⟨hT, hF⟩ := h
  refine wk (!r30) rfl (fun hb33 => ?_) (fun hb33 => ?_)
  ·have h := hT hb33
   refine wr_ (hv (v := (.agg (vR 1 0 bE false).toArray)) rfl (HVal.build' (cs := (vR 1 0 bE false)) runUnderlying25 zeroValue25 places25 rfl) ?_)
   refine hv (v := (pp (Addr.add (bk H) 3))) rfl (fa runUnderlying31 rfl rfl sizeOf25 rfl) ?_
   obtain ⟨z36, h⟩ := h
   refine hq (HOp.storeN' (l := (vR 1 0 bE false)) sizeOf25 rfl rfl rfl z36) ?_
   rintro _ H34 e35
   replace h := h H34 e35
   refine hn (nt ?_)
   exact ⟨(isp rfl), h⟩
  have h := hF hb33
  refine wp_ (nt ?_)
  exact ⟨(isp rfl), h⟩
 rintro ρ H_1 ⟨hI, h⟩
 obtain ⟨ρ0, rfl⟩ := hI.ex
 clear hI; unfold F20_1 at h
 refine wc (fun ρ H_2 => Env.Is ρ [(1, (pp (bk H))), (2, (pp (bk H1)))] ∧ F20_2 Q (bk H) (bk H1) H_2) ?_ ?_
 ·refine wc (fun ρ H_3 => ∃ (y45 : Bool), Env.Is ρ [(1, (pp (bk H))), (2, (pp (bk H1))), (37, (bv y45))] ∧ F20_3 Q (bk H) (bk H1) y45 H_3) ?_ ?_
  ·refine wr_ (hv (v := (pp (Addr.add (bk H) 7))) rfl (fa runUnderlying31 rfl rfl sizeOf3 rfl) ?_)
   obtain ⟨x42, c41, h⟩ := h
   refine hv (v := (iv x42)) rfl (l1 isAgg3 rfl c41) (hv (v := (bv (decide (x42 < 0)))) rfl (HVal.lss rfl rfl) (hv (v := (bv (decide (x42 < 0)))) rfl (mv rfl) ?_))
   obtain ⟨hT, hF⟩ := h
   rcases Bool.eq_false_or_eq_true (decide (x42 < 0)) with hb43 | hb44
   ·have h := hT hb43
    refine hs_ rfl rfl rfl rfl (cB hb43) (hs_ rfl rfl rfl rfl (cB hb43) (hs_ rfl rfl rfl rfl (cB hb43) (hv (v := (bv true)) rfl (pt_ rfl hb43 rfl) ?_)))
    refine hn (nt ?_)
    exact ⟨true, (isp rfl), h⟩
   have h := hF hb44
   refine hg (v := (pp (Addr.add (bk H) 7))) rfl rfl rfl rfl (cB hb44) (fa runUnderlying31 rfl rfl sizeOf3 rfl) ?_
   obtain ⟨x47, c46, h⟩ := h
   refine hg (v := (iv x47)) rfl rfl rfl rfl (cB hb44) (l1 isAgg3 rfl c46) (hg (v := (bv (decide ((4 : Int) < x47)))) rfl rfl rfl rfl (cB hb44) (HVal.gtr rfl rfl) ?_)
   refine hv (v := (bv (decide ((4 : Int) < x47)))) rfl (pf_ rfl hb44 rfl) (hn (nt ?_))
   exact ⟨(decide ((4 : Int) < x47)), (isp rfl), h⟩
  rintro ρ H_3 ⟨y45, hI, h⟩
  obtain ⟨ρ0, rfl⟩ := hI.ex
  clear hI; unfold F20_3 at h
  obtain ⟨hT, hF⟩ := h
  refine wk y45 rfl (fun hb48 => ?_) (fun hb48 => ?_)
  ·have h := hT hb48
   refine wr_ (hv (v := (pp (Addr.add (bk H) 7))) rfl (fa runUnderlying31 rfl rfl sizeOf3 rfl) ?_)
   obtain ⟨z51, z52, h⟩ := h
   refine hq (HOp.store1 sizeOf3 rfl rfl rfl z51 z52) ?_
   rintro _ H49 e50
   replace h := h H49 e50
   refine hn (nt ?_)
   exact ⟨(isp rfl), h⟩
  have h := hF hb48
  refine wp_ (nt ?_)
  exact ⟨(isp rfl), h⟩
 rintro ρ H_2 ⟨hI, h⟩
 obtain ⟨ρ0, rfl⟩ := hI.ex
 clear hI; unfold F20_2 at h
 refine ws (wr_ ?_)
 obtain ⟨x54, x55, x56, x57, x58, x59, x60, x61, c53, h⟩ := h
 refine hv (v := (.agg (mR x54 x55 x56 x57 x58 x59 x60 x61).toArray)) rfl (ln (mR x54 x55 x56 x57 x58 x59 x60 x61) isAgg31 sizeOf31 rfl c53) ?_
 obtain ⟨z64, h⟩ := h
 refine hq (HOp.storeN' (l := (mR x54 x55 x56 x57 x58 x59 x60 x61)) sizeOf31 rfl rfl rfl z64) ?_
 rintro _ H62 e63
 replace h := h H62 e63
 refine hn (nt (HW.ret ?_))
 obtain ⟨x65, x66, x67, x68, x69, x70, x71, x72, c73, h⟩ := h
 exact ⟨_, resOf1 rfl (Res1.n (mR x65 x66 x67 x68 x69 x70 x71 x72) isAgg31 sizeOf31 rfl c73), ⟨x65, x66, x67, x68, x69, x70, x71, x72, rfl, h⟩⟩

def F7_1 (Q : Sl → Hp → Prop) (y49 : Sl) (H_1 : Hp) : Prop :=
Q y49 H_1
def F7_L2b (Q : Sl → Hp → Prop) (X2 : Sl → Int → Hp → Prop) (y3 y1 : Sl) (y2 : Int) (H_2 : Hp) : Prop :=
((decide (y2 < ((y3).n : Int))) = true → (((decide (y2 < 40)) = true → (∃ a7 : Addr, (y3).b = some a7 ∧ (0 : Int) ≤ y2 ∧ y2 < ((y3).n : Int) ∧ (
 ∃ (x12 x13 x14 x15 x16 : Int) (x17 : ByteArray) (x18 : Bool) (x19 : Int), cells H_2 (Addr.add a7 (y2.toNat * 8)) (mR x12 x13 x14 x15 x16 x17 x18 x19) 0 ∧ (
 F20 x12 x13 x14 x15 x16 x17 x18 x19 H_2 (fun (r22 r23 r24 r25 r26 : Int) (r27 : ByteArray) (r28 : Bool) (r29 : Int) (H20 : Hp) => 
 ∀ H30 : Hp, H30 = Array.push H20 (.cells (mR 0 0 0 0 0 bE false 0).toArray 31) → (
 mayw H30 (bk H20) 8 0 ∧ ∀ H32 : Hp, H32 = sets H30 (bk H20) (mR r22 r23 r24 r25 r26 r27 r28 r29) 0 → (
 ∃ (x36 x37 x38 x39 x40 : Int) (x41 : ByteArray) (x42 : Bool) (x43 : Int), cells H32 (bk H20) (mR x36 x37 x38 x39 x40 x41 x42 x43) 0 ∧ (
 ∀ H44 : Hp, H44 = Array.push H32 (.cells (mR x36 x37 x38 x39 x40 x41 x42 x43).toArray 31) → (
 AppendF H44 31 8 72 (mR 0 0 0 0 0 bE false 0).toArray y1 ((Sl.mk (some (bk H32)) 1 1)).b ((Sl.mk (some (bk H32)) 1 1)).n (fun (r48 : Sl) (H46 : Hp) => 
 X2 r48 (IntKind.i64.wrap (y2 + 1)) H46)))))))))) ∧
 ((decide (y2 < 40)) = false → (F7_1 Q y1 H_2)))) ∧
 ((decide (y2 < ((y3).n : Int))) = false → (F7_1 Q y1 H_2))
def F7_L2 (Q : Sl → Hp → Prop) (y3 y1 : Sl) (y2 : Int) (H_2 : Hp) : Prop :=
 ∀ X2 : Sl → Int → Hp → Prop, (∀ (y1 : Sl) (y2 : Int) (H_2 : Hp), F7_L2b Q X2 y3 y1 y2 H_2 → X2 y1 y2 H_2) → X2 y1 y2 H_2
def F7 (p0 : Sl) (H : Hp) (Q : Sl → Hp → Prop) : Prop :=
F7_L2 Q p0 Sl.nil 0 H
theorem walk7 {w0 : World} {p0 : Sl} {H : Hp} {Q : Sl → Hp → Prop} (h : F7 p0 H Q) :
  Good prog w0 7 #[(Sl.v p0)] H (fun v H => ∃ (r0 : Sl) , v = (Sl.v r0) ∧ Q r0 H) := by
 unfold F7 at h
 refine Good.enter' (fn := f7) func7 rfl rfl rfl (ws (wr_ (hv (v := sN) rfl (av rfl) (hn (nt (ws (wr_ ?_)))))))
 refine hv (v := sN) rfl (av rfl) (hn (nt (wc (fun ρ H_1 => ∃ (y49 : Sl), Env.Is ρ [(3, (Sl.v y49))] ∧ F7_1 Q y49 H_1) ?_ ?_)))
 ·refine ws (wr_ (hv (v := (iv 0)) rfl (av rfl) (hn (nt (wb (HW.loop' (fun L2 hL2 => ?_)))))))
  obtain ⟨X2, hX2⟩ : ∃ X2 : Sl → Int → Hp → Prop, ∀ (y1 : Sl) (y2 : Int) (H_2 : Hp), X2 y1 y2 H_2 ↔ ∀ ρ, Env.Is ρ [(0, (Sl.v p0)), (3, (Sl.v y1)), (4, (iv y2))] → L2 ρ H_2 := ⟨_, fun _ _ _ => Iff.rfl⟩
  refine (hX2 _ _ _).1 (h X2 ?_) _ ?_
  rotate_left
  ·exact (isp rfl)
  clear h
  intro y1 y2 H_2 h
  refine (hX2 _ _ _).2 fun ρ hI => ?_
  obtain ⟨ρ0, rfl⟩ := hI.ex
  clear hI; unfold F7_L2b at h; refine hL2 _ _ ?_
  refine ws (ws (wr_ (hv (v := (iv y2)) rfl (mv rfl) (hv (v := (Sl.v p0)) rfl (mv rfl) (hv (v := (iv ((p0).n : Int))) rfl (HVal.len runUnderlying22 rfl) ?_)))))
  refine hv (v := (bv (decide (y2 < ((p0).n : Int))))) rfl (HVal.lss rfl rfl) (hv (v := (bv (decide (y2 < ((p0).n : Int))))) rfl (mv rfl) ?_)
  obtain ⟨hT, hF⟩ := h
  rcases Bool.eq_false_or_eq_true (decide (y2 < ((p0).n : Int))) with hb4 | hb5
  ·have h := hT hb4
   refine hg (v := (iv y2)) rfl rfl rfl rfl (cB hb4) (mv rfl) (hg (v := (bv (decide (y2 < 40)))) rfl rfl rfl rfl (cB hb4) (HVal.lss rfl rfl) ?_)
   refine hv (v := (bv (decide (y2 < 40)))) rfl (pt_ rfl hb4 rfl) (hn (nt ?_))
   obtain ⟨hT, hF⟩ := h
   refine wk (decide (y2 < 40)) rfl (fun hb6 => ?_) (fun hb6 => ?_)
   ·have h := hT hb6
    refine wp_ (nt (ws (wb (ws (wr_ (hv (v := (Sl.v p0)) rfl (mv rfl) (hv (v := (iv y2)) rfl (mv rfl) ?_)))))))
    obtain ⟨a7, e8, b9, b10, h⟩ := h
    refine hv (v := (pp (Addr.add a7 (y2.toNat * 8)))) rfl (ia runUnderlying22 sizeOf31 (Sl.v_some rfl e8) rfl b9 b10) ?_
    obtain ⟨x12, x13, x14, x15, x16, x17, x18, x19, c11, h⟩ := h
    refine hv (v := (.agg (mR x12 x13 x14 x15 x16 x17 x18 x19).toArray)) rfl (ln (mR x12 x13 x14 x15 x16 x17 x18 x19) isAgg31 sizeOf31 rfl c11) ?_
    refine ho rfl (HOp.call' 20 [(.agg (mR x12 x13 x14 x15 x16 x17 x18 x19).toArray)] (cap := []) rfl rfl call20 (walk20 h)) ?_
    rintro _ H20 ⟨r22, r23, r24, r25, r26, r27, r28, r29, rfl, h⟩
    refine ho rfl (HOp.alloc zeroValue31) ?_
    rintro _ H30 ⟨rfl, e31⟩
    replace h := h H30 e31
    obtain ⟨z34, h⟩ := h
    refine hq (HOp.storeN' (l := (mR r22 r23 r24 r25 r26 r27 r28 r29)) sizeOf31 rfl rfl rfl z34) ?_
    rintro _ H32 e33
    replace h := h H32 e33
    refine hn (nt (wr_ (hv (v := (Sl.v y1)) rfl (mv rfl) ?_)))
    obtain ⟨x36, x37, x38, x39, x40, x41, x42, x43, c35, h⟩ := h
    refine hv (v := (.agg (mR x36 x37 x38 x39 x40 x41 x42 x43).toArray)) rfl (ln (mR x36 x37 x38 x39 x40 x41 x42 x43) isAgg31 sizeOf31 rfl c35) ?_
    refine ho rfl (HOp.buildSlice' (zs := (mR 0 0 0 0 0 bE false 0)) (cs := (mR x36 x37 x38 x39 x40 x41 x42 x43)) runUnderlying22 sizeOf31 zeroValue31 (by decide) (by kernel_rfl) (by kernel_rfl) (by decide)) ?_
    rintro _ H44 ⟨rfl, e45⟩
    replace h := h H44 e45
    refine ho rfl (HOp.append (k := 8) (b := 72) runUnderlying22 runUnderlying22 typeInfo31 rfl rfl zeroValue31 rfl rfl h) ?_
    rintro _ H46 ⟨r48, rfl, h⟩
    refine hv (v := (Sl.v r48)) rfl (av rfl) (hn (nb (nt (wr_ (hv (v := (iv y2)) rfl (mv rfl) (hv (v := (iv (IntKind.i64.wrap (y2 + 1)))) rfl (HVal.add rfl rfl) ?_))))))
    refine hv (v := (iv (IntKind.i64.wrap (y2 + 1)))) rfl (av rfl) (hn (nt ?_))
    exact (hX2 _ _ _).1 h _ (isp rfl)
   have h := hF hb6
   refine we (te (te (be (nt ?_))))
   exact ⟨y1, ⟨rfl, trivial⟩, h⟩
  have h := hF hb5
  refine hs_ rfl rfl rfl rfl (cB hb5) (hs_ rfl rfl rfl rfl (cB hb5) (hv (v := (bv false)) rfl (pf_ rfl hb5 rfl) (hn (nt ?_))))
  refine HW.condF false rfl rfl (we (te (te (be (nt ?_)))))
  exact ⟨y1, ⟨rfl, trivial⟩, h⟩
 rintro ρ H_1 ⟨y49, hI, h⟩
 obtain ⟨ρ0, rfl⟩ := hI.ex
 clear hI; unfold F7_1 at h
 refine ws (wr_ (hv (v := (Sl.v y49)) rfl (mv rfl) (hv (v := (Sl.v y49)) rfl (av rfl) (hn (nt (HW.ret ?_))))))
 exact ⟨_, resOf1 rfl Res1.t, ⟨y49, rfl, h⟩⟩

def F54_1 (Q : Bool → Hp → Prop) (y7 y8 : Int) (H_1 : Hp) : Prop :=
((decide (y7 = 1)) = true → (Q (decide (y8 = 1)) H_1)) ∧
 ((decide (y7 = 1)) = false → (((decide (y7 = 2)) = true → (Q (decide (y8 = 3)) H_1)) ∧
 ((decide (y7 = 2)) = false → (((decide (y7 = 4)) = true → (Q (decide (y8 ≠ 3)) H_1)) ∧
 ((decide (y7 = 4)) = false → (Q true H_1))))))
def F54_L2b (Q : Bool → Hp → Prop) (X2 : Int → Hp → Prop) (y10 y11 : Int) (y12 : Sl) (y13 y9 : Int) (H_2 : Hp) : Prop :=
((decide (y9 < y13)) = true → (∃ a15 : Addr, (y12).b = some a15 ∧ (0 : Int) ≤ y9 ∧ y9 < ((y12).n : Int) ∧ (
 ∃ (x20 x21 : Int) (x22 : ByteArray) (x23 : Bool), cells H_2 (Addr.add a15 (y9.toNat * 4)) (vR x20 x21 x22 x23) 0 ∧ (
 ∀ H24 : Hp, H24 = Array.push H_2 (.cells (vR 0 0 bE false).toArray 25) → (
 mayw H24 (bk H_2) 4 0 ∧ ∀ H26 : Hp, H26 = sets H24 (bk H_2) (vR x20 x21 x22 x23) 0 → (
 ∃ x30 : Int, cell H26 (bk H_2) = some (iv x30) ∧ (
 ((decide (x30 ≠ y11)) = true → (Q false H26)) ∧
 ((decide (x30 ≠ y11)) = false → (X2 (IntKind.i64.wrap (y9 + 1)) H26))))))))) ∧
 ((decide (y9 < y13)) = false → (F54_1 Q y10 y11 H_2))
def F54_L2 (Q : Bool → Hp → Prop) (y10 y11 : Int) (y12 : Sl) (y13 y9 : Int) (H_2 : Hp) : Prop :=
 ∀ X2 : Int → Hp → Prop, (∀ (y9 : Int) (H_2 : Hp), F54_L2b Q X2 y10 y11 y12 y13 y9 H_2 → X2 y9 H_2) → X2 y9 H_2
def F54 (p0 : Int) (p1 : Sl) (H : Hp) (Q : Bool → Hp → Prop) : Prop :=
∃ a1 : Addr, (p1).b = some a1 ∧ (0 : Int) ≤ 0 ∧ (0 : Int) < ((p1).n : Int) ∧ (
 ∃ x6 : Int, cell H (Addr.add a1 ((0 : Int).toNat * 4)) = some (iv x6) ∧ (
 F54_L2 Q p0 x6 p1 ((p1).n : Int) 0 H))
theorem walk54 {w0 : World} {p0 : Int} {p1 : Sl} {H : Hp} {Q : Bool → Hp → Prop} (h : F54 p0 p1 H Q) :
  Good prog w0 54 #[(iv p0), (Sl.v p1)] H (fun v H => ∃ (r0 : Bool) , v = (bv r0) ∧ Q r0 H) := by
 unfold F54 at h
 refine Good.enter' (fn := f54) func54 rfl rfl rfl (ws (wr_ (hv (v := (bv false)) rfl (av rfl) (hn (nt (ws ?_))))))
 refine wr_ (hv (v := (Sl.v p1)) rfl (mv rfl) ?_)
 obtain ⟨a1, e2, b3, b4, h⟩ := h
 refine hv (v := (pp (Addr.add a1 ((0 : Int).toNat * 4)))) rfl (ia runUnderlying71 sizeOf25 (Sl.v_some rfl e2) rfl b3 b4) ?_
 refine hv (v := (pp (Addr.add a1 ((0 : Int).toNat * 4)))) rfl (HVal.fieldAddr0 runUnderlying25 rfl rfl sizeOf3 rfl) ?_
 obtain ⟨x6, c5, h⟩ := h
 refine hv (v := (iv x6)) rfl (l1 isAgg3 rfl c5) (hv (v := (iv x6)) rfl (av rfl) (hn (nt (wc (fun ρ H_1 => Env.Is ρ [(0, (iv p0)), (5, (iv x6))] ∧ F54_1 Q p0 x6 H_1) ?_ ?_))))
 ·refine ws (wr_ (hv (v := (Sl.v p1)) rfl (mv rfl) (hv (v := (iv ((p1).n : Int))) rfl (HVal.len runUnderlying71 rfl) ?_)))
  refine hv (v := (iv 0)) rfl (mv rfl) (hn (nt (wb (HW.loop' (fun L2 hL2 => ?_)))))
  obtain ⟨X2, hX2⟩ : ∃ X2 : Int → Hp → Prop, ∀ (y9 : Int) (H_2 : Hp), X2 y9 H_2 ↔ ∀ ρ, Env.Is ρ [(0, (iv p0)), (5, (iv x6)), (12, (Sl.v p1)), (13, (iv ((p1).n : Int))), (14, (iv y9))] → L2 ρ H_2 := ⟨_, fun _ _ => Iff.rfl⟩
  refine (hX2 _ _).1 (h X2 ?_) _ ?_
  rotate_left
  ·exact (isp rfl)
  clear h
  intro y9 H_2 h
  refine (hX2 _ _).2 fun ρ hI => ?_
  obtain ⟨ρ0, rfl⟩ := hI.ex
  clear hI; unfold F54_L2b at h; refine hL2 _ _ ?_
  refine ws (wr_ (hv (v := (bv (decide (y9 < ((p1).n : Int))))) rfl (HVal.lss rfl rfl) (hn (nt (ws ?_)))))
  obtain ⟨hT, hF⟩ := h
  refine wk (decide (y9 < ((p1).n : Int))) rfl (fun hb14 => ?_) (fun hb14 => ?_)
  ·have h := hT hb14
   refine wp_ (nt (ws (wb (ws (wr_ ?_)))))
   obtain ⟨a15, e16, b17, b18, h⟩ := h
   refine hv (v := (pp (Addr.add a15 (y9.toNat * 4)))) rfl (ia runUnderlying71 sizeOf25 (Sl.v_some rfl e16) rfl b17 b18) ?_
   obtain ⟨x20, x21, x22, x23, c19, h⟩ := h
   refine hv (v := (.agg (vR x20 x21 x22 x23).toArray)) rfl (ln (vR x20 x21 x22 x23) isAgg25 sizeOf25 rfl c19) (ho rfl (HOp.alloc zeroValue25) ?_)
   rintro _ H24 ⟨rfl, e25⟩
   replace h := h H24 e25
   obtain ⟨z28, h⟩ := h
   refine hq (HOp.storeN' (l := (vR x20 x21 x22 x23)) sizeOf25 rfl rfl rfl z28) ?_
   rintro _ H26 e27
   replace h := h H26 e27
   refine hn (nt (ws (wr_ (hv (v := (pp (bk H_2))) rfl (HVal.fieldAddr0 runUnderlying25 rfl rfl sizeOf3 rfl) ?_))))
   obtain ⟨x30, c29, h⟩ := h
   refine hv (v := (iv x30)) rfl (l1 isAgg3 rfl c29) (hv (v := (iv x6)) rfl (mv rfl) (hv (v := (bv (decide (x30 ≠ x6)))) rfl (HVal.neqI rfl rfl) ?_))
   refine hn (nt ?_)
   obtain ⟨hT, hF⟩ := h
   refine wk (decide (x30 ≠ x6)) rfl (fun hb31 => ?_) (fun hb31 => ?_)
   ·have h := hT hb31
    refine ws (wr_ (hv (v := (bv false)) rfl (av rfl) (hn (nt (HW.ret (br (tr (tr (br (tr ?_))))))))))
    exact ⟨_, resOf1 rfl Res1.t, ⟨false, rfl, h⟩⟩
   have h := hF hb31
   refine wp_ (nb (nt (wr_ (hv (v := (iv (IntKind.i64.wrap (y9 + 1)))) rfl (HVal.add rfl rfl) (hv (v := (iv (IntKind.i64.wrap (y9 + 1)))) rfl (mv rfl) ?_)))))
   refine hn (nt ?_)
   exact (hX2 _ _).1 h _ (isp rfl)
  have h := hF hb14
  refine we (te (te (be (nt ?_))))
  exact ⟨(isp rfl), h⟩
 rintro ρ H_1 ⟨hI, h⟩
 obtain ⟨ρ0, rfl⟩ := hI.ex
 clear hI; unfold F54_1 at h
 refine ws (ws (wr_ (hv (v := (iv p0)) rfl (mv rfl) (hn (nt (wb (ws (wr_ (hv (v := (bv (decide (p0 = 1)))) rfl (HVal.eqlI rfl rfl) ?_)))))))))
 refine hv (v := (bv (decide (p0 = 1)))) rfl (av rfl) (hn (nt ?_))
 obtain ⟨hT, hF⟩ := h
 refine wk (decide (p0 = 1)) rfl (fun hb32 => ?_) (fun hb32 => ?_)
 ·have h := hT hb32
  refine ws (wr_ (hv (v := (iv x6)) rfl (mv rfl) (hv (v := (bv (decide (x6 = 1)))) rfl (HVal.eqlI rfl rfl) (hv (v := (bv (decide (x6 = 1)))) rfl (av rfl) ?_))))
  refine hn (nt (HW.ret (br (tr ?_))))
  exact ⟨_, resOf1 rfl Res1.t, ⟨(decide (x6 = 1)), rfl, h⟩⟩
 have h := hF hb32
 refine ws (wr_ (hv (v := (bv (decide (p0 = 2)))) rfl (HVal.eqlI rfl rfl) (hv (v := (bv (decide (p0 = 2)))) rfl (av rfl) ?_)))
 refine hn (nt ?_)
 obtain ⟨hT, hF⟩ := h
 refine wk (decide (p0 = 2)) rfl (fun hb33 => ?_) (fun hb33 => ?_)
 ·have h := hT hb33
  refine ws (wr_ (hv (v := (iv x6)) rfl (mv rfl) (hv (v := (bv (decide (x6 = 3)))) rfl (HVal.eqlI rfl rfl) (hv (v := (bv (decide (x6 = 3)))) rfl (av rfl) ?_))))
  refine hn (nt (HW.ret (br (tr ?_))))
  exact ⟨_, resOf1 rfl Res1.t, ⟨(decide (x6 = 3)), rfl, h⟩⟩
 have h := hF hb33
 refine ws (wr_ (hv (v := (bv (decide (p0 = 4)))) rfl (HVal.eqlI rfl rfl) (hv (v := (bv (decide (p0 = 4)))) rfl (av rfl) ?_)))
 refine hn (nt ?_)
 obtain ⟨hT, hF⟩ := h
 refine wk (decide (p0 = 4)) rfl (fun hb34 => ?_) (fun hb34 => ?_)
 ·have h := hT hb34
  refine ws (wr_ (hv (v := (iv x6)) rfl (mv rfl) (hv (v := (bv (decide (x6 ≠ 3)))) rfl (HVal.neqI rfl rfl) (hv (v := (bv (decide (x6 ≠ 3)))) rfl (av rfl) ?_))))
  refine hn (nt (HW.ret (br (tr ?_))))
  exact ⟨_, resOf1 rfl Res1.t, ⟨(decide (x6 ≠ 3)), rfl, h⟩⟩
 have h := hF hb34
 refine wp_ (nb (nt (ws (wr_ (hv (v := (bv true)) rfl (av rfl) (hn (nt (HW.ret ?_))))))))
 exact ⟨_, resOf1 rfl Res1.t, ⟨true, rfl, h⟩⟩

end Go.Hw
