/- The walks of this seat, printed by a program of this session (wip/tools/gen.py): of each function what it does to the heap, and that it does so. -/
import Derived.Test.YtkdjcmfmflljlaaDoorHwZ
import Derived.Test.YtkdjcmfmflljlaaDoorProg
import Derived.Test.YtkdjcmfmflljlaaDoorWAux
import Derived.Test.YtkdjcmfmflljlaaDoorWalkC
set_option linter.unusedVariables false
set_option linter.unusedSimpArgs false
set_option maxRecDepth 100000
set_option maxHeartbeats 4000000
namespace Go.Hw
open Go Go.Proofs Tryd
def F14_3 (Q : Bool → Hp → Prop) (y39 : Addr) (y46 : Bool) (H_3 : Hp) : Prop :=
(y46 = true → (∃ x49 : Int, cell H_3 (Addr.add y39 3) = some (iv x49) ∧ (
 Q (decide (x49 = 1)) H_3))) ∧
 (y46 = false → (Q true H_3))
def F14_2 (Q : Bool → Hp → Prop) (y15 y16 : Addr) (y23 : Bool) (H_2 : Hp) : Prop :=
(y23 = true → (∃ x26 : Int, cell H_2 (Addr.add y15 1) = some (iv x26) ∧ (
 (0 : Int) ≤ x26 ∧ x26 < ((6 : Nat) : Int) ∧ (
 ∃ x30 : Int, cell H_2 (Addr.add y16 (x26.toNat * 4)) = some (iv x30) ∧ (
 ((decide (x30 = 1)) = true → (∃ x34 : Int, cell H_2 (Addr.add y15 2) = some (iv x34) ∧ (
 (0 : Int) ≤ x34 ∧ x34 < ((6 : Nat) : Int) ∧ (
 ∃ x38 : Int, cell H_2 (Addr.add y16 (x34.toNat * 4)) = some (iv x38) ∧ (
 Q (decide (x38 = 1)) H_2))))) ∧
 ((decide (x30 = 1)) = false → (Q false H_2))))))) ∧
 (y23 = false → (∃ x41 : Int, cell H_2 (Addr.add y15 7) = some (iv x41) ∧ (
 ((decide (x41 < 2)) = true → (∃ x45 : Int, cell H_2 y15 = some (iv x45) ∧ (
 F14_3 Q y15 (decide (x45 ≠ 6)) H_2))) ∧
 ((decide (x41 < 2)) = false → (F14_3 Q y15 false H_2)))))
def F14_1 (Q : Bool → Hp → Prop) (y5 y6 : Addr) (y13 : Bool) (H_1 : Hp) : Prop :=
(y13 = true → (Q false H_1)) ∧
 (y13 = false → (∃ x18 : Int, cell H_1 (Addr.add y5 7) = some (iv x18) ∧ (
 ((decide (x18 = 2)) = true → (∃ x22 : Int, cell H_1 y5 = some (iv x22) ∧ (
 F14_2 Q y5 y6 (decide (x22 ≠ 6)) H_1))) ∧
 ((decide (x18 = 2)) = false → (F14_2 Q y5 y6 false H_1)))))
def F14 (p0_0 p0_1 p0_2 p0_3 p0_4 : Int) (p0_5 : ByteArray) (p0_6 : Bool) (p0_7 p1_0 p1_1 : Int) (p1_2 : ByteArray) (p1_3 : Bool) (p1_4 p1_5 : Int) (p1_6 : ByteArray) (p1_7 : Bool) (p1_8 p1_9 : Int) (p1_10 : ByteArray) (p1_11 : Bool) (p1_12 p1_13 : Int) (p1_14 : ByteArray) (p1_15 : Bool) (p1_16 p1_17 : Int) (p1_18 : ByteArray) (p1_19 : Bool) (p1_20 p1_21 : Int) (p1_22 : ByteArray) (p1_23 : Bool) (H : Hp) (Q : Bool → Hp → Prop) : Prop :=
∀ H1 : Hp, H1 = Array.push H (.cells (mR p0_0 p0_1 p0_2 p0_3 p0_4 p0_5 p0_6 p0_7).toArray 31) → (
 ∀ H3 : Hp, H3 = Array.push H1 (.cells (nR p1_0 p1_1 p1_2 p1_3 p1_4 p1_5 p1_6 p1_7 p1_8 p1_9 p1_10 p1_11 p1_12 p1_13 p1_14 p1_15 p1_16 p1_17 p1_18 p1_19 p1_20 p1_21 p1_22 p1_23).toArray 26) → (
 ∃ x8 : Int, cell H3 (bk H) = some (iv x8) ∧ (
 ((decide (x8 = 7)) = true → (∃ x12 : Int, cell H3 (Addr.add (bk H) 7) = some (iv x12) ∧ (
 F14_1 Q (bk H) (bk H1) (decide (x12 < 3)) H3))) ∧
 ((decide (x8 = 7)) = false → (F14_1 Q (bk H) (bk H1) false H3)))))
theorem walk14 {w0 : World} {p0_0 p0_1 p0_2 p0_3 p0_4 : Int} {p0_5 : ByteArray} {p0_6 : Bool} {p0_7 p1_0 p1_1 : Int} {p1_2 : ByteArray} {p1_3 : Bool} {p1_4 p1_5 : Int} {p1_6 : ByteArray} {p1_7 : Bool} {p1_8 p1_9 : Int} {p1_10 : ByteArray} {p1_11 : Bool} {p1_12 p1_13 : Int} {p1_14 : ByteArray} {p1_15 : Bool} {p1_16 p1_17 : Int} {p1_18 : ByteArray} {p1_19 : Bool} {p1_20 p1_21 : Int} {p1_22 : ByteArray} {p1_23 : Bool} {H : Hp} {Q : Bool → Hp → Prop} (h : F14 p0_0 p0_1 p0_2 p0_3 p0_4 p0_5 p0_6 p0_7 p1_0 p1_1 p1_2 p1_3 p1_4 p1_5 p1_6 p1_7 p1_8 p1_9 p1_10 p1_11 p1_12 p1_13 p1_14 p1_15 p1_16 p1_17 p1_18 p1_19 p1_20 p1_21 p1_22 p1_23 H Q) :
  Good prog w0 14 #[(.agg (mR p0_0 p0_1 p0_2 p0_3 p0_4 p0_5 p0_6 p0_7).toArray), (.agg (nR p1_0 p1_1 p1_2 p1_3 p1_4 p1_5 p1_6 p1_7 p1_8 p1_9 p1_10 p1_11 p1_12 p1_13 p1_14 p1_15 p1_16 p1_17 p1_18 p1_19 p1_20 p1_21 p1_22 p1_23).toArray)] H (fun v H => ∃ (r0 : Bool) , v = (bv r0) ∧ Q r0 H) := by
 unfold F14 at h
 refine Good.enter' (fn := f14) func14 rfl rfl rfl (ws (wr_ (ho rfl (ob (v := (.agg (mR p0_0 p0_1 p0_2 p0_3 p0_4 p0_5 p0_6 p0_7).toArray)) rfl) ?_)))
 rintro _ H1 ⟨rfl, e2⟩
 replace h := h H1 e2
 refine ho rfl (ob (v := (.agg (nR p1_0 p1_1 p1_2 p1_3 p1_4 p1_5 p1_6 p1_7 p1_8 p1_9 p1_10 p1_11 p1_12 p1_13 p1_14 p1_15 p1_16 p1_17 p1_18 p1_19 p1_20 p1_21 p1_22 p1_23).toArray)) rfl) ?_
 rintro _ H3 ⟨rfl, e4⟩
 replace h := h H3 e4
 refine hv (v := (bv false)) rfl (av rfl) (hn (nt (ws (wb (wc (fun ρ H_1 => ∃ (y13 : Bool), Env.Is ρ [(2, (pp (bk H))), (3, (pp (bk H1))), (5, (bv y13))] ∧ F14_1 Q (bk H) (bk H1) y13 H_1) ?_ ?_)))))
 ·refine wr_ (hv (v := (pp (bk H))) rfl (HVal.fieldAddr0 runUnderlying31 rfl rfl sizeOf3 rfl) ?_)
  obtain ⟨x8, c7, h⟩ := h
  refine hv (v := (iv x8)) rfl (l1 isAgg3 rfl c7) (hv (v := (bv (decide (x8 = 7)))) rfl (HVal.eqlI rfl rfl) (hv (v := (bv (decide (x8 = 7)))) rfl (mv rfl) ?_))
  obtain ⟨hT, hF⟩ := h
  rcases Bool.eq_false_or_eq_true (decide (x8 = 7)) with hb9 | hb10
  ·have h := hT hb9
   refine hg (v := (pp (Addr.add (bk H) 7))) rfl rfl rfl rfl (cB hb9) (fa runUnderlying31 rfl rfl sizeOf3 rfl) ?_
   obtain ⟨x12, c11, h⟩ := h
   refine hg (v := (iv x12)) rfl rfl rfl rfl (cB hb9) (l1 isAgg3 rfl c11) (hg (v := (bv (decide (x12 < 3)))) rfl rfl rfl rfl (cB hb9) (HVal.lss rfl rfl) ?_)
   refine hv (v := (bv (decide (x12 < 3)))) rfl (pt_ rfl hb9 rfl) (hv (v := (bv (decide (x12 < 3)))) rfl (av rfl) (hn (nt ?_)))
   exact ⟨(decide (x12 < 3)), (isp rfl), h⟩
  have h := hF hb10
  refine hs_ rfl rfl rfl rfl (cB hb10) (hs_ rfl rfl rfl rfl (cB hb10) (hs_ rfl rfl rfl rfl (cB hb10) (hv (v := (bv false)) rfl (pf_ rfl hb10 rfl) ?_)))
  refine hv (v := (bv false)) rfl (av rfl) (hn (nt ?_))
  exact ⟨false, (isp rfl), h⟩
 rintro ρ H_1 ⟨y13, hI, h⟩
 obtain ⟨ρ0, rfl⟩ := hI.ex
 clear hI; unfold F14_1 at h
 obtain ⟨hT, hF⟩ := h
 refine wk y13 rfl (fun hb14 => ?_) (fun hb14 => ?_)
 ·have h := hT hb14
  refine ws (wr_ (hv (v := (bv false)) rfl (av rfl) (hn (nt (HW.ret (br (tr ?_)))))))
  exact ⟨_, resOf1 rfl Res1.t, ⟨false, rfl, h⟩⟩
 have h := hF hb14
 refine wc (fun ρ H_2 => ∃ (y23 : Bool), Env.Is ρ [(2, (pp (bk H))), (3, (pp (bk H1))), (14, (bv y23))] ∧ F14_2 Q (bk H) (bk H1) y23 H_2) ?_ ?_
 ·refine wr_ (hv (v := (pp (Addr.add (bk H) 7))) rfl (fa runUnderlying31 rfl rfl sizeOf3 rfl) ?_)
  obtain ⟨x18, c17, h⟩ := h
  refine hv (v := (iv x18)) rfl (l1 isAgg3 rfl c17) (hv (v := (bv (decide (x18 = 2)))) rfl (HVal.eqlI rfl rfl) (hv (v := (bv (decide (x18 = 2)))) rfl (mv rfl) ?_))
  obtain ⟨hT, hF⟩ := h
  rcases Bool.eq_false_or_eq_true (decide (x18 = 2)) with hb19 | hb20
  ·have h := hT hb19
   refine hg (v := (pp (bk H))) rfl rfl rfl rfl (cB hb19) (HVal.fieldAddr0 runUnderlying31 rfl rfl sizeOf3 rfl) ?_
   obtain ⟨x22, c21, h⟩ := h
   refine hg (v := (iv x22)) rfl rfl rfl rfl (cB hb19) (l1 isAgg3 rfl c21) (hg (v := (bv (decide (x22 ≠ 6)))) rfl rfl rfl rfl (cB hb19) (HVal.neqI rfl rfl) ?_)
   refine hv (v := (bv (decide (x22 ≠ 6)))) rfl (pt_ rfl hb19 rfl) (hv (v := (bv (decide (x22 ≠ 6)))) rfl (av rfl) (hn (nt ?_)))
   exact ⟨(decide (x22 ≠ 6)), (isp rfl), h⟩
  have h := hF hb20
  refine hs_ rfl rfl rfl rfl (cB hb20) (hs_ rfl rfl rfl rfl (cB hb20) (hs_ rfl rfl rfl rfl (cB hb20) (hv (v := (bv false)) rfl (pf_ rfl hb20 rfl) ?_)))
  refine hv (v := (bv false)) rfl (av rfl) (hn (nt ?_))
  exact ⟨false, (isp rfl), h⟩
 rintro ρ H_2 ⟨y23, hI, h⟩
 obtain ⟨ρ0, rfl⟩ := hI.ex
 clear hI; unfold F14_2 at h
 obtain ⟨hT, hF⟩ := h
 refine wk y23 rfl (fun hb24 => ?_) (fun hb24 => ?_)
 ·have h := hT hb24
  refine ws (wr_ (hv (v := (pp (Addr.add (bk H) 1))) rfl (fa runUnderlying31 rfl rfl sizeOf3 rfl) ?_))
  obtain ⟨x26, c25, h⟩ := h
  refine hv (v := (iv x26)) rfl (l1 isAgg3 rfl c25) ?_
  obtain ⟨b27, b28, h⟩ := h
  refine hv (v := (pp (Addr.add (bk H1) (x26.toNat * 4)))) rfl (HVal.indexAddrA runUnderlying26 sizeOf25 rfl rfl b27 b28) (hv (v := (pp (Addr.add (bk H1) (x26.toNat * 4)))) rfl (HVal.fieldAddr0 runUnderlying25 rfl rfl sizeOf3 rfl) ?_)
  obtain ⟨x30, c29, h⟩ := h
  refine hv (v := (iv x30)) rfl (l1 isAgg3 rfl c29) (hv (v := (bv (decide (x30 = 1)))) rfl (HVal.eqlI rfl rfl) (hv (v := (bv (decide (x30 = 1)))) rfl (mv rfl) ?_))
  obtain ⟨hT, hF⟩ := h
  rcases Bool.eq_false_or_eq_true (decide (x30 = 1)) with hb31 | hb32
  ·have h := hT hb31
   refine hg (v := (pp (Addr.add (bk H) 2))) rfl rfl rfl rfl (cB hb31) (fa runUnderlying31 rfl rfl sizeOf3 rfl) ?_
   obtain ⟨x34, c33, h⟩ := h
   refine hg (v := (iv x34)) rfl rfl rfl rfl (cB hb31) (l1 isAgg3 rfl c33) ?_
   obtain ⟨b35, b36, h⟩ := h
   refine hg (v := (pp (Addr.add (bk H1) (x34.toNat * 4)))) rfl rfl rfl rfl (cB hb31) (HVal.indexAddrA runUnderlying26 sizeOf25 rfl rfl b35 b36) ?_
   refine hg (v := (pp (Addr.add (bk H1) (x34.toNat * 4)))) rfl rfl rfl rfl (cB hb31) (HVal.fieldAddr0 runUnderlying25 rfl rfl sizeOf3 rfl) ?_
   obtain ⟨x38, c37, h⟩ := h
   refine hg (v := (iv x38)) rfl rfl rfl rfl (cB hb31) (l1 isAgg3 rfl c37) (hg (v := (bv (decide (x38 = 1)))) rfl rfl rfl rfl (cB hb31) (HVal.eqlI rfl rfl) ?_)
   refine hv (v := (bv (decide (x38 = 1)))) rfl (pt_ rfl hb31 rfl) (hv (v := (bv (decide (x38 = 1)))) rfl (av rfl) (hn (nt ?_)))
   refine HW.ret (br (tr ?_))
   exact ⟨_, resOf1 rfl Res1.t, ⟨(decide (x38 = 1)), rfl, h⟩⟩
  have h := hF hb32
  refine hs_ rfl rfl rfl rfl (cB hb32) (hs_ rfl rfl rfl rfl (cB hb32) (hs_ rfl rfl rfl rfl (cB hb32) (hs_ rfl rfl rfl rfl (cB hb32) ?_)))
  refine hs_ rfl rfl rfl rfl (cB hb32) (hs_ rfl rfl rfl rfl (cB hb32) (hv (v := (bv false)) rfl (pf_ rfl hb32 rfl) (hv (v := (bv false)) rfl (av rfl) ?_)))
  refine hn (nt (HW.ret (br (tr ?_))))
  exact ⟨_, resOf1 rfl Res1.t, ⟨false, rfl, h⟩⟩
 have h := hF hb24
 refine wc (fun ρ H_3 => ∃ (y46 : Bool), Env.Is ρ [(2, (pp (bk H))), (37, (bv y46))] ∧ F14_3 Q (bk H) y46 H_3) ?_ ?_
 ·refine wr_ (hv (v := (pp (Addr.add (bk H) 7))) rfl (fa runUnderlying31 rfl rfl sizeOf3 rfl) ?_)
  obtain ⟨x41, c40, h⟩ := h
  refine hv (v := (iv x41)) rfl (l1 isAgg3 rfl c40) (hv (v := (bv (decide (x41 < 2)))) rfl (HVal.lss rfl rfl) (hv (v := (bv (decide (x41 < 2)))) rfl (mv rfl) ?_))
  obtain ⟨hT, hF⟩ := h
  rcases Bool.eq_false_or_eq_true (decide (x41 < 2)) with hb42 | hb43
  ·have h := hT hb42
   refine hg (v := (pp (bk H))) rfl rfl rfl rfl (cB hb42) (HVal.fieldAddr0 runUnderlying31 rfl rfl sizeOf3 rfl) ?_
   obtain ⟨x45, c44, h⟩ := h
   refine hg (v := (iv x45)) rfl rfl rfl rfl (cB hb42) (l1 isAgg3 rfl c44) (hg (v := (bv (decide (x45 ≠ 6)))) rfl rfl rfl rfl (cB hb42) (HVal.neqI rfl rfl) ?_)
   refine hv (v := (bv (decide (x45 ≠ 6)))) rfl (pt_ rfl hb42 rfl) (hv (v := (bv (decide (x45 ≠ 6)))) rfl (av rfl) (hn (nt ?_)))
   exact ⟨(decide (x45 ≠ 6)), (isp rfl), h⟩
  have h := hF hb43
  refine hs_ rfl rfl rfl rfl (cB hb43) (hs_ rfl rfl rfl rfl (cB hb43) (hs_ rfl rfl rfl rfl (cB hb43) (hv (v := (bv false)) rfl (pf_ rfl hb43 rfl) ?_)))
  refine hv (v := (bv false)) rfl (av rfl) (hn (nt ?_))
  exact ⟨false, (isp rfl), h⟩
 rintro ρ H_3 ⟨y46, hI, h⟩
 obtain ⟨ρ0, rfl⟩ := hI.ex
 clear hI; unfold F14_3 at h
 obtain ⟨hT, hF⟩ := h
 refine wk y46 rfl (fun hb47 => ?_) (fun hb47 => ?_)
 ·have h := hT hb47
  refine ws (wr_ (hv (v := (pp (Addr.add (bk H) 3))) rfl (fa runUnderlying31 rfl rfl sizeOf25 rfl) (hv (v := (pp (Addr.add (bk H) 3))) rfl (HVal.fieldAddr0 runUnderlying25 rfl rfl sizeOf3 rfl) ?_)))
  obtain ⟨x49, c48, h⟩ := h
  refine hv (v := (iv x49)) rfl (l1 isAgg3 rfl c48) (hv (v := (bv (decide (x49 = 1)))) rfl (HVal.eqlI rfl rfl) (hv (v := (bv (decide (x49 = 1)))) rfl (av rfl) ?_))
  refine hn (nt (HW.ret (br (tr ?_))))
  exact ⟨_, resOf1 rfl Res1.t, ⟨(decide (x49 = 1)), rfl, h⟩⟩
 have h := hF hb47
 refine wp_ (nb (nt (ws (wr_ (hv (v := (bv true)) rfl (av rfl) (hn (nt (HW.ret ?_))))))))
 exact ⟨_, resOf1 rfl Res1.t, ⟨true, rfl, h⟩⟩

def F4_8 (Q : Bool → Hp → Prop) (X7 : Int → Hp → Prop) (y183 : Sl) (y184 : Addr) (y185 : Int) (H_8 : Hp) : Prop :=
X7 (IntKind.i64.wrap (y185 + 1)) H_8
def F4_9 (Q : Bool → Hp → Prop) (X7 : Int → Hp → Prop) (y237 : Sl) (y238 : Addr) (y239 : Int) (y339 : Bool) (H_9 : Hp) : Prop :=
(y339 = true → (Q false H_9)) ∧
 (y339 = false → (F4_8 Q X7 y237 y238 y239 H_9))
def F4_11 (Q : Bool → Hp → Prop) (X7 : Int → Hp → Prop) (X10 : Bool → Int → Hp → Prop) (y247 : Sl) (y248 : Addr) (y249 : Int) (y250 : Addr) (y251 : Int) (y338 : Bool) (H_11 : Hp) : Prop :=
X10 y338 (IntKind.i64.wrap (y251 + 1)) H_11
def F4_L10b (Q : Bool → Hp → Prop) (X7 : Int → Hp → Prop) (X10 : Bool → Int → Hp → Prop) (y242 : Sl) (y243 : Addr) (y244 : Int) (y245 : Addr) (y240 : Bool) (y241 : Int) (H_10 : Hp) : Prop :=
((decide (y241 < ((y242).n : Int))) = true → (∃ a252 : Addr, (y242).b = some a252 ∧ (0 : Int) ≤ y241 ∧ y241 < ((y242).n : Int) ∧ (
 ∃ (x257 x258 x259 x260 x261 : Int) (x262 : ByteArray) (x263 : Bool) (x264 : Int), cells H_10 (Addr.add a252 (y241.toNat * 8)) (mR x257 x258 x259 x260 x261 x262 x263 x264) 0 ∧ (
 ∃ (x266 x267 : Int) (x268 : ByteArray) (x269 : Bool) (x270 x271 : Int) (x272 : ByteArray) (x273 : Bool) (x274 x275 : Int) (x276 : ByteArray) (x277 : Bool) (x278 x279 : Int) (x280 : ByteArray) (x281 : Bool) (x282 x283 : Int) (x284 : ByteArray) (x285 : Bool) (x286 x287 : Int) (x288 : ByteArray) (x289 : Bool), cells H_10 y243 (nR x266 x267 x268 x269 x270 x271 x272 x273 x274 x275 x276 x277 x278 x279 x280 x281 x282 x283 x284 x285 x286 x287 x288 x289) 0 ∧ (
 F14 x257 x258 x259 x260 x261 x262 x263 x264 x266 x267 x268 x269 x270 x271 x272 x273 x274 x275 x276 x277 x278 x279 x280 x281 x282 x283 x284 x285 x286 x287 x288 x289 H_10 (fun (r292 : Bool) (H290 : Hp) => 
 ∃ a293 : Addr, (y242).b = some a293 ∧ (0 : Int) ≤ y241 ∧ y241 < ((y242).n : Int) ∧ (
 ∃ (x298 x299 x300 x301 x302 : Int) (x303 : ByteArray) (x304 : Bool) (x305 : Int), cells H290 (Addr.add a293 (y241.toNat * 8)) (mR x298 x299 x300 x301 x302 x303 x304 x305) 0 ∧ (
 ∃ (x307 x308 : Int) (x309 : ByteArray) (x310 : Bool) (x311 x312 : Int) (x313 : ByteArray) (x314 : Bool) (x315 x316 : Int) (x317 : ByteArray) (x318 : Bool) (x319 x320 : Int) (x321 : ByteArray) (x322 : Bool) (x323 x324 : Int) (x325 : ByteArray) (x326 : Bool) (x327 x328 : Int) (x329 : ByteArray) (x330 : Bool), cells H290 y245 (nR x307 x308 x309 x310 x311 x312 x313 x314 x315 x316 x317 x318 x319 x320 x321 x322 x323 x324 x325 x326 x327 x328 x329 x330) 0 ∧ (
 F8 x298 x299 x300 x301 x302 x303 x304 x305 x307 x308 x309 x310 x311 x312 x313 x314 x315 x316 x317 x318 x319 x320 x321 x322 x323 x324 x325 x326 x327 x328 x329 x330 H290 (fun (r333 : Bool) (H331 : Hp) => 
 (y240 = true → (((!r292) = true → (F4_11 Q X7 X10 y242 y243 y244 y245 y241 true H331)) ∧
 ((!r292) = false → (F4_11 Q X7 X10 y242 y243 y244 y245 y241 r333 H331)))) ∧
 (y240 = false → (F4_11 Q X7 X10 y242 y243 y244 y245 y241 false H331)))))))))))) ∧
 ((decide (y241 < ((y242).n : Int))) = false → (F4_9 Q X7 y242 y243 y244 y240 H_10))
def F4_L10 (Q : Bool → Hp → Prop) (X7 : Int → Hp → Prop) (y242 : Sl) (y243 : Addr) (y244 : Int) (y245 : Addr) (y240 : Bool) (y241 : Int) (H_10 : Hp) : Prop :=
 ∀ X10 : Bool → Int → Hp → Prop, (∀ (y240 : Bool) (y241 : Int) (H_10 : Hp), F4_L10b Q X7 X10 y242 y243 y244 y245 y240 y241 H_10 → X10 y240 y241 H_10) → X10 y240 y241 H_10
def F4_L7b (Q : Bool → Hp → Prop) (X7 : Int → Hp → Prop) (y180 : Sl) (y181 : Addr) (y179 : Int) (H_7 : Hp) : Prop :=
((decide (y179 < 6)) = true → ((0 : Int) ≤ y179 ∧ y179 < ((6 : Nat) : Int) ∧ (
 ∃ x189 : Int, cell H_7 (Addr.add y181 (y179.toNat * 4)) = some (iv x189) ∧ (
 ((decide (x189 ≠ 1)) = true → (F4_8 Q X7 y180 y181 y179 H_7)) ∧
 ((decide (x189 ≠ 1)) = false → ((0 : Int) ≤ y179 ∧ y179 < ((6 : Nat) : Int) ∧ (
 ∃ x195 : Int, cell H_7 (Addr.add (Addr.add y181 (y179.toNat * 4)) 1) = some (iv x195) ∧ (
 ((decide (x195 = (-9223372036854775808))) = true → (F4_8 Q X7 y180 y181 y179 H_7)) ∧
 ((decide (x195 = (-9223372036854775808))) = false → (∃ (x198 x199 : Int) (x200 : ByteArray) (x201 : Bool) (x202 x203 : Int) (x204 : ByteArray) (x205 : Bool) (x206 x207 : Int) (x208 : ByteArray) (x209 : Bool) (x210 x211 : Int) (x212 : ByteArray) (x213 : Bool) (x214 x215 : Int) (x216 : ByteArray) (x217 : Bool) (x218 x219 : Int) (x220 : ByteArray) (x221 : Bool), cells H_7 y181 (nR x198 x199 x200 x201 x202 x203 x204 x205 x206 x207 x208 x209 x210 x211 x212 x213 x214 x215 x216 x217 x218 x219 x220 x221) 0 ∧ (
 ∀ H222 : Hp, H222 = Array.push H_7 (.cells (nR 0 0 bE false 0 0 bE false 0 0 bE false 0 0 bE false 0 0 bE false 0 0 bE false).toArray 26) → (
 mayw H222 (bk H_7) 24 0 ∧ ∀ H224 : Hp, H224 = sets H222 (bk H_7) (nR x198 x199 x200 x201 x202 x203 x204 x205 x206 x207 x208 x209 x210 x211 x212 x213 x214 x215 x216 x217 x218 x219 x220 x221) 0 → (
 (0 : Int) ≤ y179 ∧ y179 < ((6 : Nat) : Int) ∧ (
 ∃ x230 : Int, cell H224 (Addr.add (Addr.add (bk H_7) (y179.toNat * 4)) 1) = some (iv x230) ∧ (
 (0 : Int) ≤ y179 ∧ y179 < ((6 : Nat) : Int) ∧ (
 (cell H224 (Addr.add (Addr.add (bk H_7) (y179.toNat * 4)) 1)).isSome = true ∧ frz H224 (Addr.add (Addr.add (bk H_7) (y179.toNat * 4)) 1) = false ∧ ∀ H233 : Hp, H233 = setc H224 (Addr.add (Addr.add (bk H_7) (y179.toNat * 4)) 1) (iv (IntKind.i64.wrap (x230 - 1))) → (
 F4_L10 Q X7 y180 y181 y179 (bk H_7) true 0 H233))))))))))))))))) ∧
 ((decide (y179 < 6)) = false → (Q true H_7))
def F4_L7 (Q : Bool → Hp → Prop) (y180 : Sl) (y181 : Addr) (y179 : Int) (H_7 : Hp) : Prop :=
 ∀ X7 : Int → Hp → Prop, (∀ (y179 : Int) (H_7 : Hp), F4_L7b Q X7 y180 y181 y179 H_7 → X7 y179 H_7) → X7 y179 H_7
def F4_4 (Q : Bool → Hp → Prop) (y84 : Sl) (y85 : Addr) (H_4 : Hp) : Prop :=
F4_L7 Q y84 y85 0 H_4
def F4_6 (Q : Bool → Hp → Prop) (X5 : Int → Hp → Prop) (y172 : Sl) (y173 : Addr) (y174 : Int) (y177 : Bool) (H_6 : Hp) : Prop :=
(y177 = true → (Q false H_6)) ∧
 (y177 = false → (X5 (IntKind.i64.wrap (y174 + 1)) H_6))
def F4_L5b (Q : Bool → Hp → Prop) (X5 : Int → Hp → Prop) (y87 : Sl) (y88 : Addr) (y86 : Int) (H_5 : Hp) : Prop :=
((decide (y86 < ((y87).n : Int))) = true → (∃ a90 : Addr, (y87).b = some a90 ∧ (0 : Int) ≤ y86 ∧ y86 < ((y87).n : Int) ∧ (
 ∃ (x95 x96 x97 x98 x99 : Int) (x100 : ByteArray) (x101 : Bool) (x102 : Int), cells H_5 (Addr.add a90 (y86.toNat * 8)) (mR x95 x96 x97 x98 x99 x100 x101 x102) 0 ∧ (
 ∃ (x104 x105 : Int) (x106 : ByteArray) (x107 : Bool) (x108 x109 : Int) (x110 : ByteArray) (x111 : Bool) (x112 x113 : Int) (x114 : ByteArray) (x115 : Bool) (x116 x117 : Int) (x118 : ByteArray) (x119 : Bool) (x120 x121 : Int) (x122 : ByteArray) (x123 : Bool) (x124 x125 : Int) (x126 : ByteArray) (x127 : Bool), cells H_5 y88 (nR x104 x105 x106 x107 x108 x109 x110 x111 x112 x113 x114 x115 x116 x117 x118 x119 x120 x121 x122 x123 x124 x125 x126 x127) 0 ∧ (
 F14 x95 x96 x97 x98 x99 x100 x101 x102 x104 x105 x106 x107 x108 x109 x110 x111 x112 x113 x114 x115 x116 x117 x118 x119 x120 x121 x122 x123 x124 x125 x126 x127 H_5 (fun (r130 : Bool) (H128 : Hp) => 
 ∃ a131 : Addr, (y87).b = some a131 ∧ (0 : Int) ≤ y86 ∧ y86 < ((y87).n : Int) ∧ (
 ∃ (x136 x137 x138 x139 x140 : Int) (x141 : ByteArray) (x142 : Bool) (x143 : Int), cells H128 (Addr.add a131 (y86.toNat * 8)) (mR x136 x137 x138 x139 x140 x141 x142 x143) 0 ∧ (
 ∃ (x145 x146 : Int) (x147 : ByteArray) (x148 : Bool) (x149 x150 : Int) (x151 : ByteArray) (x152 : Bool) (x153 x154 : Int) (x155 : ByteArray) (x156 : Bool) (x157 x158 : Int) (x159 : ByteArray) (x160 : Bool) (x161 x162 : Int) (x163 : ByteArray) (x164 : Bool) (x165 x166 : Int) (x167 : ByteArray) (x168 : Bool), cells H128 y88 (nR x145 x146 x147 x148 x149 x150 x151 x152 x153 x154 x155 x156 x157 x158 x159 x160 x161 x162 x163 x164 x165 x166 x167 x168) 0 ∧ (
 F8 x136 x137 x138 x139 x140 x141 x142 x143 x145 x146 x147 x148 x149 x150 x151 x152 x153 x154 x155 x156 x157 x158 x159 x160 x161 x162 x163 x164 x165 x166 x167 x168 H128 (fun (r171 : Bool) (H169 : Hp) => 
 (r130 = true → (F4_6 Q X5 y87 y88 y86 (!r171) H169)) ∧
 (r130 = false → (F4_6 Q X5 y87 y88 y86 false H169)))))))))))) ∧
 ((decide (y86 < ((y87).n : Int))) = false → (F4_4 Q y87 y88 H_5))
def F4_L5 (Q : Bool → Hp → Prop) (y87 : Sl) (y88 : Addr) (y86 : Int) (H_5 : Hp) : Prop :=
 ∀ X5 : Int → Hp → Prop, (∀ (y86 : Int) (H_5 : Hp), F4_L5b Q X5 y87 y88 y86 H_5 → X5 y86 H_5) → X5 y86 H_5
def F4_1 (Q : Bool → Hp → Prop) (y21 : Sl) (y22 : Addr) (H_1 : Hp) : Prop :=
F4_L5 Q y21 y22 0 H_1
def F4_3 (Q : Bool → Hp → Prop) (X2 : Int → Hp → Prop) (y64 y65 : Sl) (y66 : Addr) (y67 : Sl) (y68 : Int) (y69 : Addr) (y72 : Bool) (H_3 : Hp) : Prop :=
(y72 = true → (Q false H_3)) ∧
 (y72 = false → (∃ (x75 x76 : Int) (x77 : ByteArray) (x78 : Bool), cells H_3 y69 (vR x75 x76 x77 x78) 0 ∧ (
 (0 : Int) ≤ y68 ∧ y68 < ((6 : Nat) : Int) ∧ (
 mayw H_3 (Addr.add y66 (y68.toNat * 4)) 4 0 ∧ ∀ H81 : Hp, H81 = sets H_3 (Addr.add y66 (y68.toNat * 4)) (vR x75 x76 x77 x78) 0 → (
 X2 (IntKind.i64.wrap (y68 + 1)) H81)))))
def F4_L2b (Q : Bool → Hp → Prop) (X2 : Int → Hp → Prop) (y24 y25 : Sl) (y26 : Addr) (y27 : Sl) (y23 : Int) (H_2 : Hp) : Prop :=
((decide (y23 < 6)) = true → (∃ a29 : Addr, (y27).b = some a29 ∧ (0 : Int) ≤ y23 ∧ y23 < ((y27).n : Int) ∧ (
 ∃ (x34 x35 x36 x37 : Int) (x38 : ByteArray) (x39 : Bool) (x40 : ByteArray) (x41 : Int) (x42 : ByteArray) (x43 : Sl), cells H_2 (Addr.add a29 (y23.toNat * 10)) (eR x34 x35 x36 x37 x38 x39 x40 x41 x42 x43) 0 ∧ (
 F12 y25 x34 x35 x36 x37 x38 x39 x40 x41 x42 x43 H_2 (fun (r46 r47 : Int) (r48 : ByteArray) (r49 r50 : Bool) (H44 : Hp) => 
 ∀ H51 : Hp, H51 = Array.push H44 (.cells (vR 0 0 bE false).toArray 25) → (
 mayw H51 (bk H44) 4 0 ∧ ∀ H53 : Hp, H53 = sets H51 (bk H44) (vR r46 r47 r48 r49) 0 → (
 ∃ (x57 x58 : Int) (x59 : ByteArray) (x60 : Bool), cells H53 (bk H44) (vR x57 x58 x59 x60) 0 ∧ (
 F13 x57 x58 x59 x60 H53 (fun (r63 : Bool) (H61 : Hp) => 
 (r50 = true → (F4_3 Q X2 y24 y25 y26 y27 y23 (bk H44) (!r63) H61)) ∧
 (r50 = false → (F4_3 Q X2 y24 y25 y26 y27 y23 (bk H44) false H61))))))))))) ∧
 ((decide (y23 < 6)) = false → (F4_1 Q y24 y26 H_2))
def F4_L2 (Q : Bool → Hp → Prop) (y24 y25 : Sl) (y26 : Addr) (y27 : Sl) (y23 : Int) (H_2 : Hp) : Prop :=
 ∀ X2 : Int → Hp → Prop, (∀ (y23 : Int) (H_2 : Hp), F4_L2b Q X2 y24 y25 y26 y27 y23 H_2 → X2 y23 H_2) → X2 y23 H_2
def F4 (p0 p1 : Sl) (H : Hp) (Q : Bool → Hp → Prop) : Prop :=
F6 H (fun (r3 : Bool) (H1 : Hp) => 
 ((!r3) = true → (Q false H1)) ∧
 ((!r3) = false → (F7 p0 H1 (fun (r7 : Sl) (H5 : Hp) => 
 F10 r7 p1 H5 (fun (r10 : Sl) (H8 : Hp) => 
 F9 r10 H8 (fun (r13 : Sl) (r14 : Bool) (H11 : Hp) => 
 ((!r14) = true → (Q (decide (((r13).n : Int) = 0)) H11)) ∧
 ((!r14) = false → (∀ H16 : Hp, H16 = Array.push H11 (.cells (nR 0 0 bE false 0 0 bE false 0 0 bE false 0 0 bE false 0 0 bE false 0 0 bE false).toArray 26) → (
 F11 H16 (fun (r20 : Sl) (H18 : Hp) => 
 F4_L2 Q r7 r13 (bk H11) r20 0 H18))))))))))
theorem walk4 {w0 : World} {p0 p1 : Sl} {H : Hp} {Q : Bool → Hp → Prop} (h : F4 p0 p1 H Q) :
  Good prog w0 4 #[(Sl.v p0), (Sl.v p1)] H (fun v H => ∃ (r0 : Bool) , v = (bv r0) ∧ Q r0 H) := by
 unfold F4 at h
 refine Good.enter' (fn := f4) func4 rfl rfl rfl (ws (wr_ (hv (v := (bv false)) rfl (av rfl) (hn (nt (ws ?_))))))
 refine wr_ (ho rfl (HOp.call' 6 [] (cap := []) rfl rfl call6 (walk6 h)) ?_)
 rintro _ H1 ⟨r3, rfl, h⟩
 refine hv (v := (bv r3)) rfl (av rfl) (hn (nt (ws (ws (wr_ (hv (v := (bv r3)) rfl (mv rfl) (hv (v := (bv (!r3))) rfl (HVal.not rfl) ?_)))))))
 refine hn (nt ?_)
 obtain ⟨hT, hF⟩ := h
 refine wk (!r3) rfl (fun hb4 => ?_) (fun hb4 => ?_)
 ·have h := hT hb4
  refine ws (wr_ (hv (v := (bv false)) rfl (av rfl) (hn (nt (HW.ret (tr ?_))))))
  exact ⟨_, resOf1 rfl Res1.t, ⟨false, rfl, h⟩⟩
 have h := hF hb4
 refine wp_ (nt (ws (wr_ (hv (v := (Sl.v p0)) rfl (mv rfl) (ho rfl (HOp.call' 7 [(Sl.v p0)] (cap := []) rfl rfl call7 (walk7 h)) ?_)))))
 rintro _ H5 ⟨r7, rfl, h⟩
 refine hv (v := (Sl.v r7)) rfl (av rfl) (hn (nt (ws (wr_ (hv (v := (Sl.v r7)) rfl (mv rfl) (hv (v := (Sl.v p1)) rfl (mv rfl) ?_))))))
 refine ho rfl (HOp.call' 10 [(Sl.v r7), (Sl.v p1)] (cap := []) rfl rfl call10 (walk10 h)) ?_
 rintro _ H8 ⟨r10, rfl, h⟩
 refine ho rfl (HOp.call' 9 [(Sl.v r10)] (cap := []) rfl rfl call9 (walk9 h)) ?_
 rintro _ H11 ⟨r13, r14, rfl, h⟩
 refine hv (v := (.tuple #[(Sl.v r13), (bv r14)])) rfl (mv rfl) (hv (v := (Sl.v r13)) rfl (HVal.extract rfl rfl) (hv (v := (bv r14)) rfl (HVal.extract rfl rfl) ?_))
 refine hv (v := (Sl.v r13)) rfl (av rfl) (hv (v := (bv r14)) rfl (av rfl) (hn (nt (ws (ws (wr_ ?_))))))
 refine hv (v := (bv r14)) rfl (mv rfl) (hv (v := (bv (!r14))) rfl (HVal.not rfl) (hn (nt ?_)))
 obtain ⟨hT, hF⟩ := h
 refine wk (!r14) rfl (fun hb15 => ?_) (fun hb15 => ?_)
 ·have h := hT hb15
  refine ws (wr_ (hv (v := (Sl.v r13)) rfl (mv rfl) (hv (v := (iv ((r13).n : Int))) rfl (HVal.len runUnderlying32 rfl) ?_)))
  refine hv (v := (bv (decide (((r13).n : Int) = 0)))) rfl (HVal.eqlI rfl rfl) (hv (v := (bv (decide (((r13).n : Int) = 0)))) rfl (av rfl) ?_)
  refine hn (nt (HW.ret (tr ?_)))
  exact ⟨_, resOf1 rfl Res1.t, ⟨(decide (((r13).n : Int) = 0)), rfl, h⟩⟩
 have h := hF hb15
 refine wp_ (nt (ws (wr_ (ho rfl (HOp.alloc zeroValue26) ?_))))
 rintro _ H16 ⟨rfl, e17⟩
 replace h := h H16 e17
 refine hn (nt (ws (wr_ (ho rfl (HOp.call' 11 [] (cap := []) rfl rfl call11 (walk11 h)) ?_))))
 rintro _ H18 ⟨r20, rfl, h⟩
 refine hv (v := (Sl.v r20)) rfl (av rfl) (hn (nt (wc (fun ρ H_1 => Env.Is ρ [(0, (Sl.v r7)), (8, (pp (bk H11)))] ∧ F4_1 Q r7 (bk H11) H_1) ?_ ?_)))
 ·refine ws (wr_ (hv (v := (iv 0)) rfl (av rfl) (hn (nt (wb (HW.loop' (fun L2 hL2 => ?_)))))))
  obtain ⟨X2, hX2⟩ : ∃ X2 : Int → Hp → Prop, ∀ (y23 : Int) (H_2 : Hp), X2 y23 H_2 ↔ ∀ ρ, Env.Is ρ [(0, (Sl.v r7)), (6, (Sl.v r13)), (8, (pp (bk H11))), (9, (Sl.v r20)), (10, (iv y23))] → L2 ρ H_2 := ⟨_, fun _ _ => Iff.rfl⟩
  refine (hX2 _ _).1 (h X2 ?_) _ ?_
  rotate_left
  ·exact (isp rfl)
  clear h
  intro y23 H_2 h
  refine (hX2 _ _).2 fun ρ hI => ?_
  obtain ⟨ρ0, rfl⟩ := hI.ex
  clear hI; unfold F4_L2b at h; refine hL2 _ _ ?_
  refine ws (ws (wr_ (hv (v := (iv y23)) rfl (mv rfl) (hv (v := (bv (decide (y23 < 6)))) rfl (HVal.lss rfl rfl) (hn (nt ?_))))))
  obtain ⟨hT, hF⟩ := h
  refine wk (decide (y23 < 6)) rfl (fun hb28 => ?_) (fun hb28 => ?_)
  ·have h := hT hb28
   refine wp_ (nt (ws (wb (ws (wr_ (hv (v := (Sl.v r13)) rfl (mv rfl) (hv (v := (Sl.v r20)) rfl (mv rfl) ?_)))))))
   refine hv (v := (iv y23)) rfl (mv rfl) ?_
   obtain ⟨a29, e30, b31, b32, h⟩ := h
   refine hv (v := (pp (Addr.add a29 (y23.toNat * 10)))) rfl (ia runUnderlying35 sizeOf41 (Sl.v_some rfl e30) rfl b31 b32) ?_
   obtain ⟨x34, x35, x36, x37, x38, x39, x40, x41, x42, x43, c33, h⟩ := h
   refine hv (v := (.agg (eR x34 x35 x36 x37 x38 x39 x40 x41 x42 x43).toArray)) rfl (ln (eR x34 x35 x36 x37 x38 x39 x40 x41 x42 x43) isAgg41 sizeOf41 rfl c33) ?_
   refine ho rfl (HOp.call' 12 [(Sl.v r13), (.agg (eR x34 x35 x36 x37 x38 x39 x40 x41 x42 x43).toArray)] (cap := []) rfl rfl call12 (walk12 h)) ?_
   rintro _ H44 ⟨r46, r47, r48, r49, r50, rfl, h⟩
   refine hv (v := (.tuple #[(.agg (vR r46 r47 r48 r49).toArray), (bv r50)])) rfl (mv rfl) (hv (v := (.agg (vR r46 r47 r48 r49).toArray)) rfl (HVal.extract rfl rfl) ?_)
   refine hv (v := (bv r50)) rfl (HVal.extract rfl rfl) (ho rfl (HOp.alloc zeroValue25) ?_)
   rintro _ H51 ⟨rfl, e52⟩
   replace h := h H51 e52
   obtain ⟨z55, h⟩ := h
   refine hq (HOp.storeN' (l := (vR r46 r47 r48 r49)) sizeOf25 rfl rfl rfl z55) ?_
   rintro _ H53 e54
   replace h := h H53 e54
   refine hv (v := (bv r50)) rfl (av rfl) (hn (nt (ws (wr_ ?_))))
   obtain ⟨x57, x58, x59, x60, c56, h⟩ := h
   refine hv (v := (.agg (vR x57 x58 x59 x60).toArray)) rfl (ln (vR x57 x58 x59 x60) isAgg25 sizeOf25 rfl c56) (ho rfl (HOp.call' 13 [(.agg (vR x57 x58 x59 x60).toArray)] (cap := []) rfl rfl call13 (walk13 h)) ?_)
   rintro _ H61 ⟨r63, rfl, h⟩
   refine hv (v := (bv r63)) rfl (av rfl) (hn (nt (ws (wc (fun ρ H_3 => ∃ (y72 : Bool), Env.Is ρ [(0, (Sl.v r7)), (6, (Sl.v r13)), (8, (pp (bk H11))), (9, (Sl.v r20)), (10, (iv y23)), (11, (pp (bk H44))), (60, (bv y72))] ∧ F4_3 Q X2 r7 r13 (bk H11) r20 y23 (bk H44) y72 H_3) ?_ ?_))))
   ·refine wr_ (hv (v := (bv r50)) rfl (mv rfl) (hv (v := (bv r50)) rfl (mv rfl) ?_))
    obtain ⟨hT, hF⟩ := h
    rcases Bool.eq_false_or_eq_true r50 with hb70 | hb71
    ·have h := hT hb70
     refine hg (v := (bv r63)) rfl rfl rfl rfl (cB hb70) (mv rfl) (hg (v := (bv (!r63))) rfl rfl rfl rfl (cB hb70) (HVal.not rfl) (hv (v := (bv (!r63))) rfl (pt_ rfl hb70 rfl) ?_))
     refine hn (nt ?_)
     exact ⟨(!r63), (isp rfl), h⟩
    have h := hF hb71
    refine hs_ rfl rfl rfl rfl (cB hb71) (hs_ rfl rfl rfl rfl (cB hb71) (hv (v := (bv false)) rfl (pf_ rfl hb71 rfl) (hn (nt ?_))))
    exact ⟨false, (isp rfl), h⟩
   rintro ρ H_3 ⟨y72, hI, h⟩
   obtain ⟨ρ0, rfl⟩ := hI.ex
   clear hI; unfold F4_3 at h
   obtain ⟨hT, hF⟩ := h
   refine wk y72 rfl (fun hb73 => ?_) (fun hb73 => ?_)
   ·have h := hT hb73
    refine ws (wr_ (hv (v := (bv false)) rfl (av rfl) (hn (nt (HW.ret (tr (br (tr (tr (br (tr ?_)))))))))))
    exact ⟨_, resOf1 rfl Res1.t, ⟨false, rfl, h⟩⟩
   have h := hF hb73
   refine wp_ (nt (wr_ (hv (v := (iv y23)) rfl (mv rfl) ?_)))
   obtain ⟨x75, x76, x77, x78, c74, h⟩ := h
   refine hv (v := (.agg (vR x75 x76 x77 x78).toArray)) rfl (ln (vR x75 x76 x77 x78) isAgg25 sizeOf25 rfl c74) ?_
   obtain ⟨b79, b80, h⟩ := h
   refine hv (v := (pp (Addr.add (bk H11) (y23.toNat * 4)))) rfl (HVal.indexAddrA runUnderlying26 sizeOf25 rfl rfl b79 b80) ?_
   obtain ⟨z83, h⟩ := h
   refine hq (HOp.storeN' (l := (vR x75 x76 x77 x78)) sizeOf25 rfl rfl rfl z83) ?_
   rintro _ H81 e82
   replace h := h H81 e82
   refine hn (nb (nt (wr_ (hv (v := (iv y23)) rfl (mv rfl) (hv (v := (iv (IntKind.i64.wrap (y23 + 1)))) rfl (HVal.add rfl rfl) ?_)))))
   refine hv (v := (iv (IntKind.i64.wrap (y23 + 1)))) rfl (av rfl) (hn (nt ?_))
   exact (hX2 _ _).1 h _ (isp rfl)
  have h := hF hb28
  refine we (te (te (be (nt ?_))))
  exact ⟨(isp rfl), h⟩
 rintro ρ H_1 ⟨hI, h⟩
 obtain ⟨ρ0, rfl⟩ := hI.ex
 clear hI; unfold F4_1 at h
 refine wc (fun ρ H_4 => Env.Is ρ [(0, (Sl.v r7)), (8, (pp (bk H11)))] ∧ F4_4 Q r7 (bk H11) H_4) ?_ ?_
 ·refine ws (wr_ (hv (v := (iv 0)) rfl (av rfl) (hn (nt (wb (HW.loop' (fun L5 hL5 => ?_)))))))
  obtain ⟨X5, hX5⟩ : ∃ X5 : Int → Hp → Prop, ∀ (y86 : Int) (H_5 : Hp), X5 y86 H_5 ↔ ∀ ρ, Env.Is ρ [(0, (Sl.v r7)), (8, (pp (bk H11))), (14, (iv y86))] → L5 ρ H_5 := ⟨_, fun _ _ => Iff.rfl⟩
  refine (hX5 _ _).1 (h X5 ?_) _ ?_
  rotate_left
  ·exact (isp rfl)
  clear h
  intro y86 H_5 h
  refine (hX5 _ _).2 fun ρ hI => ?_
  obtain ⟨ρ0, rfl⟩ := hI.ex
  clear hI; unfold F4_L5b at h; refine hL5 _ _ ?_
  refine ws (ws (wr_ (hv (v := (iv y86)) rfl (mv rfl) (hv (v := (Sl.v r7)) rfl (mv rfl) (hv (v := (iv ((r7).n : Int))) rfl (HVal.len runUnderlying22 rfl) ?_)))))
  refine hv (v := (bv (decide (y86 < ((r7).n : Int))))) rfl (HVal.lss rfl rfl) (hn (nt ?_))
  obtain ⟨hT, hF⟩ := h
  refine wk (decide (y86 < ((r7).n : Int))) rfl (fun hb89 => ?_) (fun hb89 => ?_)
  ·have h := hT hb89
   refine wp_ (nt (ws (wb (ws (HW.draw mixed [(0, some []), (1, some []), (2, some []), (3, some [5]), (4, some [5]), (5, none), (6, some [])] rfl (by kernel_rfl) (by kernel_rfl) ?_)))))
   refine pv (v := (Sl.v r7)) rfl rfl (fun _ => mv rfl) (pv (v := (iv y86)) rfl rfl (fun _ => mv rfl) ?_)
   obtain ⟨a90, e91, b92, b93, h⟩ := h
   refine pv (v := (pp (Addr.add a90 (y86.toNat * 8)))) rfl rfl (fun _ => ia runUnderlying22 sizeOf31 (Sl.v_some rfl e91) rfl b92 b93) ?_
   obtain ⟨x95, x96, x97, x98, x99, x100, x101, x102, c94, h⟩ := h
   refine pl (v := (.agg (mR x95 x96 x97 x98 x99 x100 x101 x102).toArray)) (fun X => cells X (Addr.add a90 (y86.toNat * 8)) (mR x95 x96 x97 x98 x99 x100 x101 x102) 0) rfl rfl (fun _ hX => ln (mR x95 x96 x97 x98 x99 x100 x101 x102) isAgg31 sizeOf31 rfl hX) c94 ?_
   obtain ⟨x104, x105, x106, x107, x108, x109, x110, x111, x112, x113, x114, x115, x116, x117, x118, x119, x120, x121, x122, x123, x124, x125, x126, x127, c103, h⟩ := h
   refine pl (v := (.agg (nR x104 x105 x106 x107 x108 x109 x110 x111 x112 x113 x114 x115 x116 x117 x118 x119 x120 x121 x122 x123 x124 x125 x126 x127).toArray)) (fun X => cells X (bk H11) (nR x104 x105 x106 x107 x108 x109 x110 x111 x112 x113 x114 x115 x116 x117 x118 x119 x120 x121 x122 x123 x124 x125 x126 x127) 0) rfl rfl (fun _ hX => ln (nR x104 x105 x106 x107 x108 x109 x110 x111 x112 x113 x114 x115 x116 x117 x118 x119 x120 x121 x122 x123 x124 x125 x126 x127) isAgg26 sizeOf26 rfl hX) c103 ?_
   refine po rfl rfl (HOp.call' 14 [(.agg (mR x95 x96 x97 x98 x99 x100 x101 x102).toArray), (.agg (nR x104 x105 x106 x107 x108 x109 x110 x111 x112 x113 x114 x115 x116 x117 x118 x119 x120 x121 x122 x123 x124 x125 x126 x127).toArray)] (cap := []) rfl rfl call14 (walk14 h)) ?_
   rintro _ H128 ⟨r130, rfl, h⟩
   refine ⟨SC_of ⟨nofun, nofun, trivial⟩, ?_⟩
   refine pv (v := (bv r130)) rfl rfl (fun _ => av rfl) (HPlan.done (nt (ws (HW.draw mixed [(0, some []), (1, some []), (2, some []), (3, some [5]), (4, some [5]), (5, none), (6, some [])] rfl (by kernel_rfl) (by kernel_rfl) ?_))))
   refine pv (v := (Sl.v r7)) rfl rfl (fun _ => mv rfl) (pv (v := (iv y86)) rfl rfl (fun _ => mv rfl) ?_)
   obtain ⟨a131, e132, b133, b134, h⟩ := h
   refine pv (v := (pp (Addr.add a131 (y86.toNat * 8)))) rfl rfl (fun _ => ia runUnderlying22 sizeOf31 (Sl.v_some rfl e132) rfl b133 b134) ?_
   obtain ⟨x136, x137, x138, x139, x140, x141, x142, x143, c135, h⟩ := h
   refine pl (v := (.agg (mR x136 x137 x138 x139 x140 x141 x142 x143).toArray)) (fun X => cells X (Addr.add a131 (y86.toNat * 8)) (mR x136 x137 x138 x139 x140 x141 x142 x143) 0) rfl rfl (fun _ hX => ln (mR x136 x137 x138 x139 x140 x141 x142 x143) isAgg31 sizeOf31 rfl hX) c135 ?_
   obtain ⟨x145, x146, x147, x148, x149, x150, x151, x152, x153, x154, x155, x156, x157, x158, x159, x160, x161, x162, x163, x164, x165, x166, x167, x168, c144, h⟩ := h
   refine pl (v := (.agg (nR x145 x146 x147 x148 x149 x150 x151 x152 x153 x154 x155 x156 x157 x158 x159 x160 x161 x162 x163 x164 x165 x166 x167 x168).toArray)) (fun X => cells X (bk H11) (nR x145 x146 x147 x148 x149 x150 x151 x152 x153 x154 x155 x156 x157 x158 x159 x160 x161 x162 x163 x164 x165 x166 x167 x168) 0) rfl rfl (fun _ hX => ln (nR x145 x146 x147 x148 x149 x150 x151 x152 x153 x154 x155 x156 x157 x158 x159 x160 x161 x162 x163 x164 x165 x166 x167 x168) isAgg26 sizeOf26 rfl hX) c144 ?_
   refine po rfl rfl (HOp.call' 8 [(.agg (mR x136 x137 x138 x139 x140 x141 x142 x143).toArray), (.agg (nR x145 x146 x147 x148 x149 x150 x151 x152 x153 x154 x155 x156 x157 x158 x159 x160 x161 x162 x163 x164 x165 x166 x167 x168).toArray)] (cap := []) rfl rfl call8 (walk8 h)) ?_
   rintro _ H169 ⟨r171, rfl, h⟩
   refine ⟨SC_of ⟨nofun, nofun, trivial⟩, ?_⟩
   refine pv (v := (bv r171)) rfl rfl (fun _ => av rfl) (HPlan.done (nt (wc (fun ρ H_6 => ∃ (y177 : Bool), Env.Is ρ [(0, (Sl.v r7)), (8, (pp (bk H11))), (14, (iv y86)), (86, (bv y177))] ∧ F4_6 Q X5 r7 (bk H11) y86 y177 H_6) ?_ ?_)))
   ·refine wr_ (hv (v := (bv r130)) rfl (mv rfl) (hv (v := (bv r130)) rfl (mv rfl) ?_))
    obtain ⟨hT, hF⟩ := h
    rcases Bool.eq_false_or_eq_true r130 with hb175 | hb176
    ·have h := hT hb175
     refine hg (v := (bv r171)) rfl rfl rfl rfl (cB hb175) (mv rfl) (hg (v := (bv (!r171))) rfl rfl rfl rfl (cB hb175) (HVal.not rfl) ?_)
     refine hv (v := (bv (!r171))) rfl (pt_ rfl hb175 rfl) (hn (nt ?_))
     exact ⟨(!r171), (isp rfl), h⟩
    have h := hF hb176
    refine hs_ rfl rfl rfl rfl (cB hb176) (hs_ rfl rfl rfl rfl (cB hb176) (hv (v := (bv false)) rfl (pf_ rfl hb176 rfl) (hn (nt ?_))))
    exact ⟨false, (isp rfl), h⟩
   rintro ρ H_6 ⟨y177, hI, h⟩
   obtain ⟨ρ0, rfl⟩ := hI.ex
   clear hI; unfold F4_6 at h
   obtain ⟨hT, hF⟩ := h
   refine wk y177 rfl (fun hb178 => ?_) (fun hb178 => ?_)
   ·have h := hT hb178
    refine ws (wr_ (hv (v := (bv false)) rfl (av rfl) (hn (nt (HW.ret (br (tr (tr (br (tr ?_))))))))))
    exact ⟨_, resOf1 rfl Res1.t, ⟨false, rfl, h⟩⟩
   have h := hF hb178
   refine wp_ (nb (nt (wr_ (hv (v := (iv y86)) rfl (mv rfl) (hv (v := (iv (IntKind.i64.wrap (y86 + 1)))) rfl (HVal.add rfl rfl) ?_)))))
   refine hv (v := (iv (IntKind.i64.wrap (y86 + 1)))) rfl (av rfl) (hn (nt ?_))
   exact (hX5 _ _).1 h _ (isp rfl)
  have h := hF hb89
  refine we (te (te (be (nt ?_))))
  exact ⟨(isp rfl), h⟩
 rintro ρ H_4 ⟨hI, h⟩
 obtain ⟨ρ0, rfl⟩ := hI.ex
 clear hI; unfold F4_4 at h
 refine ws (ws (wr_ (hv (v := (iv 0)) rfl (av rfl) (hn (nt (wb (HW.loop' (fun L7 hL7 => ?_))))))))
 obtain ⟨X7, hX7⟩ : ∃ X7 : Int → Hp → Prop, ∀ (y179 : Int) (H_7 : Hp), X7 y179 H_7 ↔ ∀ ρ, Env.Is ρ [(0, (Sl.v r7)), (8, (pp (bk H11))), (17, (iv y179))] → L7 ρ H_7 := ⟨_, fun _ _ => Iff.rfl⟩
 refine (hX7 _ _).1 (h X7 ?_) _ ?_
 rotate_left
 ·exact (isp rfl)
 clear h
 intro y179 H_7 h
 refine (hX7 _ _).2 fun ρ hI => ?_
 obtain ⟨ρ0, rfl⟩ := hI.ex
 clear hI; unfold F4_L7b at h; refine hL7 _ _ ?_
 refine ws (ws (wr_ (hv (v := (iv y179)) rfl (mv rfl) (hv (v := (bv (decide (y179 < 6)))) rfl (HVal.lss rfl rfl) (hn (nt ?_))))))
 obtain ⟨hT, hF⟩ := h
 refine wk (decide (y179 < 6)) rfl (fun hb182 => ?_) (fun hb182 => ?_)
 ·have h := hT hb182
  refine wp_ (nt (wc (fun ρ H_8 => Env.Is ρ [(0, (Sl.v r7)), (8, (pp (bk H11))), (17, (iv y179))] ∧ F4_8 Q X7 r7 (bk H11) y179 H_8) ?_ ?_))
  ·refine wb (ws (ws (wr_ (hv (v := (iv y179)) rfl (mv rfl) ?_))))
   obtain ⟨b186, b187, h⟩ := h
   refine hv (v := (pp (Addr.add (bk H11) (y179.toNat * 4)))) rfl (HVal.indexAddrA runUnderlying26 sizeOf25 rfl rfl b186 b187) ?_
   refine hv (v := (pp (Addr.add (bk H11) (y179.toNat * 4)))) rfl (HVal.fieldAddr0 runUnderlying25 rfl rfl sizeOf3 rfl) ?_
   obtain ⟨x189, c188, h⟩ := h
   refine hv (v := (iv x189)) rfl (l1 isAgg3 rfl c188) (hv (v := (bv (decide (x189 ≠ 1)))) rfl (HVal.neqI rfl rfl) (hv (v := (bv (decide (x189 ≠ 1)))) rfl (mv rfl) ?_))
   obtain ⟨hT, hF⟩ := h
   rcases Bool.eq_false_or_eq_true (decide (x189 ≠ 1)) with hb190 | hb191
   ·have h := hT hb190
    refine hs_ rfl rfl rfl rfl (cB hb190) (hs_ rfl rfl rfl rfl (cB hb190) (hs_ rfl rfl rfl rfl (cB hb190) (hs_ rfl rfl rfl rfl (cB hb190) ?_)))
    refine hs_ rfl rfl rfl rfl (cB hb190) (hv (v := (bv true)) rfl (pt_ rfl hb190 rfl) (hn (nt (HW.condT true rfl rfl (we ?_)))))
    refine te (be (nt ?_))
    exact ⟨(isp rfl), h⟩
   have h := hF hb191
   refine hg (v := (iv y179)) rfl rfl rfl rfl (cB hb191) (mv rfl) ?_
   obtain ⟨b192, b193, h⟩ := h
   refine hg (v := (pp (Addr.add (bk H11) (y179.toNat * 4)))) rfl rfl rfl rfl (cB hb191) (HVal.indexAddrA runUnderlying26 sizeOf25 rfl rfl b192 b193) ?_
   refine hg (v := (pp (Addr.add (Addr.add (bk H11) (y179.toNat * 4)) 1))) rfl rfl rfl rfl (cB hb191) (fa runUnderlying25 rfl rfl sizeOf2 rfl) ?_
   obtain ⟨x195, c194, h⟩ := h
   refine hg (v := (iv x195)) rfl rfl rfl rfl (cB hb191) (l1 isAgg2 rfl c194) (hg (v := (bv (decide (x195 = (-9223372036854775808))))) rfl rfl rfl rfl (cB hb191) (HVal.eqlI rfl rfl) ?_)
   refine hv (v := (bv (decide (x195 = (-9223372036854775808))))) rfl (pf_ rfl hb191 rfl) (hn (nt ?_))
   obtain ⟨hT, hF⟩ := h
   refine wk (decide (x195 = (-9223372036854775808))) rfl (fun hb196 => ?_) (fun hb196 => ?_)
   ·have h := hT hb196
    refine we (te (be (nt ?_)))
    exact ⟨(isp rfl), h⟩
   have h := hF hb196
   refine wp_ (nt (ws (wr_ ?_)))
   obtain ⟨x198, x199, x200, x201, x202, x203, x204, x205, x206, x207, x208, x209, x210, x211, x212, x213, x214, x215, x216, x217, x218, x219, x220, x221, c197, h⟩ := h
   refine hv (v := (.agg (nR x198 x199 x200 x201 x202 x203 x204 x205 x206 x207 x208 x209 x210 x211 x212 x213 x214 x215 x216 x217 x218 x219 x220 x221).toArray)) rfl (ln (nR x198 x199 x200 x201 x202 x203 x204 x205 x206 x207 x208 x209 x210 x211 x212 x213 x214 x215 x216 x217 x218 x219 x220 x221) isAgg26 sizeOf26 rfl c197) ?_
   refine ho rfl (HOp.alloc zeroValue26) ?_
   rintro _ H222 ⟨rfl, e223⟩
   replace h := h H222 e223
   obtain ⟨z226, h⟩ := h
   refine hq (HOp.storeN' (l := (nR x198 x199 x200 x201 x202 x203 x204 x205 x206 x207 x208 x209 x210 x211 x212 x213 x214 x215 x216 x217 x218 x219 x220 x221)) sizeOf26 rfl rfl rfl z226) ?_
   rintro _ H224 e225
   replace h := h H224 e225
   refine hn (nt (ws (wr_ (hv (v := (iv y179)) rfl (mv rfl) ?_))))
   obtain ⟨b227, b228, h⟩ := h
   refine hv (v := (pp (Addr.add (bk H_7) (y179.toNat * 4)))) rfl (HVal.indexAddrA runUnderlying26 sizeOf25 rfl rfl b227 b228) ?_
   refine hv (v := (pp (Addr.add (Addr.add (bk H_7) (y179.toNat * 4)) 1))) rfl (fa runUnderlying25 rfl rfl sizeOf2 rfl) ?_
   obtain ⟨x230, c229, h⟩ := h
   refine hv (v := (iv x230)) rfl (l1 isAgg2 rfl c229) (hv (v := (iv (IntKind.i64.wrap (x230 - 1)))) rfl (HVal.sub rfl rfl) ?_)
   obtain ⟨b231, b232, h⟩ := h
   refine hv (v := (pp (Addr.add (bk H_7) (y179.toNat * 4)))) rfl (HVal.indexAddrA runUnderlying26 sizeOf25 rfl rfl b231 b232) ?_
   refine hv (v := (pp (Addr.add (Addr.add (bk H_7) (y179.toNat * 4)) 1))) rfl (fa runUnderlying25 rfl rfl sizeOf2 rfl) ?_
   obtain ⟨z235, z236, h⟩ := h
   refine hq (HOp.store1 sizeOf2 rfl rfl rfl z235 z236) ?_
   rintro _ H233 e234
   replace h := h H233 e234
   refine hn (nt (ws (wr_ (hv (v := (bv true)) rfl (av rfl) (hn (nt (wc (fun ρ H_9 => ∃ (y339 : Bool), Env.Is ρ [(0, (Sl.v r7)), (8, (pp (bk H11))), (17, (iv y179)), (19, (bv y339))] ∧ F4_9 Q X7 r7 (bk H11) y179 y339 H_9) ?_ ?_)))))))
   ·refine ws (wr_ (hv (v := (iv 0)) rfl (av rfl) (hn (nt (wb (HW.loop' (fun L10 hL10 => ?_)))))))
    obtain ⟨X10, hX10⟩ : ∃ X10 : Bool → Int → Hp → Prop, ∀ (y240 : Bool) (y241 : Int) (H_10 : Hp), X10 y240 y241 H_10 ↔ ∀ ρ, Env.Is ρ [(0, (Sl.v r7)), (8, (pp (bk H11))), (17, (iv y179)), (18, (pp (bk H_7))), (19, (bv y240)), (20, (iv y241))] → L10 ρ H_10 := ⟨_, fun _ _ _ => Iff.rfl⟩
    refine (hX10 _ _ _).1 (h X10 ?_) _ ?_
    rotate_left
    ·exact (isp rfl)
    clear h
    intro y240 y241 H_10 h
    refine (hX10 _ _ _).2 fun ρ hI => ?_
    obtain ⟨ρ0, rfl⟩ := hI.ex
    clear hI; unfold F4_L10b at h; refine hL10 _ _ ?_
    refine ws (ws (wr_ (hv (v := (iv y241)) rfl (mv rfl) (hv (v := (Sl.v r7)) rfl (mv rfl) (hv (v := (iv ((r7).n : Int))) rfl (HVal.len runUnderlying22 rfl) ?_)))))
    refine hv (v := (bv (decide (y241 < ((r7).n : Int))))) rfl (HVal.lss rfl rfl) (hn (nt ?_))
    obtain ⟨hT, hF⟩ := h
    refine wk (decide (y241 < ((r7).n : Int))) rfl (fun hb246 => ?_) (fun hb246 => ?_)
    ·have h := hT hb246
     refine wp_ (nt (wc (fun ρ H_11 => ∃ (y338 : Bool), Env.Is ρ [(0, (Sl.v r7)), (8, (pp (bk H11))), (17, (iv y179)), (18, (pp (bk H_7))), (20, (iv y241)), (19, (bv y338))] ∧ F4_11 Q X7 X10 r7 (bk H11) y179 (bk H_7) y241 y338 H_11) ?_ ?_))
     ·refine wb (ws (HW.draw mixed [(0, some []), (1, some []), (2, some []), (3, some [5]), (4, some [5]), (5, none), (6, some [])] rfl (by kernel_rfl) (by kernel_rfl) ?_))
      refine pv (v := (Sl.v r7)) rfl rfl (fun _ => mv rfl) (pv (v := (iv y241)) rfl rfl (fun _ => mv rfl) ?_)
      obtain ⟨a252, e253, b254, b255, h⟩ := h
      refine pv (v := (pp (Addr.add a252 (y241.toNat * 8)))) rfl rfl (fun _ => ia runUnderlying22 sizeOf31 (Sl.v_some rfl e253) rfl b254 b255) ?_
      obtain ⟨x257, x258, x259, x260, x261, x262, x263, x264, c256, h⟩ := h
      refine pl (v := (.agg (mR x257 x258 x259 x260 x261 x262 x263 x264).toArray)) (fun X => cells X (Addr.add a252 (y241.toNat * 8)) (mR x257 x258 x259 x260 x261 x262 x263 x264) 0) rfl rfl (fun _ hX => ln (mR x257 x258 x259 x260 x261 x262 x263 x264) isAgg31 sizeOf31 rfl hX) c256 ?_
      obtain ⟨x266, x267, x268, x269, x270, x271, x272, x273, x274, x275, x276, x277, x278, x279, x280, x281, x282, x283, x284, x285, x286, x287, x288, x289, c265, h⟩ := h
      refine pl (v := (.agg (nR x266 x267 x268 x269 x270 x271 x272 x273 x274 x275 x276 x277 x278 x279 x280 x281 x282 x283 x284 x285 x286 x287 x288 x289).toArray)) (fun X => cells X (bk H11) (nR x266 x267 x268 x269 x270 x271 x272 x273 x274 x275 x276 x277 x278 x279 x280 x281 x282 x283 x284 x285 x286 x287 x288 x289) 0) rfl rfl (fun _ hX => ln (nR x266 x267 x268 x269 x270 x271 x272 x273 x274 x275 x276 x277 x278 x279 x280 x281 x282 x283 x284 x285 x286 x287 x288 x289) isAgg26 sizeOf26 rfl hX) c265 ?_
      refine po rfl rfl (HOp.call' 14 [(.agg (mR x257 x258 x259 x260 x261 x262 x263 x264).toArray), (.agg (nR x266 x267 x268 x269 x270 x271 x272 x273 x274 x275 x276 x277 x278 x279 x280 x281 x282 x283 x284 x285 x286 x287 x288 x289).toArray)] (cap := []) rfl rfl call14 (walk14 h)) ?_
      rintro _ H290 ⟨r292, rfl, h⟩
      refine ⟨SC_of ⟨nofun, nofun, trivial⟩, ?_⟩
      refine pv (v := (bv r292)) rfl rfl (fun _ => av rfl) (HPlan.done (nt (ws (HW.draw mixed [(0, some []), (1, some []), (2, some []), (3, some [5]), (4, some [5]), (5, none), (6, some [])] rfl (by kernel_rfl) (by kernel_rfl) ?_))))
      refine pv (v := (Sl.v r7)) rfl rfl (fun _ => mv rfl) (pv (v := (iv y241)) rfl rfl (fun _ => mv rfl) ?_)
      obtain ⟨a293, e294, b295, b296, h⟩ := h
      refine pv (v := (pp (Addr.add a293 (y241.toNat * 8)))) rfl rfl (fun _ => ia runUnderlying22 sizeOf31 (Sl.v_some rfl e294) rfl b295 b296) ?_
      obtain ⟨x298, x299, x300, x301, x302, x303, x304, x305, c297, h⟩ := h
      refine pl (v := (.agg (mR x298 x299 x300 x301 x302 x303 x304 x305).toArray)) (fun X => cells X (Addr.add a293 (y241.toNat * 8)) (mR x298 x299 x300 x301 x302 x303 x304 x305) 0) rfl rfl (fun _ hX => ln (mR x298 x299 x300 x301 x302 x303 x304 x305) isAgg31 sizeOf31 rfl hX) c297 ?_
      obtain ⟨x307, x308, x309, x310, x311, x312, x313, x314, x315, x316, x317, x318, x319, x320, x321, x322, x323, x324, x325, x326, x327, x328, x329, x330, c306, h⟩ := h
      refine pl (v := (.agg (nR x307 x308 x309 x310 x311 x312 x313 x314 x315 x316 x317 x318 x319 x320 x321 x322 x323 x324 x325 x326 x327 x328 x329 x330).toArray)) (fun X => cells X (bk H_7) (nR x307 x308 x309 x310 x311 x312 x313 x314 x315 x316 x317 x318 x319 x320 x321 x322 x323 x324 x325 x326 x327 x328 x329 x330) 0) rfl rfl (fun _ hX => ln (nR x307 x308 x309 x310 x311 x312 x313 x314 x315 x316 x317 x318 x319 x320 x321 x322 x323 x324 x325 x326 x327 x328 x329 x330) isAgg26 sizeOf26 rfl hX) c306 ?_
      refine po rfl rfl (HOp.call' 8 [(.agg (mR x298 x299 x300 x301 x302 x303 x304 x305).toArray), (.agg (nR x307 x308 x309 x310 x311 x312 x313 x314 x315 x316 x317 x318 x319 x320 x321 x322 x323 x324 x325 x326 x327 x328 x329 x330).toArray)] (cap := []) rfl rfl call8 (walk8 h)) ?_
      rintro _ H331 ⟨r333, rfl, h⟩
      refine ⟨SC_of ⟨nofun, nofun, trivial⟩, ?_⟩
      refine pv (v := (bv r333)) rfl rfl (fun _ => av rfl) (HPlan.done (nt (wr_ (hv (v := (bv y240)) rfl (mv rfl) ?_))))
      refine hv (v := (bv y240)) rfl (mv rfl) ?_
      obtain ⟨hT, hF⟩ := h
      rcases Bool.eq_false_or_eq_true y240 with hb334 | hb335
      ·have h := hT hb334
       refine hg (v := (bv r292)) rfl rfl rfl rfl (cB hb334) (mv rfl) (hg (v := (bv (!r292))) rfl rfl rfl rfl (cB hb334) (HVal.not rfl) ?_)
       refine hg (v := (bv (!r292))) rfl rfl rfl rfl (cB hb334) (mv rfl) ?_
       obtain ⟨hT, hF⟩ := h
       rcases Bool.eq_false_or_eq_true (!r292) with hb336 | hb337
       ·have h := hT hb336
        refine hs_ rfl rfl rfl rfl (cB hb336) (hg (v := (bv true)) rfl rfl rfl rfl (cB hb334) (pt_ rfl hb336 rfl) (hv (v := (bv true)) rfl (pt_ rfl hb334 rfl) ?_))
        refine hv (v := (bv true)) rfl (av rfl) (hn (nb (nt ?_)))
        exact ⟨true, (isp rfl), h⟩
       have h := hF hb337
       refine hg (v := (bv r333)) rfl rfl rfl rfl (cB hb337) (mv rfl) (hg (v := (bv r333)) rfl rfl rfl rfl (cB hb334) (pf_ rfl hb337 rfl) ?_)
       refine hv (v := (bv r333)) rfl (pt_ rfl hb334 rfl) (hv (v := (bv r333)) rfl (av rfl) (hn (nb (nt ?_))))
       exact ⟨r333, (isp rfl), h⟩
      have h := hF hb335
      refine hs_ rfl rfl rfl rfl (cB hb335) (hs_ rfl rfl rfl rfl (cB hb335) (hs_ rfl rfl rfl rfl (cB hb335) (HList.uskips rfl rfl rfl rfl rfl ?_)))
      refine hs_ rfl rfl rfl rfl (cB hb335) (hv (v := (bv false)) rfl (pf_ rfl hb335 rfl) (hv (v := (bv false)) rfl (av rfl) ?_))
      refine hn (nb (nt ?_))
      exact ⟨false, (isp rfl), h⟩
     rintro ρ H_11 ⟨y338, hI, h⟩
     obtain ⟨ρ0, rfl⟩ := hI.ex
     clear hI; unfold F4_11 at h
     refine wr_ (hv (v := (iv y241)) rfl (mv rfl) (hv (v := (iv (IntKind.i64.wrap (y241 + 1)))) rfl (HVal.add rfl rfl) (hv (v := (iv (IntKind.i64.wrap (y241 + 1)))) rfl (av rfl) ?_)))
     refine hn (nt ?_)
     exact (hX10 _ _ _).1 h _ (isp rfl)
    have h := hF hb246
    refine we (te (te (be (nt ?_))))
    exact ⟨y240, (isp rfl), h⟩
   rintro ρ H_9 ⟨y339, hI, h⟩
   obtain ⟨ρ0, rfl⟩ := hI.ex
   clear hI; unfold F4_9 at h
   refine ws (wr_ (hv (v := (bv y339)) rfl (mv rfl) (hn (nt ?_))))
   obtain ⟨hT, hF⟩ := h
   refine wk y339 rfl (fun hb340 => ?_) (fun hb340 => ?_)
   ·have h := hT hb340
    refine ws (wr_ (hv (v := (bv false)) rfl (av rfl) (hn (nt (HW.ret (br (tr (tr (br (tr ?_))))))))))
    exact ⟨_, resOf1 rfl Res1.t, ⟨false, rfl, h⟩⟩
   have h := hF hb340
   refine wp_ (nb (nt ?_))
   exact ⟨(isp rfl), h⟩
  rintro ρ H_8 ⟨hI, h⟩
  obtain ⟨ρ0, rfl⟩ := hI.ex
  clear hI; unfold F4_8 at h
  refine wr_ (hv (v := (iv y179)) rfl (mv rfl) (hv (v := (iv (IntKind.i64.wrap (y179 + 1)))) rfl (HVal.add rfl rfl) (hv (v := (iv (IntKind.i64.wrap (y179 + 1)))) rfl (av rfl) ?_)))
  refine hn (nt ?_)
  exact (hX7 _ _).1 h _ (isp rfl)
 have h := hF hb182
 refine we (te (te (be (nt (ws (wr_ (hv (v := (bv true)) rfl (av rfl) (hn (nt (HW.ret ?_))))))))))
 exact ⟨_, resOf1 rfl Res1.t, ⟨true, rfl, h⟩⟩

end Go.Hw
