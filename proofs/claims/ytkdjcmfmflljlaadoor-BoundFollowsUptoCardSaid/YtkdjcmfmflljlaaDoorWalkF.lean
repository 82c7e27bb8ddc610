/- The walks of this seat, printed by a program of this session (wip/tools/gen.py): of each function what it does to the heap, and that it does so. -/
import Derived.Test.YtkdjcmfmflljlaaDoorHwZ
import Derived.Test.YtkdjcmfmflljlaaDoorProg
import Derived.Test.YtkdjcmfmflljlaaDoorWAux
import Derived.Test.YtkdjcmfmflljlaaDoorWalkC
set_option linter.unusedVariables false
set_option linter.unusedSimpArgs false
set_option maxRecDepth 100000
set_option maxHeartbeats 4000000
namespace Go.Hw
open Go Go.Proofs Tryd
def F15 (p0_0 p0_1 p0_2 p0_3 p0_4 : Int) (p0_5 : ByteArray) (p0_6 : Bool) (p0_7 : Int) (H : Hp) (Q : Bool → Hp → Prop) : Prop :=
∀ H1 : Hp, H1 = Array.push H (.cells (mR p0_0 p0_1 p0_2 p0_3 p0_4 p0_5 p0_6 p0_7).toArray 31) → (
 ∃ x4 : Int, cell H1 (Addr.add (bk H) 7) = some (iv x4) ∧ (
 ((decide (x4 < 3)) = true → (∃ x8 : Int, cell H1 (Addr.add (bk H) 7) = some (iv x8) ∧ (
 ((decide (x8 = 2)) = true → (Q true H1)) ∧
 ((decide (x8 = 2)) = false → (∃ x12 : Int, cell H1 (Addr.add (bk H) 3) = some (iv x12) ∧ (
 Q (decide (x12 = 1)) H1)))))) ∧
 ((decide (x4 < 3)) = false → (Q false H1))))
theorem walk15 {w0 : World} {p0_0 p0_1 p0_2 p0_3 p0_4 : Int} {p0_5 : ByteArray} {p0_6 : Bool} {p0_7 : Int} {H : Hp} {Q : Bool → Hp → Prop} (h : F15 p0_0 p0_1 p0_2 p0_3 p0_4 p0_5 p0_6 p0_7 H Q) :
  Good prog w0 15 #[(.agg (mR p0_0 p0_1 p0_2 p0_3 p0_4 p0_5 p0_6 p0_7).toArray)] H (fun v H => ∃ (r0 : Bool) , v = (bv r0) ∧ Q r0 H) := by
 unfold F15 at h
 refine Good.enter' (fn := f15) func15 rfl rfl rfl (ws (wr_ (ho rfl (ob (v := (.agg (mR p0_0 p0_1 p0_2 p0_3 p0_4 p0_5 p0_6 p0_7).toArray)) rfl) ?_)))
 rintro _ H1 ⟨rfl, e2⟩
 replace h := h H1 e2
 refine hv (v := (bv false)) rfl (av rfl) (hn (nt (ws (wr_ (hv (v := (pp (Addr.add (bk H) 7))) rfl (fa runUnderlying31 rfl rfl sizeOf3 rfl) ?_)))))
 obtain ⟨x4, c3, h⟩ := h
 refine hv (v := (iv x4)) rfl (l1 isAgg3 rfl c3) (hv (v := (bv (decide (x4 < 3)))) rfl (HVal.lss rfl rfl) (hv (v := (bv (decide (x4 < 3)))) rfl (mv rfl) ?_))
 obtain ⟨hT, hF⟩ := h
 rcases Bool.eq_false_or_eq_true (decide (x4 < 3)) with hb5 | hb6
 ·have h := hT hb5
  refine hg (v := (pp (Addr.add (bk H) 7))) rfl rfl rfl rfl (cB hb5) (fa runUnderlying31 rfl rfl sizeOf3 rfl) ?_
  obtain ⟨x8, c7, h⟩ := h
  refine hg (v := (iv x8)) rfl rfl rfl rfl (cB hb5) (l1 isAgg3 rfl c7) (hg (v := (bv (decide (x8 = 2)))) rfl rfl rfl rfl (cB hb5) (HVal.eqlI rfl rfl) ?_)
  refine hg (v := (bv (decide (x8 = 2)))) rfl rfl rfl rfl (cB hb5) (mv rfl) ?_
  obtain ⟨hT, hF⟩ := h
  rcases Bool.eq_false_or_eq_true (decide (x8 = 2)) with hb9 | hb10
  ·have h := hT hb9
   refine hs_ rfl rfl rfl rfl (cB hb9) (hs_ rfl rfl rfl rfl (cB hb9) (hs_ rfl rfl rfl rfl (cB hb9) (hs_ rfl rfl rfl rfl (cB hb9) ?_)))
   refine hg (v := (bv true)) rfl rfl rfl rfl (cB hb5) (pt_ rfl hb9 rfl) (hv (v := (bv true)) rfl (pt_ rfl hb5 rfl) (hv (v := (bv true)) rfl (av rfl) ?_))
   refine hn (nt (HW.ret ?_))
   exact ⟨_, resOf1 rfl Res1.t, ⟨true, rfl, h⟩⟩
  have h := hF hb10
  refine hg (v := (pp (Addr.add (bk H) 3))) rfl rfl rfl rfl (cB hb10) (fa runUnderlying31 rfl rfl sizeOf25 rfl) (hg (v := (pp (Addr.add (bk H) 3))) rfl rfl rfl rfl (cB hb10) (HVal.fieldAddr0 runUnderlying25 rfl rfl sizeOf3 rfl) ?_)
  obtain ⟨x12, c11, h⟩ := h
  refine hg (v := (iv x12)) rfl rfl rfl rfl (cB hb10) (l1 isAgg3 rfl c11) (hg (v := (bv (decide (x12 = 1)))) rfl rfl rfl rfl (cB hb10) (HVal.eqlI rfl rfl) ?_)
  refine hg (v := (bv (decide (x12 = 1)))) rfl rfl rfl rfl (cB hb5) (pf_ rfl hb10 rfl) (hv (v := (bv (decide (x12 = 1)))) rfl (pt_ rfl hb5 rfl) ?_)
  refine hv (v := (bv (decide (x12 = 1)))) rfl (av rfl) (hn (nt (HW.ret ?_)))
  exact ⟨_, resOf1 rfl Res1.t, ⟨(decide (x12 = 1)), rfl, h⟩⟩
 have h := hF hb6
 refine hs_ rfl rfl rfl rfl (cB hb6) (hs_ rfl rfl rfl rfl (cB hb6) (hs_ rfl rfl rfl rfl (cB hb6) (hs_ rfl rfl rfl rfl (cB hb6) ?_)))
 refine HList.uskips rfl rfl rfl rfl rfl (HList.uskips rfl rfl rfl rfl rfl (HList.uskips rfl rfl rfl rfl rfl (HList.uskips rfl rfl rfl rfl rfl (hs_ rfl rfl rfl rfl (cB hb6) ?_))))
 refine hv (v := (bv false)) rfl (pf_ rfl hb6 rfl) (hv (v := (bv false)) rfl (av rfl) (hn (nt (HW.ret ?_))))
 exact ⟨_, resOf1 rfl Res1.t, ⟨false, rfl, h⟩⟩

def F5_17 (Q : Bool → Hp → Prop) (X16 : Int → Hp → Prop) (y384 y385 : Sl) (y386 : Int) (y389 : Bool) (H_17 : Hp) : Prop :=
(y389 = true → (Q false H_17)) ∧
 (y389 = false → (X16 (IntKind.i64.wrap (y386 + 1)) H_17))
def F5_L16b (Q : Bool → Hp → Prop) (X16 : Int → Hp → Prop) (y354 y355 : Sl) (y353 : Int) (H_16 : Hp) : Prop :=
((decide (y353 < ((y355).n : Int))) = true → (∃ a357 : Addr, (y355).b = some a357 ∧ (0 : Int) ≤ y353 ∧ y353 < ((y355).n : Int) ∧ (
 ∃ (x362 x363 x364 x365 : Int) (x366 : ByteArray) (x367 : Bool) (x368 : ByteArray) (x369 : Int) (x370 : ByteArray) (x371 : Sl), cells H_16 (Addr.add a357 (y353.toNat * 14)) (eR x362 x363 x364 x365 x366 x367 x368 x369 x370 x371) 0 ∧ (
 F12 y354 x362 x363 x364 x365 x366 x367 x368 x369 x370 x371 H_16 (fun (r374 r375 : Int) (r376 : ByteArray) (r377 r378 : Bool) (H372 : Hp) => 
 ∀ H379 : Hp, H379 = Array.push H372 (.cells (vR 0 0 bE false).toArray 25) → (
 mayw H379 (bk H372) 4 0 ∧ ∀ H381 : Hp, H381 = sets H379 (bk H372) (vR r374 r375 r376 r377) 0 → (
 ((!r378) = true → (F5_17 Q X16 y354 y355 y353 true H381)) ∧
 ((!r378) = false → (∃ (x391 x392 : Int) (x393 : ByteArray) (x394 : Bool), cells H381 (bk H372) (vR x391 x392 x393 x394) 0 ∧ (
 ∃ a395 : Addr, (y355).b = some a395 ∧ (0 : Int) ≤ y353 ∧ y353 < ((y355).n : Int) ∧ (
 ∃ (x400 x401 : Int) (x402 : ByteArray) (x403 : Bool), cells H381 (Addr.add (Addr.add a395 (y353.toNat * 14)) 10) (vR x400 x401 x402 x403) 0 ∧ (
 F5_17 Q X16 y354 y355 y353 (!(decide (x391 = x400) && (decide (x392 = x401) && (seq x393 x402 && (x394 == x403))))) H381)))))))))))) ∧
 ((decide (y353 < ((y355).n : Int))) = false → (Q true H_16))
def F5_L16 (Q : Bool → Hp → Prop) (y354 y355 : Sl) (y353 : Int) (H_16 : Hp) : Prop :=
 ∀ X16 : Int → Hp → Prop, (∀ (y353 : Int) (H_16 : Hp), F5_L16b Q X16 y354 y355 y353 H_16 → X16 y353 H_16) → X16 y353 H_16
def F5_15 (Q : Bool → Hp → Prop) (y302 y303 : Sl) (y306 : Bool) (H_15 : Hp) : Prop :=
(y306 = true → (Q false H_15)) ∧
 (y306 = false → (F9 y302 H_15 (fun (r346 : Sl) (r347 : Bool) (H344 : Hp) => 
 F9 y303 H344 (fun (r350 : Sl) (r351 : Bool) (H348 : Hp) => 
 ((!(r347 == r351)) = true → (Q false H348)) ∧
 ((!(r347 == r351)) = false → (F5_L16 Q r346 r350 0 H348))))))
def F5_10 (Q : Bool → Hp → Prop) (y197 y198 y199 y298 : Sl) (y299 y300 : Bool) (y301 : Int) (H_10 : Hp) : Prop :=
((decide (y301 ≠ ((y198).n : Int))) = true → (F5_15 Q y197 y298 true H_10)) ∧
 ((decide (y301 ≠ ((y198).n : Int))) = false → ((y299 = true → (((!y300) = true → (F5_15 Q y197 y298 true H_10)) ∧
 ((!y300) = false → (((decide ((0 : Int) < ((y198).n : Int))) = true → (∃ a313 : Addr, (y198).b = some a313 ∧ (0 : Int) ≤ 0 ∧ (0 : Int) < ((y198).n : Int) ∧ (
 ∃ x318 : Int, cell H_10 (Addr.add a313 ((0 : Int).toNat * 1)) = some (iv x318) ∧ (
 ((decide (x318 = 0)) = true → (∃ a321 : Addr, (y199).b = some a321 ∧ (0 : Int) ≤ 0 ∧ (0 : Int) < ((y199).n : Int) ∧ (
 ∃ x326 : Bool, cell H_10 (Addr.add a321 ((0 : Int).toNat * 1)) = some (bv x326) ∧ (
 F5_15 Q y197 y298 (!x326) H_10)))) ∧
 ((decide (x318 = 0)) = false → (F5_15 Q y197 y298 false H_10)))))) ∧
 ((decide ((0 : Int) < ((y198).n : Int))) = false → (F5_15 Q y197 y298 false H_10)))))) ∧
 (y299 = false → (((decide ((0 : Int) < ((y198).n : Int))) = true → (∃ a329 : Addr, (y198).b = some a329 ∧ (0 : Int) ≤ 0 ∧ (0 : Int) < ((y198).n : Int) ∧ (
 ∃ x334 : Int, cell H_10 (Addr.add a329 ((0 : Int).toNat * 1)) = some (iv x334) ∧ (
 ((decide (x334 = 0)) = true → (∃ a337 : Addr, (y199).b = some a337 ∧ (0 : Int) ≤ 0 ∧ (0 : Int) < ((y199).n : Int) ∧ (
 ∃ x342 : Bool, cell H_10 (Addr.add a337 ((0 : Int).toNat * 1)) = some (bv x342) ∧ (
 F5_15 Q y197 y298 (!x342) H_10)))) ∧
 ((decide (x334 = 0)) = false → (F5_15 Q y197 y298 false H_10)))))) ∧
 ((decide ((0 : Int) < ((y198).n : Int))) = false → (F5_15 Q y197 y298 false H_10))))))
def F5_12 (Q : Bool → Hp → Prop) (X11 : Sl → Bool → Bool → Int → Int → Hp → Prop) (y209 y210 y211 : Sl) (y212 : Int) (y266 : Sl) (y267 y268 : Bool) (y269 : Int) (H_12 : Hp) : Prop :=
X11 y266 y267 y268 y269 (IntKind.i64.wrap (y212 + 1)) H_12
def F5_14 (Q : Bool → Hp → Prop) (X11 : Sl → Bool → Bool → Int → Int → Hp → Prop) (y250 y251 y252 y253 : Sl) (y254 : Bool) (y255 y256 : Int) (y265 : Bool) (H_14 : Hp) : Prop :=
F5_12 Q X11 y250 y251 y252 y256 y253 y254 y265 (IntKind.i64.wrap (y255 + 1)) H_14
def F5_13 (Q : Bool → Hp → Prop) (X11 : Sl → Bool → Bool → Int → Int → Hp → Prop) (y213 y214 y215 y216 : Sl) (y217 y218 : Bool) (y219 y220 : Int) (y229 : Bool) (H_13 : Hp) : Prop :=
(y229 = true → (∃ a231 : Addr, (y213).b = some a231 ∧ (0 : Int) ≤ y220 ∧ y220 < ((y213).n : Int) ∧ (
 ∃ (x236 x237 x238 x239 : Int) (x240 : ByteArray) (x241 : Bool) (x242 : ByteArray) (x243 : Int) (x244 : ByteArray) (x245 : Sl), cells H_13 (Addr.add a231 (y220.toNat * 10)) (eR x236 x237 x238 x239 x240 x241 x242 x243 x244 x245) 0 ∧ (
 F17 x236 x237 x238 x239 x240 x241 x242 x243 x244 x245 H_13 (fun (r248 : Bool) (H246 : Hp) => 
 ((!r248) = true → (Q false H246)) ∧
 ((!r248) = false → ((y218 = true → (∃ a259 : Addr, (y215).b = some a259 ∧ (0 : Int) ≤ y220 ∧ y220 < ((y215).n : Int) ∧ (
 ∃ x264 : Bool, cell H246 (Addr.add a259 (y220.toNat * 1)) = some (bv x264) ∧ (
 F5_14 Q X11 y213 y214 y215 y216 y217 y219 y220 x264 H246)))) ∧
 (y218 = false → (F5_14 Q X11 y213 y214 y215 y216 y217 y219 y220 false H246))))))))) ∧
 (y229 = false → (∃ a270 : Addr, (y213).b = some a270 ∧ (0 : Int) ≤ y220 ∧ y220 < ((y213).n : Int) ∧ (
 ∃ (x275 x276 x277 x278 : Int) (x279 : ByteArray) (x280 : Bool) (x281 : ByteArray) (x282 : Int) (x283 : ByteArray) (x284 : Sl), cells H_13 (Addr.add a270 (y220.toNat * 10)) (eR x275 x276 x277 x278 x279 x280 x281 x282 x283 x284) 0 ∧ (
 ∀ H285 : Hp, H285 = Array.push H_13 (.cells (eR x275 x276 x277 x278 x279 x280 x281 x282 x283 x284).toArray 41) → (
 AppendF H285 41 10 120 zR.toArray y216 ((Sl.mk (some (bk H_13)) 1 1)).b ((Sl.mk (some (bk H_13)) 1 1)).n (fun (r289 : Sl) (H287 : Hp) => 
 (y217 = true → (∃ a292 : Addr, (y215).b = some a292 ∧ (0 : Int) ≤ y220 ∧ y220 < ((y215).n : Int) ∧ (
 ∃ x297 : Bool, cell H287 (Addr.add a292 (y220.toNat * 1)) = some (bv x297) ∧ (
 F5_12 Q X11 y213 y214 y215 y220 r289 x297 y218 y219 H287)))) ∧
 (y217 = false → (F5_12 Q X11 y213 y214 y215 y220 r289 false y218 y219 H287))))))))
def F5_L11b (Q : Bool → Hp → Prop) (X11 : Sl → Bool → Bool → Int → Int → Hp → Prop) (y205 y206 y207 y200 : Sl) (y201 y202 : Bool) (y203 y204 : Int) (H_11 : Hp) : Prop :=
((decide (y204 < ((y205).n : Int))) = true → (((decide (y203 < ((y206).n : Int))) = true → (∃ a223 : Addr, (y206).b = some a223 ∧ (0 : Int) ≤ y203 ∧ y203 < ((y206).n : Int) ∧ (
 ∃ x228 : Int, cell H_11 (Addr.add a223 (y203.toNat * 1)) = some (iv x228) ∧ (
 F5_13 Q X11 y205 y206 y207 y200 y201 y202 y203 y204 (decide (x228 = y204)) H_11)))) ∧
 ((decide (y203 < ((y206).n : Int))) = false → (F5_13 Q X11 y205 y206 y207 y200 y201 y202 y203 y204 false H_11)))) ∧
 ((decide (y204 < ((y205).n : Int))) = false → (F5_10 Q y205 y206 y207 y200 y201 y202 y203 H_11))
def F5_L11 (Q : Bool → Hp → Prop) (y205 y206 y207 y200 : Sl) (y201 y202 : Bool) (y203 y204 : Int) (H_11 : Hp) : Prop :=
 ∀ X11 : Sl → Bool → Bool → Int → Int → Hp → Prop, (∀ (y200 : Sl) (y201 y202 : Bool) (y203 y204 : Int) (H_11 : Hp), F5_L11b Q X11 y205 y206 y207 y200 y201 y202 y203 y204 H_11 → X11 y200 y201 y202 y203 y204 H_11) → X11 y200 y201 y202 y203 y204 H_11
def F5_6 (Q : Bool → Hp → Prop) (y89 y90 y196 : Sl) (H_6 : Hp) : Prop :=
F5_L11 Q y89 y90 y196 Sl.nil true true 0 0 H_6
def F5_8 (Q : Bool → Hp → Prop) (X7 : Sl → Int → Hp → Prop) (y99 y100 y101 y102 : Sl) (y103 : Addr) (y104 : Int) (y182 : Sl) (H_8 : Hp) : Prop :=
X7 y182 (IntKind.i64.wrap (y104 + 1)) H_8
def F5_9 (Q : Bool → Hp → Prop) (X7 : Sl → Int → Hp → Prop) (y146 y147 y148 y149 : Sl) (y150 : Addr) (y151 : Sl) (y152 : Int) (y153 y164 : Bool) (H_9 : Hp) : Prop :=
(y164 = true → (∃ a166 : Addr, (y151).b = some a166 ∧ (0 : Int) ≤ (IntKind.i64.wrap (((y151).n : Int) - 1)) ∧ (IntKind.i64.wrap (((y151).n : Int) - 1)) < ((y151).n : Int) ∧ (
 ∃ x171 : Bool, cell H_9 (Addr.add a166 ((IntKind.i64.wrap (((y151).n : Int) - 1)).toNat * 1)) = some (bv x171) ∧ (
 (x171 = true → (∃ a174 : Addr, (y151).b = some a174 ∧ (0 : Int) ≤ (IntKind.i64.wrap (((y151).n : Int) - 1)) ∧ (IntKind.i64.wrap (((y151).n : Int) - 1)) < ((y151).n : Int) ∧ (
 (cell H_9 (Addr.add a174 ((IntKind.i64.wrap (((y151).n : Int) - 1)).toNat * 1))).isSome = true ∧ frz H_9 (Addr.add a174 ((IntKind.i64.wrap (((y151).n : Int) - 1)).toNat * 1)) = false ∧ ∀ H178 : Hp, H178 = setc H_9 (Addr.add a174 ((IntKind.i64.wrap (((y151).n : Int) - 1)).toNat * 1)) (bv y153) → (
 F5_8 Q X7 y146 y147 y148 y149 y150 y152 y151 H178)))) ∧
 (x171 = false → (∃ a183 : Addr, (y151).b = some a183 ∧ (0 : Int) ≤ (IntKind.i64.wrap (((y151).n : Int) - 1)) ∧ (IntKind.i64.wrap (((y151).n : Int) - 1)) < ((y151).n : Int) ∧ (
 (cell H_9 (Addr.add a183 ((IntKind.i64.wrap (((y151).n : Int) - 1)).toNat * 1))).isSome = true ∧ frz H_9 (Addr.add a183 ((IntKind.i64.wrap (((y151).n : Int) - 1)).toNat * 1)) = false ∧ ∀ H187 : Hp, H187 = setc H_9 (Addr.add a183 ((IntKind.i64.wrap (((y151).n : Int) - 1)).toNat * 1)) (bv false) → (
 F5_8 Q X7 y146 y147 y148 y149 y150 y152 y151 H187)))))))) ∧
 (y164 = false → (∀ H191 : Hp, H191 = Array.push H_9 (.cells #[(bv y153)] 4) → (
 AppendF H191 4 1 1 #[(bv false)] y151 ((Sl.mk (some (bk H_9)) 1 1)).b ((Sl.mk (some (bk H_9)) 1 1)).n (fun (r195 : Sl) (H193 : Hp) => 
 F5_8 Q X7 y146 y147 y148 y149 y150 y152 r195 H193))))
def F5_L7b (Q : Bool → Hp → Prop) (X7 : Sl → Int → Hp → Prop) (y93 y94 y95 y96 : Sl) (y97 : Addr) (y91 : Sl) (y92 : Int) (H_7 : Hp) : Prop :=
((decide (y92 < ((y94).n : Int))) = true → (∃ a105 : Addr, (y94).b = some a105 ∧ (0 : Int) ≤ y92 ∧ y92 < ((y94).n : Int) ∧ (
 ∃ (x110 x111 x112 x113 x114 : Int) (x115 : ByteArray) (x116 : Bool) (x117 : Int), cells H_7 (Addr.add a105 (y92.toNat * 8)) (mR x110 x111 x112 x113 x114 x115 x116 x117) 0 ∧ (
 ∃ (x119 x120 : Int) (x121 : ByteArray) (x122 : Bool) (x123 x124 : Int) (x125 : ByteArray) (x126 : Bool) (x127 x128 : Int) (x129 : ByteArray) (x130 : Bool) (x131 x132 : Int) (x133 : ByteArray) (x134 : Bool) (x135 x136 : Int) (x137 : ByteArray) (x138 : Bool) (x139 x140 : Int) (x141 : ByteArray) (x142 : Bool), cells H_7 y97 (nR x119 x120 x121 x122 x123 x124 x125 x126 x127 x128 x129 x130 x131 x132 x133 x134 x135 x136 x137 x138 x139 x140 x141 x142) 0 ∧ (
 F8 x110 x111 x112 x113 x114 x115 x116 x117 x119 x120 x121 x122 x123 x124 x125 x126 x127 x128 x129 x130 x131 x132 x133 x134 x135 x136 x137 x138 x139 x140 x141 x142 H_7 (fun (r145 : Bool) (H143 : Hp) => 
 ((decide ((0 : Int) < ((y91).n : Int))) = true → (((decide (y92 < ((y93).n : Int))) = true → (∃ a158 : Addr, (y93).b = some a158 ∧ (0 : Int) ≤ y92 ∧ y92 < ((y93).n : Int) ∧ (
 ∃ x163 : Bool, cell H143 (Addr.add a158 (y92.toNat * 1)) = some (bv x163) ∧ (
 F5_9 Q X7 y93 y94 y95 y96 y97 y91 y92 r145 x163 H143)))) ∧
 ((decide (y92 < ((y93).n : Int))) = false → (F5_9 Q X7 y93 y94 y95 y96 y97 y91 y92 r145 false H143)))) ∧
 ((decide ((0 : Int) < ((y91).n : Int))) = false → (F5_9 Q X7 y93 y94 y95 y96 y97 y91 y92 r145 false H143)))))))) ∧
 ((decide (y92 < ((y94).n : Int))) = false → (F5_6 Q y95 y96 y91 H_7))
def F5_L7 (Q : Bool → Hp → Prop) (y93 y94 y95 y96 : Sl) (y97 : Addr) (y91 : Sl) (y92 : Int) (H_7 : Hp) : Prop :=
 ∀ X7 : Sl → Int → Hp → Prop, (∀ (y91 : Sl) (y92 : Int) (H_7 : Hp), F5_L7b Q X7 y93 y94 y95 y96 y97 y91 y92 H_7 → X7 y91 y92 H_7) → X7 y91 y92 H_7
def F5_4 (Q : Bool → Hp → Prop) (y67 y68 y69 y70 : Sl) (y71 : Addr) (H_4 : Hp) : Prop :=
F5_L7 Q y67 y68 y69 y70 y71 Sl.nil 0 H_4
def F5_L5b (Q : Bool → Hp → Prop) (X5 : Int → Hp → Prop) (y73 : Sl) (y74 : Addr) (y75 y76 y77 : Sl) (y78 : Addr) (y72 : Int) (H_5 : Hp) : Prop :=
((decide (y72 < 6)) = true → ((0 : Int) ≤ y72 ∧ y72 < ((6 : Nat) : Int) ∧ (
 ∃ x83 : Int, cell H_5 (Addr.add y74 (y72.toNat * 1)) = some (iv x83) ∧ (
 (0 : Int) ≤ y72 ∧ y72 < ((6 : Nat) : Int) ∧ (
 mayw H_5 (Addr.add y78 (y72.toNat * 4)) 4 0 ∧ ∀ H86 : Hp, H86 = sets H_5 (Addr.add y78 (y72.toNat * 4)) (vR 1 x83 bE false) 0 → (
 X5 (IntKind.i64.wrap (y72 + 1)) H86)))))) ∧
 ((decide (y72 < 6)) = false → (F5_4 Q y73 y75 y76 y77 y78 H_5))
def F5_L5 (Q : Bool → Hp → Prop) (y73 : Sl) (y74 : Addr) (y75 y76 y77 : Sl) (y78 : Addr) (y72 : Int) (H_5 : Hp) : Prop :=
 ∀ X5 : Int → Hp → Prop, (∀ (y72 : Int) (H_5 : Hp), F5_L5b Q X5 y73 y74 y75 y76 y77 y78 y72 H_5 → X5 y72 H_5) → X5 y72 H_5
def F5_1 (Q : Bool → Hp → Prop) (y10 : Sl) (y11 : Addr) (y58 : Sl) (H_1 : Hp) : Prop :=
F10 y58 y10 H_1 (fun (r61 : Sl) (H59 : Hp) => 
 F16 r61 H59 (fun (r64 : Sl) (H62 : Hp) => 
 ∀ H65 : Hp, H65 = Array.push H62 (.cells (nR 0 0 bE false 0 0 bE false 0 0 bE false 0 0 bE false 0 0 bE false 0 0 bE false).toArray 26) → (
 F5_L5 Q y10 y11 y58 r61 r64 (bk H62) 0 H65)))
def F5_3 (Q : Bool → Hp → Prop) (X2 : Sl → Int → Hp → Prop) (y18 : Sl) (y19 : Addr) (y20 : Sl) (y21 : Int) (y57 : Sl) (H_3 : Hp) : Prop :=
X2 y57 (IntKind.i64.wrap (y21 + 1)) H_3
def F5_L2b (Q : Bool → Hp → Prop) (X2 : Sl → Int → Hp → Prop) (y14 : Sl) (y15 : Addr) (y16 y12 : Sl) (y13 : Int) (H_2 : Hp) : Prop :=
((decide (y13 < ((y16).n : Int))) = true → (∃ a22 : Addr, (y16).b = some a22 ∧ (0 : Int) ≤ y13 ∧ y13 < ((y16).n : Int) ∧ (
 ∃ (x27 x28 x29 x30 x31 : Int) (x32 : ByteArray) (x33 : Bool) (x34 : Int), cells H_2 (Addr.add a22 (y13.toNat * 8)) (mR x27 x28 x29 x30 x31 x32 x33 x34) 0 ∧ (
 F15 x27 x28 x29 x30 x31 x32 x33 x34 H_2 (fun (r37 : Bool) (H35 : Hp) => 
 (r37 = true → (∃ a39 : Addr, (y16).b = some a39 ∧ (0 : Int) ≤ y13 ∧ y13 < ((y16).n : Int) ∧ (
 ∃ (x44 x45 x46 x47 x48 : Int) (x49 : ByteArray) (x50 : Bool) (x51 : Int), cells H35 (Addr.add a39 (y13.toNat * 8)) (mR x44 x45 x46 x47 x48 x49 x50 x51) 0 ∧ (
 ∀ H52 : Hp, H52 = Array.push H35 (.cells (mR x44 x45 x46 x47 x48 x49 x50 x51).toArray 31) → (
 AppendF H52 31 8 72 (mR 0 0 0 0 0 bE false 0).toArray y12 ((Sl.mk (some (bk H35)) 1 1)).b ((Sl.mk (some (bk H35)) 1 1)).n (fun (r56 : Sl) (H54 : Hp) => 
 F5_3 Q X2 y14 y15 y16 y13 r56 H54)))))) ∧
 (r37 = false → (F5_3 Q X2 y14 y15 y16 y13 y12 H35))))))) ∧
 ((decide (y13 < ((y16).n : Int))) = false → (F5_1 Q y14 y15 y12 H_2))
def F5_L2 (Q : Bool → Hp → Prop) (y14 : Sl) (y15 : Addr) (y16 y12 : Sl) (y13 : Int) (H_2 : Hp) : Prop :=
 ∀ X2 : Sl → Int → Hp → Prop, (∀ (y12 : Sl) (y13 : Int) (H_2 : Hp), F5_L2b Q X2 y14 y15 y16 y12 y13 H_2 → X2 y12 y13 H_2) → X2 y12 y13 H_2
def F5 (p0 p1 : Sl) (p2_0 p2_1 p2_2 p2_3 p2_4 p2_5 : Int) (H : Hp) (Q : Bool → Hp → Prop) : Prop :=
∀ H1 : Hp, H1 = Array.push H (.cells #[(iv p2_0), (iv p2_1), (iv p2_2), (iv p2_3), (iv p2_4), (iv p2_5)] 45) → (
 F6 H1 (fun (r5 : Bool) (H3 : Hp) => 
 ((!r5) = true → (Q false H3)) ∧
 ((!r5) = false → (F7 p0 H3 (fun (r9 : Sl) (H7 : Hp) => 
 F5_L2 Q p1 (bk H) r9 Sl.nil 0 H7)))))
theorem walk5 {w0 : World} {p0 p1 : Sl} {p2_0 p2_1 p2_2 p2_3 p2_4 p2_5 : Int} {H : Hp} {Q : Bool → Hp → Prop} (h : F5 p0 p1 p2_0 p2_1 p2_2 p2_3 p2_4 p2_5 H Q) :
  Good prog w0 5 #[(Sl.v p0), (Sl.v p1), (.agg #[(iv p2_0), (iv p2_1), (iv p2_2), (iv p2_3), (iv p2_4), (iv p2_5)])] H (fun v H => ∃ (r0 : Bool) , v = (bv r0) ∧ Q r0 H) := by
 unfold F5 at h
 refine Good.enter' (fn := f5) func5 rfl rfl rfl (ws (wr_ (ho rfl (ob (v := (.agg #[(iv p2_0), (iv p2_1), (iv p2_2), (iv p2_3), (iv p2_4), (iv p2_5)])) rfl) ?_)))
 rintro _ H1 ⟨rfl, e2⟩
 replace h := h H1 e2
 refine hv (v := (bv false)) rfl (av rfl) (hn (nt (ws (wr_ (ho rfl (HOp.call' 6 [] (cap := []) rfl rfl call6 (walk6 h)) ?_)))))
 rintro _ H3 ⟨r5, rfl, h⟩
 refine hv (v := (bv r5)) rfl (av rfl) (hn (nt (ws (ws (wr_ (hv (v := (bv r5)) rfl (mv rfl) (hv (v := (bv (!r5))) rfl (HVal.not rfl) ?_)))))))
 refine hn (nt ?_)
 obtain ⟨hT, hF⟩ := h
 refine wk (!r5) rfl (fun hb6 => ?_) (fun hb6 => ?_)
 ·have h := hT hb6
  refine ws (wr_ (hv (v := (bv false)) rfl (av rfl) (hn (nt (HW.ret (tr ?_))))))
  exact ⟨_, resOf1 rfl Res1.t, ⟨false, rfl, h⟩⟩
 have h := hF hb6
 refine wp_ (nt (ws (wr_ (hv (v := sN) rfl (av rfl) (hn (nt (ws (wr_ (hv (v := (Sl.v p0)) rfl (mv rfl) ?_)))))))))
 refine ho rfl (HOp.call' 7 [(Sl.v p0)] (cap := []) rfl rfl call7 (walk7 h)) ?_
 rintro _ H7 ⟨r9, rfl, h⟩
 refine hv (v := (Sl.v r9)) rfl (av rfl) (hn (nt (wc (fun ρ H_1 => ∃ (y58 : Sl), Env.Is ρ [(1, (Sl.v p1)), (5, (pp (bk H))), (8, (Sl.v y58))] ∧ F5_1 Q p1 (bk H) y58 H_1) ?_ ?_)))
 ·refine ws (wr_ (hv (v := (iv 0)) rfl (av rfl) (hn (nt (wb (HW.loop' (fun L2 hL2 => ?_)))))))
  obtain ⟨X2, hX2⟩ : ∃ X2 : Sl → Int → Hp → Prop, ∀ (y12 : Sl) (y13 : Int) (H_2 : Hp), X2 y12 y13 H_2 ↔ ∀ ρ, Env.Is ρ [(1, (Sl.v p1)), (5, (pp (bk H))), (9, (Sl.v r9)), (8, (Sl.v y12)), (10, (iv y13))] → L2 ρ H_2 := ⟨_, fun _ _ _ => Iff.rfl⟩
  refine (hX2 _ _ _).1 (h X2 ?_) _ ?_
  rotate_left
  ·exact (isp rfl)
  clear h
  intro y12 y13 H_2 h
  refine (hX2 _ _ _).2 fun ρ hI => ?_
  obtain ⟨ρ0, rfl⟩ := hI.ex
  clear hI; unfold F5_L2b at h; refine hL2 _ _ ?_
  refine ws (ws (wr_ (hv (v := (iv y13)) rfl (mv rfl) (hv (v := (Sl.v r9)) rfl (mv rfl) (hv (v := (iv ((r9).n : Int))) rfl (HVal.len runUnderlying22 rfl) ?_)))))
  refine hv (v := (bv (decide (y13 < ((r9).n : Int))))) rfl (HVal.lss rfl rfl) (hn (nt ?_))
  obtain ⟨hT, hF⟩ := h
  refine wk (decide (y13 < ((r9).n : Int))) rfl (fun hb17 => ?_) (fun hb17 => ?_)
  ·have h := hT hb17
   refine wp_ (nt (wc (fun ρ H_3 => ∃ (y57 : Sl), Env.Is ρ [(1, (Sl.v p1)), (5, (pp (bk H))), (9, (Sl.v r9)), (10, (iv y13)), (8, (Sl.v y57))] ∧ F5_3 Q X2 p1 (bk H) r9 y13 y57 H_3) ?_ ?_))
   ·refine wb (ws (wr_ (hv (v := (Sl.v r9)) rfl (mv rfl) (hv (v := (iv y13)) rfl (mv rfl) ?_))))
    obtain ⟨a22, e23, b24, b25, h⟩ := h
    refine hv (v := (pp (Addr.add a22 (y13.toNat * 8)))) rfl (ia runUnderlying22 sizeOf31 (Sl.v_some rfl e23) rfl b24 b25) ?_
    obtain ⟨x27, x28, x29, x30, x31, x32, x33, x34, c26, h⟩ := h
    refine hv (v := (.agg (mR x27 x28 x29 x30 x31 x32 x33 x34).toArray)) rfl (ln (mR x27 x28 x29 x30 x31 x32 x33 x34) isAgg31 sizeOf31 rfl c26) ?_
    refine ho rfl (HOp.call' 15 [(.agg (mR x27 x28 x29 x30 x31 x32 x33 x34).toArray)] (cap := []) rfl rfl call15 (walk15 h)) ?_
    rintro _ H35 ⟨r37, rfl, h⟩
    refine hv (v := (bv r37)) rfl (av rfl) (hn (nt (ws (wr_ (hv (v := (bv r37)) rfl (mv rfl) (hn (nt ?_)))))))
    obtain ⟨hT, hF⟩ := h
    refine wk r37 rfl (fun hb38 => ?_) (fun hb38 => ?_)
    ·have h := hT hb38
     refine wr_ (hv (v := (Sl.v y12)) rfl (mv rfl) (hv (v := (Sl.v r9)) rfl (mv rfl) (hv (v := (iv y13)) rfl (mv rfl) ?_)))
     obtain ⟨a39, e40, b41, b42, h⟩ := h
     refine hv (v := (pp (Addr.add a39 (y13.toNat * 8)))) rfl (ia runUnderlying22 sizeOf31 (Sl.v_some rfl e40) rfl b41 b42) ?_
     obtain ⟨x44, x45, x46, x47, x48, x49, x50, x51, c43, h⟩ := h
     refine hv (v := (.agg (mR x44 x45 x46 x47 x48 x49 x50 x51).toArray)) rfl (ln (mR x44 x45 x46 x47 x48 x49 x50 x51) isAgg31 sizeOf31 rfl c43) ?_
     refine ho rfl (HOp.buildSlice' (zs := (mR 0 0 0 0 0 bE false 0)) (cs := (mR x44 x45 x46 x47 x48 x49 x50 x51)) runUnderlying22 sizeOf31 zeroValue31 (by decide) (by kernel_rfl) (by kernel_rfl) (by decide)) ?_
     rintro _ H52 ⟨rfl, e53⟩
     replace h := h H52 e53
     refine ho rfl (HOp.append (k := 8) (b := 72) runUnderlying22 runUnderlying22 typeInfo31 rfl rfl zeroValue31 rfl rfl h) ?_
     rintro _ H54 ⟨r56, rfl, h⟩
     refine hv (v := (Sl.v r56)) rfl (av rfl) (hn (nb (nt ?_)))
     exact ⟨r56, (isp rfl), h⟩
    have h := hF hb38
    refine wp_ (nb (nt ?_))
    exact ⟨y12, (isp rfl), h⟩
   rintro ρ H_3 ⟨y57, hI, h⟩
   obtain ⟨ρ0, rfl⟩ := hI.ex
   clear hI; unfold F5_3 at h
   refine wr_ (hv (v := (iv y13)) rfl (mv rfl) (hv (v := (iv (IntKind.i64.wrap (y13 + 1)))) rfl (HVal.add rfl rfl) (hv (v := (iv (IntKind.i64.wrap (y13 + 1)))) rfl (av rfl) ?_)))
   refine hn (nt ?_)
   exact (hX2 _ _ _).1 h _ (isp rfl)
  have h := hF hb17
  refine we (te (te (be (nt ?_))))
  exact ⟨y12, (isp rfl), h⟩
 rintro ρ H_1 ⟨y58, hI, h⟩
 obtain ⟨ρ0, rfl⟩ := hI.ex
 clear hI; unfold F5_1 at h
 refine ws (wr_ (hv (v := (Sl.v y58)) rfl (mv rfl) (hv (v := (Sl.v p1)) rfl (mv rfl) (ho rfl (HOp.call' 10 [(Sl.v y58), (Sl.v p1)] (cap := []) rfl rfl call10 (walk10 h)) ?_))))
 rintro _ H59 ⟨r61, rfl, h⟩
 refine hv (v := (Sl.v r61)) rfl (av rfl) (hn (nt (ws (wr_ (hv (v := (Sl.v r61)) rfl (mv rfl) (ho rfl (HOp.call' 16 [(Sl.v r61)] (cap := []) rfl rfl call16 (walk16 h)) ?_))))))
 rintro _ H62 ⟨r64, rfl, h⟩
 refine hv (v := (Sl.v r64)) rfl (av rfl) (hn (nt (ws (wr_ (ho rfl (HOp.alloc zeroValue26) ?_)))))
 rintro _ H65 ⟨rfl, e66⟩
 replace h := h H65 e66
 refine hn (nt (wc (fun ρ H_4 => Env.Is ρ [(1, (Sl.v p1)), (8, (Sl.v y58)), (12, (Sl.v r61)), (13, (Sl.v r64)), (14, (pp (bk H62)))] ∧ F5_4 Q p1 y58 r61 r64 (bk H62) H_4) ?_ ?_))
 ·refine ws (wr_ (hv (v := (iv 0)) rfl (av rfl) (hn (nt (wb (HW.loop' (fun L5 hL5 => ?_)))))))
  obtain ⟨X5, hX5⟩ : ∃ X5 : Int → Hp → Prop, ∀ (y72 : Int) (H_5 : Hp), X5 y72 H_5 ↔ ∀ ρ, Env.Is ρ [(1, (Sl.v p1)), (5, (pp (bk H))), (8, (Sl.v y58)), (12, (Sl.v r61)), (13, (Sl.v r64)), (14, (pp (bk H62))), (15, (iv y72))] → L5 ρ H_5 := ⟨_, fun _ _ => Iff.rfl⟩
  refine (hX5 _ _).1 (h X5 ?_) _ ?_
  rotate_left
  ·exact (isp rfl)
  clear h
  intro y72 H_5 h
  refine (hX5 _ _).2 fun ρ hI => ?_
  obtain ⟨ρ0, rfl⟩ := hI.ex
  clear hI; unfold F5_L5b at h; refine hL5 _ _ ?_
  refine ws (ws (wr_ (hv (v := (iv y72)) rfl (mv rfl) (hv (v := (bv (decide (y72 < 6)))) rfl (HVal.lss rfl rfl) (hn (nt ?_))))))
  obtain ⟨hT, hF⟩ := h
  refine wk (decide (y72 < 6)) rfl (fun hb79 => ?_) (fun hb79 => ?_)
  ·have h := hT hb79
   refine wp_ (nt (ws (wb (wr_ (hv (v := (iv y72)) rfl (mv rfl) (hv (v := (iv y72)) rfl (mv rfl) ?_))))))
   obtain ⟨b80, b81, h⟩ := h
   refine hv (v := (pp (Addr.add (bk H) (y72.toNat * 1)))) rfl (HVal.indexAddrA runUnderlying45 sizeOf2 rfl rfl b80 b81) ?_
   obtain ⟨x83, c82, h⟩ := h
   refine hv (v := (iv x83)) rfl (l1 isAgg2 rfl c82) (hv (v := (.agg (vR 1 x83 bE false).toArray)) rfl (HVal.build' (cs := (vR 1 x83 bE false)) runUnderlying25 zeroValue25 places25 rfl) ?_)
   obtain ⟨b84, b85, h⟩ := h
   refine hv (v := (pp (Addr.add (bk H62) (y72.toNat * 4)))) rfl (HVal.indexAddrA runUnderlying26 sizeOf25 rfl rfl b84 b85) ?_
   obtain ⟨z88, h⟩ := h
   refine hq (HOp.storeN' (l := (vR 1 x83 bE false)) sizeOf25 rfl rfl rfl z88) ?_
   rintro _ H86 e87
   replace h := h H86 e87
   refine hn (nb (nt (wr_ (hv (v := (iv y72)) rfl (mv rfl) (hv (v := (iv (IntKind.i64.wrap (y72 + 1)))) rfl (HVal.add rfl rfl) ?_)))))
   refine hv (v := (iv (IntKind.i64.wrap (y72 + 1)))) rfl (av rfl) (hn (nt ?_))
   exact (hX5 _ _).1 h _ (isp rfl)
  have h := hF hb79
  refine we (te (te (be (nt ?_))))
  exact ⟨(isp rfl), h⟩
 rintro ρ H_4 ⟨hI, h⟩
 obtain ⟨ρ0, rfl⟩ := hI.ex
 clear hI; unfold F5_4 at h
 refine ws (wr_ (hv (v := sN) rfl (av rfl) (hn (nt (wc (fun ρ H_6 => ∃ (y196 : Sl), Env.Is ρ [(12, (Sl.v r61)), (13, (Sl.v r64)), (16, (Sl.v y196))] ∧ F5_6 Q r61 r64 y196 H_6) ?_ ?_)))))
 ·refine ws (wr_ (hv (v := (iv 0)) rfl (av rfl) (hn (nt (wb (HW.loop' (fun L7 hL7 => ?_)))))))
  obtain ⟨X7, hX7⟩ : ∃ X7 : Sl → Int → Hp → Prop, ∀ (y91 : Sl) (y92 : Int) (H_7 : Hp), X7 y91 y92 H_7 ↔ ∀ ρ, Env.Is ρ [(1, (Sl.v p1)), (8, (Sl.v y58)), (12, (Sl.v r61)), (13, (Sl.v r64)), (14, (pp (bk H62))), (16, (Sl.v y91)), (17, (iv y92))] → L7 ρ H_7 := ⟨_, fun _ _ _ => Iff.rfl⟩
  refine (hX7 _ _ _).1 (h X7 ?_) _ ?_
  rotate_left
  ·exact (isp rfl)
  clear h
  intro y91 y92 H_7 h
  refine (hX7 _ _ _).2 fun ρ hI => ?_
  obtain ⟨ρ0, rfl⟩ := hI.ex
  clear hI; unfold F5_L7b at h; refine hL7 _ _ ?_
  refine ws (ws (wr_ (hv (v := (iv y92)) rfl (mv rfl) (hv (v := (Sl.v y58)) rfl (mv rfl) (hv (v := (iv ((y58).n : Int))) rfl (HVal.len runUnderlying22 rfl) ?_)))))
  refine hv (v := (bv (decide (y92 < ((y58).n : Int))))) rfl (HVal.lss rfl rfl) (hn (nt ?_))
  obtain ⟨hT, hF⟩ := h
  refine wk (decide (y92 < ((y58).n : Int))) rfl (fun hb98 => ?_) (fun hb98 => ?_)
  ·have h := hT hb98
   refine wp_ (nt (wc (fun ρ H_8 => ∃ (y182 : Sl), Env.Is ρ [(1, (Sl.v p1)), (8, (Sl.v y58)), (12, (Sl.v r61)), (13, (Sl.v r64)), (14, (pp (bk H62))), (17, (iv y92)), (16, (Sl.v y182))] ∧ F5_8 Q X7 p1 y58 r61 r64 (bk H62) y92 y182 H_8) ?_ ?_))
   ·refine wb (ws (HW.draw mixed [(0, some []), (1, some []), (2, some []), (3, some [5]), (4, some [5]), (5, none), (6, some [])] rfl (by kernel_rfl) (by kernel_rfl) ?_))
    refine pv (v := (Sl.v y58)) rfl rfl (fun _ => mv rfl) (pv (v := (iv y92)) rfl rfl (fun _ => mv rfl) ?_)
    obtain ⟨a105, e106, b107, b108, h⟩ := h
    refine pv (v := (pp (Addr.add a105 (y92.toNat * 8)))) rfl rfl (fun _ => ia runUnderlying22 sizeOf31 (Sl.v_some rfl e106) rfl b107 b108) ?_
    obtain ⟨x110, x111, x112, x113, x114, x115, x116, x117, c109, h⟩ := h
    refine pl (v := (.agg (mR x110 x111 x112 x113 x114 x115 x116 x117).toArray)) (fun X => cells X (Addr.add a105 (y92.toNat * 8)) (mR x110 x111 x112 x113 x114 x115 x116 x117) 0) rfl rfl (fun _ hX => ln (mR x110 x111 x112 x113 x114 x115 x116 x117) isAgg31 sizeOf31 rfl hX) c109 ?_
    obtain ⟨x119, x120, x121, x122, x123, x124, x125, x126, x127, x128, x129, x130, x131, x132, x133, x134, x135, x136, x137, x138, x139, x140, x141, x142, c118, h⟩ := h
    refine pl (v := (.agg (nR x119 x120 x121 x122 x123 x124 x125 x126 x127 x128 x129 x130 x131 x132 x133 x134 x135 x136 x137 x138 x139 x140 x141 x142).toArray)) (fun X => cells X (bk H62) (nR x119 x120 x121 x122 x123 x124 x125 x126 x127 x128 x129 x130 x131 x132 x133 x134 x135 x136 x137 x138 x139 x140 x141 x142) 0) rfl rfl (fun _ hX => ln (nR x119 x120 x121 x122 x123 x124 x125 x126 x127 x128 x129 x130 x131 x132 x133 x134 x135 x136 x137 x138 x139 x140 x141 x142) isAgg26 sizeOf26 rfl hX) c118 ?_
    refine po rfl rfl (HOp.call' 8 [(.agg (mR x110 x111 x112 x113 x114 x115 x116 x117).toArray), (.agg (nR x119 x120 x121 x122 x123 x124 x125 x126 x127 x128 x129 x130 x131 x132 x133 x134 x135 x136 x137 x138 x139 x140 x141 x142).toArray)] (cap := []) rfl rfl call8 (walk8 h)) ?_
    rintro _ H143 ⟨r145, rfl, h⟩
    refine ⟨SC_of ⟨nofun, nofun, trivial⟩, ?_⟩
    refine pv (v := (bv r145)) rfl rfl (fun _ => av rfl) (HPlan.done (nt (wc (fun ρ H_9 => ∃ (y164 : Bool), Env.Is ρ [(1, (Sl.v p1)), (8, (Sl.v y58)), (12, (Sl.v r61)), (13, (Sl.v r64)), (14, (pp (bk H62))), (16, (Sl.v y91)), (17, (iv y92)), (18, (bv r145)), (97, (bv y164))] ∧ F5_9 Q X7 p1 y58 r61 r64 (bk H62) y91 y92 r145 y164 H_9) ?_ ?_)))
    ·refine wr_ (hv (v := (Sl.v y91)) rfl (mv rfl) (hv (v := (iv ((y91).n : Int))) rfl (HVal.len runUnderlying23 rfl) (hv (v := (bv (decide ((0 : Int) < ((y91).n : Int))))) rfl (HVal.gtr rfl rfl) ?_)))
     refine hv (v := (bv (decide ((0 : Int) < ((y91).n : Int))))) rfl (mv rfl) ?_
     obtain ⟨hT, hF⟩ := h
     rcases Bool.eq_false_or_eq_true (decide ((0 : Int) < ((y91).n : Int))) with hb154 | hb155
     ·have h := hT hb154
      refine hg (v := (iv y92)) rfl rfl rfl rfl (cB hb154) (mv rfl) (hg (v := (Sl.v p1)) rfl rfl rfl rfl (cB hb154) (mv rfl) ?_)
      refine hg (v := (iv ((p1).n : Int))) rfl rfl rfl rfl (cB hb154) (HVal.len runUnderlying23 rfl) (hg (v := (bv (decide (y92 < ((p1).n : Int))))) rfl rfl rfl rfl (cB hb154) (HVal.lss rfl rfl) ?_)
      refine hv (v := (bv (decide (y92 < ((p1).n : Int))))) rfl (pt_ rfl hb154 rfl) (hv (v := (bv (decide (y92 < ((p1).n : Int))))) rfl (mv rfl) ?_)
      obtain ⟨hT, hF⟩ := h
      rcases Bool.eq_false_or_eq_true (decide (y92 < ((p1).n : Int))) with hb156 | hb157
      ·have h := hT hb156
       refine hg (v := (Sl.v p1)) rfl rfl rfl rfl (cB hb156) (mv rfl) (hg (v := (iv y92)) rfl rfl rfl rfl (cB hb156) (mv rfl) ?_)
       obtain ⟨a158, e159, b160, b161, h⟩ := h
       refine hg (v := (pp (Addr.add a158 (y92.toNat * 1)))) rfl rfl rfl rfl (cB hb156) (ia runUnderlying23 sizeOf4 (Sl.v_some rfl e159) rfl b160 b161) ?_
       obtain ⟨x163, c162, h⟩ := h
       refine hg (v := (bv x163)) rfl rfl rfl rfl (cB hb156) (l1 isAgg4 rfl c162) (hv (v := (bv x163)) rfl (pt_ rfl hb156 rfl) ?_)
       refine hn (nt ?_)
       exact ⟨x163, (isp rfl), h⟩
      have h := hF hb157
      refine hs_ rfl rfl rfl rfl (cB hb157) (hs_ rfl rfl rfl rfl (cB hb157) (hs_ rfl rfl rfl rfl (cB hb157) (hs_ rfl rfl rfl rfl (cB hb157) ?_)))
      refine hv (v := (bv false)) rfl (pf_ rfl hb157 rfl) (hn (nt ?_))
      exact ⟨false, (isp rfl), h⟩
     have h := hF hb155
     refine hs_ rfl rfl rfl rfl (cB hb155) (hs_ rfl rfl rfl rfl (cB hb155) (hs_ rfl rfl rfl rfl (cB hb155) (hs_ rfl rfl rfl rfl (cB hb155) ?_)))
     refine hv (v := (bv false)) rfl (pf_ rfl hb155 rfl) (hv (v := (bv false)) rfl (mv rfl) (hs_ rfl rfl rfl rfl rfl ?_))
     refine hs_ rfl rfl rfl rfl rfl (hs_ rfl rfl rfl rfl rfl (hs_ rfl rfl rfl rfl rfl (hv (v := (bv false)) rfl (pf_ rfl rfl rfl) ?_)))
     refine hn (nt ?_)
     exact ⟨false, (isp rfl), h⟩
    rintro ρ H_9 ⟨y164, hI, h⟩
    obtain ⟨ρ0, rfl⟩ := hI.ex
    clear hI; unfold F5_9 at h
    obtain ⟨hT, hF⟩ := h
    refine wk y164 rfl (fun hb165 => ?_) (fun hb165 => ?_)
    ·have h := hT hb165
     refine wr_ (hv (v := (Sl.v y91)) rfl (mv rfl) (hv (v := (Sl.v y91)) rfl (mv rfl) (hv (v := (iv ((y91).n : Int))) rfl (HVal.len runUnderlying23 rfl) ?_)))
     refine hv (v := (iv (IntKind.i64.wrap (((y91).n : Int) - 1)))) rfl (HVal.sub rfl rfl) (hv (v := (Sl.v y91)) rfl (mv rfl) (hv (v := (Sl.v y91)) rfl (mv rfl) ?_))
     refine hv (v := (iv ((y91).n : Int))) rfl (HVal.len runUnderlying23 rfl) (hv (v := (iv (IntKind.i64.wrap (((y91).n : Int) - 1)))) rfl (HVal.sub rfl rfl) ?_)
     obtain ⟨a166, e167, b168, b169, h⟩ := h
     refine hv (v := (pp (Addr.add a166 ((IntKind.i64.wrap (((y91).n : Int) - 1)).toNat * 1)))) rfl (ia runUnderlying23 sizeOf4 (Sl.v_some rfl e167) rfl b168 b169) ?_
     obtain ⟨x171, c170, h⟩ := h
     refine hv (v := (bv x171)) rfl (l1 isAgg4 rfl c170) (hv (v := (bv x171)) rfl (mv rfl) ?_)
     obtain ⟨hT, hF⟩ := h
     rcases Bool.eq_false_or_eq_true x171 with hb172 | hb173
     ·have h := hT hb172
      refine hg (v := (bv r145)) rfl rfl rfl rfl (cB hb172) (mv rfl) (hv (v := (bv r145)) rfl (pt_ rfl hb172 rfl) ?_)
      obtain ⟨a174, e175, b176, b177, h⟩ := h
      refine hv (v := (pp (Addr.add a174 ((IntKind.i64.wrap (((y91).n : Int) - 1)).toNat * 1)))) rfl (ia runUnderlying23 sizeOf4 (Sl.v_some rfl e175) rfl b176 b177) ?_
      obtain ⟨z180, z181, h⟩ := h
      refine hq (HOp.store1 sizeOf4 rfl rfl rfl z180 z181) ?_
      rintro _ H178 e179
      replace h := h H178 e179
      refine hn (nb (nt ?_))
      exact ⟨y91, (isp rfl), h⟩
     have h := hF hb173
     refine hs_ rfl rfl rfl rfl (cB hb173) (hv (v := (bv false)) rfl (pf_ rfl hb173 rfl) ?_)
     obtain ⟨a183, e184, b185, b186, h⟩ := h
     refine hv (v := (pp (Addr.add a183 ((IntKind.i64.wrap (((y91).n : Int) - 1)).toNat * 1)))) rfl (ia runUnderlying23 sizeOf4 (Sl.v_some rfl e184) rfl b185 b186) ?_
     obtain ⟨z189, z190, h⟩ := h
     refine hq (HOp.store1 sizeOf4 rfl rfl rfl z189 z190) ?_
     rintro _ H187 e188
     replace h := h H187 e188
     refine hn (nb (nt ?_))
     exact ⟨y91, (isp rfl), h⟩
    have h := hF hb165
    refine wr_ (hv (v := (Sl.v y91)) rfl (mv rfl) (hv (v := (bv r145)) rfl (mv rfl) (ho rfl (HOp.buildSlice' (zs := [(bv false)]) (cs := [(bv r145)]) runUnderlying23 sizeOf4 zeroValue4 (by decide) (by kernel_rfl) rfl (by decide)) ?_)))
    rintro _ H191 ⟨rfl, e192⟩
    replace h := h H191 e192
    refine ho rfl (HOp.append (k := 1) (b := 1) runUnderlying23 runUnderlying23 typeInfo4 rfl rfl zeroValue4 rfl rfl h) ?_
    rintro _ H193 ⟨r195, rfl, h⟩
    refine hv (v := (Sl.v r195)) rfl (av rfl) (hn (nb (nt ?_)))
    exact ⟨r195, (isp rfl), h⟩
   rintro ρ H_8 ⟨y182, hI, h⟩
   obtain ⟨ρ0, rfl⟩ := hI.ex
   clear hI; unfold F5_8 at h
   refine wr_ (hv (v := (iv y92)) rfl (mv rfl) (hv (v := (iv (IntKind.i64.wrap (y92 + 1)))) rfl (HVal.add rfl rfl) (hv (v := (iv (IntKind.i64.wrap (y92 + 1)))) rfl (av rfl) ?_)))
   refine hn (nt ?_)
   exact (hX7 _ _ _).1 h _ (isp rfl)
  have h := hF hb98
  refine we (te (te (be (nt ?_))))
  exact ⟨y91, (isp rfl), h⟩
 rintro ρ H_6 ⟨y196, hI, h⟩
 obtain ⟨ρ0, rfl⟩ := hI.ex
 clear hI; unfold F5_6 at h
 refine ws (wr_ (hv (v := sN) rfl (av rfl) (hn (nt (ws (wr_ (hv (v := (bv true)) rfl (av rfl) ?_)))))))
 refine hn (nt (ws (wr_ (hv (v := (bv true)) rfl (av rfl) (hn (nt (ws (wr_ (hv (v := (iv 0)) rfl (av rfl) ?_)))))))))
 refine hn (nt (wc (fun ρ H_10 => ∃ (y298 : Sl) (y299 y300 : Bool) (y301 : Int), Env.Is ρ [(12, (Sl.v r61)), (13, (Sl.v r64)), (16, (Sl.v y196)), (19, (Sl.v y298)), (20, (bv y299)), (21, (bv y300)), (22, (iv y301))] ∧ F5_10 Q r61 r64 y196 y298 y299 y300 y301 H_10) ?_ ?_))
 ·refine ws (wr_ (hv (v := (iv 0)) rfl (av rfl) (hn (nt (wb (HW.loop' (fun L11 hL11 => ?_)))))))
  obtain ⟨X11, hX11⟩ : ∃ X11 : Sl → Bool → Bool → Int → Int → Hp → Prop, ∀ (y200 : Sl) (y201 y202 : Bool) (y203 y204 : Int) (H_11 : Hp), X11 y200 y201 y202 y203 y204 H_11 ↔ ∀ ρ, Env.Is ρ [(12, (Sl.v r61)), (13, (Sl.v r64)), (16, (Sl.v y196)), (19, (Sl.v y200)), (20, (bv y201)), (21, (bv y202)), (22, (iv y203)), (23, (iv y204))] → L11 ρ H_11 := ⟨_, fun _ _ _ _ _ _ => Iff.rfl⟩
  refine (hX11 _ _ _ _ _ _).1 (h X11 ?_) _ ?_
  rotate_left
  ·exact (isp rfl)
  clear h
  intro y200 y201 y202 y203 y204 H_11 h
  refine (hX11 _ _ _ _ _ _).2 fun ρ hI => ?_
  obtain ⟨ρ0, rfl⟩ := hI.ex
  clear hI; unfold F5_L11b at h; refine hL11 _ _ ?_
  refine ws (ws (wr_ (hv (v := (iv y204)) rfl (mv rfl) (hv (v := (Sl.v r61)) rfl (mv rfl) (hv (v := (iv ((r61).n : Int))) rfl (HVal.len runUnderlying35 rfl) ?_)))))
  refine hv (v := (bv (decide (y204 < ((r61).n : Int))))) rfl (HVal.lss rfl rfl) (hn (nt ?_))
  obtain ⟨hT, hF⟩ := h
  refine wk (decide (y204 < ((r61).n : Int))) rfl (fun hb208 => ?_) (fun hb208 => ?_)
  ·have h := hT hb208
   refine wp_ (nt (wc (fun ρ H_12 => ∃ (y266 : Sl) (y267 y268 : Bool) (y269 : Int), Env.Is ρ [(12, (Sl.v r61)), (13, (Sl.v r64)), (16, (Sl.v y196)), (23, (iv y204)), (19, (Sl.v y266)), (20, (bv y267)), (21, (bv y268)), (22, (iv y269))] ∧ F5_12 Q X11 r61 r64 y196 y204 y266 y267 y268 y269 H_12) ?_ ?_))
   ·refine wb (wc (fun ρ H_13 => ∃ (y229 : Bool), Env.Is ρ [(12, (Sl.v r61)), (13, (Sl.v r64)), (16, (Sl.v y196)), (19, (Sl.v y200)), (20, (bv y201)), (21, (bv y202)), (22, (iv y203)), (23, (iv y204)), (133, (bv y229))] ∧ F5_13 Q X11 r61 r64 y196 y200 y201 y202 y203 y204 y229 H_13) ?_ ?_)
    ·refine wr_ (hv (v := (iv y203)) rfl (mv rfl) (hv (v := (Sl.v r64)) rfl (mv rfl) (hv (v := (iv ((r64).n : Int))) rfl (HVal.len runUnderlying47 rfl) ?_)))
     refine hv (v := (bv (decide (y203 < ((r64).n : Int))))) rfl (HVal.lss rfl rfl) (hv (v := (bv (decide (y203 < ((r64).n : Int))))) rfl (mv rfl) ?_)
     obtain ⟨hT, hF⟩ := h
     rcases Bool.eq_false_or_eq_true (decide (y203 < ((r64).n : Int))) with hb221 | hb222
     ·have h := hT hb221
      refine hg (v := (Sl.v r64)) rfl rfl rfl rfl (cB hb221) (mv rfl) (hg (v := (iv y203)) rfl rfl rfl rfl (cB hb221) (mv rfl) ?_)
      obtain ⟨a223, e224, b225, b226, h⟩ := h
      refine hg (v := (pp (Addr.add a223 (y203.toNat * 1)))) rfl rfl rfl rfl (cB hb221) (ia runUnderlying47 sizeOf3 (Sl.v_some rfl e224) rfl b225 b226) ?_
      obtain ⟨x228, c227, h⟩ := h
      refine hg (v := (iv x228)) rfl rfl rfl rfl (cB hb221) (l1 isAgg3 rfl c227) (hg (v := (iv y204)) rfl rfl rfl rfl (cB hb221) (mv rfl) ?_)
      refine hg (v := (bv (decide (x228 = y204)))) rfl rfl rfl rfl (cB hb221) (HVal.eqlI rfl rfl) (hv (v := (bv (decide (x228 = y204)))) rfl (pt_ rfl hb221 rfl) ?_)
      refine hn (nt ?_)
      exact ⟨(decide (x228 = y204)), (isp rfl), h⟩
     have h := hF hb222
     refine hs_ rfl rfl rfl rfl (cB hb222) (hs_ rfl rfl rfl rfl (cB hb222) (hs_ rfl rfl rfl rfl (cB hb222) (hs_ rfl rfl rfl rfl (cB hb222) ?_)))
     refine hs_ rfl rfl rfl rfl (cB hb222) (hs_ rfl rfl rfl rfl (cB hb222) (hv (v := (bv false)) rfl (pf_ rfl hb222 rfl) (hn (nt ?_))))
     exact ⟨false, (isp rfl), h⟩
    rintro ρ H_13 ⟨y229, hI, h⟩
    obtain ⟨ρ0, rfl⟩ := hI.ex
    clear hI; unfold F5_13 at h
    obtain ⟨hT, hF⟩ := h
    refine wk y229 rfl (fun hb230 => ?_) (fun hb230 => ?_)
    ·have h := hT hb230
     refine ws (wr_ (hv (v := (Sl.v r61)) rfl (mv rfl) (hv (v := (iv y204)) rfl (mv rfl) ?_)))
     obtain ⟨a231, e232, b233, b234, h⟩ := h
     refine hv (v := (pp (Addr.add a231 (y204.toNat * 10)))) rfl (ia runUnderlying35 sizeOf41 (Sl.v_some rfl e232) rfl b233 b234) ?_
     obtain ⟨x236, x237, x238, x239, x240, x241, x242, x243, x244, x245, c235, h⟩ := h
     refine hv (v := (.agg (eR x236 x237 x238 x239 x240 x241 x242 x243 x244 x245).toArray)) rfl (ln (eR x236 x237 x238 x239 x240 x241 x242 x243 x244 x245) isAgg41 sizeOf41 rfl c235) ?_
     refine ho rfl (HOp.call' 17 [(.agg (eR x236 x237 x238 x239 x240 x241 x242 x243 x244 x245).toArray)] (cap := []) rfl rfl call17 (walk17 h)) ?_
     rintro _ H246 ⟨r248, rfl, h⟩
     refine hv (v := (bv r248)) rfl (av rfl) (hn (nt (ws (ws (wr_ (hv (v := (bv r248)) rfl (mv rfl) ?_))))))
     refine hv (v := (bv (!r248))) rfl (HVal.not rfl) (hn (nt ?_))
     obtain ⟨hT, hF⟩ := h
     refine wk (!r248) rfl (fun hb249 => ?_) (fun hb249 => ?_)
     ·have h := hT hb249
      refine ws (wr_ (hv (v := (bv false)) rfl (av rfl) (hn (nt (HW.ret (tr (br (tr (tr (br (tr ?_)))))))))))
      exact ⟨_, resOf1 rfl Res1.t, ⟨false, rfl, h⟩⟩
     have h := hF hb249
     refine wp_ (nt (wc (fun ρ H_14 => ∃ (y265 : Bool), Env.Is ρ [(12, (Sl.v r61)), (13, (Sl.v r64)), (16, (Sl.v y196)), (19, (Sl.v y200)), (20, (bv y201)), (22, (iv y203)), (23, (iv y204)), (21, (bv y265))] ∧ F5_14 Q X11 r61 r64 y196 y200 y201 y203 y204 y265 H_14) ?_ ?_))
     ·refine wr_ (hv (v := (bv y202)) rfl (mv rfl) (hv (v := (bv y202)) rfl (mv rfl) ?_))
      obtain ⟨hT, hF⟩ := h
      rcases Bool.eq_false_or_eq_true y202 with hb257 | hb258
      ·have h := hT hb257
       refine hg (v := (Sl.v y196)) rfl rfl rfl rfl (cB hb257) (mv rfl) (hg (v := (iv y204)) rfl rfl rfl rfl (cB hb257) (mv rfl) ?_)
       obtain ⟨a259, e260, b261, b262, h⟩ := h
       refine hg (v := (pp (Addr.add a259 (y204.toNat * 1)))) rfl rfl rfl rfl (cB hb257) (ia runUnderlying23 sizeOf4 (Sl.v_some rfl e260) rfl b261 b262) ?_
       obtain ⟨x264, c263, h⟩ := h
       refine hg (v := (bv x264)) rfl rfl rfl rfl (cB hb257) (l1 isAgg4 rfl c263) (hv (v := (bv x264)) rfl (pt_ rfl hb257 rfl) ?_)
       refine hv (v := (bv x264)) rfl (av rfl) (hn (nt ?_))
       exact ⟨x264, (isp rfl), h⟩
      have h := hF hb258
      refine hs_ rfl rfl rfl rfl (cB hb258) (hs_ rfl rfl rfl rfl (cB hb258) (hs_ rfl rfl rfl rfl (cB hb258) (hs_ rfl rfl rfl rfl (cB hb258) ?_)))
      refine hv (v := (bv false)) rfl (pf_ rfl hb258 rfl) (hv (v := (bv false)) rfl (av rfl) (hn (nt ?_)))
      exact ⟨false, (isp rfl), h⟩
     rintro ρ H_14 ⟨y265, hI, h⟩
     obtain ⟨ρ0, rfl⟩ := hI.ex
     clear hI; unfold F5_14 at h
     refine wr_ (hv (v := (iv y203)) rfl (mv rfl) (hv (v := (iv (IntKind.i64.wrap (y203 + 1)))) rfl (HVal.add rfl rfl) (hv (v := (iv (IntKind.i64.wrap (y203 + 1)))) rfl (av rfl) ?_)))
     refine hn (nb (nt ?_))
     exact ⟨y200, y201, y265, (IntKind.i64.wrap (y203 + 1)), (isp rfl), h⟩
    have h := hF hb230
    refine ws (wr_ (hv (v := (Sl.v y200)) rfl (mv rfl) (hv (v := (Sl.v r61)) rfl (mv rfl) (hv (v := (iv y204)) rfl (mv rfl) ?_))))
    obtain ⟨a270, e271, b272, b273, h⟩ := h
    refine hv (v := (pp (Addr.add a270 (y204.toNat * 10)))) rfl (ia runUnderlying35 sizeOf41 (Sl.v_some rfl e271) rfl b272 b273) ?_
    obtain ⟨x275, x276, x277, x278, x279, x280, x281, x282, x283, x284, c274, h⟩ := h
    refine hv (v := (.agg (eR x275 x276 x277 x278 x279 x280 x281 x282 x283 x284).toArray)) rfl (ln (eR x275 x276 x277 x278 x279 x280 x281 x282 x283 x284) isAgg41 sizeOf41 rfl c274) ?_
    refine ho rfl (HOp.buildSlice' (zs := zR) (cs := (eR x275 x276 x277 x278 x279 x280 x281 x282 x283 x284)) runUnderlying35 sizeOf41 zeroValue41 (by decide) (by kernel_rfl) (by kernel_rfl) (by decide)) ?_
    rintro _ H285 ⟨rfl, e286⟩
    replace h := h H285 e286
    refine ho rfl (HOp.append (k := 10) (b := 120) runUnderlying35 runUnderlying35 typeInfo41 rfl rfl zeroValue41 rfl rfl h) ?_
    rintro _ H287 ⟨r289, rfl, h⟩
    refine hv (v := (Sl.v r289)) rfl (av rfl) (hn (nt (wr_ (hv (v := (bv y201)) rfl (mv rfl) (hv (v := (bv y201)) rfl (mv rfl) ?_)))))
    obtain ⟨hT, hF⟩ := h
    rcases Bool.eq_false_or_eq_true y201 with hb290 | hb291
    ·have h := hT hb290
     refine hg (v := (Sl.v y196)) rfl rfl rfl rfl (cB hb290) (mv rfl) (hg (v := (iv y204)) rfl rfl rfl rfl (cB hb290) (mv rfl) ?_)
     obtain ⟨a292, e293, b294, b295, h⟩ := h
     refine hg (v := (pp (Addr.add a292 (y204.toNat * 1)))) rfl rfl rfl rfl (cB hb290) (ia runUnderlying23 sizeOf4 (Sl.v_some rfl e293) rfl b294 b295) ?_
     obtain ⟨x297, c296, h⟩ := h
     refine hg (v := (bv x297)) rfl rfl rfl rfl (cB hb290) (l1 isAgg4 rfl c296) (hv (v := (bv x297)) rfl (pt_ rfl hb290 rfl) ?_)
     refine hv (v := (bv x297)) rfl (av rfl) (hn (nb (nt ?_)))
     exact ⟨r289, x297, y202, y203, (isp rfl), h⟩
    have h := hF hb291
    refine hs_ rfl rfl rfl rfl (cB hb291) (hs_ rfl rfl rfl rfl (cB hb291) (hs_ rfl rfl rfl rfl (cB hb291) (hs_ rfl rfl rfl rfl (cB hb291) ?_)))
    refine hv (v := (bv false)) rfl (pf_ rfl hb291 rfl) (hv (v := (bv false)) rfl (av rfl) (hn (nb (nt ?_))))
    exact ⟨r289, false, y202, y203, (isp rfl), h⟩
   rintro ρ H_12 ⟨y266, y267, y268, y269, hI, h⟩
   obtain ⟨ρ0, rfl⟩ := hI.ex
   clear hI; unfold F5_12 at h
   refine wr_ (hv (v := (iv y204)) rfl (mv rfl) (hv (v := (iv (IntKind.i64.wrap (y204 + 1)))) rfl (HVal.add rfl rfl) (hv (v := (iv (IntKind.i64.wrap (y204 + 1)))) rfl (av rfl) ?_)))
   refine hn (nt ?_)
   exact (hX11 _ _ _ _ _ _).1 h _ (isp rfl)
  have h := hF hb208
  refine we (te (te (be (nt ?_))))
  exact ⟨y200, y201, y202, y203, (isp rfl), h⟩
 rintro ρ H_10 ⟨y298, y299, y300, y301, hI, h⟩
 obtain ⟨ρ0, rfl⟩ := hI.ex
 clear hI; unfold F5_10 at h
 refine ws (wc (fun ρ H_15 => ∃ (y306 : Bool), Env.Is ρ [(12, (Sl.v r61)), (19, (Sl.v y298)), (191, (bv y306))] ∧ F5_15 Q r61 y298 y306 H_15) ?_ ?_)
 ·refine wr_ (hv (v := (iv y301)) rfl (mv rfl) (hv (v := (Sl.v r64)) rfl (mv rfl) (hv (v := (iv ((r64).n : Int))) rfl (HVal.len runUnderlying47 rfl) ?_)))
  refine hv (v := (bv (decide (y301 ≠ ((r64).n : Int))))) rfl (HVal.neqI rfl rfl) (hv (v := (bv (decide (y301 ≠ ((r64).n : Int))))) rfl (mv rfl) ?_)
  obtain ⟨hT, hF⟩ := h
  rcases Bool.eq_false_or_eq_true (decide (y301 ≠ ((r64).n : Int))) with hb304 | hb305
  ·have h := hT hb304
   refine hs_ rfl rfl rfl rfl (cB hb304) (hs_ rfl rfl rfl rfl (cB hb304) (HList.uskips rfl rfl rfl rfl rfl (HList.uskips rfl rfl rfl rfl rfl ?_)))
   refine hs_ rfl rfl rfl rfl (cB hb304) (hv (v := (bv true)) rfl (pt_ rfl hb304 rfl) (hv (v := (bv true)) rfl (mv rfl) ?_))
   refine hs_ rfl rfl rfl rfl rfl (hs_ rfl rfl rfl rfl rfl (hs_ rfl rfl rfl rfl rfl (hs_ rfl rfl rfl rfl rfl (HList.uskips rfl rfl rfl rfl rfl ?_))))
   refine HList.uskips rfl rfl rfl rfl rfl (HList.uskips rfl rfl rfl rfl rfl (HList.uskips rfl rfl rfl rfl rfl (hs_ rfl rfl rfl rfl rfl (hs_ rfl rfl rfl rfl rfl ?_))))
   refine HList.uskips rfl rfl rfl rfl rfl (HList.uskips rfl rfl rfl rfl rfl (HList.uskips rfl rfl rfl rfl rfl (HList.uskips rfl rfl rfl rfl rfl (hs_ rfl rfl rfl rfl rfl ?_))))
   refine hv (v := (bv true)) rfl (pt_ rfl rfl rfl) (hn (nt ?_))
   exact ⟨true, (isp rfl), h⟩
  have h := hF hb305
  refine hg (v := (bv y299)) rfl rfl rfl rfl (cB hb305) (mv rfl) (hg (v := (bv y299)) rfl rfl rfl rfl (cB hb305) (mv rfl) ?_)
  obtain ⟨hT, hF⟩ := h
  rcases Bool.eq_false_or_eq_true y299 with hb307 | hb308
  ·have h := hT hb307
   refine hg (v := (bv y300)) rfl rfl rfl rfl (cB hb307) (mv rfl) (hg (v := (bv (!y300))) rfl rfl rfl rfl (cB hb307) (HVal.not rfl) ?_)
   refine hg (v := (bv (!y300))) rfl rfl rfl rfl (cB hb305) (pt_ rfl hb307 rfl) (hv (v := (bv (!y300))) rfl (pf_ rfl hb305 rfl) ?_)
   refine hv (v := (bv (!y300))) rfl (mv rfl) ?_
   obtain ⟨hT, hF⟩ := h
   rcases Bool.eq_false_or_eq_true (!y300) with hb309 | hb310
   ·have h := hT hb309
    refine hs_ rfl rfl rfl rfl (cB hb309) (hs_ rfl rfl rfl rfl (cB hb309) (hs_ rfl rfl rfl rfl (cB hb309) (hs_ rfl rfl rfl rfl (cB hb309) ?_)))
    refine HList.uskips rfl rfl rfl rfl rfl (HList.uskips rfl rfl rfl rfl rfl (HList.uskips rfl rfl rfl rfl rfl (HList.uskips rfl rfl rfl rfl rfl (hs_ rfl rfl rfl rfl (cB hb309) ?_))))
    refine hs_ rfl rfl rfl rfl (cB hb309) (HList.uskips rfl rfl rfl rfl rfl (HList.uskips rfl rfl rfl rfl rfl (HList.uskips rfl rfl rfl rfl rfl (HList.uskips rfl rfl rfl rfl rfl ?_))))
    refine hs_ rfl rfl rfl rfl (cB hb309) (hv (v := (bv true)) rfl (pt_ rfl hb309 rfl) (hn (nt ?_)))
    exact ⟨true, (isp rfl), h⟩
   have h := hF hb310
   refine hg (v := (Sl.v r64)) rfl rfl rfl rfl (cB hb310) (mv rfl) (hg (v := (iv ((r64).n : Int))) rfl rfl rfl rfl (cB hb310) (HVal.len runUnderlying47 rfl) ?_)
   refine hg (v := (bv (decide ((0 : Int) < ((r64).n : Int))))) rfl rfl rfl rfl (cB hb310) (HVal.gtr rfl rfl) (hg (v := (bv (decide ((0 : Int) < ((r64).n : Int))))) rfl rfl rfl rfl (cB hb310) (mv rfl) ?_)
   obtain ⟨hT, hF⟩ := h
   rcases Bool.eq_false_or_eq_true (decide ((0 : Int) < ((r64).n : Int))) with hb311 | hb312
   ·have h := hT hb311
    refine hg (v := (Sl.v r64)) rfl rfl rfl rfl (cB hb311) (mv rfl) ?_
    obtain ⟨a313, e314, b315, b316, h⟩ := h
    refine hg (v := (pp (Addr.add a313 ((0 : Int).toNat * 1)))) rfl rfl rfl rfl (cB hb311) (ia runUnderlying47 sizeOf3 (Sl.v_some rfl e314) rfl b315 b316) ?_
    obtain ⟨x318, c317, h⟩ := h
    refine hg (v := (iv x318)) rfl rfl rfl rfl (cB hb311) (l1 isAgg3 rfl c317) (hg (v := (bv (decide (x318 = 0)))) rfl rfl rfl rfl (cB hb311) (HVal.eqlI rfl rfl) ?_)
    refine hg (v := (bv (decide (x318 = 0)))) rfl rfl rfl rfl (cB hb310) (pt_ rfl hb311 rfl) (hg (v := (bv (decide (x318 = 0)))) rfl rfl rfl rfl (cB hb310) (mv rfl) ?_)
    obtain ⟨hT, hF⟩ := h
    rcases Bool.eq_false_or_eq_true (decide (x318 = 0)) with hb319 | hb320
    ·have h := hT hb319
     refine hg (v := (Sl.v y196)) rfl rfl rfl rfl (cB hb319) (mv rfl) ?_
     obtain ⟨a321, e322, b323, b324, h⟩ := h
     refine hg (v := (pp (Addr.add a321 ((0 : Int).toNat * 1)))) rfl rfl rfl rfl (cB hb319) (ia runUnderlying23 sizeOf4 (Sl.v_some rfl e322) rfl b323 b324) ?_
     obtain ⟨x326, c325, h⟩ := h
     refine hg (v := (bv x326)) rfl rfl rfl rfl (cB hb319) (l1 isAgg4 rfl c325) (hg (v := (bv (!x326))) rfl rfl rfl rfl (cB hb319) (HVal.not rfl) ?_)
     refine hg (v := (bv (!x326))) rfl rfl rfl rfl (cB hb310) (pt_ rfl hb319 rfl) (hv (v := (bv (!x326))) rfl (pf_ rfl hb310 rfl) ?_)
     refine hn (nt ?_)
     exact ⟨(!x326), (isp rfl), h⟩
    have h := hF hb320
    refine hs_ rfl rfl rfl rfl (cB hb320) (hs_ rfl rfl rfl rfl (cB hb320) (hs_ rfl rfl rfl rfl (cB hb320) (hs_ rfl rfl rfl rfl (cB hb320) ?_)))
    refine hg (v := (bv false)) rfl rfl rfl rfl (cB hb310) (pf_ rfl hb320 rfl) (hv (v := (bv false)) rfl (pf_ rfl hb310 rfl) (hn (nt ?_)))
    exact ⟨false, (isp rfl), h⟩
   have h := hF hb312
   refine hs_ rfl rfl rfl rfl (cB hb312) (hs_ rfl rfl rfl rfl (cB hb312) (hs_ rfl rfl rfl rfl (cB hb312) (hs_ rfl rfl rfl rfl (cB hb312) ?_)))
   refine hg (v := (bv false)) rfl rfl rfl rfl (cB hb310) (pf_ rfl hb312 rfl) (hg (v := (bv false)) rfl rfl rfl rfl (cB hb310) (mv rfl) ?_)
   refine hs_ rfl rfl rfl rfl rfl (hs_ rfl rfl rfl rfl rfl (hs_ rfl rfl rfl rfl rfl (hs_ rfl rfl rfl rfl rfl (hg (v := (bv false)) rfl rfl rfl rfl (cB hb310) (pf_ rfl rfl rfl) ?_))))
   refine hv (v := (bv false)) rfl (pf_ rfl hb310 rfl) (hn (nt ?_))
   exact ⟨false, (isp rfl), h⟩
  have h := hF hb308
  refine hs_ rfl rfl rfl rfl (cB hb308) (hs_ rfl rfl rfl rfl (cB hb308) (hg (v := (bv false)) rfl rfl rfl rfl (cB hb305) (pf_ rfl hb308 rfl) ?_))
  refine hv (v := (bv false)) rfl (pf_ rfl hb305 rfl) (hv (v := (bv false)) rfl (mv rfl) (hg (v := (Sl.v r64)) rfl rfl rfl rfl rfl (mv rfl) ?_))
  refine hg (v := (iv ((r64).n : Int))) rfl rfl rfl rfl rfl (HVal.len runUnderlying47 rfl) (hg (v := (bv (decide ((0 : Int) < ((r64).n : Int))))) rfl rfl rfl rfl rfl (HVal.gtr rfl rfl) ?_)
  refine hg (v := (bv (decide ((0 : Int) < ((r64).n : Int))))) rfl rfl rfl rfl rfl (mv rfl) ?_
  obtain ⟨hT, hF⟩ := h
  rcases Bool.eq_false_or_eq_true (decide ((0 : Int) < ((r64).n : Int))) with hb327 | hb328
  ·have h := hT hb327
   refine hg (v := (Sl.v r64)) rfl rfl rfl rfl (cB hb327) (mv rfl) ?_
   obtain ⟨a329, e330, b331, b332, h⟩ := h
   refine hg (v := (pp (Addr.add a329 ((0 : Int).toNat * 1)))) rfl rfl rfl rfl (cB hb327) (ia runUnderlying47 sizeOf3 (Sl.v_some rfl e330) rfl b331 b332) ?_
   obtain ⟨x334, c333, h⟩ := h
   refine hg (v := (iv x334)) rfl rfl rfl rfl (cB hb327) (l1 isAgg3 rfl c333) (hg (v := (bv (decide (x334 = 0)))) rfl rfl rfl rfl (cB hb327) (HVal.eqlI rfl rfl) ?_)
   refine hg (v := (bv (decide (x334 = 0)))) rfl rfl rfl rfl rfl (pt_ rfl hb327 rfl) (hg (v := (bv (decide (x334 = 0)))) rfl rfl rfl rfl rfl (mv rfl) ?_)
   obtain ⟨hT, hF⟩ := h
   rcases Bool.eq_false_or_eq_true (decide (x334 = 0)) with hb335 | hb336
   ·have h := hT hb335
    refine hg (v := (Sl.v y196)) rfl rfl rfl rfl (cB hb335) (mv rfl) ?_
    obtain ⟨a337, e338, b339, b340, h⟩ := h
    refine hg (v := (pp (Addr.add a337 ((0 : Int).toNat * 1)))) rfl rfl rfl rfl (cB hb335) (ia runUnderlying23 sizeOf4 (Sl.v_some rfl e338) rfl b339 b340) ?_
    obtain ⟨x342, c341, h⟩ := h
    refine hg (v := (bv x342)) rfl rfl rfl rfl (cB hb335) (l1 isAgg4 rfl c341) (hg (v := (bv (!x342))) rfl rfl rfl rfl (cB hb335) (HVal.not rfl) ?_)
    refine hg (v := (bv (!x342))) rfl rfl rfl rfl rfl (pt_ rfl hb335 rfl) (hv (v := (bv (!x342))) rfl (pf_ rfl rfl rfl) (hn (nt ?_)))
    exact ⟨(!x342), (isp rfl), h⟩
   have h := hF hb336
   refine hs_ rfl rfl rfl rfl (cB hb336) (hs_ rfl rfl rfl rfl (cB hb336) (hs_ rfl rfl rfl rfl (cB hb336) (hs_ rfl rfl rfl rfl (cB hb336) ?_)))
   refine hg (v := (bv false)) rfl rfl rfl rfl rfl (pf_ rfl hb336 rfl) (hv (v := (bv false)) rfl (pf_ rfl rfl rfl) (hn (nt ?_)))
   exact ⟨false, (isp rfl), h⟩
  have h := hF hb328
  refine hs_ rfl rfl rfl rfl (cB hb328) (hs_ rfl rfl rfl rfl (cB hb328) (hs_ rfl rfl rfl rfl (cB hb328) (hs_ rfl rfl rfl rfl (cB hb328) ?_)))
  refine hg (v := (bv false)) rfl rfl rfl rfl rfl (pf_ rfl hb328 rfl) (hg (v := (bv false)) rfl rfl rfl rfl rfl (mv rfl) (hs_ rfl rfl rfl rfl rfl ?_))
  refine hs_ rfl rfl rfl rfl rfl (hs_ rfl rfl rfl rfl rfl (hs_ rfl rfl rfl rfl rfl (hg (v := (bv false)) rfl rfl rfl rfl rfl (pf_ rfl rfl rfl) ?_)))
  refine hv (v := (bv false)) rfl (pf_ rfl rfl rfl) (hn (nt ?_))
  exact ⟨false, (isp rfl), h⟩
 rintro ρ H_15 ⟨y306, hI, h⟩
 obtain ⟨ρ0, rfl⟩ := hI.ex
 clear hI; unfold F5_15 at h
 obtain ⟨hT, hF⟩ := h
 refine wk y306 rfl (fun hb343 => ?_) (fun hb343 => ?_)
 ·have h := hT hb343
  refine ws (wr_ (hv (v := (bv false)) rfl (av rfl) (hn (nt (HW.ret (tr ?_))))))
  exact ⟨_, resOf1 rfl Res1.t, ⟨false, rfl, h⟩⟩
 have h := hF hb343
 refine wp_ (nt (ws (wr_ (hv (v := (Sl.v r61)) rfl (mv rfl) (ho rfl (HOp.call' 9 [(Sl.v r61)] (cap := []) rfl rfl call9 (walk9 h)) ?_)))))
 rintro _ H344 ⟨r346, r347, rfl, h⟩
 refine hv (v := (.tuple #[(Sl.v r346), (bv r347)])) rfl (mv rfl) (hv (v := (Sl.v r346)) rfl (HVal.extract rfl rfl) (hv (v := (bv r347)) rfl (HVal.extract rfl rfl) ?_))
 refine hv (v := (Sl.v r346)) rfl (av rfl) (hv (v := (bv r347)) rfl (av rfl) (hn (nt (ws (wr_ (hv (v := (Sl.v y298)) rfl (mv rfl) ?_))))))
 refine ho rfl (HOp.call' 9 [(Sl.v y298)] (cap := []) rfl rfl call9 (walk9 h)) ?_
 rintro _ H348 ⟨r350, r351, rfl, h⟩
 refine hv (v := (.tuple #[(Sl.v r350), (bv r351)])) rfl (mv rfl) (hv (v := (Sl.v r350)) rfl (HVal.extract rfl rfl) (hv (v := (bv r351)) rfl (HVal.extract rfl rfl) ?_))
 refine hv (v := (Sl.v r350)) rfl (av rfl) (hv (v := (bv r351)) rfl (av rfl) (hn (nt (ws (ws (wr_ ?_))))))
 refine hv (v := (bv r347)) rfl (mv rfl) (hv (v := (bv r351)) rfl (mv rfl) (hv (v := (bv (!(r347 == r351)))) rfl (HVal.neqB underlying4 rfl rfl) ?_))
 refine hn (nt ?_)
 obtain ⟨hT, hF⟩ := h
 refine wk (!(r347 == r351)) rfl (fun hb352 => ?_) (fun hb352 => ?_)
 ·have h := hT hb352
  refine ws (wr_ (hv (v := (bv false)) rfl (av rfl) (hn (nt (HW.ret (tr ?_))))))
  exact ⟨_, resOf1 rfl Res1.t, ⟨false, rfl, h⟩⟩
 have h := hF hb352
 refine wp_ (nt (ws (ws (wr_ (hv (v := (iv 0)) rfl (av rfl) (hn (nt (wb (HW.loop' (fun L16 hL16 => ?_))))))))))
 obtain ⟨X16, hX16⟩ : ∃ X16 : Int → Hp → Prop, ∀ (y353 : Int) (H_16 : Hp), X16 y353 H_16 ↔ ∀ ρ, Env.Is ρ [(25, (Sl.v r346)), (27, (Sl.v r350)), (29, (iv y353))] → L16 ρ H_16 := ⟨_, fun _ _ => Iff.rfl⟩
 refine (hX16 _ _).1 (h X16 ?_) _ ?_
 rotate_left
 ·exact (isp rfl)
 clear h
 intro y353 H_16 h
 refine (hX16 _ _).2 fun ρ hI => ?_
 obtain ⟨ρ0, rfl⟩ := hI.ex
 clear hI; unfold F5_L16b at h; refine hL16 _ _ ?_
 refine ws (ws (wr_ (hv (v := (iv y353)) rfl (mv rfl) (hv (v := (Sl.v r350)) rfl (mv rfl) (hv (v := (iv ((r350).n : Int))) rfl (HVal.len runUnderlying32 rfl) ?_)))))
 refine hv (v := (bv (decide (y353 < ((r350).n : Int))))) rfl (HVal.lss rfl rfl) (hn (nt ?_))
 obtain ⟨hT, hF⟩ := h
 refine wk (decide (y353 < ((r350).n : Int))) rfl (fun hb356 => ?_) (fun hb356 => ?_)
 ·have h := hT hb356
  refine wp_ (nt (ws (wb (ws (wr_ (hv (v := (Sl.v r346)) rfl (mv rfl) (hv (v := (Sl.v r350)) rfl (mv rfl) ?_)))))))
  refine hv (v := (iv y353)) rfl (mv rfl) ?_
  obtain ⟨a357, e358, b359, b360, h⟩ := h
  refine hv (v := (pp (Addr.add a357 (y353.toNat * 14)))) rfl (ia runUnderlying32 sizeOf51 (Sl.v_some rfl e358) rfl b359 b360) ?_
  refine hv (v := (pp (Addr.add a357 (y353.toNat * 14)))) rfl (HVal.fieldAddr0 runUnderlying51 rfl rfl sizeOf41 rfl) ?_
  obtain ⟨x362, x363, x364, x365, x366, x367, x368, x369, x370, x371, c361, h⟩ := h
  refine hv (v := (.agg (eR x362 x363 x364 x365 x366 x367 x368 x369 x370 x371).toArray)) rfl (ln (eR x362 x363 x364 x365 x366 x367 x368 x369 x370 x371) isAgg41 sizeOf41 rfl c361) ?_
  refine ho rfl (HOp.call' 12 [(Sl.v r346), (.agg (eR x362 x363 x364 x365 x366 x367 x368 x369 x370 x371).toArray)] (cap := []) rfl rfl call12 (walk12 h)) ?_
  rintro _ H372 ⟨r374, r375, r376, r377, r378, rfl, h⟩
  refine hv (v := (.tuple #[(.agg (vR r374 r375 r376 r377).toArray), (bv r378)])) rfl (mv rfl) (hv (v := (.agg (vR r374 r375 r376 r377).toArray)) rfl (HVal.extract rfl rfl) ?_)
  refine hv (v := (bv r378)) rfl (HVal.extract rfl rfl) (ho rfl (HOp.alloc zeroValue25) ?_)
  rintro _ H379 ⟨rfl, e380⟩
  replace h := h H379 e380
  obtain ⟨z383, h⟩ := h
  refine hq (HOp.storeN' (l := (vR r374 r375 r376 r377)) sizeOf25 rfl rfl rfl z383) ?_
  rintro _ H381 e382
  replace h := h H381 e382
  refine hv (v := (bv r378)) rfl (av rfl) (hn (nt (wc (fun ρ H_17 => ∃ (y389 : Bool), Env.Is ρ [(25, (Sl.v r346)), (27, (Sl.v r350)), (29, (iv y353)), (231, (bv y389))] ∧ F5_17 Q X16 r346 r350 y353 y389 H_17) ?_ ?_)))
  ·refine HW.draw mixed [(0, some []), (1, some []), (2, some []), (3, some []), (4, some []), (5, some []), (6, some []), (7, some []), (8, some []), (9, some []), (10, some [])] rfl (by kernel_rfl) (by kernel_rfl) ?_
   refine pv (v := (bv r378)) rfl rfl (fun _ => mv rfl) (pv (v := (bv (!r378))) rfl rfl (fun _ => HVal.not rfl) (pv (v := (bv (!r378))) rfl rfl (fun _ => mv rfl) ?_))
   obtain ⟨hT, hF⟩ := h
   rcases Bool.eq_false_or_eq_true (!r378) with hb387 | hb388
   ·have h := hT hb387
    refine pg rfl rfl rfl rfl (cB hb387) (pg rfl rfl rfl rfl (cB hb387) (pg rfl rfl rfl rfl (cB hb387) (pg rfl rfl rfl rfl (cB hb387) ?_)))
    refine pg rfl rfl rfl rfl (cB hb387) (pg rfl rfl rfl rfl (cB hb387) (pg rfl rfl rfl rfl (cB hb387) (pv (v := (bv true)) rfl rfl (fun _ => pt_ rfl hb387 rfl) ?_)))
    refine HPlan.done (nt ?_)
    exact ⟨true, (isp rfl), h⟩
   have h := hF hb388
   obtain ⟨x391, x392, x393, x394, c390, h⟩ := h
   refine HPlan.gtakel (v := (.agg (vR x391 x392 x393 x394).toArray)) (fun X => cells X (bk H372) (vR x391 x392 x393 x394) 0) rfl rfl rfl rfl rfl (cB hb388) (fun _ hX => ln (vR x391 x392 x393 x394) isAgg25 sizeOf25 rfl hX) c390 ?_
   refine HPlan.gtakev (v := (Sl.v r350)) rfl rfl rfl rfl rfl (cB hb388) (fun _ => mv rfl) (HPlan.gtakev (v := (iv y353)) rfl rfl rfl rfl rfl (cB hb388) (fun _ => mv rfl) ?_)
   obtain ⟨a395, e396, b397, b398, h⟩ := h
   refine HPlan.gtakev (v := (pp (Addr.add a395 (y353.toNat * 14)))) rfl rfl rfl rfl rfl (cB hb388) (fun _ => ia runUnderlying32 sizeOf51 (Sl.v_some rfl e396) rfl b397 b398) ?_
   refine HPlan.gtakev (v := (pp (Addr.add (Addr.add a395 (y353.toNat * 14)) 10))) rfl rfl rfl rfl rfl (cB hb388) (fun _ => fa runUnderlying51 rfl rfl sizeOf25 rfl) ?_
   obtain ⟨x400, x401, x402, x403, c399, h⟩ := h
   refine HPlan.gtakel (v := (.agg (vR x400 x401 x402 x403).toArray)) (fun X => cells X (Addr.add (Addr.add a395 (y353.toNat * 14)) 10) (vR x400 x401 x402 x403) 0) rfl rfl rfl rfl rfl (cB hb388) (fun _ hX => ln (vR x400 x401 x402 x403) isAgg25 sizeOf25 rfl hX) c399 ?_
   refine HPlan.gtakev (v := (bv (!(decide (x391 = x400) && (decide (x392 = x401) && (seq x393 x402 && (x394 == x403))))))) rfl rfl rfl rfl rfl (cB hb388) (fun _ => eqs25_neq rfl rfl) ?_
   refine pv (v := (bv (!(decide (x391 = x400) && (decide (x392 = x401) && (seq x393 x402 && (x394 == x403))))))) rfl rfl (fun _ => pf_ rfl hb388 rfl) ?_
   refine HPlan.done (nt ?_)
   exact ⟨(!(decide (x391 = x400) && (decide (x392 = x401) && (seq x393 x402 && (x394 == x403))))), (isp rfl), h⟩
  rintro ρ H_17 ⟨y389, hI, h⟩
  obtain ⟨ρ0, rfl⟩ := hI.ex
  clear hI; unfold F5_17 at h
  obtain ⟨hT, hF⟩ := h
  refine wk y389 rfl (fun hb404 => ?_) (fun hb404 => ?_)
  ·have h := hT hb404
   refine ws (wr_ (hv (v := (bv false)) rfl (av rfl) (hn (nt (HW.ret (br (tr (tr (br (tr ?_))))))))))
   exact ⟨_, resOf1 rfl Res1.t, ⟨false, rfl, h⟩⟩
  have h := hF hb404
  refine wp_ (nb (nt (wr_ (hv (v := (iv y353)) rfl (mv rfl) (hv (v := (iv (IntKind.i64.wrap (y353 + 1)))) rfl (HVal.add rfl rfl) ?_)))))
  refine hv (v := (iv (IntKind.i64.wrap (y353 + 1)))) rfl (av rfl) (hn (nt ?_))
  exact (hX16 _ _).1 h _ (isp rfl)
 have h := hF hb356
 refine we (te (te (be (nt (ws (wr_ (hv (v := (bv true)) rfl (av rfl) (hn (nt (HW.ret ?_))))))))))
 exact ⟨_, resOf1 rfl Res1.t, ⟨true, rfl, h⟩⟩

end Go.Hw
