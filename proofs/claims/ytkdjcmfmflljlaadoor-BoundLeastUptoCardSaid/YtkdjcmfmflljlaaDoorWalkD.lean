/- The walks of this seat, printed by a program of this session (wip/tools/gen.py): of each function what it does to the heap, and that it does so. -/
import Derived.Test.YtkdjcmfmflljlaaDoorHwZ
import Derived.Test.YtkdjcmfmflljlaaDoorProg
import Derived.Test.YtkdjcmfmflljlaaDoorWAux
import Derived.Test.YtkdjcmfmflljlaaDoorWalkC
set_option linter.unusedVariables false
set_option linter.unusedSimpArgs false
set_option maxRecDepth 100000
set_option maxHeartbeats 4000000
namespace Go.Hw
open Go Go.Proofs
def F3_4 (Q : Bool → Hp → Prop) (X3 : Int → Hp → Prop) (y94 : Addr) (y95 y96 : Sl) (y97 : Int) (H_4 : Hp) : Prop :=
X3 (IntKind.i64.wrap (y97 + 1)) H_4
def F3_5 (Q : Bool → Hp → Prop) (X3 : Int → Hp → Prop) (y134 : Addr) (y135 y136 : Sl) (y137 : Int) (y150 : Bool) (H_5 : Hp) : Prop :=
(y150 = true → (Q false H_5)) ∧
 (y150 = false → (F3_4 Q X3 y134 y135 y136 y137 H_5))
def F3_L3b (Q : Bool → Hp → Prop) (X3 : Int → Hp → Prop) (y90 : Addr) (y91 y92 : Sl) (y89 : Int) (H_3 : Hp) : Prop :=
((decide (y89 < 6)) = true → (∃ a98 : Addr, (y92).b = some a98 ∧ (0 : Int) ≤ y89 ∧ y89 < ((y92).n : Int) ∧ (
 ∃ (x103 x104 x105 x106 : Int) (x107 : ByteArray) (x108 : Bool) (x109 : ByteArray) (x110 : Int) (x111 : ByteArray) (x112 : Sl), cells H_3 (Addr.add a98 (y89.toNat * 10)) (eR x103 x104 x105 x106 x107 x108 x109 x110 x111 x112) 0 ∧ (
 F12 y91 x103 x104 x105 x106 x107 x108 x109 x110 x111 x112 H_3 (fun (r115 r116 : Int) (r117 : ByteArray) (r118 r119 : Bool) (H113 : Hp) => 
 ∀ H120 : Hp, H120 = Array.push H113 (.cells (vR 0 0 bE false).toArray 25) → (
 mayw H120 (bk H113) 4 0 ∧ ∀ H122 : Hp, H122 = sets H120 (bk H113) (vR r115 r116 r117 r118) 0 → (
 ((!r119) = true → (F3_4 Q X3 y90 y91 y92 y89 H122)) ∧
 ((!r119) = false → (∃ x128 : Int, cell H122 (bk H113) = some (iv x128) ∧ (
 (0 : Int) ≤ y89 ∧ y89 < ((6 : Nat) : Int) ∧ (
 ∃ x132 : Int, cell H122 (Addr.add y90 (y89.toNat * 4)) = some (iv x132) ∧ (
 ((decide (x128 ≠ x132)) = true → (F3_4 Q X3 y90 y91 y92 y89 H122)) ∧
 ((decide (x128 ≠ x132)) = false → (∃ x139 : Int, cell H122 (bk H113) = some (iv x139) ∧ (
 ((decide (x139 = 1)) = true → (∃ x143 : Int, cell H122 (Addr.add (bk H113) 1) = some (iv x143) ∧ (
 (0 : Int) ≤ y89 ∧ y89 < ((6 : Nat) : Int) ∧ (
 ∃ x147 : Int, cell H122 (Addr.add (Addr.add y90 (y89.toNat * 4)) 1) = some (iv x147) ∧ (
 ((decide (x147 < x143)) = true → (F3_5 Q X3 y90 y91 y92 y89 true H122)) ∧
 ((decide (x147 < x143)) = false → (∃ x152 : Int, cell H122 (bk H113) = some (iv x152) ∧ (
 ((decide (x152 = 2)) = true → (∃ x156 : ByteArray, cell H122 (Addr.add (bk H113) 2) = some (sv x156) ∧ (
 ((!(seq x156 bE)) = true → (∃ (x160 x161 : Int) (x162 : ByteArray) (x163 : Bool), cells H122 (bk H113) (vR x160 x161 x162 x163) 0 ∧ (
 (0 : Int) ≤ y89 ∧ y89 < ((6 : Nat) : Int) ∧ (
 ∃ (x167 x168 : Int) (x169 : ByteArray) (x170 : Bool), cells H122 (Addr.add y90 (y89.toNat * 4)) (vR x167 x168 x169 x170) 0 ∧ (
 ((!(decide (x160 = x167) && (decide (x161 = x168) && (seq x162 x169 && (x163 == x170))))) = true → (F3_5 Q X3 y90 y91 y92 y89 true H122)) ∧
 ((!(decide (x160 = x167) && (decide (x161 = x168) && (seq x162 x169 && (x163 == x170))))) = false → (∃ x174 : Int, cell H122 (bk H113) = some (iv x174) ∧ (
 ((decide (x174 = 3)) = true → (∃ x178 : Bool, cell H122 (Addr.add (bk H113) 3) = some (bv x178) ∧ (
 (x178 = true → (∃ (x182 x183 : Int) (x184 : ByteArray) (x185 : Bool), cells H122 (bk H113) (vR x182 x183 x184 x185) 0 ∧ (
 (0 : Int) ≤ y89 ∧ y89 < ((6 : Nat) : Int) ∧ (
 ∃ (x189 x190 : Int) (x191 : ByteArray) (x192 : Bool), cells H122 (Addr.add y90 (y89.toNat * 4)) (vR x189 x190 x191 x192) 0 ∧ (
 F3_5 Q X3 y90 y91 y92 y89 (!(decide (x182 = x189) && (decide (x183 = x190) && (seq x184 x191 && (x185 == x192))))) H122))))) ∧
 (x178 = false → (F3_5 Q X3 y90 y91 y92 y89 false H122))))) ∧
 ((decide (x174 = 3)) = false → (F3_5 Q X3 y90 y91 y92 y89 false H122)))))))))) ∧
 ((!(seq x156 bE)) = false → (∃ x194 : Int, cell H122 (bk H113) = some (iv x194) ∧ (
 ((decide (x194 = 3)) = true → (∃ x198 : Bool, cell H122 (Addr.add (bk H113) 3) = some (bv x198) ∧ (
 (x198 = true → (∃ (x202 x203 : Int) (x204 : ByteArray) (x205 : Bool), cells H122 (bk H113) (vR x202 x203 x204 x205) 0 ∧ (
 (0 : Int) ≤ y89 ∧ y89 < ((6 : Nat) : Int) ∧ (
 ∃ (x209 x210 : Int) (x211 : ByteArray) (x212 : Bool), cells H122 (Addr.add y90 (y89.toNat * 4)) (vR x209 x210 x211 x212) 0 ∧ (
 F3_5 Q X3 y90 y91 y92 y89 (!(decide (x202 = x209) && (decide (x203 = x210) && (seq x204 x211 && (x205 == x212))))) H122))))) ∧
 (x198 = false → (F3_5 Q X3 y90 y91 y92 y89 false H122))))) ∧
 ((decide (x194 = 3)) = false → (F3_5 Q X3 y90 y91 y92 y89 false H122)))))))) ∧
 ((decide (x152 = 2)) = false → (∃ x214 : Int, cell H122 (bk H113) = some (iv x214) ∧ (
 ((decide (x214 = 3)) = true → (∃ x218 : Bool, cell H122 (Addr.add (bk H113) 3) = some (bv x218) ∧ (
 (x218 = true → (∃ (x222 x223 : Int) (x224 : ByteArray) (x225 : Bool), cells H122 (bk H113) (vR x222 x223 x224 x225) 0 ∧ (
 (0 : Int) ≤ y89 ∧ y89 < ((6 : Nat) : Int) ∧ (
 ∃ (x229 x230 : Int) (x231 : ByteArray) (x232 : Bool), cells H122 (Addr.add y90 (y89.toNat * 4)) (vR x229 x230 x231 x232) 0 ∧ (
 F3_5 Q X3 y90 y91 y92 y89 (!(decide (x222 = x229) && (decide (x223 = x230) && (seq x224 x231 && (x225 == x232))))) H122))))) ∧
 (x218 = false → (F3_5 Q X3 y90 y91 y92 y89 false H122))))) ∧
 ((decide (x214 = 3)) = false → (F3_5 Q X3 y90 y91 y92 y89 false H122))))))))))))) ∧
 ((decide (x139 = 1)) = false → (∃ x234 : Int, cell H122 (bk H113) = some (iv x234) ∧ (
 ((decide (x234 = 2)) = true → (∃ x238 : ByteArray, cell H122 (Addr.add (bk H113) 2) = some (sv x238) ∧ (
 ((!(seq x238 bE)) = true → (∃ (x242 x243 : Int) (x244 : ByteArray) (x245 : Bool), cells H122 (bk H113) (vR x242 x243 x244 x245) 0 ∧ (
 (0 : Int) ≤ y89 ∧ y89 < ((6 : Nat) : Int) ∧ (
 ∃ (x249 x250 : Int) (x251 : ByteArray) (x252 : Bool), cells H122 (Addr.add y90 (y89.toNat * 4)) (vR x249 x250 x251 x252) 0 ∧ (
 ((!(decide (x242 = x249) && (decide (x243 = x250) && (seq x244 x251 && (x245 == x252))))) = true → (F3_5 Q X3 y90 y91 y92 y89 true H122)) ∧
 ((!(decide (x242 = x249) && (decide (x243 = x250) && (seq x244 x251 && (x245 == x252))))) = false → (∃ x256 : Int, cell H122 (bk H113) = some (iv x256) ∧ (
 ((decide (x256 = 3)) = true → (∃ x260 : Bool, cell H122 (Addr.add (bk H113) 3) = some (bv x260) ∧ (
 (x260 = true → (∃ (x264 x265 : Int) (x266 : ByteArray) (x267 : Bool), cells H122 (bk H113) (vR x264 x265 x266 x267) 0 ∧ (
 (0 : Int) ≤ y89 ∧ y89 < ((6 : Nat) : Int) ∧ (
 ∃ (x271 x272 : Int) (x273 : ByteArray) (x274 : Bool), cells H122 (Addr.add y90 (y89.toNat * 4)) (vR x271 x272 x273 x274) 0 ∧ (
 F3_5 Q X3 y90 y91 y92 y89 (!(decide (x264 = x271) && (decide (x265 = x272) && (seq x266 x273 && (x267 == x274))))) H122))))) ∧
 (x260 = false → (F3_5 Q X3 y90 y91 y92 y89 false H122))))) ∧
 ((decide (x256 = 3)) = false → (F3_5 Q X3 y90 y91 y92 y89 false H122)))))))))) ∧
 ((!(seq x238 bE)) = false → (∃ x276 : Int, cell H122 (bk H113) = some (iv x276) ∧ (
 ((decide (x276 = 3)) = true → (∃ x280 : Bool, cell H122 (Addr.add (bk H113) 3) = some (bv x280) ∧ (
 (x280 = true → (∃ (x284 x285 : Int) (x286 : ByteArray) (x287 : Bool), cells H122 (bk H113) (vR x284 x285 x286 x287) 0 ∧ (
 (0 : Int) ≤ y89 ∧ y89 < ((6 : Nat) : Int) ∧ (
 ∃ (x291 x292 : Int) (x293 : ByteArray) (x294 : Bool), cells H122 (Addr.add y90 (y89.toNat * 4)) (vR x291 x292 x293 x294) 0 ∧ (
 F3_5 Q X3 y90 y91 y92 y89 (!(decide (x284 = x291) && (decide (x285 = x292) && (seq x286 x293 && (x287 == x294))))) H122))))) ∧
 (x280 = false → (F3_5 Q X3 y90 y91 y92 y89 false H122))))) ∧
 ((decide (x276 = 3)) = false → (F3_5 Q X3 y90 y91 y92 y89 false H122)))))))) ∧
 ((decide (x234 = 2)) = false → (∃ x296 : Int, cell H122 (bk H113) = some (iv x296) ∧ (
 ((decide (x296 = 3)) = true → (∃ x300 : Bool, cell H122 (Addr.add (bk H113) 3) = some (bv x300) ∧ (
 (x300 = true → (∃ (x304 x305 : Int) (x306 : ByteArray) (x307 : Bool), cells H122 (bk H113) (vR x304 x305 x306 x307) 0 ∧ (
 (0 : Int) ≤ y89 ∧ y89 < ((6 : Nat) : Int) ∧ (
 ∃ (x311 x312 : Int) (x313 : ByteArray) (x314 : Bool), cells H122 (Addr.add y90 (y89.toNat * 4)) (vR x311 x312 x313 x314) 0 ∧ (
 F3_5 Q X3 y90 y91 y92 y89 (!(decide (x304 = x311) && (decide (x305 = x312) && (seq x306 x313 && (x307 == x314))))) H122))))) ∧
 (x300 = false → (F3_5 Q X3 y90 y91 y92 y89 false H122))))) ∧
 ((decide (x296 = 3)) = false → (F3_5 Q X3 y90 y91 y92 y89 false H122))))))))))))))))))))))) ∧
 ((decide (y89 < 6)) = false → (Q true H_3))
def F3_L3 (Q : Bool → Hp → Prop) (y90 : Addr) (y91 y92 : Sl) (y89 : Int) (H_3 : Hp) : Prop :=
 ∀ X3 : Int → Hp → Prop, (∀ (y89 : Int) (H_3 : Hp), F3_L3b Q X3 y90 y91 y92 y89 H_3 → X3 y89 H_3) → X3 y89 H_3
def F3_1 (Q : Bool → Hp → Prop) (y28 y29 : Sl) (y30 : Addr) (H_1 : Hp) : Prop :=
F10 y28 y29 H_1 (fun (r80 : Sl) (H78 : Hp) => 
 F9 r80 H78 (fun (r83 : Sl) (r84 : Bool) (H81 : Hp) => 
 ((!r84) = true → (Q false H81)) ∧
 ((!r84) = false → (F11 H81 (fun (r88 : Sl) (H86 : Hp) => 
 F3_L3 Q y30 r83 r88 0 H86)))))
def F3_L2b (Q : Bool → Hp → Prop) (X2 : Int → Hp → Prop) (y32 y33 : Sl) (y34 : Addr) (y31 : Int) (H_2 : Hp) : Prop :=
((decide (y31 < ((y32).n : Int))) = true → (∃ a36 : Addr, (y32).b = some a36 ∧ (0 : Int) ≤ y31 ∧ y31 < ((y32).n : Int) ∧ (
 ∃ (x41 x42 x43 x44 x45 : Int) (x46 : ByteArray) (x47 : Bool) (x48 : Int), cells H_2 (Addr.add a36 (y31.toNat * 8)) [(iv x41), (iv x42), (iv x43), (iv x44), (iv x45), (sv x46), (bv x47), (iv x48)] 0 ∧ (
 ∃ (x50 x51 : Int) (x52 : ByteArray) (x53 : Bool) (x54 x55 : Int) (x56 : ByteArray) (x57 : Bool) (x58 x59 : Int) (x60 : ByteArray) (x61 : Bool) (x62 x63 : Int) (x64 : ByteArray) (x65 : Bool) (x66 x67 : Int) (x68 : ByteArray) (x69 : Bool) (x70 x71 : Int) (x72 : ByteArray) (x73 : Bool), cells H_2 y34 [(iv x50), (iv x51), (sv x52), (bv x53), (iv x54), (iv x55), (sv x56), (bv x57), (iv x58), (iv x59), (sv x60), (bv x61), (iv x62), (iv x63), (sv x64), (bv x65), (iv x66), (iv x67), (sv x68), (bv x69), (iv x70), (iv x71), (sv x72), (bv x73)] 0 ∧ (
 F8 x41 x42 x43 x44 x45 x46 x47 x48 x50 x51 x52 x53 x54 x55 x56 x57 x58 x59 x60 x61 x62 x63 x64 x65 x66 x67 x68 x69 x70 x71 x72 x73 H_2 (fun (r76 : Bool) (H74 : Hp) => 
 ((!r76) = true → (Q true H74)) ∧
 ((!r76) = false → (X2 (IntKind.i64.wrap (y31 + 1)) H74)))))))) ∧
 ((decide (y31 < ((y32).n : Int))) = false → (F3_1 Q y32 y33 y34 H_2))
def F3_L2 (Q : Bool → Hp → Prop) (y32 y33 : Sl) (y34 : Addr) (y31 : Int) (H_2 : Hp) : Prop :=
 ∀ X2 : Int → Hp → Prop, (∀ (y31 : Int) (H_2 : Hp), F3_L2b Q X2 y32 y33 y34 y31 H_2 → X2 y31 H_2) → X2 y31 H_2
def F3 (p0 p1 : Sl) (p2_0 p2_1 : Int) (p2_2 : ByteArray) (p2_3 : Bool) (p2_4 p2_5 : Int) (p2_6 : ByteArray) (p2_7 : Bool) (p2_8 p2_9 : Int) (p2_10 : ByteArray) (p2_11 : Bool) (p2_12 p2_13 : Int) (p2_14 : ByteArray) (p2_15 : Bool) (p2_16 p2_17 : Int) (p2_18 : ByteArray) (p2_19 : Bool) (p2_20 p2_21 : Int) (p2_22 : ByteArray) (p2_23 : Bool) (H : Hp) (Q : Bool → Hp → Prop) : Prop :=
∀ H1 : Hp, H1 = Array.push H (.cells #[(iv p2_0), (iv p2_1), (sv p2_2), (bv p2_3), (iv p2_4), (iv p2_5), (sv p2_6), (bv p2_7), (iv p2_8), (iv p2_9), (sv p2_10), (bv p2_11), (iv p2_12), (iv p2_13), (sv p2_14), (bv p2_15), (iv p2_16), (iv p2_17), (sv p2_18), (bv p2_19), (iv p2_20), (iv p2_21), (sv p2_22), (bv p2_23)] 26) → (
 F6 H1 (fun (r5 : Bool) (H3 : Hp) => 
 ((!r5) = true → (Q false H3)) ∧
 ((!r5) = false → (F7 p0 H3 (fun (r9 : Sl) (H7 : Hp) => 
 (0 : Int) ≤ 4 ∧ (4 : Int) < ((6 : Nat) : Int) ∧ (
 (cell H7 (Addr.add (bk H) ((4 : Int).toNat * 4))).isSome = true ∧ frz H7 (Addr.add (bk H) ((4 : Int).toNat * 4)) = false ∧ ∀ H12 : Hp, H12 = setc H7 (Addr.add (bk H) ((4 : Int).toNat * 4)) (iv 1) → (
 (0 : Int) ≤ 4 ∧ (4 : Int) < ((6 : Nat) : Int) ∧ (
 (cell H12 (Addr.add (Addr.add (bk H) ((4 : Int).toNat * 4)) 2)).isSome = true ∧ frz H12 (Addr.add (Addr.add (bk H) ((4 : Int).toNat * 4)) 2) = false ∧ ∀ H18 : Hp, H18 = setc H12 (Addr.add (Addr.add (bk H) ((4 : Int).toNat * 4)) 2) (sv bE) → (
 (0 : Int) ≤ 4 ∧ (4 : Int) < ((6 : Nat) : Int) ∧ (
 (cell H18 (Addr.add (Addr.add (bk H) ((4 : Int).toNat * 4)) 3)).isSome = true ∧ frz H18 (Addr.add (Addr.add (bk H) ((4 : Int).toNat * 4)) 3) = false ∧ ∀ H24 : Hp, H24 = setc H18 (Addr.add (Addr.add (bk H) ((4 : Int).toNat * 4)) 3) (bv false) → (
 F3_L2 Q r9 p1 (bk H) 0 H24)))))))))))
theorem walk3 {w0 : World} {p0 p1 : Sl} {p2_0 p2_1 : Int} {p2_2 : ByteArray} {p2_3 : Bool} {p2_4 p2_5 : Int} {p2_6 : ByteArray} {p2_7 : Bool} {p2_8 p2_9 : Int} {p2_10 : ByteArray} {p2_11 : Bool} {p2_12 p2_13 : Int} {p2_14 : ByteArray} {p2_15 : Bool} {p2_16 p2_17 : Int} {p2_18 : ByteArray} {p2_19 : Bool} {p2_20 p2_21 : Int} {p2_22 : ByteArray} {p2_23 : Bool} {H : Hp} {Q : Bool → Hp → Prop} (h : F3 p0 p1 p2_0 p2_1 p2_2 p2_3 p2_4 p2_5 p2_6 p2_7 p2_8 p2_9 p2_10 p2_11 p2_12 p2_13 p2_14 p2_15 p2_16 p2_17 p2_18 p2_19 p2_20 p2_21 p2_22 p2_23 H Q) :
  Good Tryd.prog w0 3 #[(Sl.v p0), (Sl.v p1), (.agg #[(iv p2_0), (iv p2_1), (sv p2_2), (bv p2_3), (iv p2_4), (iv p2_5), (sv p2_6), (bv p2_7), (iv p2_8), (iv p2_9), (sv p2_10), (bv p2_11), (iv p2_12), (iv p2_13), (sv p2_14), (bv p2_15), (iv p2_16), (iv p2_17), (sv p2_18), (bv p2_19), (iv p2_20), (iv p2_21), (sv p2_22), (bv p2_23)])] H (fun v H => ∃ (r0 : Bool) , v = (bv r0) ∧ Q r0 H) := by
 unfold F3 at h
 refine Good.enter' (fn := Tryd.f3) Tryd.func3 rfl rfl rfl (ws (wr_ (ho rfl (ob (v := (.agg #[(iv p2_0), (iv p2_1), (sv p2_2), (bv p2_3), (iv p2_4), (iv p2_5), (sv p2_6), (bv p2_7), (iv p2_8), (iv p2_9), (sv p2_10), (bv p2_11), (iv p2_12), (iv p2_13), (sv p2_14), (bv p2_15), (iv p2_16), (iv p2_17), (sv p2_18), (bv p2_19), (iv p2_20), (iv p2_21), (sv p2_22), (bv p2_23)])) rfl) ?_)))
 rintro _ H1 ⟨rfl, e2⟩
 replace h := h H1 e2
 refine hv (v := (bv false)) rfl (av rfl) (hn (nt (ws (wr_ (ho rfl (HOp.call' 6 [] (cap := []) rfl rfl Tryd.call6 (walk6 h)) ?_)))))
 rintro _ H3 ⟨r5, rfl, h⟩
 refine hv (v := (bv r5)) rfl (av rfl) (hn (nt (ws (ws (wr_ (hv (v := (bv r5)) rfl (mv rfl) (hv (v := (bv (!r5))) rfl (HVal.not rfl) ?_)))))))
 refine hn (nt ?_)
 obtain ⟨hT, hF⟩ := h
 refine wk (!r5) rfl (fun hb6 => ?_) (fun hb6 => ?_)
 ·have h := hT hb6
  refine ws (wr_ (hv (v := (bv false)) rfl (av rfl) (hn (nt (HW.ret (tr ?_))))))
  exact ⟨_, resOf1 rfl Res1.t, ⟨false, rfl, h⟩⟩
 have h := hF hb6
 refine wp_ (nt (ws (wr_ (hv (v := (Sl.v p0)) rfl (mv rfl) (ho rfl (HOp.call' 7 [(Sl.v p0)] (cap := []) rfl rfl Tryd.call7 (walk7 h)) ?_)))))
 rintro _ H7 ⟨r9, rfl, h⟩
 refine hv (v := (Sl.v r9)) rfl (av rfl) (hn (nt (ws (wr_ ?_))))
 obtain ⟨b10, b11, h⟩ := h
 refine hv (v := (.pointer (some (Addr.add (bk H) ((4 : Int).toNat * 4))))) rfl (HVal.indexAddrA Tryd.runUnderlying26 Tryd.sizeOf25 rfl rfl b10 b11) (hv (v := (.pointer (some (Addr.add (bk H) ((4 : Int).toNat * 4))))) rfl (HVal.fieldAddr0 Tryd.runUnderlying25 rfl rfl Tryd.sizeOf3 rfl) ?_)
 obtain ⟨z14, z15, h⟩ := h
 refine hq (HOp.store1 Tryd.sizeOf3 rfl rfl rfl z14 z15) ?_
 rintro _ H12 e13
 replace h := h H12 e13
 refine hn (nt (ws (wr_ ?_)))
 obtain ⟨b16, b17, h⟩ := h
 refine hv (v := (.pointer (some (Addr.add (bk H) ((4 : Int).toNat * 4))))) rfl (HVal.indexAddrA Tryd.runUnderlying26 Tryd.sizeOf25 rfl rfl b16 b17) (hv (v := (.pointer (some (Addr.add (Addr.add (bk H) ((4 : Int).toNat * 4)) 2)))) rfl (fa Tryd.runUnderlying25 rfl rfl Tryd.sizeOf9 rfl) ?_)
 obtain ⟨z20, z21, h⟩ := h
 refine hq (HOp.store1 Tryd.sizeOf9 rfl rfl rfl z20 z21) ?_
 rintro _ H18 e19
 replace h := h H18 e19
 refine hn (nt (ws (wr_ ?_)))
 obtain ⟨b22, b23, h⟩ := h
 refine hv (v := (.pointer (some (Addr.add (bk H) ((4 : Int).toNat * 4))))) rfl (HVal.indexAddrA Tryd.runUnderlying26 Tryd.sizeOf25 rfl rfl b22 b23) (hv (v := (.pointer (some (Addr.add (Addr.add (bk H) ((4 : Int).toNat * 4)) 3)))) rfl (fa Tryd.runUnderlying25 rfl rfl Tryd.sizeOf4 rfl) ?_)
 obtain ⟨z26, z27, h⟩ := h
 refine hq (HOp.store1 Tryd.sizeOf4 rfl rfl rfl z26 z27) ?_
 rintro _ H24 e25
 replace h := h H24 e25
 refine hn (nt (wc (fun ρ H_1 => Env.Is ρ [(0, (Sl.v r9)), (1, (Sl.v p1)), (5, (.pointer (some (bk H))))] ∧ F3_1 Q r9 p1 (bk H) H_1) ?_ ?_))
 ·refine ws (wr_ (hv (v := (iv 0)) rfl (av rfl) (hn (nt (wb (HW.loop' (fun L2 hL2 => ?_)))))))
  obtain ⟨X2, hX2⟩ : ∃ X2 : Int → Hp → Prop, ∀ (y31 : Int) (H_2 : Hp), X2 y31 H_2 ↔ ∀ ρ, Env.Is ρ [(0, (Sl.v r9)), (1, (Sl.v p1)), (5, (.pointer (some (bk H)))), (8, (iv y31))] → L2 ρ H_2 := ⟨_, fun _ _ => Iff.rfl⟩
  refine (hX2 _ _).1 (h X2 ?_) _ ?_
  rotate_left
  ·exact (isp rfl)
  clear h
  intro y31 H_2 h
  refine (hX2 _ _).2 fun ρ hI => ?_
  obtain ⟨ρ0, rfl⟩ := hI.ex
  clear hI; unfold F3_L2b at h; refine hL2 _ _ ?_
  refine ws (ws (wr_ (hv (v := (iv y31)) rfl (mv rfl) (hv (v := (Sl.v r9)) rfl (mv rfl) (hv (v := (iv ((r9).n : Int))) rfl (HVal.len Tryd.runUnderlying22 rfl) ?_)))))
  refine hv (v := (bv (decide (y31 < ((r9).n : Int))))) rfl (HVal.lss rfl rfl) (hn (nt ?_))
  obtain ⟨hT, hF⟩ := h
  refine wk (decide (y31 < ((r9).n : Int))) rfl (fun hb35 => ?_) (fun hb35 => ?_)
  ·have h := hT hb35
   refine wp_ (nt (ws (wb (ws (HW.draw mixed [(0, some []), (1, some []), (2, some []), (3, some [5]), (4, some [5]), (5, none), (6, some [])] rfl (by kernel_rfl) (by kernel_rfl) ?_)))))
   refine pv (v := (Sl.v r9)) rfl rfl (fun _ => mv rfl) (pv (v := (iv y31)) rfl rfl (fun _ => mv rfl) ?_)
   obtain ⟨a36, e37, b38, b39, h⟩ := h
   refine pv (v := (.pointer (some (Addr.add a36 (y31.toNat * 8))))) rfl rfl (fun _ => ia Tryd.runUnderlying22 Tryd.sizeOf31 (Sl.v_some rfl e37) rfl b38 b39) ?_
   obtain ⟨x41, x42, x43, x44, x45, x46, x47, x48, c40, h⟩ := h
   refine pl (v := (.agg #[(iv x41), (iv x42), (iv x43), (iv x44), (iv x45), (sv x46), (bv x47), (iv x48)])) (fun X => cells X (Addr.add a36 (y31.toNat * 8)) [(iv x41), (iv x42), (iv x43), (iv x44), (iv x45), (sv x46), (bv x47), (iv x48)] 0) rfl rfl (fun _ hX => ln [(iv x41), (iv x42), (iv x43), (iv x44), (iv x45), (sv x46), (bv x47), (iv x48)] Tryd.isAgg31 Tryd.sizeOf31 rfl hX) c40 ?_
   obtain ⟨x50, x51, x52, x53, x54, x55, x56, x57, x58, x59, x60, x61, x62, x63, x64, x65, x66, x67, x68, x69, x70, x71, x72, x73, c49, h⟩ := h
   refine pl (v := (.agg #[(iv x50), (iv x51), (sv x52), (bv x53), (iv x54), (iv x55), (sv x56), (bv x57), (iv x58), (iv x59), (sv x60), (bv x61), (iv x62), (iv x63), (sv x64), (bv x65), (iv x66), (iv x67), (sv x68), (bv x69), (iv x70), (iv x71), (sv x72), (bv x73)])) (fun X => cells X (bk H) [(iv x50), (iv x51), (sv x52), (bv x53), (iv x54), (iv x55), (sv x56), (bv x57), (iv x58), (iv x59), (sv x60), (bv x61), (iv x62), (iv x63), (sv x64), (bv x65), (iv x66), (iv x67), (sv x68), (bv x69), (iv x70), (iv x71), (sv x72), (bv x73)] 0) rfl rfl (fun _ hX => ln [(iv x50), (iv x51), (sv x52), (bv x53), (iv x54), (iv x55), (sv x56), (bv x57), (iv x58), (iv x59), (sv x60), (bv x61), (iv x62), (iv x63), (sv x64), (bv x65), (iv x66), (iv x67), (sv x68), (bv x69), (iv x70), (iv x71), (sv x72), (bv x73)] Tryd.isAgg26 Tryd.sizeOf26 rfl hX) c49 ?_
   refine po rfl rfl (HOp.call' 8 [(.agg #[(iv x41), (iv x42), (iv x43), (iv x44), (iv x45), (sv x46), (bv x47), (iv x48)]), (.agg #[(iv x50), (iv x51), (sv x52), (bv x53), (iv x54), (iv x55), (sv x56), (bv x57), (iv x58), (iv x59), (sv x60), (bv x61), (iv x62), (iv x63), (sv x64), (bv x65), (iv x66), (iv x67), (sv x68), (bv x69), (iv x70), (iv x71), (sv x72), (bv x73)])] (cap := []) rfl rfl Tryd.call8 (walk8 h)) ?_
   rintro _ H74 ⟨r76, rfl, h⟩
   refine ⟨SC_of ⟨fun e => absurd e (by decide), fun e => absurd e (by decide), trivial⟩, ?_⟩
   refine pv (v := (bv r76)) rfl rfl (fun _ => av rfl) (HPlan.done (nt (ws (wr_ (hv (v := (bv r76)) rfl (mv rfl) ?_)))))
   refine hv (v := (bv (!r76))) rfl (HVal.not rfl) (hn (nt ?_))
   obtain ⟨hT, hF⟩ := h
   refine wk (!r76) rfl (fun hb77 => ?_) (fun hb77 => ?_)
   ·have h := hT hb77
    refine ws (wr_ (hv (v := (bv true)) rfl (av rfl) (hn (nt (HW.ret (br (tr (tr (br (tr ?_))))))))))
    exact ⟨_, resOf1 rfl Res1.t, ⟨true, rfl, h⟩⟩
   have h := hF hb77
   refine wp_ (nb (nt (wr_ (hv (v := (iv y31)) rfl (mv rfl) (hv (v := (iv (IntKind.i64.wrap (y31 + 1)))) rfl (HVal.add rfl rfl) ?_)))))
   refine hv (v := (iv (IntKind.i64.wrap (y31 + 1)))) rfl (av rfl) (hn (nt ?_))
   exact (hX2 _ _).1 h _ (isp rfl)
  have h := hF hb35
  refine we (te (te (be (nt ?_))))
  exact ⟨(isp rfl), h⟩
 rintro ρ H_1 ⟨hI, h⟩
 obtain ⟨ρ0, rfl⟩ := hI.ex
 clear hI; unfold F3_1 at h
 refine ws (wr_ (hv (v := (Sl.v r9)) rfl (mv rfl) (hv (v := (Sl.v p1)) rfl (mv rfl) (ho rfl (HOp.call' 10 [(Sl.v r9), (Sl.v p1)] (cap := []) rfl rfl Tryd.call10 (walk10 h)) ?_))))
 rintro _ H78 ⟨r80, rfl, h⟩
 refine ho rfl (HOp.call' 9 [(Sl.v r80)] (cap := []) rfl rfl Tryd.call9 (walk9 h)) ?_
 rintro _ H81 ⟨r83, r84, rfl, h⟩
 refine hv (v := (.tuple #[(Sl.v r83), (bv r84)])) rfl (mv rfl) (hv (v := (Sl.v r83)) rfl (HVal.extract rfl rfl) (hv (v := (bv r84)) rfl (HVal.extract rfl rfl) ?_))
 refine hv (v := (Sl.v r83)) rfl (av rfl) (hv (v := (bv r84)) rfl (av rfl) (hn (nt (ws (ws (wr_ ?_))))))
 refine hv (v := (bv r84)) rfl (mv rfl) (hv (v := (bv (!r84))) rfl (HVal.not rfl) (hn (nt ?_)))
 obtain ⟨hT, hF⟩ := h
 refine wk (!r84) rfl (fun hb85 => ?_) (fun hb85 => ?_)
 ·have h := hT hb85
  refine ws (wr_ (hv (v := (bv false)) rfl (av rfl) (hn (nt (HW.ret (tr ?_))))))
  exact ⟨_, resOf1 rfl Res1.t, ⟨false, rfl, h⟩⟩
 have h := hF hb85
 refine wp_ (nt (ws (wr_ (ho rfl (HOp.call' 11 [] (cap := []) rfl rfl Tryd.call11 (walk11 h)) ?_))))
 rintro _ H86 ⟨r88, rfl, h⟩
 refine hv (v := (Sl.v r88)) rfl (av rfl) (hn (nt (ws (ws (wr_ (hv (v := (iv 0)) rfl (av rfl) (hn (nt ?_))))))))
 refine wb (HW.loop' (fun L3 hL3 => ?_))
 obtain ⟨X3, hX3⟩ : ∃ X3 : Int → Hp → Prop, ∀ (y89 : Int) (H_3 : Hp), X3 y89 H_3 ↔ ∀ ρ, Env.Is ρ [(5, (.pointer (some (bk H)))), (10, (Sl.v r83)), (12, (Sl.v r88)), (13, (iv y89))] → L3 ρ H_3 := ⟨_, fun _ _ => Iff.rfl⟩
 refine (hX3 _ _).1 (h X3 ?_) _ ?_
 rotate_left
 ·exact (isp rfl)
 clear h
 intro y89 H_3 h
 refine (hX3 _ _).2 fun ρ hI => ?_
 obtain ⟨ρ0, rfl⟩ := hI.ex
 clear hI; unfold F3_L3b at h; refine hL3 _ _ ?_
 refine ws (ws (wr_ (hv (v := (iv y89)) rfl (mv rfl) (hv (v := (bv (decide (y89 < 6)))) rfl (HVal.lss rfl rfl) (hn (nt ?_))))))
 obtain ⟨hT, hF⟩ := h
 refine wk (decide (y89 < 6)) rfl (fun hb93 => ?_) (fun hb93 => ?_)
 ·have h := hT hb93
  refine wp_ (nt (wc (fun ρ H_4 => Env.Is ρ [(5, (.pointer (some (bk H)))), (10, (Sl.v r83)), (12, (Sl.v r88)), (13, (iv y89))] ∧ F3_4 Q X3 (bk H) r83 r88 y89 H_4) ?_ ?_))
  ·refine wb (ws (wr_ (hv (v := (Sl.v r83)) rfl (mv rfl) (hv (v := (Sl.v r88)) rfl (mv rfl) (hv (v := (iv y89)) rfl (mv rfl) ?_)))))
   obtain ⟨a98, e99, b100, b101, h⟩ := h
   refine hv (v := (.pointer (some (Addr.add a98 (y89.toNat * 10))))) rfl (ia Tryd.runUnderlying35 Tryd.sizeOf41 (Sl.v_some rfl e99) rfl b100 b101) ?_
   obtain ⟨x103, x104, x105, x106, x107, x108, x109, x110, x111, x112, c102, h⟩ := h
   refine hv (v := (.agg (eR x103 x104 x105 x106 x107 x108 x109 x110 x111 x112).toArray)) rfl (ln (eR x103 x104 x105 x106 x107 x108 x109 x110 x111 x112) Tryd.isAgg41 Tryd.sizeOf41 rfl c102) ?_
   refine ho rfl (HOp.call' 12 [(Sl.v r83), (.agg (eR x103 x104 x105 x106 x107 x108 x109 x110 x111 x112).toArray)] (cap := []) rfl rfl Tryd.call12 (walk12 h)) ?_
   rintro _ H113 ⟨r115, r116, r117, r118, r119, rfl, h⟩
   refine hv (v := (.tuple #[(.agg (vR r115 r116 r117 r118).toArray), (bv r119)])) rfl (mv rfl) (hv (v := (.agg (vR r115 r116 r117 r118).toArray)) rfl (HVal.extract rfl rfl) ?_)
   refine hv (v := (bv r119)) rfl (HVal.extract rfl rfl) (ho rfl (HOp.alloc Tryd.zeroValue25) ?_)
   rintro _ H120 ⟨rfl, e121⟩
   replace h := h H120 e121
   obtain ⟨z124, h⟩ := h
   refine hq (HOp.storeN' (l := (vR r115 r116 r117 r118)) Tryd.sizeOf25 rfl rfl rfl z124) ?_
   rintro _ H122 e123
   replace h := h H122 e123
   refine hv (v := (bv r119)) rfl (av rfl) (hn (nt (ws (ws (HW.draw mixed [(0, some []), (1, some []), (2, some []), (3, some []), (4, some []), (5, some []), (6, some []), (7, some []), (8, some []), (9, some []), (10, some [])] rfl (by kernel_rfl) (by kernel_rfl) ?_)))))
   refine pv (v := (bv r119)) rfl rfl (fun _ => mv rfl) (pv (v := (bv (!r119))) rfl rfl (fun _ => HVal.not rfl) (pv (v := (bv (!r119))) rfl rfl (fun _ => mv rfl) ?_))
   obtain ⟨hT, hF⟩ := h
   rcases Bool.eq_false_or_eq_true (!r119) with hb125 | hb126
   ·have h := hT hb125
    refine pg rfl rfl rfl rfl (cB hb125) (pg rfl rfl rfl rfl (cB hb125) (pg rfl rfl rfl rfl (cB hb125) (pg rfl rfl rfl rfl (cB hb125) ?_)))
    refine pg rfl rfl rfl rfl (cB hb125) (pg rfl rfl rfl rfl (cB hb125) (pg rfl rfl rfl rfl (cB hb125) (pv (v := (bv true)) rfl rfl (fun _ => pt_ rfl hb125 rfl) ?_)))
    refine HPlan.done (nt (HW.condT true rfl rfl (we (te (be (nt ?_))))))
    exact ⟨(isp rfl), h⟩
   have h := hF hb126
   refine HPlan.gtakev (v := (.pointer (some (bk H113)))) rfl rfl rfl rfl rfl (cB hb126) (fun _ => HVal.fieldAddr0 Tryd.runUnderlying25 rfl rfl Tryd.sizeOf3 rfl) ?_
   obtain ⟨x128, c127, h⟩ := h
   refine HPlan.gtakel (v := (iv x128)) (fun X => cell X (bk H113) = some (iv x128)) rfl rfl rfl rfl rfl (cB hb126) (fun _ hX => l1 Tryd.isAgg3 rfl hX) c127 ?_
   refine HPlan.gtakev (v := (iv y89)) rfl rfl rfl rfl rfl (cB hb126) (fun _ => mv rfl) ?_
   obtain ⟨b129, b130, h⟩ := h
   refine HPlan.gtakev (v := (.pointer (some (Addr.add (bk H) (y89.toNat * 4))))) rfl rfl rfl rfl rfl (cB hb126) (fun _ => HVal.indexAddrA Tryd.runUnderlying26 Tryd.sizeOf25 rfl rfl b129 b130) ?_
   refine HPlan.gtakev (v := (.pointer (some (Addr.add (bk H) (y89.toNat * 4))))) rfl rfl rfl rfl rfl (cB hb126) (fun _ => HVal.fieldAddr0 Tryd.runUnderlying25 rfl rfl Tryd.sizeOf3 rfl) ?_
   obtain ⟨x132, c131, h⟩ := h
   refine HPlan.gtakel (v := (iv x132)) (fun X => cell X (Addr.add (bk H) (y89.toNat * 4)) = some (iv x132)) rfl rfl rfl rfl rfl (cB hb126) (fun _ hX => l1 Tryd.isAgg3 rfl hX) c131 ?_
   refine HPlan.gtakev (v := (bv (decide (x128 ≠ x132)))) rfl rfl rfl rfl rfl (cB hb126) (fun _ => HVal.neqI rfl rfl) (pv (v := (bv (decide (x128 ≠ x132)))) rfl rfl (fun _ => pf_ rfl hb126 rfl) ?_)
   refine HPlan.done (nt ?_)
   obtain ⟨hT, hF⟩ := h
   refine wk (decide (x128 ≠ x132)) rfl (fun hb133 => ?_) (fun hb133 => ?_)
   ·have h := hT hb133
    refine we (te (be (nt ?_)))
    exact ⟨(isp rfl), h⟩
   have h := hF hb133
   refine wp_ (nt (wc (fun ρ H_5 => ∃ (y150 : Bool), Env.Is ρ [(5, (.pointer (some (bk H)))), (10, (Sl.v r83)), (12, (Sl.v r88)), (13, (iv y89)), (119, (bv y150))] ∧ F3_5 Q X3 (bk H) r83 r88 y89 y150 H_5) ?_ ?_))
   ·refine HW.draw mixed [(0, some []), (1, some []), (2, some []), (3, some []), (4, some []), (5, some []), (6, some []), (7, some []), (8, some []), (9, some []), (10, some []), (11, some []), (12, some []), (13, some []), (14, some []), (15, some []), (16, some []), (17, some []), (18, some []), (19, some []), (20, some []), (21, some []), (22, some []), (23, some []), (24, some []), (25, some []), (26, some []), (27, some []), (28, some []), (29, some []), (30, some []), (31, some []), (32, some []), (33, some []), (34, some []), (35, some []), (36, some []), (37, some []), (38, some []), (39, some []), (40, some []), (41, some []), (42, some []), (43, some []), (44, some [])] rfl (by kernel_rfl) (by kernel_rfl) ?_
    refine pv (v := (.pointer (some (bk H113)))) rfl rfl (fun _ => HVal.fieldAddr0 Tryd.runUnderlying25 rfl rfl Tryd.sizeOf3 rfl) ?_
    obtain ⟨x139, c138, h⟩ := h
    refine pl (v := (iv x139)) (fun X => cell X (bk H113) = some (iv x139)) rfl rfl (fun _ hX => l1 Tryd.isAgg3 rfl hX) c138 (pv (v := (bv (decide (x139 = 1)))) rfl rfl (fun _ => HVal.eqlI rfl rfl) ?_)
    refine pv (v := (bv (decide (x139 = 1)))) rfl rfl (fun _ => mv rfl) ?_
    obtain ⟨hT, hF⟩ := h
    rcases Bool.eq_false_or_eq_true (decide (x139 = 1)) with hb140 | hb141
    ·have h := hT hb140
     refine HPlan.gtakev (v := (.pointer (some (Addr.add (bk H113) 1)))) rfl rfl rfl rfl rfl (cB hb140) (fun _ => fa Tryd.runUnderlying25 rfl rfl Tryd.sizeOf2 rfl) ?_
     obtain ⟨x143, c142, h⟩ := h
     refine HPlan.gtakel (v := (iv x143)) (fun X => cell X (Addr.add (bk H113) 1) = some (iv x143)) rfl rfl rfl rfl rfl (cB hb140) (fun _ hX => l1 Tryd.isAgg2 rfl hX) c142 ?_
     refine HPlan.gtakev (v := (iv y89)) rfl rfl rfl rfl rfl (cB hb140) (fun _ => mv rfl) ?_
     obtain ⟨b144, b145, h⟩ := h
     refine HPlan.gtakev (v := (.pointer (some (Addr.add (bk H) (y89.toNat * 4))))) rfl rfl rfl rfl rfl (cB hb140) (fun _ => HVal.indexAddrA Tryd.runUnderlying26 Tryd.sizeOf25 rfl rfl b144 b145) ?_
     refine HPlan.gtakev (v := (.pointer (some (Addr.add (Addr.add (bk H) (y89.toNat * 4)) 1)))) rfl rfl rfl rfl rfl (cB hb140) (fun _ => fa Tryd.runUnderlying25 rfl rfl Tryd.sizeOf2 rfl) ?_
     obtain ⟨x147, c146, h⟩ := h
     refine HPlan.gtakel (v := (iv x147)) (fun X => cell X (Addr.add (Addr.add (bk H) (y89.toNat * 4)) 1) = some (iv x147)) rfl rfl rfl rfl rfl (cB hb140) (fun _ hX => l1 Tryd.isAgg2 rfl hX) c146 ?_
     refine HPlan.gtakev (v := (bv (decide (x147 < x143)))) rfl rfl rfl rfl rfl (cB hb140) (fun _ => HVal.gtr rfl rfl) (pv (v := (bv (decide (x147 < x143)))) rfl rfl (fun _ => pt_ rfl hb140 rfl) ?_)
     refine pv (v := (bv (decide (x147 < x143)))) rfl rfl (fun _ => mv rfl) ?_
     obtain ⟨hT, hF⟩ := h
     rcases Bool.eq_false_or_eq_true (decide (x147 < x143)) with hb148 | hb149
     ·have h := hT hb148
      refine pg rfl rfl rfl rfl (cB hb148) (pg rfl rfl rfl rfl (cB hb148) (pg rfl rfl rfl rfl (cB hb148) (pg rfl rfl rfl rfl (cB hb148) ?_)))
      refine HPlan.takeuskip rfl rfl rfl rfl rfl (HPlan.takeuskip rfl rfl rfl rfl rfl (HPlan.takeuskip rfl rfl rfl rfl rfl (pg rfl rfl rfl rfl (cB hb148) ?_)))
      refine pg rfl rfl rfl rfl (cB hb148) (HPlan.takeuskip rfl rfl rfl rfl rfl (HPlan.takeuskip rfl rfl rfl rfl rfl (HPlan.takeuskip rfl rfl rfl rfl rfl ?_)))
      refine HPlan.takeuskip rfl rfl rfl rfl rfl (HPlan.takeuskip rfl rfl rfl rfl rfl (pg rfl rfl rfl rfl (cB hb148) (pv (v := (bv true)) rfl rfl (fun _ => pt_ rfl hb148 rfl) ?_)))
      refine pv (v := (bv true)) rfl rfl (fun _ => mv rfl) (pg rfl rfl rfl rfl rfl (pg rfl rfl rfl rfl rfl (pg rfl rfl rfl rfl rfl ?_)))
      refine pg rfl rfl rfl rfl rfl (HPlan.takeuskip rfl rfl rfl rfl rfl (HPlan.takeuskip rfl rfl rfl rfl rfl (pg rfl rfl rfl rfl rfl ?_)))
      refine pg rfl rfl rfl rfl rfl (HPlan.takeuskip rfl rfl rfl rfl rfl (HPlan.takeuskip rfl rfl rfl rfl rfl (HPlan.takeuskip rfl rfl rfl rfl rfl ?_)))
      refine HPlan.takeuskip rfl rfl rfl rfl rfl (HPlan.takeuskip rfl rfl rfl rfl rfl (pg rfl rfl rfl rfl rfl (pv (v := (bv true)) rfl rfl (fun _ => pt_ rfl rfl rfl) ?_)))
      refine HPlan.done (nt ?_)
      exact ⟨true, (isp rfl), h⟩
     have h := hF hb149
     refine HPlan.gtakev (v := (.pointer (some (bk H113)))) rfl rfl rfl rfl rfl (cB hb149) (fun _ => HVal.fieldAddr0 Tryd.runUnderlying25 rfl rfl Tryd.sizeOf3 rfl) ?_
     obtain ⟨x152, c151, h⟩ := h
     refine HPlan.gtakel (v := (iv x152)) (fun X => cell X (bk H113) = some (iv x152)) rfl rfl rfl rfl rfl (cB hb149) (fun _ hX => l1 Tryd.isAgg3 rfl hX) c151 ?_
     refine HPlan.gtakev (v := (bv (decide (x152 = 2)))) rfl rfl rfl rfl rfl (cB hb149) (fun _ => HVal.eqlI rfl rfl) (HPlan.gtakev (v := (bv (decide (x152 = 2)))) rfl rfl rfl rfl rfl (cB hb149) (fun _ => mv rfl) ?_)
     obtain ⟨hT, hF⟩ := h
     rcases Bool.eq_false_or_eq_true (decide (x152 = 2)) with hb153 | hb154
     ·have h := hT hb153
      refine HPlan.gtakev (v := (.pointer (some (Addr.add (bk H113) 2)))) rfl rfl rfl rfl rfl (cB hb153) (fun _ => fa Tryd.runUnderlying25 rfl rfl Tryd.sizeOf9 rfl) ?_
      obtain ⟨x156, c155, h⟩ := h
      refine HPlan.gtakel (v := (sv x156)) (fun X => cell X (Addr.add (bk H113) 2) = some (sv x156)) rfl rfl rfl rfl rfl (cB hb153) (fun _ hX => l1 Tryd.isAgg9 rfl hX) c155 ?_
      refine HPlan.gtakev (v := (bv (!(seq x156 bE)))) rfl rfl rfl rfl rfl (cB hb153) (fun _ => HVal.neqS rfl rfl) (HPlan.gtakev (v := (bv (!(seq x156 bE)))) rfl rfl rfl rfl rfl (cB hb149) (fun _ => pt_ rfl hb153 rfl) ?_)
      refine HPlan.gtakev (v := (bv (!(seq x156 bE)))) rfl rfl rfl rfl rfl (cB hb149) (fun _ => mv rfl) ?_
      obtain ⟨hT, hF⟩ := h
      rcases Bool.eq_false_or_eq_true (!(seq x156 bE)) with hb157 | hb158
      ·have h := hT hb157
       obtain ⟨x160, x161, x162, x163, c159, h⟩ := h
       refine HPlan.gtakel (v := (.agg (vR x160 x161 x162 x163).toArray)) (fun X => cells X (bk H113) (vR x160 x161 x162 x163) 0) rfl rfl rfl rfl rfl (cB hb157) (fun _ hX => ln (vR x160 x161 x162 x163) Tryd.isAgg25 Tryd.sizeOf25 rfl hX) c159 ?_
       refine HPlan.gtakev (v := (iv y89)) rfl rfl rfl rfl rfl (cB hb157) (fun _ => mv rfl) ?_
       obtain ⟨b164, b165, h⟩ := h
       refine HPlan.gtakev (v := (.pointer (some (Addr.add (bk H) (y89.toNat * 4))))) rfl rfl rfl rfl rfl (cB hb157) (fun _ => HVal.indexAddrA Tryd.runUnderlying26 Tryd.sizeOf25 rfl rfl b164 b165) ?_
       obtain ⟨x167, x168, x169, x170, c166, h⟩ := h
       refine HPlan.gtakel (v := (.agg (vR x167 x168 x169 x170).toArray)) (fun X => cells X (Addr.add (bk H) (y89.toNat * 4)) (vR x167 x168 x169 x170) 0) rfl rfl rfl rfl rfl (cB hb157) (fun _ hX => ln (vR x167 x168 x169 x170) Tryd.isAgg25 Tryd.sizeOf25 rfl hX) c166 ?_
       refine HPlan.gtakev (v := (bv (!(decide (x160 = x167) && (decide (x161 = x168) && (seq x162 x169 && (x163 == x170))))))) rfl rfl rfl rfl rfl (cB hb157) (fun _ => eqs25_neq rfl rfl) ?_
       refine HPlan.gtakev (v := (bv (!(decide (x160 = x167) && (decide (x161 = x168) && (seq x162 x169 && (x163 == x170))))))) rfl rfl rfl rfl rfl (cB hb149) (fun _ => pt_ rfl hb157 rfl) ?_
       refine pv (v := (bv (!(decide (x160 = x167) && (decide (x161 = x168) && (seq x162 x169 && (x163 == x170))))))) rfl rfl (fun _ => pf_ rfl hb149 rfl) ?_
       refine pv (v := (bv (!(decide (x160 = x167) && (decide (x161 = x168) && (seq x162 x169 && (x163 == x170))))))) rfl rfl (fun _ => mv rfl) ?_
       obtain ⟨hT, hF⟩ := h
       rcases Bool.eq_false_or_eq_true (!(decide (x160 = x167) && (decide (x161 = x168) && (seq x162 x169 && (x163 == x170))))) with hb171 | hb172
       ·have h := hT hb171
        refine pg rfl rfl rfl rfl (cB hb171) (pg rfl rfl rfl rfl (cB hb171) (pg rfl rfl rfl rfl (cB hb171) (pg rfl rfl rfl rfl (cB hb171) ?_)))
        refine HPlan.takeuskip rfl rfl rfl rfl rfl (HPlan.takeuskip rfl rfl rfl rfl rfl (pg rfl rfl rfl rfl (cB hb171) (pg rfl rfl rfl rfl (cB hb171) ?_)))
        refine HPlan.takeuskip rfl rfl rfl rfl rfl (HPlan.takeuskip rfl rfl rfl rfl rfl (HPlan.takeuskip rfl rfl rfl rfl rfl (HPlan.takeuskip rfl rfl rfl rfl rfl ?_)))
        refine HPlan.takeuskip rfl rfl rfl rfl rfl (pg rfl rfl rfl rfl (cB hb171) (pv (v := (bv true)) rfl rfl (fun _ => pt_ rfl hb171 rfl) ?_))
        refine HPlan.done (nt ?_)
        exact ⟨true, (isp rfl), h⟩
       have h := hF hb172
       refine HPlan.gtakev (v := (.pointer (some (bk H113)))) rfl rfl rfl rfl rfl (cB hb172) (fun _ => HVal.fieldAddr0 Tryd.runUnderlying25 rfl rfl Tryd.sizeOf3 rfl) ?_
       obtain ⟨x174, c173, h⟩ := h
       refine HPlan.gtakel (v := (iv x174)) (fun X => cell X (bk H113) = some (iv x174)) rfl rfl rfl rfl rfl (cB hb172) (fun _ hX => l1 Tryd.isAgg3 rfl hX) c173 ?_
       refine HPlan.gtakev (v := (bv (decide (x174 = 3)))) rfl rfl rfl rfl rfl (cB hb172) (fun _ => HVal.eqlI rfl rfl) (HPlan.gtakev (v := (bv (decide (x174 = 3)))) rfl rfl rfl rfl rfl (cB hb172) (fun _ => mv rfl) ?_)
       obtain ⟨hT, hF⟩ := h
       rcases Bool.eq_false_or_eq_true (decide (x174 = 3)) with hb175 | hb176
       ·have h := hT hb175
        refine HPlan.gtakev (v := (.pointer (some (Addr.add (bk H113) 3)))) rfl rfl rfl rfl rfl (cB hb175) (fun _ => fa Tryd.runUnderlying25 rfl rfl Tryd.sizeOf4 rfl) ?_
        obtain ⟨x178, c177, h⟩ := h
        refine HPlan.gtakel (v := (bv x178)) (fun X => cell X (Addr.add (bk H113) 3) = some (bv x178)) rfl rfl rfl rfl rfl (cB hb175) (fun _ hX => l1 Tryd.isAgg4 rfl hX) c177 ?_
        refine HPlan.gtakev (v := (bv x178)) rfl rfl rfl rfl rfl (cB hb172) (fun _ => pt_ rfl hb175 rfl) (HPlan.gtakev (v := (bv x178)) rfl rfl rfl rfl rfl (cB hb172) (fun _ => mv rfl) ?_)
        obtain ⟨hT, hF⟩ := h
        rcases Bool.eq_false_or_eq_true x178 with hb179 | hb180
        ·have h := hT hb179
         obtain ⟨x182, x183, x184, x185, c181, h⟩ := h
         refine HPlan.gtakel (v := (.agg (vR x182 x183 x184 x185).toArray)) (fun X => cells X (bk H113) (vR x182 x183 x184 x185) 0) rfl rfl rfl rfl rfl (cB hb179) (fun _ hX => ln (vR x182 x183 x184 x185) Tryd.isAgg25 Tryd.sizeOf25 rfl hX) c181 ?_
         refine HPlan.gtakev (v := (iv y89)) rfl rfl rfl rfl rfl (cB hb179) (fun _ => mv rfl) ?_
         obtain ⟨b186, b187, h⟩ := h
         refine HPlan.gtakev (v := (.pointer (some (Addr.add (bk H) (y89.toNat * 4))))) rfl rfl rfl rfl rfl (cB hb179) (fun _ => HVal.indexAddrA Tryd.runUnderlying26 Tryd.sizeOf25 rfl rfl b186 b187) ?_
         obtain ⟨x189, x190, x191, x192, c188, h⟩ := h
         refine HPlan.gtakel (v := (.agg (vR x189 x190 x191 x192).toArray)) (fun X => cells X (Addr.add (bk H) (y89.toNat * 4)) (vR x189 x190 x191 x192) 0) rfl rfl rfl rfl rfl (cB hb179) (fun _ hX => ln (vR x189 x190 x191 x192) Tryd.isAgg25 Tryd.sizeOf25 rfl hX) c188 ?_
         refine HPlan.gtakev (v := (bv (!(decide (x182 = x189) && (decide (x183 = x190) && (seq x184 x191 && (x185 == x192))))))) rfl rfl rfl rfl rfl (cB hb179) (fun _ => eqs25_neq rfl rfl) ?_
         refine HPlan.gtakev (v := (bv (!(decide (x182 = x189) && (decide (x183 = x190) && (seq x184 x191 && (x185 == x192))))))) rfl rfl rfl rfl rfl (cB hb172) (fun _ => pt_ rfl hb179 rfl) ?_
         refine pv (v := (bv (!(decide (x182 = x189) && (decide (x183 = x190) && (seq x184 x191 && (x185 == x192))))))) rfl rfl (fun _ => pf_ rfl hb172 rfl) ?_
         refine HPlan.done (nt ?_)
         exact ⟨(!(decide (x182 = x189) && (decide (x183 = x190) && (seq x184 x191 && (x185 == x192))))), (isp rfl), h⟩
        have h := hF hb180
        refine pg rfl rfl rfl rfl (cB hb180) (pg rfl rfl rfl rfl (cB hb180) (pg rfl rfl rfl rfl (cB hb180) (pg rfl rfl rfl rfl (cB hb180) ?_)))
        refine pg rfl rfl rfl rfl (cB hb180) (HPlan.gtakev (v := (bv false)) rfl rfl rfl rfl rfl (cB hb172) (fun _ => pf_ rfl hb180 rfl) ?_)
        refine pv (v := (bv false)) rfl rfl (fun _ => pf_ rfl hb172 rfl) (HPlan.done (nt ?_))
        exact ⟨false, (isp rfl), h⟩
       have h := hF hb176
       refine pg rfl rfl rfl rfl (cB hb176) (pg rfl rfl rfl rfl (cB hb176) (HPlan.gtakev (v := (bv false)) rfl rfl rfl rfl rfl (cB hb172) (fun _ => pf_ rfl hb176 rfl) ?_))
       refine HPlan.gtakev (v := (bv false)) rfl rfl rfl rfl rfl (cB hb172) (fun _ => mv rfl) (pg rfl rfl rfl rfl rfl (pg rfl rfl rfl rfl rfl ?_))
       refine pg rfl rfl rfl rfl rfl (pg rfl rfl rfl rfl rfl (pg rfl rfl rfl rfl rfl (HPlan.gtakev (v := (bv false)) rfl rfl rfl rfl rfl (cB hb172) (fun _ => pf_ rfl rfl rfl) ?_)))
       refine pv (v := (bv false)) rfl rfl (fun _ => pf_ rfl hb172 rfl) (HPlan.done (nt ?_))
       exact ⟨false, (isp rfl), h⟩
      have h := hF hb158
      refine pg rfl rfl rfl rfl (cB hb158) (pg rfl rfl rfl rfl (cB hb158) (pg rfl rfl rfl rfl (cB hb158) (pg rfl rfl rfl rfl (cB hb158) ?_)))
      refine pg rfl rfl rfl rfl (cB hb158) (HPlan.gtakev (v := (bv false)) rfl rfl rfl rfl rfl (cB hb149) (fun _ => pf_ rfl hb158 rfl) (pv (v := (bv false)) rfl rfl (fun _ => pf_ rfl hb149 rfl) ?_))
      refine pv (v := (bv false)) rfl rfl (fun _ => mv rfl) (HPlan.gtakev (v := (.pointer (some (bk H113)))) rfl rfl rfl rfl rfl rfl (fun _ => HVal.fieldAddr0 Tryd.runUnderlying25 rfl rfl Tryd.sizeOf3 rfl) ?_)
      obtain ⟨x194, c193, h⟩ := h
      refine HPlan.gtakel (v := (iv x194)) (fun X => cell X (bk H113) = some (iv x194)) rfl rfl rfl rfl rfl rfl (fun _ hX => l1 Tryd.isAgg3 rfl hX) c193 ?_
      refine HPlan.gtakev (v := (bv (decide (x194 = 3)))) rfl rfl rfl rfl rfl rfl (fun _ => HVal.eqlI rfl rfl) (HPlan.gtakev (v := (bv (decide (x194 = 3)))) rfl rfl rfl rfl rfl rfl (fun _ => mv rfl) ?_)
      obtain ⟨hT, hF⟩ := h
      rcases Bool.eq_false_or_eq_true (decide (x194 = 3)) with hb195 | hb196
      ·have h := hT hb195
       refine HPlan.gtakev (v := (.pointer (some (Addr.add (bk H113) 3)))) rfl rfl rfl rfl rfl (cB hb195) (fun _ => fa Tryd.runUnderlying25 rfl rfl Tryd.sizeOf4 rfl) ?_
       obtain ⟨x198, c197, h⟩ := h
       refine HPlan.gtakel (v := (bv x198)) (fun X => cell X (Addr.add (bk H113) 3) = some (bv x198)) rfl rfl rfl rfl rfl (cB hb195) (fun _ hX => l1 Tryd.isAgg4 rfl hX) c197 ?_
       refine HPlan.gtakev (v := (bv x198)) rfl rfl rfl rfl rfl rfl (fun _ => pt_ rfl hb195 rfl) (HPlan.gtakev (v := (bv x198)) rfl rfl rfl rfl rfl rfl (fun _ => mv rfl) ?_)
       obtain ⟨hT, hF⟩ := h
       rcases Bool.eq_false_or_eq_true x198 with hb199 | hb200
       ·have h := hT hb199
        obtain ⟨x202, x203, x204, x205, c201, h⟩ := h
        refine HPlan.gtakel (v := (.agg (vR x202 x203 x204 x205).toArray)) (fun X => cells X (bk H113) (vR x202 x203 x204 x205) 0) rfl rfl rfl rfl rfl (cB hb199) (fun _ hX => ln (vR x202 x203 x204 x205) Tryd.isAgg25 Tryd.sizeOf25 rfl hX) c201 ?_
        refine HPlan.gtakev (v := (iv y89)) rfl rfl rfl rfl rfl (cB hb199) (fun _ => mv rfl) ?_
        obtain ⟨b206, b207, h⟩ := h
        refine HPlan.gtakev (v := (.pointer (some (Addr.add (bk H) (y89.toNat * 4))))) rfl rfl rfl rfl rfl (cB hb199) (fun _ => HVal.indexAddrA Tryd.runUnderlying26 Tryd.sizeOf25 rfl rfl b206 b207) ?_
        obtain ⟨x209, x210, x211, x212, c208, h⟩ := h
        refine HPlan.gtakel (v := (.agg (vR x209 x210 x211 x212).toArray)) (fun X => cells X (Addr.add (bk H) (y89.toNat * 4)) (vR x209 x210 x211 x212) 0) rfl rfl rfl rfl rfl (cB hb199) (fun _ hX => ln (vR x209 x210 x211 x212) Tryd.isAgg25 Tryd.sizeOf25 rfl hX) c208 ?_
        refine HPlan.gtakev (v := (bv (!(decide (x202 = x209) && (decide (x203 = x210) && (seq x204 x211 && (x205 == x212))))))) rfl rfl rfl rfl rfl (cB hb199) (fun _ => eqs25_neq rfl rfl) ?_
        refine HPlan.gtakev (v := (bv (!(decide (x202 = x209) && (decide (x203 = x210) && (seq x204 x211 && (x205 == x212))))))) rfl rfl rfl rfl rfl rfl (fun _ => pt_ rfl hb199 rfl) ?_
        refine pv (v := (bv (!(decide (x202 = x209) && (decide (x203 = x210) && (seq x204 x211 && (x205 == x212))))))) rfl rfl (fun _ => pf_ rfl rfl rfl) ?_
        refine HPlan.done (nt ?_)
        exact ⟨(!(decide (x202 = x209) && (decide (x203 = x210) && (seq x204 x211 && (x205 == x212))))), (isp rfl), h⟩
       have h := hF hb200
       refine pg rfl rfl rfl rfl (cB hb200) (pg rfl rfl rfl rfl (cB hb200) (pg rfl rfl rfl rfl (cB hb200) (pg rfl rfl rfl rfl (cB hb200) ?_)))
       refine pg rfl rfl rfl rfl (cB hb200) (HPlan.gtakev (v := (bv false)) rfl rfl rfl rfl rfl rfl (fun _ => pf_ rfl hb200 rfl) (pv (v := (bv false)) rfl rfl (fun _ => pf_ rfl rfl rfl) ?_))
       refine HPlan.done (nt ?_)
       exact ⟨false, (isp rfl), h⟩
      have h := hF hb196
      refine pg rfl rfl rfl rfl (cB hb196) (pg rfl rfl rfl rfl (cB hb196) (HPlan.gtakev (v := (bv false)) rfl rfl rfl rfl rfl rfl (fun _ => pf_ rfl hb196 rfl) ?_))
      refine HPlan.gtakev (v := (bv false)) rfl rfl rfl rfl rfl rfl (fun _ => mv rfl) (pg rfl rfl rfl rfl rfl (pg rfl rfl rfl rfl rfl ?_))
      refine pg rfl rfl rfl rfl rfl (pg rfl rfl rfl rfl rfl (pg rfl rfl rfl rfl rfl (HPlan.gtakev (v := (bv false)) rfl rfl rfl rfl rfl rfl (fun _ => pf_ rfl rfl rfl) ?_)))
      refine pv (v := (bv false)) rfl rfl (fun _ => pf_ rfl rfl rfl) (HPlan.done (nt ?_))
      exact ⟨false, (isp rfl), h⟩
     have h := hF hb154
     refine pg rfl rfl rfl rfl (cB hb154) (pg rfl rfl rfl rfl (cB hb154) (pg rfl rfl rfl rfl (cB hb154) (HPlan.gtakev (v := (bv false)) rfl rfl rfl rfl rfl (cB hb149) (fun _ => pf_ rfl hb154 rfl) ?_)))
     refine HPlan.gtakev (v := (bv false)) rfl rfl rfl rfl rfl (cB hb149) (fun _ => mv rfl) (pg rfl rfl rfl rfl rfl (pg rfl rfl rfl rfl rfl ?_))
     refine pg rfl rfl rfl rfl rfl (pg rfl rfl rfl rfl rfl (pg rfl rfl rfl rfl rfl (HPlan.gtakev (v := (bv false)) rfl rfl rfl rfl rfl (cB hb149) (fun _ => pf_ rfl rfl rfl) ?_)))
     refine pv (v := (bv false)) rfl rfl (fun _ => pf_ rfl hb149 rfl) (pv (v := (bv false)) rfl rfl (fun _ => mv rfl) (HPlan.gtakev (v := (.pointer (some (bk H113)))) rfl rfl rfl rfl rfl rfl (fun _ => HVal.fieldAddr0 Tryd.runUnderlying25 rfl rfl Tryd.sizeOf3 rfl) ?_))
     obtain ⟨x214, c213, h⟩ := h
     refine HPlan.gtakel (v := (iv x214)) (fun X => cell X (bk H113) = some (iv x214)) rfl rfl rfl rfl rfl rfl (fun _ hX => l1 Tryd.isAgg3 rfl hX) c213 ?_
     refine HPlan.gtakev (v := (bv (decide (x214 = 3)))) rfl rfl rfl rfl rfl rfl (fun _ => HVal.eqlI rfl rfl) (HPlan.gtakev (v := (bv (decide (x214 = 3)))) rfl rfl rfl rfl rfl rfl (fun _ => mv rfl) ?_)
     obtain ⟨hT, hF⟩ := h
     rcases Bool.eq_false_or_eq_true (decide (x214 = 3)) with hb215 | hb216
     ·have h := hT hb215
      refine HPlan.gtakev (v := (.pointer (some (Addr.add (bk H113) 3)))) rfl rfl rfl rfl rfl (cB hb215) (fun _ => fa Tryd.runUnderlying25 rfl rfl Tryd.sizeOf4 rfl) ?_
      obtain ⟨x218, c217, h⟩ := h
      refine HPlan.gtakel (v := (bv x218)) (fun X => cell X (Addr.add (bk H113) 3) = some (bv x218)) rfl rfl rfl rfl rfl (cB hb215) (fun _ hX => l1 Tryd.isAgg4 rfl hX) c217 ?_
      refine HPlan.gtakev (v := (bv x218)) rfl rfl rfl rfl rfl rfl (fun _ => pt_ rfl hb215 rfl) (HPlan.gtakev (v := (bv x218)) rfl rfl rfl rfl rfl rfl (fun _ => mv rfl) ?_)
      obtain ⟨hT, hF⟩ := h
      rcases Bool.eq_false_or_eq_true x218 with hb219 | hb220
      ·have h := hT hb219
       obtain ⟨x222, x223, x224, x225, c221, h⟩ := h
       refine HPlan.gtakel (v := (.agg (vR x222 x223 x224 x225).toArray)) (fun X => cells X (bk H113) (vR x222 x223 x224 x225) 0) rfl rfl rfl rfl rfl (cB hb219) (fun _ hX => ln (vR x222 x223 x224 x225) Tryd.isAgg25 Tryd.sizeOf25 rfl hX) c221 ?_
       refine HPlan.gtakev (v := (iv y89)) rfl rfl rfl rfl rfl (cB hb219) (fun _ => mv rfl) ?_
       obtain ⟨b226, b227, h⟩ := h
       refine HPlan.gtakev (v := (.pointer (some (Addr.add (bk H) (y89.toNat * 4))))) rfl rfl rfl rfl rfl (cB hb219) (fun _ => HVal.indexAddrA Tryd.runUnderlying26 Tryd.sizeOf25 rfl rfl b226 b227) ?_
       obtain ⟨x229, x230, x231, x232, c228, h⟩ := h
       refine HPlan.gtakel (v := (.agg (vR x229 x230 x231 x232).toArray)) (fun X => cells X (Addr.add (bk H) (y89.toNat * 4)) (vR x229 x230 x231 x232) 0) rfl rfl rfl rfl rfl (cB hb219) (fun _ hX => ln (vR x229 x230 x231 x232) Tryd.isAgg25 Tryd.sizeOf25 rfl hX) c228 ?_
       refine HPlan.gtakev (v := (bv (!(decide (x222 = x229) && (decide (x223 = x230) && (seq x224 x231 && (x225 == x232))))))) rfl rfl rfl rfl rfl (cB hb219) (fun _ => eqs25_neq rfl rfl) ?_
       refine HPlan.gtakev (v := (bv (!(decide (x222 = x229) && (decide (x223 = x230) && (seq x224 x231 && (x225 == x232))))))) rfl rfl rfl rfl rfl rfl (fun _ => pt_ rfl hb219 rfl) ?_
       refine pv (v := (bv (!(decide (x222 = x229) && (decide (x223 = x230) && (seq x224 x231 && (x225 == x232))))))) rfl rfl (fun _ => pf_ rfl rfl rfl) ?_
       refine HPlan.done (nt ?_)
       exact ⟨(!(decide (x222 = x229) && (decide (x223 = x230) && (seq x224 x231 && (x225 == x232))))), (isp rfl), h⟩
      have h := hF hb220
      refine pg rfl rfl rfl rfl (cB hb220) (pg rfl rfl rfl rfl (cB hb220) (pg rfl rfl rfl rfl (cB hb220) (pg rfl rfl rfl rfl (cB hb220) ?_)))
      refine pg rfl rfl rfl rfl (cB hb220) (HPlan.gtakev (v := (bv false)) rfl rfl rfl rfl rfl rfl (fun _ => pf_ rfl hb220 rfl) (pv (v := (bv false)) rfl rfl (fun _ => pf_ rfl rfl rfl) ?_))
      refine HPlan.done (nt ?_)
      exact ⟨false, (isp rfl), h⟩
     have h := hF hb216
     refine pg rfl rfl rfl rfl (cB hb216) (pg rfl rfl rfl rfl (cB hb216) (HPlan.gtakev (v := (bv false)) rfl rfl rfl rfl rfl rfl (fun _ => pf_ rfl hb216 rfl) ?_))
     refine HPlan.gtakev (v := (bv false)) rfl rfl rfl rfl rfl rfl (fun _ => mv rfl) (pg rfl rfl rfl rfl rfl (pg rfl rfl rfl rfl rfl ?_))
     refine pg rfl rfl rfl rfl rfl (pg rfl rfl rfl rfl rfl (pg rfl rfl rfl rfl rfl (HPlan.gtakev (v := (bv false)) rfl rfl rfl rfl rfl rfl (fun _ => pf_ rfl rfl rfl) ?_)))
     refine pv (v := (bv false)) rfl rfl (fun _ => pf_ rfl rfl rfl) (HPlan.done (nt ?_))
     exact ⟨false, (isp rfl), h⟩
    have h := hF hb141
    refine pg rfl rfl rfl rfl (cB hb141) (pg rfl rfl rfl rfl (cB hb141) (pg rfl rfl rfl rfl (cB hb141) (pg rfl rfl rfl rfl (cB hb141) ?_)))
    refine pg rfl rfl rfl rfl (cB hb141) (pg rfl rfl rfl rfl (cB hb141) (pg rfl rfl rfl rfl (cB hb141) (pv (v := (bv false)) rfl rfl (fun _ => pf_ rfl hb141 rfl) ?_)))
    refine pv (v := (bv false)) rfl rfl (fun _ => mv rfl) (HPlan.gtakev (v := (.pointer (some (bk H113)))) rfl rfl rfl rfl rfl rfl (fun _ => HVal.fieldAddr0 Tryd.runUnderlying25 rfl rfl Tryd.sizeOf3 rfl) ?_)
    obtain ⟨x234, c233, h⟩ := h
    refine HPlan.gtakel (v := (iv x234)) (fun X => cell X (bk H113) = some (iv x234)) rfl rfl rfl rfl rfl rfl (fun _ hX => l1 Tryd.isAgg3 rfl hX) c233 ?_
    refine HPlan.gtakev (v := (bv (decide (x234 = 2)))) rfl rfl rfl rfl rfl rfl (fun _ => HVal.eqlI rfl rfl) (HPlan.gtakev (v := (bv (decide (x234 = 2)))) rfl rfl rfl rfl rfl rfl (fun _ => mv rfl) ?_)
    obtain ⟨hT, hF⟩ := h
    rcases Bool.eq_false_or_eq_true (decide (x234 = 2)) with hb235 | hb236
    ·have h := hT hb235
     refine HPlan.gtakev (v := (.pointer (some (Addr.add (bk H113) 2)))) rfl rfl rfl rfl rfl (cB hb235) (fun _ => fa Tryd.runUnderlying25 rfl rfl Tryd.sizeOf9 rfl) ?_
     obtain ⟨x238, c237, h⟩ := h
     refine HPlan.gtakel (v := (sv x238)) (fun X => cell X (Addr.add (bk H113) 2) = some (sv x238)) rfl rfl rfl rfl rfl (cB hb235) (fun _ hX => l1 Tryd.isAgg9 rfl hX) c237 ?_
     refine HPlan.gtakev (v := (bv (!(seq x238 bE)))) rfl rfl rfl rfl rfl (cB hb235) (fun _ => HVal.neqS rfl rfl) (HPlan.gtakev (v := (bv (!(seq x238 bE)))) rfl rfl rfl rfl rfl rfl (fun _ => pt_ rfl hb235 rfl) ?_)
     refine HPlan.gtakev (v := (bv (!(seq x238 bE)))) rfl rfl rfl rfl rfl rfl (fun _ => mv rfl) ?_
     obtain ⟨hT, hF⟩ := h
     rcases Bool.eq_false_or_eq_true (!(seq x238 bE)) with hb239 | hb240
     ·have h := hT hb239
      obtain ⟨x242, x243, x244, x245, c241, h⟩ := h
      refine HPlan.gtakel (v := (.agg (vR x242 x243 x244 x245).toArray)) (fun X => cells X (bk H113) (vR x242 x243 x244 x245) 0) rfl rfl rfl rfl rfl (cB hb239) (fun _ hX => ln (vR x242 x243 x244 x245) Tryd.isAgg25 Tryd.sizeOf25 rfl hX) c241 ?_
      refine HPlan.gtakev (v := (iv y89)) rfl rfl rfl rfl rfl (cB hb239) (fun _ => mv rfl) ?_
      obtain ⟨b246, b247, h⟩ := h
      refine HPlan.gtakev (v := (.pointer (some (Addr.add (bk H) (y89.toNat * 4))))) rfl rfl rfl rfl rfl (cB hb239) (fun _ => HVal.indexAddrA Tryd.runUnderlying26 Tryd.sizeOf25 rfl rfl b246 b247) ?_
      obtain ⟨x249, x250, x251, x252, c248, h⟩ := h
      refine HPlan.gtakel (v := (.agg (vR x249 x250 x251 x252).toArray)) (fun X => cells X (Addr.add (bk H) (y89.toNat * 4)) (vR x249 x250 x251 x252) 0) rfl rfl rfl rfl rfl (cB hb239) (fun _ hX => ln (vR x249 x250 x251 x252) Tryd.isAgg25 Tryd.sizeOf25 rfl hX) c248 ?_
      refine HPlan.gtakev (v := (bv (!(decide (x242 = x249) && (decide (x243 = x250) && (seq x244 x251 && (x245 == x252))))))) rfl rfl rfl rfl rfl (cB hb239) (fun _ => eqs25_neq rfl rfl) ?_
      refine HPlan.gtakev (v := (bv (!(decide (x242 = x249) && (decide (x243 = x250) && (seq x244 x251 && (x245 == x252))))))) rfl rfl rfl rfl rfl rfl (fun _ => pt_ rfl hb239 rfl) ?_
      refine pv (v := (bv (!(decide (x242 = x249) && (decide (x243 = x250) && (seq x244 x251 && (x245 == x252))))))) rfl rfl (fun _ => pf_ rfl rfl rfl) ?_
      refine pv (v := (bv (!(decide (x242 = x249) && (decide (x243 = x250) && (seq x244 x251 && (x245 == x252))))))) rfl rfl (fun _ => mv rfl) ?_
      obtain ⟨hT, hF⟩ := h
      rcases Bool.eq_false_or_eq_true (!(decide (x242 = x249) && (decide (x243 = x250) && (seq x244 x251 && (x245 == x252))))) with hb253 | hb254
      ·have h := hT hb253
       refine pg rfl rfl rfl rfl (cB hb253) (pg rfl rfl rfl rfl (cB hb253) (pg rfl rfl rfl rfl (cB hb253) (pg rfl rfl rfl rfl (cB hb253) ?_)))
       refine HPlan.takeuskip rfl rfl rfl rfl rfl (HPlan.takeuskip rfl rfl rfl rfl rfl (pg rfl rfl rfl rfl (cB hb253) (pg rfl rfl rfl rfl (cB hb253) ?_)))
       refine HPlan.takeuskip rfl rfl rfl rfl rfl (HPlan.takeuskip rfl rfl rfl rfl rfl (HPlan.takeuskip rfl rfl rfl rfl rfl (HPlan.takeuskip rfl rfl rfl rfl rfl ?_)))
       refine HPlan.takeuskip rfl rfl rfl rfl rfl (pg rfl rfl rfl rfl (cB hb253) (pv (v := (bv true)) rfl rfl (fun _ => pt_ rfl hb253 rfl) ?_))
       refine HPlan.done (nt ?_)
       exact ⟨true, (isp rfl), h⟩
      have h := hF hb254
      refine HPlan.gtakev (v := (.pointer (some (bk H113)))) rfl rfl rfl rfl rfl (cB hb254) (fun _ => HVal.fieldAddr0 Tryd.runUnderlying25 rfl rfl Tryd.sizeOf3 rfl) ?_
      obtain ⟨x256, c255, h⟩ := h
      refine HPlan.gtakel (v := (iv x256)) (fun X => cell X (bk H113) = some (iv x256)) rfl rfl rfl rfl rfl (cB hb254) (fun _ hX => l1 Tryd.isAgg3 rfl hX) c255 ?_
      refine HPlan.gtakev (v := (bv (decide (x256 = 3)))) rfl rfl rfl rfl rfl (cB hb254) (fun _ => HVal.eqlI rfl rfl) (HPlan.gtakev (v := (bv (decide (x256 = 3)))) rfl rfl rfl rfl rfl (cB hb254) (fun _ => mv rfl) ?_)
      obtain ⟨hT, hF⟩ := h
      rcases Bool.eq_false_or_eq_true (decide (x256 = 3)) with hb257 | hb258
      ·have h := hT hb257
       refine HPlan.gtakev (v := (.pointer (some (Addr.add (bk H113) 3)))) rfl rfl rfl rfl rfl (cB hb257) (fun _ => fa Tryd.runUnderlying25 rfl rfl Tryd.sizeOf4 rfl) ?_
       obtain ⟨x260, c259, h⟩ := h
       refine HPlan.gtakel (v := (bv x260)) (fun X => cell X (Addr.add (bk H113) 3) = some (bv x260)) rfl rfl rfl rfl rfl (cB hb257) (fun _ hX => l1 Tryd.isAgg4 rfl hX) c259 ?_
       refine HPlan.gtakev (v := (bv x260)) rfl rfl rfl rfl rfl (cB hb254) (fun _ => pt_ rfl hb257 rfl) (HPlan.gtakev (v := (bv x260)) rfl rfl rfl rfl rfl (cB hb254) (fun _ => mv rfl) ?_)
       obtain ⟨hT, hF⟩ := h
       rcases Bool.eq_false_or_eq_true x260 with hb261 | hb262
       ·have h := hT hb261
        obtain ⟨x264, x265, x266, x267, c263, h⟩ := h
        refine HPlan.gtakel (v := (.agg (vR x264 x265 x266 x267).toArray)) (fun X => cells X (bk H113) (vR x264 x265 x266 x267) 0) rfl rfl rfl rfl rfl (cB hb261) (fun _ hX => ln (vR x264 x265 x266 x267) Tryd.isAgg25 Tryd.sizeOf25 rfl hX) c263 ?_
        refine HPlan.gtakev (v := (iv y89)) rfl rfl rfl rfl rfl (cB hb261) (fun _ => mv rfl) ?_
        obtain ⟨b268, b269, h⟩ := h
        refine HPlan.gtakev (v := (.pointer (some (Addr.add (bk H) (y89.toNat * 4))))) rfl rfl rfl rfl rfl (cB hb261) (fun _ => HVal.indexAddrA Tryd.runUnderlying26 Tryd.sizeOf25 rfl rfl b268 b269) ?_
        obtain ⟨x271, x272, x273, x274, c270, h⟩ := h
        refine HPlan.gtakel (v := (.agg (vR x271 x272 x273 x274).toArray)) (fun X => cells X (Addr.add (bk H) (y89.toNat * 4)) (vR x271 x272 x273 x274) 0) rfl rfl rfl rfl rfl (cB hb261) (fun _ hX => ln (vR x271 x272 x273 x274) Tryd.isAgg25 Tryd.sizeOf25 rfl hX) c270 ?_
        refine HPlan.gtakev (v := (bv (!(decide (x264 = x271) && (decide (x265 = x272) && (seq x266 x273 && (x267 == x274))))))) rfl rfl rfl rfl rfl (cB hb261) (fun _ => eqs25_neq rfl rfl) ?_
        refine HPlan.gtakev (v := (bv (!(decide (x264 = x271) && (decide (x265 = x272) && (seq x266 x273 && (x267 == x274))))))) rfl rfl rfl rfl rfl (cB hb254) (fun _ => pt_ rfl hb261 rfl) ?_
        refine pv (v := (bv (!(decide (x264 = x271) && (decide (x265 = x272) && (seq x266 x273 && (x267 == x274))))))) rfl rfl (fun _ => pf_ rfl hb254 rfl) ?_
        refine HPlan.done (nt ?_)
        exact ⟨(!(decide (x264 = x271) && (decide (x265 = x272) && (seq x266 x273 && (x267 == x274))))), (isp rfl), h⟩
       have h := hF hb262
       refine pg rfl rfl rfl rfl (cB hb262) (pg rfl rfl rfl rfl (cB hb262) (pg rfl rfl rfl rfl (cB hb262) (pg rfl rfl rfl rfl (cB hb262) ?_)))
       refine pg rfl rfl rfl rfl (cB hb262) (HPlan.gtakev (v := (bv false)) rfl rfl rfl rfl rfl (cB hb254) (fun _ => pf_ rfl hb262 rfl) (pv (v := (bv false)) rfl rfl (fun _ => pf_ rfl hb254 rfl) ?_))
       refine HPlan.done (nt ?_)
       exact ⟨false, (isp rfl), h⟩
      have h := hF hb258
      refine pg rfl rfl rfl rfl (cB hb258) (pg rfl rfl rfl rfl (cB hb258) (HPlan.gtakev (v := (bv false)) rfl rfl rfl rfl rfl (cB hb254) (fun _ => pf_ rfl hb258 rfl) ?_))
      refine HPlan.gtakev (v := (bv false)) rfl rfl rfl rfl rfl (cB hb254) (fun _ => mv rfl) (pg rfl rfl rfl rfl rfl (pg rfl rfl rfl rfl rfl ?_))
      refine pg rfl rfl rfl rfl rfl (pg rfl rfl rfl rfl rfl (pg rfl rfl rfl rfl rfl (HPlan.gtakev (v := (bv false)) rfl rfl rfl rfl rfl (cB hb254) (fun _ => pf_ rfl rfl rfl) ?_)))
      refine pv (v := (bv false)) rfl rfl (fun _ => pf_ rfl hb254 rfl) (HPlan.done (nt ?_))
      exact ⟨false, (isp rfl), h⟩
     have h := hF hb240
     refine pg rfl rfl rfl rfl (cB hb240) (pg rfl rfl rfl rfl (cB hb240) (pg rfl rfl rfl rfl (cB hb240) (pg rfl rfl rfl rfl (cB hb240) ?_)))
     refine pg rfl rfl rfl rfl (cB hb240) (HPlan.gtakev (v := (bv false)) rfl rfl rfl rfl rfl rfl (fun _ => pf_ rfl hb240 rfl) (pv (v := (bv false)) rfl rfl (fun _ => pf_ rfl rfl rfl) ?_))
     refine pv (v := (bv false)) rfl rfl (fun _ => mv rfl) (HPlan.gtakev (v := (.pointer (some (bk H113)))) rfl rfl rfl rfl rfl rfl (fun _ => HVal.fieldAddr0 Tryd.runUnderlying25 rfl rfl Tryd.sizeOf3 rfl) ?_)
     obtain ⟨x276, c275, h⟩ := h
     refine HPlan.gtakel (v := (iv x276)) (fun X => cell X (bk H113) = some (iv x276)) rfl rfl rfl rfl rfl rfl (fun _ hX => l1 Tryd.isAgg3 rfl hX) c275 ?_
     refine HPlan.gtakev (v := (bv (decide (x276 = 3)))) rfl rfl rfl rfl rfl rfl (fun _ => HVal.eqlI rfl rfl) (HPlan.gtakev (v := (bv (decide (x276 = 3)))) rfl rfl rfl rfl rfl rfl (fun _ => mv rfl) ?_)
     obtain ⟨hT, hF⟩ := h
     rcases Bool.eq_false_or_eq_true (decide (x276 = 3)) with hb277 | hb278
     ·have h := hT hb277
      refine HPlan.gtakev (v := (.pointer (some (Addr.add (bk H113) 3)))) rfl rfl rfl rfl rfl (cB hb277) (fun _ => fa Tryd.runUnderlying25 rfl rfl Tryd.sizeOf4 rfl) ?_
      obtain ⟨x280, c279, h⟩ := h
      refine HPlan.gtakel (v := (bv x280)) (fun X => cell X (Addr.add (bk H113) 3) = some (bv x280)) rfl rfl rfl rfl rfl (cB hb277) (fun _ hX => l1 Tryd.isAgg4 rfl hX) c279 ?_
      refine HPlan.gtakev (v := (bv x280)) rfl rfl rfl rfl rfl rfl (fun _ => pt_ rfl hb277 rfl) (HPlan.gtakev (v := (bv x280)) rfl rfl rfl rfl rfl rfl (fun _ => mv rfl) ?_)
      obtain ⟨hT, hF⟩ := h
      rcases Bool.eq_false_or_eq_true x280 with hb281 | hb282
      ·have h := hT hb281
       obtain ⟨x284, x285, x286, x287, c283, h⟩ := h
       refine HPlan.gtakel (v := (.agg (vR x284 x285 x286 x287).toArray)) (fun X => cells X (bk H113) (vR x284 x285 x286 x287) 0) rfl rfl rfl rfl rfl (cB hb281) (fun _ hX => ln (vR x284 x285 x286 x287) Tryd.isAgg25 Tryd.sizeOf25 rfl hX) c283 ?_
       refine HPlan.gtakev (v := (iv y89)) rfl rfl rfl rfl rfl (cB hb281) (fun _ => mv rfl) ?_
       obtain ⟨b288, b289, h⟩ := h
       refine HPlan.gtakev (v := (.pointer (some (Addr.add (bk H) (y89.toNat * 4))))) rfl rfl rfl rfl rfl (cB hb281) (fun _ => HVal.indexAddrA Tryd.runUnderlying26 Tryd.sizeOf25 rfl rfl b288 b289) ?_
       obtain ⟨x291, x292, x293, x294, c290, h⟩ := h
       refine HPlan.gtakel (v := (.agg (vR x291 x292 x293 x294).toArray)) (fun X => cells X (Addr.add (bk H) (y89.toNat * 4)) (vR x291 x292 x293 x294) 0) rfl rfl rfl rfl rfl (cB hb281) (fun _ hX => ln (vR x291 x292 x293 x294) Tryd.isAgg25 Tryd.sizeOf25 rfl hX) c290 ?_
       refine HPlan.gtakev (v := (bv (!(decide (x284 = x291) && (decide (x285 = x292) && (seq x286 x293 && (x287 == x294))))))) rfl rfl rfl rfl rfl (cB hb281) (fun _ => eqs25_neq rfl rfl) ?_
       refine HPlan.gtakev (v := (bv (!(decide (x284 = x291) && (decide (x285 = x292) && (seq x286 x293 && (x287 == x294))))))) rfl rfl rfl rfl rfl rfl (fun _ => pt_ rfl hb281 rfl) ?_
       refine pv (v := (bv (!(decide (x284 = x291) && (decide (x285 = x292) && (seq x286 x293 && (x287 == x294))))))) rfl rfl (fun _ => pf_ rfl rfl rfl) ?_
       refine HPlan.done (nt ?_)
       exact ⟨(!(decide (x284 = x291) && (decide (x285 = x292) && (seq x286 x293 && (x287 == x294))))), (isp rfl), h⟩
      have h := hF hb282
      refine pg rfl rfl rfl rfl (cB hb282) (pg rfl rfl rfl rfl (cB hb282) (pg rfl rfl rfl rfl (cB hb282) (pg rfl rfl rfl rfl (cB hb282) ?_)))
      refine pg rfl rfl rfl rfl (cB hb282) (HPlan.gtakev (v := (bv false)) rfl rfl rfl rfl rfl rfl (fun _ => pf_ rfl hb282 rfl) (pv (v := (bv false)) rfl rfl (fun _ => pf_ rfl rfl rfl) ?_))
      refine HPlan.done (nt ?_)
      exact ⟨false, (isp rfl), h⟩
     have h := hF hb278
     refine pg rfl rfl rfl rfl (cB hb278) (pg rfl rfl rfl rfl (cB hb278) (HPlan.gtakev (v := (bv false)) rfl rfl rfl rfl rfl rfl (fun _ => pf_ rfl hb278 rfl) ?_))
     refine HPlan.gtakev (v := (bv false)) rfl rfl rfl rfl rfl rfl (fun _ => mv rfl) (pg rfl rfl rfl rfl rfl (pg rfl rfl rfl rfl rfl ?_))
     refine pg rfl rfl rfl rfl rfl (pg rfl rfl rfl rfl rfl (pg rfl rfl rfl rfl rfl (HPlan.gtakev (v := (bv false)) rfl rfl rfl rfl rfl rfl (fun _ => pf_ rfl rfl rfl) ?_)))
     refine pv (v := (bv false)) rfl rfl (fun _ => pf_ rfl rfl rfl) (HPlan.done (nt ?_))
     exact ⟨false, (isp rfl), h⟩
    have h := hF hb236
    refine pg rfl rfl rfl rfl (cB hb236) (pg rfl rfl rfl rfl (cB hb236) (pg rfl rfl rfl rfl (cB hb236) (HPlan.gtakev (v := (bv false)) rfl rfl rfl rfl rfl rfl (fun _ => pf_ rfl hb236 rfl) ?_)))
    refine HPlan.gtakev (v := (bv false)) rfl rfl rfl rfl rfl rfl (fun _ => mv rfl) (pg rfl rfl rfl rfl rfl (pg rfl rfl rfl rfl rfl ?_))
    refine pg rfl rfl rfl rfl rfl (pg rfl rfl rfl rfl rfl (pg rfl rfl rfl rfl rfl (HPlan.gtakev (v := (bv false)) rfl rfl rfl rfl rfl rfl (fun _ => pf_ rfl rfl rfl) ?_)))
    refine pv (v := (bv false)) rfl rfl (fun _ => pf_ rfl rfl rfl) (pv (v := (bv false)) rfl rfl (fun _ => mv rfl) (HPlan.gtakev (v := (.pointer (some (bk H113)))) rfl rfl rfl rfl rfl rfl (fun _ => HVal.fieldAddr0 Tryd.runUnderlying25 rfl rfl Tryd.sizeOf3 rfl) ?_))
    obtain ⟨x296, c295, h⟩ := h
    refine HPlan.gtakel (v := (iv x296)) (fun X => cell X (bk H113) = some (iv x296)) rfl rfl rfl rfl rfl rfl (fun _ hX => l1 Tryd.isAgg3 rfl hX) c295 ?_
    refine HPlan.gtakev (v := (bv (decide (x296 = 3)))) rfl rfl rfl rfl rfl rfl (fun _ => HVal.eqlI rfl rfl) (HPlan.gtakev (v := (bv (decide (x296 = 3)))) rfl rfl rfl rfl rfl rfl (fun _ => mv rfl) ?_)
    obtain ⟨hT, hF⟩ := h
    rcases Bool.eq_false_or_eq_true (decide (x296 = 3)) with hb297 | hb298
    ·have h := hT hb297
     refine HPlan.gtakev (v := (.pointer (some (Addr.add (bk H113) 3)))) rfl rfl rfl rfl rfl (cB hb297) (fun _ => fa Tryd.runUnderlying25 rfl rfl Tryd.sizeOf4 rfl) ?_
     obtain ⟨x300, c299, h⟩ := h
     refine HPlan.gtakel (v := (bv x300)) (fun X => cell X (Addr.add (bk H113) 3) = some (bv x300)) rfl rfl rfl rfl rfl (cB hb297) (fun _ hX => l1 Tryd.isAgg4 rfl hX) c299 ?_
     refine HPlan.gtakev (v := (bv x300)) rfl rfl rfl rfl rfl rfl (fun _ => pt_ rfl hb297 rfl) (HPlan.gtakev (v := (bv x300)) rfl rfl rfl rfl rfl rfl (fun _ => mv rfl) ?_)
     obtain ⟨hT, hF⟩ := h
     rcases Bool.eq_false_or_eq_true x300 with hb301 | hb302
     ·have h := hT hb301
      obtain ⟨x304, x305, x306, x307, c303, h⟩ := h
      refine HPlan.gtakel (v := (.agg (vR x304 x305 x306 x307).toArray)) (fun X => cells X (bk H113) (vR x304 x305 x306 x307) 0) rfl rfl rfl rfl rfl (cB hb301) (fun _ hX => ln (vR x304 x305 x306 x307) Tryd.isAgg25 Tryd.sizeOf25 rfl hX) c303 ?_
      refine HPlan.gtakev (v := (iv y89)) rfl rfl rfl rfl rfl (cB hb301) (fun _ => mv rfl) ?_
      obtain ⟨b308, b309, h⟩ := h
      refine HPlan.gtakev (v := (.pointer (some (Addr.add (bk H) (y89.toNat * 4))))) rfl rfl rfl rfl rfl (cB hb301) (fun _ => HVal.indexAddrA Tryd.runUnderlying26 Tryd.sizeOf25 rfl rfl b308 b309) ?_
      obtain ⟨x311, x312, x313, x314, c310, h⟩ := h
      refine HPlan.gtakel (v := (.agg (vR x311 x312 x313 x314).toArray)) (fun X => cells X (Addr.add (bk H) (y89.toNat * 4)) (vR x311 x312 x313 x314) 0) rfl rfl rfl rfl rfl (cB hb301) (fun _ hX => ln (vR x311 x312 x313 x314) Tryd.isAgg25 Tryd.sizeOf25 rfl hX) c310 ?_
      refine HPlan.gtakev (v := (bv (!(decide (x304 = x311) && (decide (x305 = x312) && (seq x306 x313 && (x307 == x314))))))) rfl rfl rfl rfl rfl (cB hb301) (fun _ => eqs25_neq rfl rfl) ?_
      refine HPlan.gtakev (v := (bv (!(decide (x304 = x311) && (decide (x305 = x312) && (seq x306 x313 && (x307 == x314))))))) rfl rfl rfl rfl rfl rfl (fun _ => pt_ rfl hb301 rfl) ?_
      refine pv (v := (bv (!(decide (x304 = x311) && (decide (x305 = x312) && (seq x306 x313 && (x307 == x314))))))) rfl rfl (fun _ => pf_ rfl rfl rfl) ?_
      refine HPlan.done (nt ?_)
      exact ⟨(!(decide (x304 = x311) && (decide (x305 = x312) && (seq x306 x313 && (x307 == x314))))), (isp rfl), h⟩
     have h := hF hb302
     refine pg rfl rfl rfl rfl (cB hb302) (pg rfl rfl rfl rfl (cB hb302) (pg rfl rfl rfl rfl (cB hb302) (pg rfl rfl rfl rfl (cB hb302) ?_)))
     refine pg rfl rfl rfl rfl (cB hb302) (HPlan.gtakev (v := (bv false)) rfl rfl rfl rfl rfl rfl (fun _ => pf_ rfl hb302 rfl) (pv (v := (bv false)) rfl rfl (fun _ => pf_ rfl rfl rfl) ?_))
     refine HPlan.done (nt ?_)
     exact ⟨false, (isp rfl), h⟩
    have h := hF hb298
    refine pg rfl rfl rfl rfl (cB hb298) (pg rfl rfl rfl rfl (cB hb298) (HPlan.gtakev (v := (bv false)) rfl rfl rfl rfl rfl rfl (fun _ => pf_ rfl hb298 rfl) ?_))
    refine HPlan.gtakev (v := (bv false)) rfl rfl rfl rfl rfl rfl (fun _ => mv rfl) (pg rfl rfl rfl rfl rfl (pg rfl rfl rfl rfl rfl ?_))
    refine pg rfl rfl rfl rfl rfl (pg rfl rfl rfl rfl rfl (pg rfl rfl rfl rfl rfl (HPlan.gtakev (v := (bv false)) rfl rfl rfl rfl rfl rfl (fun _ => pf_ rfl rfl rfl) ?_)))
    refine pv (v := (bv false)) rfl rfl (fun _ => pf_ rfl rfl rfl) (HPlan.done (nt ?_))
    exact ⟨false, (isp rfl), h⟩
   rintro ρ H_5 ⟨y150, hI, h⟩
   obtain ⟨ρ0, rfl⟩ := hI.ex
   clear hI; unfold F3_5 at h
   obtain ⟨hT, hF⟩ := h
   refine wk y150 rfl (fun hb315 => ?_) (fun hb315 => ?_)
   ·have h := hT hb315
    refine ws (wr_ (hv (v := (bv false)) rfl (av rfl) (hn (nt (HW.ret (br (tr (tr (br (tr ?_))))))))))
    exact ⟨_, resOf1 rfl Res1.t, ⟨false, rfl, h⟩⟩
   have h := hF hb315
   refine wp_ (nb (nt ?_))
   exact ⟨(isp rfl), h⟩
  rintro ρ H_4 ⟨hI, h⟩
  obtain ⟨ρ0, rfl⟩ := hI.ex
  clear hI; unfold F3_4 at h
  refine wr_ (hv (v := (iv y89)) rfl (mv rfl) (hv (v := (iv (IntKind.i64.wrap (y89 + 1)))) rfl (HVal.add rfl rfl) (hv (v := (iv (IntKind.i64.wrap (y89 + 1)))) rfl (av rfl) ?_)))
  refine hn (nt ?_)
  exact (hX3 _ _).1 h _ (isp rfl)
 have h := hF hb93
 refine we (te (te (be (nt (ws (wr_ (hv (v := (bv true)) rfl (av rfl) (hn (nt (HW.ret ?_))))))))))
 exact ⟨_, resOf1 rfl Res1.t, ⟨true, rfl, h⟩⟩

end Go.Hw
