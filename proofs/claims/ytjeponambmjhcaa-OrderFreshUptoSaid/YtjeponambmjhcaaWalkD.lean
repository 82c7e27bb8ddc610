/- The walks of this seat, printed by a program of this session (wip/tools/gen.py): of each function what it does to the heap, and that it does so. -/
import Derived.Test.YtjeponambmjhcaaHwG
import Derived.Test.YtjeponambmjhcaaProg
import Derived.Test.YtjeponambmjhcaaWalkC
set_option linter.unusedVariables false
set_option linter.unusedSimpArgs false
namespace Go.Hw
open Go Go.Proofs
def F4_3 (Q : Bool → Hp → Prop) (y42 : Int) (y43 : Int) (y44 : Sl) (y45 : (Option Addr)) (y46 : (Option Addr)) (y47 : Addr) (H_3 : Hp) : Prop :=
F17 (some y47) H_3 (fun (r323 : Bool) (H321 : Hp) => 
 (r323 = true → (F19 y45 H321 (fun (r328 : Sl) (H326 : Hp) => 
 F19 y46 H326 (fun (r331 : Sl) (H329 : Hp) => 
 F12 r328 r331 H329 (fun (r334 : Bool) (H332 : Hp) => 
 (r334 = true → (F20 y45 H332 (fun (r339 : Sl) (H337 : Hp) => 
 F20 y46 H337 (fun (r342 : Sl) (H340 : Hp) => 
 F12 r339 r342 H340 (fun (r345 : Bool) (H343 : Hp) => 
 (r345 = true → (F21 y42 y43 y44 H343 (fun (r350 : Bool) (H348 : Hp) => 
 Q r350 H348))) ∧
 (r345 = false → (Q false H343))))))) ∧
 (r334 = false → (Q false H332))))))) ∧
 (r323 = false → (Q false H321)))
def F4_11 (Q : Bool → Hp → Prop) (X4 : Int → Hp → Prop) (y292 : Int) (y293 : Int) (y294 : Sl) (y295 : (Option Addr)) (y296 : (Option Addr)) (y297 : Addr) (y298 : Sl) (y299 : Int) (y307 : Bool) (H_11 : Hp) : Prop :=
(y307 = true → (Q false H_11)) ∧
 (y307 = false → (X4 (IntKind.i64.wrap (y299 + 1)) H_11))
def F4_9 (Q : Bool → Hp → Prop) (X4 : Int → Hp → Prop) (y256 : Int) (y257 : Int) (y258 : Sl) (y259 : (Option Addr)) (y260 : (Option Addr)) (y261 : Addr) (y262 : Sl) (y263 : Int) (y264 : Sl) (H_9 : Hp) : Prop :=
F16 (some y261) y264 H_9 (fun (H290 : Hp) => 
 ((decide ((Int.tmod y263 (64 : Int)) = 63)) = true → (F17 (some y261) H290 (fun (r304 : Bool) (H302 : Hp) => 
 ((!r304) = true → (F4_11 Q X4 y256 y257 y258 y259 y260 y261 y262 y263 true H302)) ∧
 ((!r304) = false → (F18 y259 H302 (fun (r310 : Int) (H308 : Hp) => 
 F18 y260 H308 (fun (r313 : Int) (H311 : Hp) => 
 F4_11 Q X4 y256 y257 y258 y259 y260 y261 y262 y263 (decide (r310 ≠ r313)) H311))))))) ∧
 ((decide ((Int.tmod y263 (64 : Int)) = 63)) = false → (F18 y259 H290 (fun (r316 : Int) (H314 : Hp) => 
 F18 y260 H314 (fun (r319 : Int) (H317 : Hp) => 
 F4_11 Q X4 y256 y257 y258 y259 y260 y261 y262 y263 (decide (r316 ≠ r319)) H317)))))
def F4_L10b (Q : Bool → Hp → Prop) (X4 : Int → Hp → Prop) (X10 : Int → Hp → Prop) (y266 : Int) (y267 : Int) (y268 : Sl) (y269 : (Option Addr)) (y270 : (Option Addr)) (y271 : Addr) (y272 : Sl) (y273 : Int) (y274 : Sl) (y275 : Sl) (y265 : Int) (H_10 : Hp) : Prop :=
((decide (y265 < ((y274).n : Int))) = true → (F15 (-3) H_10 (fun (r279 : Int) (r280 : Int) (r281 : ByteArray) (r282 : Bool) (H277 : Hp) => 
 ∃ a283 : Addr, (y274).b = some a283 ∧ (0 : Int) ≤ y265 ∧ y265 < ((y274).n : Int) ∧ (
 mayw H277 (Addr.add a283 (y265.toNat * 4)) 4 0 ∧ ∀ H287 : Hp, H287 = sets H277 (Addr.add a283 (y265.toNat * 4)) [(.int .i64 r279), (.int .i64 r280), (.string r281), (.bool r282)] 0 → (
 X10 (IntKind.i64.wrap (y265 + 1)) H287))))) ∧
 ((decide (y265 < ((y274).n : Int))) = false → (F4_9 Q X4 y266 y267 y268 y269 y270 y271 y272 y273 y275 H_10))
def F4_L10 (Q : Bool → Hp → Prop) (X4 : Int → Hp → Prop) (y266 : Int) (y267 : Int) (y268 : Sl) (y269 : (Option Addr)) (y270 : (Option Addr)) (y271 : Addr) (y272 : Sl) (y273 : Int) (y274 : Sl) (y275 : Sl) (y265 : Int) (H_10 : Hp) : Prop :=
  ∀ X10 : Int → Hp → Prop, (∀ (y265 : Int) (H_10 : Hp), F4_L10b Q X4 X10 y266 y267 y268 y269 y270 y271 y272 y273 y274 y275 y265 H_10 → X10 y265 H_10) → X10 y265 H_10
def F4_8 (Q : Bool → Hp → Prop) (X4 : Int → Hp → Prop) (y219 : Int) (y220 : Int) (y221 : Sl) (y222 : (Option Addr)) (y223 : (Option Addr)) (y224 : Addr) (y225 : Sl) (y226 : Int) (y227 : Sl) (y228 : Sl) (y234 : Bool) (H_8 : Hp) : Prop :=
(y234 = true → (Q false H_8)) ∧
 (y234 = false → (F4_L10 Q X4 y219 y220 y221 y222 y223 y224 y225 y226 y227 y228 0 H_8))
def F4_5 (Q : Bool → Hp → Prop) (X4 : Int → Hp → Prop) (y109 : Int) (y110 : Int) (y111 : Sl) (y112 : (Option Addr)) (y113 : (Option Addr)) (y114 : Addr) (y115 : Sl) (y116 : Int) (y117 : Addr) (y118 : Addr) (y174 : Sl) (H_5 : Hp) : Prop :=
∃ (x176 : Int) (x177 : Bool) (x178 : ByteArray) (x179 : Int) (x180 : Sl) (x181 : Int), cells H_5 y118 [(.int .i64 x176), (.bool x177), (.string x178), (.int .i64 x179), (Sl.v x180), (.int .i64 x181)] 0 ∧ (
 F10 y112 x176 x177 x178 x179 x180 x181 H_5 (fun (r184 : Sl) (H182 : Hp) => 
 ∃ (x186 : Int) (x187 : Bool) (x188 : ByteArray) (x189 : Int) (x190 : Sl) (x191 : Int), cells H182 y117 [(.int .i64 x186), (.bool x187), (.string x188), (.int .i64 x189), (Sl.v x190), (.int .i64 x191)] 0 ∧ (
 ∀ H192 : Hp, H192 = Array.push H182 (.cells #[(.int .i64 0), (.bool false), (.string (ByteArray.mk #[])), (.int .i64 0), (Sl.v Sl.nil), (.int .i64 0)] 34) → (
 mayw H192 ⟨H182.size, 0, none⟩ 6 0 ∧ ∀ H194 : Hp, H194 = sets H192 ⟨H182.size, 0, none⟩ [(.int .i64 x186), (.bool x187), (.string x188), (.int .i64 x189), (Sl.v x190), (.int .i64 x191)] 0 → (
 ∃ (x198 : ByteArray) (x199 : Int) (x200 : Sl), cells H194 (Addr.add y117 2) [(.string x198), (.int .i64 x199), (Sl.v x200)] 0 ∧ (
 F11 x198 x199 x200 H194 (fun (r203 : ByteArray) (r204 : Int) (r205 : Sl) (H201 : Hp) => 
 mayw H201 (Addr.add ⟨H182.size, 0, none⟩ 2) 3 0 ∧ ∀ H206 : Hp, H206 = sets H201 (Addr.add ⟨H182.size, 0, none⟩ 2) [(.string r203), (.int .i64 r204), (Sl.v r205)] 0 → (
 ∃ (x210 : Int) (x211 : Bool) (x212 : ByteArray) (x213 : Int) (x214 : Sl) (x215 : Int), cells H206 ⟨H182.size, 0, none⟩ [(.int .i64 x210), (.bool x211), (.string x212), (.int .i64 x213), (Sl.v x214), (.int .i64 x215)] 0 ∧ (
 F10 y113 x210 x211 x212 x213 x214 x215 H206 (fun (r218 : Sl) (H216 : Hp) => 
 F12 r184 r218 H216 (fun (r231 : Bool) (H229 : Hp) => 
 ((!r231) = true → (F4_8 Q X4 y109 y110 y111 y112 y113 y114 y115 y116 y174 r184 true H229)) ∧
 ((!r231) = false → (∃ (x236 : ByteArray) (x237 : Int) (x238 : Sl), cells H229 (Addr.add y117 2) [(.string x236), (.int .i64 x237), (Sl.v x238)] 0 ∧ (
 F13 y174 x236 x237 x238 H229 (fun (r241 : Bool) (H239 : Hp) => 
 ((!r241) = true → (F4_8 Q X4 y109 y110 y111 y112 y113 y114 y115 y116 y174 r184 true H239)) ∧
 ((!r241) = false → (∃ (x245 : ByteArray) (x246 : Int) (x247 : Sl), cells H239 (Addr.add y118 2) [(.string x245), (.int .i64 x246), (Sl.v x247)] 0 ∧ (
 ∃ (x249 : ByteArray) (x250 : Int) (x251 : Sl), cells H239 (Addr.add y117 2) [(.string x249), (.int .i64 x250), (Sl.v x251)] 0 ∧ (
 F14 x245 x246 x247 x249 x250 x251 H239 (fun (r254 : Bool) (H252 : Hp) => 
 F4_8 Q X4 y109 y110 y111 y112 y113 y114 y115 y116 y174 r184 (!r254) H252))))))))))))))))))))
def F4_6 (Q : Bool → Hp → Prop) (X4 : Int → Hp → Prop) (y120 : Int) (y121 : Int) (y122 : Sl) (y123 : (Option Addr)) (y124 : (Option Addr)) (y125 : Addr) (y126 : Sl) (y127 : Int) (y128 : Addr) (y129 : Addr) (y130 : Int) (H_6 : Hp) : Prop :=
(0 : Int) ≤ (IntKind.i64.wrap (y130 + 34)) ∧ (0 : Int) ≤ (IntKind.i64.wrap (y130 + 34)) ∧ 0 ≤ (IntKind.i64.wrap (y130 + 34)).toNat ∧ (IntKind.i64.wrap (y130 + 34)).toNat ≤ (IntKind.i64.wrap (y130 + 34)).toNat ∧ (IntKind.i64.wrap (y130 + 34)).toNat ≤ (y126).c ∧ (
 (0 : Int) ≤ y130 ∧ 0 ≤ y130.toNat ∧ y130.toNat ≤ ((Sl.cut y126 4 0 ((IntKind.i64.wrap (y130 + 34)).toNat) ((IntKind.i64.wrap (y130 + 34)).toNat))).c ∧ ((Sl.cut y126 4 0 ((IntKind.i64.wrap (y130 + 34)).toNat) ((IntKind.i64.wrap (y130 + 34)).toNat))).c ≤ ((Sl.cut y126 4 0 ((IntKind.i64.wrap (y130 + 34)).toNat) ((IntKind.i64.wrap (y130 + 34)).toNat))).c ∧ (
 (cell H_6 (Addr.add (Addr.add y129 2) 2)).isSome = true ∧ frz H_6 (Addr.add (Addr.add y129 2) 2) = false ∧ ∀ H170 : Hp, H170 = setc H_6 (Addr.add (Addr.add y129 2) 2) (Sl.v (Sl.cut (Sl.cut y126 4 0 ((IntKind.i64.wrap (y130 + 34)).toNat) ((IntKind.i64.wrap (y130 + 34)).toNat)) 4 0 y130.toNat (((Sl.cut y126 4 0 ((IntKind.i64.wrap (y130 + 34)).toNat) ((IntKind.i64.wrap (y130 + 34)).toNat))).c))) → (
 F4_5 Q X4 y120 y121 y122 y123 y124 y125 y126 y127 y128 y129 (Sl.cut y126 4 0 ((IntKind.i64.wrap (y130 + 34)).toNat) ((IntKind.i64.wrap (y130 + 34)).toNat)) H170)))
def F4_L7b (Q : Bool → Hp → Prop) (X4 : Int → Hp → Prop) (X7 : Int → Hp → Prop) (y132 : Int) (y133 : Int) (y134 : Sl) (y135 : (Option Addr)) (y136 : (Option Addr)) (y137 : Addr) (y138 : Sl) (y139 : Int) (y140 : Addr) (y141 : Addr) (y142 : Int) (y143 : Sl) (y131 : Int) (H_7 : Hp) : Prop :=
((decide (y131 < (IntKind.i64.wrap (y142 + 34)))) = true → (∃ a145 : Addr, (y143).b = some a145 ∧ (0 : Int) ≤ y131 ∧ y131 < ((y143).n : Int) ∧ (
 ∃ (x150 : Int) (x151 : Int) (x152 : ByteArray) (x153 : Bool), cells H_7 (Addr.add a145 (y131.toNat * 4)) [(.int .i64 x150), (.int .i64 x151), (.string x152), (.bool x153)] 0 ∧ (
 ∃ a154 : Addr, (y138).b = some a154 ∧ (0 : Int) ≤ y131 ∧ y131 < ((y138).n : Int) ∧ (
 mayw H_7 (Addr.add a154 (y131.toNat * 4)) 4 0 ∧ ∀ H158 : Hp, H158 = sets H_7 (Addr.add a154 (y131.toNat * 4)) [(.int .i64 x150), (.int .i64 x151), (.string x152), (.bool x153)] 0 → (
 X7 (IntKind.i64.wrap (y131 + 1)) H158)))))) ∧
 ((decide (y131 < (IntKind.i64.wrap (y142 + 34)))) = false → (F4_6 Q X4 y132 y133 y134 y135 y136 y137 y138 y139 y140 y141 y142 H_7))
def F4_L7 (Q : Bool → Hp → Prop) (X4 : Int → Hp → Prop) (y132 : Int) (y133 : Int) (y134 : Sl) (y135 : (Option Addr)) (y136 : (Option Addr)) (y137 : Addr) (y138 : Sl) (y139 : Int) (y140 : Addr) (y141 : Addr) (y142 : Int) (y143 : Sl) (y131 : Int) (H_7 : Hp) : Prop :=
  ∀ X7 : Int → Hp → Prop, (∀ (y131 : Int) (H_7 : Hp), F4_L7b Q X4 X7 y132 y133 y134 y135 y136 y137 y138 y139 y140 y141 y142 y143 y131 H_7 → X7 y131 H_7) → X7 y131 H_7
def F4_L4b (Q : Bool → Hp → Prop) (X4 : Int → Hp → Prop) (y49 : Int) (y50 : Int) (y51 : Sl) (y52 : (Option Addr)) (y53 : (Option Addr)) (y54 : Addr) (y55 : Sl) (y48 : Int) (H_4 : Hp) : Prop :=
((decide (y48 < ((y51).n : Int))) = true → (∃ a57 : Addr, (y51).b = some a57 ∧ (0 : Int) ≤ y48 ∧ y48 < ((y51).n : Int) ∧ (
 ∃ (x62 : Int) (x63 : Bool) (x64 : ByteArray) (x65 : Int) (x66 : Sl) (x67 : Int), cells H_4 (Addr.add a57 (y48.toNat * 6)) [(.int .i64 x62), (.bool x63), (.string x64), (.int .i64 x65), (Sl.v x66), (.int .i64 x67)] 0 ∧ (
 ∀ H68 : Hp, H68 = Array.push H_4 (.cells #[(.int .i64 0), (.bool false), (.string (ByteArray.mk #[])), (.int .i64 0), (Sl.v Sl.nil), (.int .i64 0)] 34) → (
 mayw H68 ⟨H_4.size, 0, none⟩ 6 0 ∧ ∀ H70 : Hp, H70 = sets H68 ⟨H_4.size, 0, none⟩ [(.int .i64 x62), (.bool x63), (.string x64), (.int .i64 x65), (Sl.v x66), (.int .i64 x67)] 0 → (
 ∃ (x74 : Int) (x75 : Bool) (x76 : ByteArray) (x77 : Int) (x78 : Sl) (x79 : Int), cells H70 ⟨H_4.size, 0, none⟩ [(.int .i64 x74), (.bool x75), (.string x76), (.int .i64 x77), (Sl.v x78), (.int .i64 x79)] 0 ∧ (
 ∀ H80 : Hp, H80 = Array.push H70 (.cells #[(.int .i64 0), (.bool false), (.string (ByteArray.mk #[])), (.int .i64 0), (Sl.v Sl.nil), (.int .i64 0)] 34) → (
 mayw H80 ⟨H70.size, 0, none⟩ 6 0 ∧ ∀ H82 : Hp, H82 = sets H80 ⟨H70.size, 0, none⟩ [(.int .i64 x74), (.bool x75), (.string x76), (.int .i64 x77), (Sl.v x78), (.int .i64 x79)] 0 → (
 ∃ x86 : Sl, cell H82 (Addr.add (Addr.add ⟨H_4.size, 0, none⟩ 2) 2) = some (Sl.v x86) ∧ (
 ∃ (x88 : ByteArray) (x89 : Int) (x90 : Sl), cells H82 (Addr.add ⟨H_4.size, 0, none⟩ 2) [(.string x88), (.int .i64 x89), (Sl.v x90)] 0 ∧ (
 F9 x88 x89 x90 H82 (fun (r93 : ByteArray) (r94 : Int) (r95 : Sl) (r96 : Sl) (H91 : Hp) => 
 ∀ H97 : Hp, H97 = Array.push H91 (.cells #[(.string (ByteArray.mk #[])), (.int .i64 0), (Sl.v Sl.nil)] 32) → (
 mayw H97 ⟨H91.size, 0, none⟩ 3 0 ∧ ∀ H99 : Hp, H99 = sets H97 ⟨H91.size, 0, none⟩ [(.string r93), (.int .i64 r94), (Sl.v r95)] 0 → (
 ∃ (x103 : ByteArray) (x104 : Int) (x105 : Sl), cells H99 ⟨H91.size, 0, none⟩ [(.string x103), (.int .i64 x104), (Sl.v x105)] 0 ∧ (
 mayw H99 (Addr.add ⟨H70.size, 0, none⟩ 2) 3 0 ∧ ∀ H106 : Hp, H106 = sets H99 (Addr.add ⟨H70.size, 0, none⟩ 2) [(.string x103), (.int .i64 x104), (Sl.v x105)] 0 → (
 ((decide (((x86).n : Int) ≤ 16)) = true → (F4_L7 Q X4 y49 y50 y51 y52 y53 y54 y55 y48 ⟨H_4.size, 0, none⟩ ⟨H70.size, 0, none⟩ ((x86).n : Int) r96 0 H106)) ∧
 ((decide (((x86).n : Int) ≤ 16)) = false → (F4_5 Q X4 y49 y50 y51 y52 y53 y54 y55 y48 ⟨H_4.size, 0, none⟩ ⟨H70.size, 0, none⟩ r96 H106)))))))))))))))))) ∧
 ((decide (y48 < ((y51).n : Int))) = false → (F4_3 Q y49 y50 y51 y52 y53 y54 H_4))
def F4_L4 (Q : Bool → Hp → Prop) (y49 : Int) (y50 : Int) (y51 : Sl) (y52 : (Option Addr)) (y53 : (Option Addr)) (y54 : Addr) (y55 : Sl) (y48 : Int) (H_4 : Hp) : Prop :=
  ∀ X4 : Int → Hp → Prop, (∀ (y48 : Int) (H_4 : Hp), F4_L4b Q X4 y49 y50 y51 y52 y53 y54 y55 y48 H_4 → X4 y48 H_4) → X4 y48 H_4
def F4_2 (Q : Bool → Hp → Prop) (y25 : Int) (y26 : Int) (y27 : Sl) (y28 : (Option Addr)) (y29 : (Option Addr)) (y32 : Bool) (H_2 : Hp) : Prop :=
(y32 = true → (Q true H_2)) ∧
 (y32 = false → (∀ H34 : Hp, H34 = Array.push H_2 (.cells #[(Sl.v Sl.nil), (Sl.v Sl.nil), (.int .i64 0), (.int .i64 0), (.int .i64 0)] 45) → (
 (0 : Int) ≤ 50 ∧ (50 : Int) ≤ 50 ∧ (40 : Nat) * (50 : Int) ≤ 140737488355328 ∧ (50 : Int) ≤ 9223372036854775807 ∧ ∀ H36 : Hp, H36 = Array.push H34 (.cells (made #[(.int .i64 0), (.int .i64 0), (.string (ByteArray.mk #[])), (.bool false)] (50 : Int).toNat) 49) → (
 F4_L4 Q y25 y26 y27 y28 y29 ⟨H_2.size, 0, none⟩ (Sl.mk (some ⟨H34.size, 0, none⟩) (50 : Int).toNat (50 : Int).toNat) 0 H36))))
def F4_1 (Q : Bool → Hp → Prop) (y9 : Int) (y10 : Int) (y11 : Sl) (y12 : (Option Addr)) (y13 : (Option Addr)) (y19 : Bool) (H_1 : Hp) : Prop :=
(y19 = true → (Q false H_1)) ∧
 (y19 = false → (((y12.isNone) = true → (F4_2 Q y9 y10 y11 y12 y13 true H_1)) ∧
 ((y12.isNone) = false → (F4_2 Q y9 y10 y11 y12 y13 (y13.isNone) H_1))))
def F4 (p0 : Int) (p1 : Int) (p2 : Sl) (H : Hp) (Q : Bool → Hp → Prop) : Prop :=
F8 p0 p1 H (fun (r3 : (Option Addr)) (r4 : Int) (H1 : Hp) => 
 F8 p0 p1 H1 (fun (r7 : (Option Addr)) (r8 : Int) (H5 : Hp) => 
 F6 H5 (fun (r16 : Bool) (H14 : Hp) => 
 ((!r16) = true → (F4_1 Q p0 p1 p2 r3 r7 true H14)) ∧
 ((!r16) = false → (((decide (r4 ≠ r8)) = true → (F4_1 Q p0 p1 p2 r3 r7 true H14)) ∧
 ((decide (r4 ≠ r8)) = false → (((!((r3.isNone) == (decide (r4 ≠ 0)))) = true → (F4_1 Q p0 p1 p2 r3 r7 true H14)) ∧
 ((!((r3.isNone) == (decide (r4 ≠ 0)))) = false → (F4_1 Q p0 p1 p2 r3 r7 (!((r7.isNone) == (decide (r8 ≠ 0)))) H14)))))))))
set_option maxRecDepth 100000 in
set_option maxHeartbeats 4000000 in
theorem walk4 {w0 : World} {p0 : Int} {p1 : Int} {p2 : Sl} {H : Hp} {Q : Bool → Hp → Prop} (h : F4 p0 p1 p2 H Q) :
    Good Try.prog w0 4 #[(.int .i64 p0), (.int .i64 p1), (Sl.v p2)] H (fun v H => ∃ (r0 : Bool) , v = (.bool r0) ∧ Q r0 H) := by
  unfold F4 at h
  refine Good.enter' (fn := Try.f4) Try.func4 rfl rfl rfl ?_
  refine HW.seq ?_
  refine HW.region ?_
  refine HList.vals (v := (.bool false)) rfl (HVal.assign' rfl) ?_
  refine HList.nil ?_
  refine nt ?_
  refine HW.seq ?_
  refine HW.region ?_
  refine HList.vals (v := (.int .i64 p0)) rfl (HVal.move' rfl) ?_
  refine HList.vals (v := (.int .i64 p1)) rfl (HVal.move' rfl) ?_
  refine HList.ops' rfl (HOp.call' 8 [(.int .i64 p0), (.int .i64 p1)] (cap := []) rfl rfl Try.call8 (walk8 h)) ?_
  rintro _ H1 ⟨r3, r4, rfl, h⟩
  refine HList.vals (v := (.tuple #[(.pointer r3), (.int .i64 r4)])) rfl (HVal.move' rfl) ?_
  refine HList.vals (v := (.pointer r3)) rfl (HVal.extract rfl rfl) ?_
  refine HList.vals (v := (.int .i64 r4)) rfl (HVal.extract rfl rfl) ?_
  refine HList.vals (v := (.pointer r3)) rfl (HVal.assign' rfl) ?_
  refine HList.vals (v := (.int .i64 r4)) rfl (HVal.assign' rfl) ?_
  refine HList.nil ?_
  refine nt ?_
  refine HW.seq ?_
  refine HW.region ?_
  refine HList.vals (v := (.int .i64 p0)) rfl (HVal.move' rfl) ?_
  refine HList.vals (v := (.int .i64 p1)) rfl (HVal.move' rfl) ?_
  refine HList.ops' rfl (HOp.call' 8 [(.int .i64 p0), (.int .i64 p1)] (cap := []) rfl rfl Try.call8 (walk8 h)) ?_
  rintro _ H5 ⟨r7, r8, rfl, h⟩
  refine HList.vals (v := (.tuple #[(.pointer r7), (.int .i64 r8)])) rfl (HVal.move' rfl) ?_
  refine HList.vals (v := (.pointer r7)) rfl (HVal.extract rfl rfl) ?_
  refine HList.vals (v := (.int .i64 r8)) rfl (HVal.extract rfl rfl) ?_
  refine HList.vals (v := (.pointer r7)) rfl (HVal.assign' rfl) ?_
  refine HList.vals (v := (.int .i64 r8)) rfl (HVal.assign' rfl) ?_
  refine HList.nil ?_
  refine nt ?_
  refine HW.seq ?_
  refine HW.cut (fun ρ H_1 => ∃ (y19 : Bool), Env.Is ρ [(0, (.int .i64 p0)), (1, (.int .i64 p1)), (2, (Sl.v p2)), (7, (.pointer r3)), (9, (.pointer r7)), (56, (.bool y19))] ∧ F4_1 Q p0 p1 p2 r3 r7 y19 H_1) ?_ ?_
  · refine HW.region ?_
    refine HList.ops' rfl (HOp.call' 6 [] (cap := []) rfl rfl Try.call6 (walk6 h)) ?_
    rintro _ H14 ⟨r16, rfl, h⟩
    refine HList.vals (v := (.bool (!r16))) rfl (HVal.not rfl) ?_
    refine HList.vals (v := (.bool (!r16))) rfl (HVal.move' rfl) ?_
    obtain ⟨hT, hF⟩ := h
    rcases Bool.eq_false_or_eq_true (!r16) with hb17 | hb18
    · have h := hT hb17
      clear hT hF
      refine HList.gskips rfl rfl rfl rfl (congrArg Value.bool hb17) ?_
      refine HList.gskips rfl rfl rfl rfl (congrArg Value.bool hb17) ?_
      refine HList.gskips rfl rfl rfl rfl (congrArg Value.bool hb17) ?_
      refine HList.vals (v := (.bool true)) rfl (HVal.pickT rfl hb17 rfl) ?_
      refine HList.vals (v := (.bool true)) rfl (HVal.move' rfl) ?_
      refine HList.gskips rfl rfl rfl rfl rfl ?_
      refine HList.gskips rfl rfl rfl rfl rfl ?_
      refine HList.gskips rfl rfl rfl rfl rfl ?_
      refine HList.gskips rfl rfl rfl rfl rfl ?_
      refine HList.gskips rfl rfl rfl rfl rfl ?_
      refine HList.vals (v := (.bool true)) rfl (HVal.pickT rfl rfl rfl) ?_
      refine HList.vals (v := (.bool true)) rfl (HVal.move' rfl) ?_
      refine HList.gskips rfl rfl rfl rfl rfl ?_
      refine HList.gskips rfl rfl rfl rfl rfl ?_
      refine HList.gskips rfl rfl rfl rfl rfl ?_
      refine HList.gskips rfl rfl rfl rfl rfl ?_
      refine HList.gskips rfl rfl rfl rfl rfl ?_
      refine HList.vals (v := (.bool true)) rfl (HVal.pickT rfl rfl rfl) ?_
      refine HList.nil ?_
      refine nt ?_
      exact ⟨true, ⟨rfl, rfl, rfl, rfl, rfl, rfl, trivial⟩, h⟩
    · have h := hF hb18
      clear hT hF
      refine HList.gvals (v := (.int .i64 r4)) rfl rfl rfl rfl (congrArg Value.bool hb18) (HVal.move' rfl) ?_
      refine HList.gvals (v := (.int .i64 r8)) rfl rfl rfl rfl (congrArg Value.bool hb18) (HVal.move' rfl) ?_
      refine HList.gvals (v := (.bool (decide (r4 ≠ r8)))) rfl rfl rfl rfl (congrArg Value.bool hb18) (HVal.neqI rfl rfl) ?_
      refine HList.vals (v := (.bool (decide (r4 ≠ r8)))) rfl (HVal.pickF rfl hb18 rfl) ?_
      refine HList.vals (v := (.bool (decide (r4 ≠ r8)))) rfl (HVal.move' rfl) ?_
      obtain ⟨hT, hF⟩ := h
      rcases Bool.eq_false_or_eq_true (decide (r4 ≠ r8)) with hb20 | hb21
      · have h := hT hb20
        clear hT hF
        refine HList.gskips rfl rfl rfl rfl (congrArg Value.bool hb20) ?_
        refine HList.gskips rfl rfl rfl rfl (congrArg Value.bool hb20) ?_
        refine HList.gskips rfl rfl rfl rfl (congrArg Value.bool hb20) ?_
        refine HList.gskips rfl rfl rfl rfl (congrArg Value.bool hb20) ?_
        refine HList.gskips rfl rfl rfl rfl (congrArg Value.bool hb20) ?_
        refine HList.vals (v := (.bool true)) rfl (HVal.pickT rfl hb20 rfl) ?_
        refine HList.vals (v := (.bool true)) rfl (HVal.move' rfl) ?_
        refine HList.gskips rfl rfl rfl rfl rfl ?_
        refine HList.gskips rfl rfl rfl rfl rfl ?_
        refine HList.gskips rfl rfl rfl rfl rfl ?_
        refine HList.gskips rfl rfl rfl rfl rfl ?_
        refine HList.gskips rfl rfl rfl rfl rfl ?_
        refine HList.vals (v := (.bool true)) rfl (HVal.pickT rfl rfl rfl) ?_
        refine HList.nil ?_
        refine nt ?_
        exact ⟨true, ⟨rfl, rfl, rfl, rfl, rfl, rfl, trivial⟩, h⟩
      · have h := hF hb21
        clear hT hF
        refine HList.gvals (v := (.pointer r3)) rfl rfl rfl rfl (congrArg Value.bool hb21) (HVal.move' rfl) ?_
        refine HList.gvals (v := (.bool (r3.isNone))) rfl rfl rfl rfl (congrArg Value.bool hb21) (HVal.eqlPN Try.underlying23 rfl rfl) ?_
        refine HList.gvals (v := (.int .i64 r4)) rfl rfl rfl rfl (congrArg Value.bool hb21) (HVal.move' rfl) ?_
        refine HList.gvals (v := (.bool (decide (r4 ≠ 0)))) rfl rfl rfl rfl (congrArg Value.bool hb21) (HVal.neqI rfl rfl) ?_
        refine HList.gvals (v := (.bool (!((r3.isNone) == (decide (r4 ≠ 0)))))) rfl rfl rfl rfl (congrArg Value.bool hb21) (HVal.neqB Try.underlying4 rfl rfl) ?_
        refine HList.vals (v := (.bool (!((r3.isNone) == (decide (r4 ≠ 0)))))) rfl (HVal.pickF rfl hb21 rfl) ?_
        refine HList.vals (v := (.bool (!((r3.isNone) == (decide (r4 ≠ 0)))))) rfl (HVal.move' rfl) ?_
        obtain ⟨hT, hF⟩ := h
        rcases Bool.eq_false_or_eq_true (!((r3.isNone) == (decide (r4 ≠ 0)))) with hb22 | hb23
        · have h := hT hb22
          clear hT hF
          refine HList.gskips rfl rfl rfl rfl (congrArg Value.bool hb22) ?_
          refine HList.gskips rfl rfl rfl rfl (congrArg Value.bool hb22) ?_
          refine HList.gskips rfl rfl rfl rfl (congrArg Value.bool hb22) ?_
          refine HList.gskips rfl rfl rfl rfl (congrArg Value.bool hb22) ?_
          refine HList.gskips rfl rfl rfl rfl (congrArg Value.bool hb22) ?_
          refine HList.vals (v := (.bool true)) rfl (HVal.pickT rfl hb22 rfl) ?_
          refine HList.nil ?_
          refine nt ?_
          exact ⟨true, ⟨rfl, rfl, rfl, rfl, rfl, rfl, trivial⟩, h⟩
        · have h := hF hb23
          clear hT hF
          refine HList.gvals (v := (.pointer r7)) rfl rfl rfl rfl (congrArg Value.bool hb23) (HVal.move' rfl) ?_
          refine HList.gvals (v := (.bool (r7.isNone))) rfl rfl rfl rfl (congrArg Value.bool hb23) (HVal.eqlPN Try.underlying23 rfl rfl) ?_
          refine HList.gvals (v := (.int .i64 r8)) rfl rfl rfl rfl (congrArg Value.bool hb23) (HVal.move' rfl) ?_
          refine HList.gvals (v := (.bool (decide (r8 ≠ 0)))) rfl rfl rfl rfl (congrArg Value.bool hb23) (HVal.neqI rfl rfl) ?_
          refine HList.gvals (v := (.bool (!((r7.isNone) == (decide (r8 ≠ 0)))))) rfl rfl rfl rfl (congrArg Value.bool hb23) (HVal.neqB Try.underlying4 rfl rfl) ?_
          refine HList.vals (v := (.bool (!((r7.isNone) == (decide (r8 ≠ 0)))))) rfl (HVal.pickF rfl hb23 rfl) ?_
          refine HList.nil ?_
          refine nt ?_
          exact ⟨(!((r7.isNone) == (decide (r8 ≠ 0)))), ⟨rfl, rfl, rfl, rfl, rfl, rfl, trivial⟩, h⟩
  · rintro ρ H_1 ⟨y19, hI, h⟩
    obtain ⟨ρ0, rfl⟩ : ∃ ρ0, ρ = (Env.set (Env.set (Env.set (Env.set (Env.set (Env.set ρ0 56 (.bool y19)) 9 (.pointer r7)) 7 (.pointer r3)) 2 (Sl.v p2)) 1 (.int .i64 p1)) 0 (.int .i64 p0)) := ⟨ρ, hI.eq⟩
    clear hI; unfold F4_1 at h
    obtain ⟨hT, hF⟩ := h
    refine HW.cond y19 rfl (fun hb24 => ?_) (fun hb24 => ?_)
    · have h := hT hb24
      clear hT hF
      refine HW.seq ?_
      refine HW.region ?_
      refine HList.vals (v := (.bool false)) rfl (HVal.assign' rfl) ?_
      refine HList.nil ?_
      refine nt ?_
      refine HW.ret ?_
      refine tr ?_
      exact ⟨_, resOf1 rfl Res1.t, ⟨false, rfl, h⟩⟩
    · have h := hF hb24
      clear hT hF
      refine HW.skip ?_
      refine nt ?_
      refine HW.seq ?_
      refine HW.cut (fun ρ H_2 => ∃ (y32 : Bool), Env.Is ρ [(0, (.int .i64 p0)), (1, (.int .i64 p1)), (2, (Sl.v p2)), (7, (.pointer r3)), (9, (.pointer r7)), (62, (.bool y32))] ∧ F4_2 Q p0 p1 p2 r3 r7 y32 H_2) ?_ ?_
      · refine HW.region ?_
        refine HList.vals (v := (.pointer r3)) rfl (HVal.move' rfl) ?_
        refine HList.vals (v := (.bool (r3.isNone))) rfl (HVal.eqlPN Try.underlying23 rfl rfl) ?_
        refine HList.vals (v := (.bool (r3.isNone))) rfl (HVal.move' rfl) ?_
        obtain ⟨hT, hF⟩ := h
        rcases Bool.eq_false_or_eq_true (r3.isNone) with hb30 | hb31
        · have h := hT hb30
          clear hT hF
          refine HList.gskips rfl rfl rfl rfl (congrArg Value.bool hb30) ?_
          refine HList.gskips rfl rfl rfl rfl (congrArg Value.bool hb30) ?_
          refine HList.vals (v := (.bool true)) rfl (HVal.pickT rfl hb30 rfl) ?_
          refine HList.nil ?_
          refine nt ?_
          exact ⟨true, ⟨rfl, rfl, rfl, rfl, rfl, rfl, trivial⟩, h⟩
        · have h := hF hb31
          clear hT hF
          refine HList.gvals (v := (.pointer r7)) rfl rfl rfl rfl (congrArg Value.bool hb31) (HVal.move' rfl) ?_
          refine HList.gvals (v := (.bool (r7.isNone))) rfl rfl rfl rfl (congrArg Value.bool hb31) (HVal.eqlPN Try.underlying23 rfl rfl) ?_
          refine HList.vals (v := (.bool (r7.isNone))) rfl (HVal.pickF rfl hb31 rfl) ?_
          refine HList.nil ?_
          refine nt ?_
          exact ⟨(r7.isNone), ⟨rfl, rfl, rfl, rfl, rfl, rfl, trivial⟩, h⟩
      · rintro ρ H_2 ⟨y32, hI, h⟩
        obtain ⟨ρ0, rfl⟩ : ∃ ρ0, ρ = (Env.set (Env.set (Env.set (Env.set (Env.set (Env.set ρ0 62 (.bool y32)) 9 (.pointer r7)) 7 (.pointer r3)) 2 (Sl.v p2)) 1 (.int .i64 p1)) 0 (.int .i64 p0)) := ⟨ρ, hI.eq⟩
        clear hI; unfold F4_2 at h
        obtain ⟨hT, hF⟩ := h
        refine HW.cond y32 rfl (fun hb33 => ?_) (fun hb33 => ?_)
        · have h := hT hb33
          clear hT hF
          refine HW.seq ?_
          refine HW.region ?_
          refine HList.vals (v := (.bool true)) rfl (HVal.assign' rfl) ?_
          refine HList.nil ?_
          refine nt ?_
          refine HW.ret ?_
          refine tr ?_
          exact ⟨_, resOf1 rfl Res1.t, ⟨true, rfl, h⟩⟩
        · have h := hF hb33
          clear hT hF
          refine HW.skip ?_
          refine nt ?_
          refine HW.seq ?_
          refine HW.region ?_
          refine HList.vals (v := (.agg #[(Sl.v Sl.nil), (Sl.v Sl.nil), (.int .i64 0), (.int .i64 0), (.int .i64 0)])) rfl (HVal.build' (cs := [(Sl.v Sl.nil), (Sl.v Sl.nil), (.int .i64 0), (.int .i64 0), (.int .i64 0)]) Try.runUnderlying45 Try.zeroValue45 places45 rfl) ?_
          refine HList.ops' rfl (HOp.box (v := (.agg #[(Sl.v Sl.nil), (Sl.v Sl.nil), (.int .i64 0), (.int .i64 0), (.int .i64 0)])) rfl) ?_
          rintro _ H34 ⟨rfl, e35⟩
          replace h := h H34 e35
          refine HList.vals (v := (.pointer (some ⟨H_2.size, 0, none⟩))) rfl (HVal.assign' rfl) ?_
          refine HList.nil ?_
          refine nt ?_
          refine HW.seq ?_
          refine HW.region ?_
          obtain ⟨z38, z39, z40, z41, h⟩ := h
          refine HList.ops' rfl (HOp.makeSlice' (b := 40) Try.runUnderlying30 Try.typeInfo49 rfl Try.zeroValue49 Try.sizeOf49 rfl rfl z38 z39 z40 z41) ?_
          rintro _ H36 ⟨rfl, e37⟩
          replace h := h H36 e37
          refine HList.vals (v := (Sl.v (Sl.mk (some ⟨H34.size, 0, none⟩) (50 : Int).toNat (50 : Int).toNat))) rfl (HVal.assign' rfl) ?_
          refine HList.nil ?_
          refine nt ?_
          refine HW.cut (fun ρ H_3 => Env.Is ρ [(0, (.int .i64 p0)), (1, (.int .i64 p1)), (2, (Sl.v p2)), (7, (.pointer r3)), (9, (.pointer r7)), (11, (.pointer (some ⟨H_2.size, 0, none⟩)))] ∧ F4_3 Q p0 p1 p2 r3 r7 ⟨H_2.size, 0, none⟩ H_3) ?_ ?_
          · refine HW.seq ?_
            refine HW.region ?_
            refine HList.vals (v := (.int .i64 0)) rfl (HVal.assign' rfl) ?_
            refine HList.nil ?_
            refine nt ?_
            refine HW.block ?_
            refine HW.loop' (fun L4 hL4 => ?_)
            obtain ⟨X4, hX4⟩ : ∃ X4 : Int → Hp → Prop, ∀ (y48 : Int) (H_4 : Hp), X4 y48 H_4 ↔ ∀ ρ, Env.Is ρ [(0, (.int .i64 p0)), (1, (.int .i64 p1)), (2, (Sl.v p2)), (7, (.pointer r3)), (9, (.pointer r7)), (11, (.pointer (some ⟨H_2.size, 0, none⟩))), (12, (Sl.v (Sl.mk (some ⟨H34.size, 0, none⟩) (50 : Int).toNat (50 : Int).toNat))), (13, (.int .i64 y48))] → L4 ρ H_4 := ⟨_, fun _ _ => Iff.rfl⟩
            refine (hX4 _ _).1 (h X4 ?_) _ ?_
            rotate_left
            · exact ⟨rfl, rfl, rfl, rfl, rfl, rfl, rfl, rfl, trivial⟩
            clear h
            intro y48 H_4 h
            refine (hX4 _ _).2 fun ρ hI => ?_
            obtain ⟨ρ0, rfl⟩ : ∃ ρ0, ρ = (Env.set (Env.set (Env.set (Env.set (Env.set (Env.set (Env.set (Env.set ρ0 13 (.int .i64 y48)) 12 (Sl.v (Sl.mk (some ⟨H34.size, 0, none⟩) (50 : Int).toNat (50 : Int).toNat))) 11 (.pointer (some ⟨H_2.size, 0, none⟩))) 9 (.pointer r7)) 7 (.pointer r3)) 2 (Sl.v p2)) 1 (.int .i64 p1)) 0 (.int .i64 p0)) := ⟨ρ, hI.eq⟩
            clear hI; unfold F4_L4b at h; refine hL4 _ _ ?_
            refine HW.seq ?_
            refine HW.seq ?_
            refine HW.region ?_
            refine HList.vals (v := (.int .i64 y48)) rfl (HVal.move' rfl) ?_
            refine HList.vals (v := (Sl.v p2)) rfl (HVal.move' rfl) ?_
            refine HList.vals (v := (.int .i64 ((p2).n : Int))) rfl (HVal.len Try.runUnderlying22 rfl) ?_
            refine HList.vals (v := (.bool (decide (y48 < ((p2).n : Int))))) rfl (HVal.lss rfl rfl) ?_
            refine HList.nil ?_
            refine nt ?_
            obtain ⟨hT, hF⟩ := h
            refine HW.cond (decide (y48 < ((p2).n : Int))) rfl (fun hb56 => ?_) (fun hb56 => ?_)
            · have h := hT hb56
              clear hT hF
              refine HW.skip ?_
              refine nt ?_
              refine HW.seq ?_
              refine HW.block ?_
              refine HW.seq ?_
              refine HW.region ?_
              refine HList.vals (v := (Sl.v p2)) rfl (HVal.move' rfl) ?_
              refine HList.vals (v := (.int .i64 y48)) rfl (HVal.move' rfl) ?_
              obtain ⟨a57, e58, b59, b60, h⟩ := h
              refine HList.vals (v := (.pointer (some (Addr.add a57 (y48.toNat * 6))))) rfl (HVal.indexAddr Try.runUnderlying22 Try.sizeOf34 (Sl.v_some rfl e58) rfl b59 b60) ?_
              obtain ⟨x62, x63, x64, x65, x66, x67, c61, h⟩ := h
              refine HList.vals (v := (.agg #[(.int .i64 x62), (.bool x63), (.string x64), (.int .i64 x65), (Sl.v x66), (.int .i64 x67)])) rfl (HVal.loadN [(.int .i64 x62), (.bool x63), (.string x64), (.int .i64 x65), (Sl.v x66), (.int .i64 x67)] Try.isAgg34 Try.sizeOf34 rfl c61) ?_
              refine HList.ops' rfl (HOp.alloc Try.zeroValue34) ?_
              rintro _ H68 ⟨rfl, e69⟩
              replace h := h H68 e69
              obtain ⟨z72, h⟩ := h
              refine HList.opsn (HOp.storeN' (l := [(.int .i64 x62), (.bool x63), (.string x64), (.int .i64 x65), (Sl.v x66), (.int .i64 x67)]) Try.sizeOf34 rfl rfl rfl z72) ?_
              rintro _ H70 e71
              replace h := h H70 e71
              refine HList.nil ?_
              refine nt ?_
              refine HW.seq ?_
              refine HW.region ?_
              obtain ⟨x74, x75, x76, x77, x78, x79, c73, h⟩ := h
              refine HList.vals (v := (.agg #[(.int .i64 x74), (.bool x75), (.string x76), (.int .i64 x77), (Sl.v x78), (.int .i64 x79)])) rfl (HVal.loadN [(.int .i64 x74), (.bool x75), (.string x76), (.int .i64 x77), (Sl.v x78), (.int .i64 x79)] Try.isAgg34 Try.sizeOf34 rfl c73) ?_
              refine HList.ops' rfl (HOp.alloc Try.zeroValue34) ?_
              rintro _ H80 ⟨rfl, e81⟩
              replace h := h H80 e81
              obtain ⟨z84, h⟩ := h
              refine HList.opsn (HOp.storeN' (l := [(.int .i64 x74), (.bool x75), (.string x76), (.int .i64 x77), (Sl.v x78), (.int .i64 x79)]) Try.sizeOf34 rfl rfl rfl z84) ?_
              rintro _ H82 e83
              replace h := h H82 e83
              refine HList.nil ?_
              refine nt ?_
              refine HW.seq ?_
              refine HW.region ?_
              refine HList.vals (v := (.pointer (some (Addr.add ⟨H_4.size, 0, none⟩ 2)))) rfl (HVal.fieldAddr' Try.runUnderlying34 rfl rfl Try.sizeOf32 rfl) ?_
              refine HList.vals (v := (.pointer (some (Addr.add (Addr.add ⟨H_4.size, 0, none⟩ 2) 2)))) rfl (HVal.fieldAddr' Try.runUnderlying32 rfl rfl Try.sizeOf30 rfl) ?_
              obtain ⟨x86, c85, h⟩ := h
              refine HList.vals (v := (Sl.v x86)) rfl (HVal.load1 Try.isAgg30 rfl c85) ?_
              refine HList.vals (v := (.int .i64 ((x86).n : Int))) rfl (HVal.len Try.runUnderlying30 rfl) ?_
              refine HList.vals (v := (.int .i64 ((x86).n : Int))) rfl (HVal.assign' rfl) ?_
              refine HList.nil ?_
              refine nt ?_
              refine HW.seq ?_
              refine HW.region ?_
              refine HList.vals (v := (.pointer (some (Addr.add ⟨H_4.size, 0, none⟩ 2)))) rfl (HVal.fieldAddr' Try.runUnderlying34 rfl rfl Try.sizeOf32 rfl) ?_
              obtain ⟨x88, x89, x90, c87, h⟩ := h
              refine HList.vals (v := (.agg #[(.string x88), (.int .i64 x89), (Sl.v x90)])) rfl (HVal.loadN [(.string x88), (.int .i64 x89), (Sl.v x90)] Try.isAgg32 Try.sizeOf32 rfl c87) ?_
              refine HList.ops' rfl (HOp.call' 9 [(.agg #[(.string x88), (.int .i64 x89), (Sl.v x90)])] (cap := []) rfl rfl Try.call9 (walk9 h)) ?_
              rintro _ H91 ⟨r93, r94, r95, r96, rfl, h⟩
              refine HList.vals (v := (.tuple #[(.agg #[(.string r93), (.int .i64 r94), (Sl.v r95)]), (Sl.v r96)])) rfl (HVal.move' rfl) ?_
              refine HList.vals (v := (.agg #[(.string r93), (.int .i64 r94), (Sl.v r95)])) rfl (HVal.extract rfl rfl) ?_
              refine HList.vals (v := (Sl.v r96)) rfl (HVal.extract rfl rfl) ?_
              refine HList.ops' rfl (HOp.alloc Try.zeroValue32) ?_
              rintro _ H97 ⟨rfl, e98⟩
              replace h := h H97 e98
              obtain ⟨z101, h⟩ := h
              refine HList.opsn (HOp.storeN' (l := [(.string r93), (.int .i64 r94), (Sl.v r95)]) Try.sizeOf32 rfl rfl rfl z101) ?_
              rintro _ H99 e100
              replace h := h H99 e100
              refine HList.vals (v := (Sl.v r96)) rfl (HVal.assign' rfl) ?_
              refine HList.nil ?_
              refine nt ?_
              refine HW.seq ?_
              refine HW.region ?_
              obtain ⟨x103, x104, x105, c102, h⟩ := h
              refine HList.vals (v := (.agg #[(.string x103), (.int .i64 x104), (Sl.v x105)])) rfl (HVal.loadN [(.string x103), (.int .i64 x104), (Sl.v x105)] Try.isAgg32 Try.sizeOf32 rfl c102) ?_
              refine HList.vals (v := (.pointer (some (Addr.add ⟨H70.size, 0, none⟩ 2)))) rfl (HVal.fieldAddr' Try.runUnderlying34 rfl rfl Try.sizeOf32 rfl) ?_
              obtain ⟨z108, h⟩ := h
              refine HList.opsn (HOp.storeN' (l := [(.string x103), (.int .i64 x104), (Sl.v x105)]) Try.sizeOf32 rfl rfl rfl z108) ?_
              rintro _ H106 e107
              replace h := h H106 e107
              refine HList.nil ?_
              refine nt ?_
              refine HW.cut (fun ρ H_5 => ∃ (y174 : Sl), Env.Is ρ [(0, (.int .i64 p0)), (1, (.int .i64 p1)), (2, (Sl.v p2)), (7, (.pointer r3)), (9, (.pointer r7)), (11, (.pointer (some ⟨H_2.size, 0, none⟩))), (12, (Sl.v (Sl.mk (some ⟨H34.size, 0, none⟩) (50 : Int).toNat (50 : Int).toNat))), (13, (.int .i64 y48)), (14, (.pointer (some ⟨H_4.size, 0, none⟩))), (15, (.pointer (some ⟨H70.size, 0, none⟩))), (18, (Sl.v y174))] ∧ F4_5 Q X4 p0 p1 p2 r3 r7 ⟨H_2.size, 0, none⟩ (Sl.mk (some ⟨H34.size, 0, none⟩) (50 : Int).toNat (50 : Int).toNat) y48 ⟨H_4.size, 0, none⟩ ⟨H70.size, 0, none⟩ y174 H_5) ?_ ?_
              · refine HW.seq ?_
                refine HW.region ?_
                refine HList.vals (v := (.int .i64 ((x86).n : Int))) rfl (HVal.move' rfl) ?_
                refine HList.vals (v := (.bool (decide (((x86).n : Int) ≤ 16)))) rfl (HVal.leq rfl rfl) ?_
                refine HList.nil ?_
                refine nt ?_
                obtain ⟨hT, hF⟩ := h
                refine HW.cond (decide (((x86).n : Int) ≤ 16)) rfl (fun hb119 => ?_) (fun hb119 => ?_)
                · have h := hT hb119
                  clear hT hF
                  refine HW.cut (fun ρ H_6 => Env.Is ρ [(0, (.int .i64 p0)), (1, (.int .i64 p1)), (2, (Sl.v p2)), (7, (.pointer r3)), (9, (.pointer r7)), (11, (.pointer (some ⟨H_2.size, 0, none⟩))), (12, (Sl.v (Sl.mk (some ⟨H34.size, 0, none⟩) (50 : Int).toNat (50 : Int).toNat))), (13, (.int .i64 y48)), (14, (.pointer (some ⟨H_4.size, 0, none⟩))), (15, (.pointer (some ⟨H70.size, 0, none⟩))), (16, (.int .i64 ((x86).n : Int)))] ∧ F4_6 Q X4 p0 p1 p2 r3 r7 ⟨H_2.size, 0, none⟩ (Sl.mk (some ⟨H34.size, 0, none⟩) (50 : Int).toNat (50 : Int).toNat) y48 ⟨H_4.size, 0, none⟩ ⟨H70.size, 0, none⟩ ((x86).n : Int) H_6) ?_ ?_
                  · refine HW.seq ?_
                    refine HW.region ?_
                    refine HList.vals (v := (.int .i64 0)) rfl (HVal.assign' rfl) ?_
                    refine HList.nil ?_
                    refine nt ?_
                    refine HW.block ?_
                    refine HW.loop' (fun L7 hL7 => ?_)
                    obtain ⟨X7, hX7⟩ : ∃ X7 : Int → Hp → Prop, ∀ (y131 : Int) (H_7 : Hp), X7 y131 H_7 ↔ ∀ ρ, Env.Is ρ [(0, (.int .i64 p0)), (1, (.int .i64 p1)), (2, (Sl.v p2)), (7, (.pointer r3)), (9, (.pointer r7)), (11, (.pointer (some ⟨H_2.size, 0, none⟩))), (12, (Sl.v (Sl.mk (some ⟨H34.size, 0, none⟩) (50 : Int).toNat (50 : Int).toNat))), (13, (.int .i64 y48)), (14, (.pointer (some ⟨H_4.size, 0, none⟩))), (15, (.pointer (some ⟨H70.size, 0, none⟩))), (16, (.int .i64 ((x86).n : Int))), (18, (Sl.v r96)), (19, (.int .i64 y131))] → L7 ρ H_7 := ⟨_, fun _ _ => Iff.rfl⟩
                    refine (hX7 _ _).1 (h X7 ?_) _ ?_
                    rotate_left
                    · exact ⟨rfl, rfl, rfl, rfl, rfl, rfl, rfl, rfl, rfl, rfl, rfl, rfl, rfl, trivial⟩
                    clear h
                    intro y131 H_7 h
                    refine (hX7 _ _).2 fun ρ hI => ?_
                    obtain ⟨ρ0, rfl⟩ : ∃ ρ0, ρ = (Env.set (Env.set (Env.set (Env.set (Env.set (Env.set (Env.set (Env.set (Env.set (Env.set (Env.set (Env.set (Env.set ρ0 19 (.int .i64 y131)) 18 (Sl.v r96)) 16 (.int .i64 ((x86).n : Int))) 15 (.pointer (some ⟨H70.size, 0, none⟩))) 14 (.pointer (some ⟨H_4.size, 0, none⟩))) 13 (.int .i64 y48)) 12 (Sl.v (Sl.mk (some ⟨H34.size, 0, none⟩) (50 : Int).toNat (50 : Int).toNat))) 11 (.pointer (some ⟨H_2.size, 0, none⟩))) 9 (.pointer r7)) 7 (.pointer r3)) 2 (Sl.v p2)) 1 (.int .i64 p1)) 0 (.int .i64 p0)) := ⟨ρ, hI.eq⟩
                    clear hI; unfold F4_L7b at h; refine hL7 _ _ ?_
                    refine HW.seq ?_
                    refine HW.seq ?_
                    refine HW.region ?_
                    refine HList.vals (v := (.int .i64 y131)) rfl (HVal.move' rfl) ?_
                    refine HList.vals (v := (.int .i64 ((x86).n : Int))) rfl (HVal.move' rfl) ?_
                    refine HList.vals (v := (.int .i64 (IntKind.i64.wrap (((x86).n : Int) + 34)))) rfl (HVal.add rfl rfl) ?_
                    refine HList.vals (v := (.bool (decide (y131 < (IntKind.i64.wrap (((x86).n : Int) + 34)))))) rfl (HVal.lss rfl rfl) ?_
                    refine HList.nil ?_
                    refine nt ?_
                    obtain ⟨hT, hF⟩ := h
                    refine HW.cond (decide (y131 < (IntKind.i64.wrap (((x86).n : Int) + 34)))) rfl (fun hb144 => ?_) (fun hb144 => ?_)
                    · have h := hT hb144
                      clear hT hF
                      refine HW.skip ?_
                      refine nt ?_
                      refine HW.seq ?_
                      refine HW.block ?_
                      refine HW.region ?_
                      refine HList.vals (v := (Sl.v (Sl.mk (some ⟨H34.size, 0, none⟩) (50 : Int).toNat (50 : Int).toNat))) rfl (HVal.move' rfl) ?_
                      refine HList.vals (v := (.int .i64 y131)) rfl (HVal.move' rfl) ?_
                      refine HList.vals (v := (Sl.v r96)) rfl (HVal.move' rfl) ?_
                      refine HList.vals (v := (.int .i64 y131)) rfl (HVal.move' rfl) ?_
                      obtain ⟨a145, e146, b147, b148, h⟩ := h
                      refine HList.vals (v := (.pointer (some (Addr.add a145 (y131.toNat * 4))))) rfl (HVal.indexAddr Try.runUnderlying30 Try.sizeOf49 (Sl.v_some rfl e146) rfl b147 b148) ?_
                      obtain ⟨x150, x151, x152, x153, c149, h⟩ := h
                      refine HList.vals (v := (.agg #[(.int .i64 x150), (.int .i64 x151), (.string x152), (.bool x153)])) rfl (HVal.loadN [(.int .i64 x150), (.int .i64 x151), (.string x152), (.bool x153)] Try.isAgg49 Try.sizeOf49 rfl c149) ?_
                      obtain ⟨a154, e155, b156, b157, h⟩ := h
                      refine HList.vals (v := (.pointer (some (Addr.add a154 (y131.toNat * 4))))) rfl (HVal.indexAddr Try.runUnderlying30 Try.sizeOf49 (Sl.v_some rfl e155) rfl b156 b157) ?_
                      obtain ⟨z160, h⟩ := h
                      refine HList.opsn (HOp.storeN' (l := [(.int .i64 x150), (.int .i64 x151), (.string x152), (.bool x153)]) Try.sizeOf49 rfl rfl rfl z160) ?_
                      rintro _ H158 e159
                      replace h := h H158 e159
                      refine HList.nil ?_
                      refine nb ?_
                      refine nt ?_
                      refine HW.region ?_
                      refine HList.vals (v := (.int .i64 y131)) rfl (HVal.move' rfl) ?_
                      refine HList.vals (v := (.int .i64 (IntKind.i64.wrap (y131 + 1)))) rfl (HVal.add rfl rfl) ?_
                      refine HList.vals (v := (.int .i64 (IntKind.i64.wrap (y131 + 1)))) rfl (HVal.assign' rfl) ?_
                      refine HList.nil ?_
                      refine nt ?_
                      exact (hX7 _ _).1 h _ ⟨rfl, rfl, rfl, rfl, rfl, rfl, rfl, rfl, rfl, rfl, rfl, rfl, rfl, trivial⟩
                    · have h := hF hb144
                      clear hT hF
                      refine HW.exit ?_
                      refine te ?_
                      refine te ?_
                      refine be ?_
                      refine nt ?_
                      exact ⟨⟨rfl, rfl, rfl, rfl, rfl, rfl, rfl, rfl, rfl, rfl, rfl, trivial⟩, h⟩
                  · rintro ρ H_6 ⟨hI, h⟩
                    obtain ⟨ρ0, rfl⟩ : ∃ ρ0, ρ = (Env.set (Env.set (Env.set (Env.set (Env.set (Env.set (Env.set (Env.set (Env.set (Env.set (Env.set ρ0 16 (.int .i64 ((x86).n : Int))) 15 (.pointer (some ⟨H70.size, 0, none⟩))) 14 (.pointer (some ⟨H_4.size, 0, none⟩))) 13 (.int .i64 y48)) 12 (Sl.v (Sl.mk (some ⟨H34.size, 0, none⟩) (50 : Int).toNat (50 : Int).toNat))) 11 (.pointer (some ⟨H_2.size, 0, none⟩))) 9 (.pointer r7)) 7 (.pointer r3)) 2 (Sl.v p2)) 1 (.int .i64 p1)) 0 (.int .i64 p0)) := ⟨ρ, hI.eq⟩
                    clear hI; unfold F4_6 at h
                    refine HW.seq ?_
                    refine HW.region ?_
                    refine HList.vals (v := (Sl.v (Sl.mk (some ⟨H34.size, 0, none⟩) (50 : Int).toNat (50 : Int).toNat))) rfl (HVal.move' rfl) ?_
                    refine HList.vals (v := (.int .i64 ((x86).n : Int))) rfl (HVal.move' rfl) ?_
                    refine HList.vals (v := (.int .i64 (IntKind.i64.wrap (((x86).n : Int) + 34)))) rfl (HVal.add rfl rfl) ?_
                    refine HList.vals (v := (.int .i64 ((x86).n : Int))) rfl (HVal.move' rfl) ?_
                    refine HList.vals (v := (.int .i64 (IntKind.i64.wrap (((x86).n : Int) + 34)))) rfl (HVal.add rfl rfl) ?_
                    obtain ⟨z161, z162, z163, z164, z165, h⟩ := h
                    refine HList.vals (v := (Sl.v (Sl.cut (Sl.mk (some ⟨H34.size, 0, none⟩) (50 : Int).toNat (50 : Int).toNat) 4 0 ((IntKind.i64.wrap (((x86).n : Int) + 34)).toNat) ((IntKind.i64.wrap (((x86).n : Int) + 34)).toNat)))) rfl (HVal.slice _ _ _ Try.runUnderlying30 Try.sizeOf49 rfl rfl ⟨_, _, rfl, z161, rfl⟩ ⟨_, _, rfl, z162, rfl⟩ (by decide) z163 z164 z165) ?_
                    refine HList.vals (v := (Sl.v (Sl.cut (Sl.mk (some ⟨H34.size, 0, none⟩) (50 : Int).toNat (50 : Int).toNat) 4 0 ((IntKind.i64.wrap (((x86).n : Int) + 34)).toNat) ((IntKind.i64.wrap (((x86).n : Int) + 34)).toNat)))) rfl (HVal.assign' rfl) ?_
                    refine HList.nil ?_
                    refine nt ?_
                    refine HW.region ?_
                    refine HList.vals (v := (Sl.v (Sl.cut (Sl.mk (some ⟨H34.size, 0, none⟩) (50 : Int).toNat (50 : Int).toNat) 4 0 ((IntKind.i64.wrap (((x86).n : Int) + 34)).toNat) ((IntKind.i64.wrap (((x86).n : Int) + 34)).toNat)))) rfl (HVal.move' rfl) ?_
                    refine HList.vals (v := (.int .i64 ((x86).n : Int))) rfl (HVal.move' rfl) ?_
                    obtain ⟨z166, z167, z168, z169, h⟩ := h
                    refine HList.vals (v := (Sl.v (Sl.cut (Sl.cut (Sl.mk (some ⟨H34.size, 0, none⟩) (50 : Int).toNat (50 : Int).toNat) 4 0 ((IntKind.i64.wrap (((x86).n : Int) + 34)).toNat) ((IntKind.i64.wrap (((x86).n : Int) + 34)).toNat)) 4 0 ((x86).n : Int).toNat (((Sl.cut (Sl.mk (some ⟨H34.size, 0, none⟩) (50 : Int).toNat (50 : Int).toNat) 4 0 ((IntKind.i64.wrap (((x86).n : Int) + 34)).toNat) ((IntKind.i64.wrap (((x86).n : Int) + 34)).toNat))).c)))) rfl (HVal.slice _ _ _ Try.runUnderlying30 Try.sizeOf49 rfl rfl ⟨_, _, rfl, z166, rfl⟩ rfl (by decide) z167 z168 z169) ?_
                    refine HList.vals (v := (.pointer (some (Addr.add ⟨H70.size, 0, none⟩ 2)))) rfl (HVal.fieldAddr' Try.runUnderlying34 rfl rfl Try.sizeOf32 rfl) ?_
                    refine HList.vals (v := (.pointer (some (Addr.add (Addr.add ⟨H70.size, 0, none⟩ 2) 2)))) rfl (HVal.fieldAddr' Try.runUnderlying32 rfl rfl Try.sizeOf30 rfl) ?_
                    obtain ⟨z172, z173, h⟩ := h
                    refine HList.opsn (HOp.store1 Try.sizeOf30 rfl rfl rfl z172 z173) ?_
                    rintro _ H170 e171
                    replace h := h H170 e171
                    refine HList.nil ?_
                    refine nt ?_
                    exact ⟨(Sl.cut (Sl.mk (some ⟨H34.size, 0, none⟩) (50 : Int).toNat (50 : Int).toNat) 4 0 ((IntKind.i64.wrap (((x86).n : Int) + 34)).toNat) ((IntKind.i64.wrap (((x86).n : Int) + 34)).toNat)), ⟨rfl, rfl, rfl, rfl, rfl, rfl, rfl, rfl, rfl, rfl, rfl, trivial⟩, h⟩
                · have h := hF hb119
                  clear hT hF
                  refine HW.skip ?_
                  refine nt ?_
                  exact ⟨r96, ⟨rfl, rfl, rfl, rfl, rfl, rfl, rfl, rfl, rfl, rfl, rfl, trivial⟩, h⟩
              · rintro ρ H_5 ⟨y174, hI, h⟩
                obtain ⟨ρ0, rfl⟩ : ∃ ρ0, ρ = (Env.set (Env.set (Env.set (Env.set (Env.set (Env.set (Env.set (Env.set (Env.set (Env.set (Env.set ρ0 18 (Sl.v y174)) 15 (.pointer (some ⟨H70.size, 0, none⟩))) 14 (.pointer (some ⟨H_4.size, 0, none⟩))) 13 (.int .i64 y48)) 12 (Sl.v (Sl.mk (some ⟨H34.size, 0, none⟩) (50 : Int).toNat (50 : Int).toNat))) 11 (.pointer (some ⟨H_2.size, 0, none⟩))) 9 (.pointer r7)) 7 (.pointer r3)) 2 (Sl.v p2)) 1 (.int .i64 p1)) 0 (.int .i64 p0)) := ⟨ρ, hI.eq⟩
                clear hI; unfold F4_5 at h
                refine HW.seq ?_
                refine HW.region ?_
                refine HList.vals (v := (.pointer r3)) rfl (HVal.move' rfl) ?_
                obtain ⟨x176, x177, x178, x179, x180, x181, c175, h⟩ := h
                refine HList.vals (v := (.agg #[(.int .i64 x176), (.bool x177), (.string x178), (.int .i64 x179), (Sl.v x180), (.int .i64 x181)])) rfl (HVal.loadN [(.int .i64 x176), (.bool x177), (.string x178), (.int .i64 x179), (Sl.v x180), (.int .i64 x181)] Try.isAgg34 Try.sizeOf34 rfl c175) ?_
                refine HList.ops' rfl (HOp.call' 10 [(.pointer r3), (.agg #[(.int .i64 x176), (.bool x177), (.string x178), (.int .i64 x179), (Sl.v x180), (.int .i64 x181)])] (cap := []) rfl rfl Try.call10 (walk10 h)) ?_
                rintro _ H182 ⟨r184, rfl, h⟩
                refine HList.vals (v := (Sl.v r184)) rfl (HVal.assign' rfl) ?_
                refine HList.nil ?_
                refine nt ?_
                refine HW.seq ?_
                refine HW.region ?_
                obtain ⟨x186, x187, x188, x189, x190, x191, c185, h⟩ := h
                refine HList.vals (v := (.agg #[(.int .i64 x186), (.bool x187), (.string x188), (.int .i64 x189), (Sl.v x190), (.int .i64 x191)])) rfl (HVal.loadN [(.int .i64 x186), (.bool x187), (.string x188), (.int .i64 x189), (Sl.v x190), (.int .i64 x191)] Try.isAgg34 Try.sizeOf34 rfl c185) ?_
                refine HList.ops' rfl (HOp.alloc Try.zeroValue34) ?_
                rintro _ H192 ⟨rfl, e193⟩
                replace h := h H192 e193
                obtain ⟨z196, h⟩ := h
                refine HList.opsn (HOp.storeN' (l := [(.int .i64 x186), (.bool x187), (.string x188), (.int .i64 x189), (Sl.v x190), (.int .i64 x191)]) Try.sizeOf34 rfl rfl rfl z196) ?_
                rintro _ H194 e195
                replace h := h H194 e195
                refine HList.nil ?_
                refine nt ?_
                refine HW.seq ?_
                refine HW.region ?_
                refine HList.vals (v := (.pointer (some (Addr.add ⟨H_4.size, 0, none⟩ 2)))) rfl (HVal.fieldAddr' Try.runUnderlying34 rfl rfl Try.sizeOf32 rfl) ?_
                obtain ⟨x198, x199, x200, c197, h⟩ := h
                refine HList.vals (v := (.agg #[(.string x198), (.int .i64 x199), (Sl.v x200)])) rfl (HVal.loadN [(.string x198), (.int .i64 x199), (Sl.v x200)] Try.isAgg32 Try.sizeOf32 rfl c197) ?_
                refine HList.ops' rfl (HOp.call' 11 [(.agg #[(.string x198), (.int .i64 x199), (Sl.v x200)])] (cap := []) rfl rfl Try.call11 (walk11 h)) ?_
                rintro _ H201 ⟨r203, r204, r205, rfl, h⟩
                refine HList.vals (v := (.pointer (some (Addr.add ⟨H182.size, 0, none⟩ 2)))) rfl (HVal.fieldAddr' Try.runUnderlying34 rfl rfl Try.sizeOf32 rfl) ?_
                obtain ⟨z208, h⟩ := h
                refine HList.opsn (HOp.storeN' (l := [(.string r203), (.int .i64 r204), (Sl.v r205)]) Try.sizeOf32 rfl rfl rfl z208) ?_
                rintro _ H206 e207
                replace h := h H206 e207
                refine HList.nil ?_
                refine nt ?_
                refine HW.seq ?_
                refine HW.region ?_
                refine HList.vals (v := (.pointer r7)) rfl (HVal.move' rfl) ?_
                obtain ⟨x210, x211, x212, x213, x214, x215, c209, h⟩ := h
                refine HList.vals (v := (.agg #[(.int .i64 x210), (.bool x211), (.string x212), (.int .i64 x213), (Sl.v x214), (.int .i64 x215)])) rfl (HVal.loadN [(.int .i64 x210), (.bool x211), (.string x212), (.int .i64 x213), (Sl.v x214), (.int .i64 x215)] Try.isAgg34 Try.sizeOf34 rfl c209) ?_
                refine HList.ops' rfl (HOp.call' 10 [(.pointer r7), (.agg #[(.int .i64 x210), (.bool x211), (.string x212), (.int .i64 x213), (Sl.v x214), (.int .i64 x215)])] (cap := []) rfl rfl Try.call10 (walk10 h)) ?_
                rintro _ H216 ⟨r218, rfl, h⟩
                refine HList.vals (v := (Sl.v r218)) rfl (HVal.assign' rfl) ?_
                refine HList.nil ?_
                refine nt ?_
                refine HW.seq ?_
                refine HW.cut (fun ρ H_8 => ∃ (y234 : Bool), Env.Is ρ [(0, (.int .i64 p0)), (1, (.int .i64 p1)), (2, (Sl.v p2)), (7, (.pointer r3)), (9, (.pointer r7)), (11, (.pointer (some ⟨H_2.size, 0, none⟩))), (12, (Sl.v (Sl.mk (some ⟨H34.size, 0, none⟩) (50 : Int).toNat (50 : Int).toNat))), (13, (.int .i64 y48)), (18, (Sl.v y174)), (20, (Sl.v r184)), (144, (.bool y234))] ∧ F4_8 Q X4 p0 p1 p2 r3 r7 ⟨H_2.size, 0, none⟩ (Sl.mk (some ⟨H34.size, 0, none⟩) (50 : Int).toNat (50 : Int).toNat) y48 y174 r184 y234 H_8) ?_ ?_
                · refine HW.region ?_
                  refine HList.vals (v := (Sl.v r184)) rfl (HVal.move' rfl) ?_
                  refine HList.vals (v := (Sl.v r218)) rfl (HVal.move' rfl) ?_
                  refine HList.ops' rfl (HOp.call' 12 [(Sl.v r184), (Sl.v r218)] (cap := []) rfl rfl Try.call12 (walk12 h)) ?_
                  rintro _ H229 ⟨r231, rfl, h⟩
                  refine HList.vals (v := (.bool (!r231))) rfl (HVal.not rfl) ?_
                  refine HList.vals (v := (.bool (!r231))) rfl (HVal.move' rfl) ?_
                  obtain ⟨hT, hF⟩ := h
                  rcases Bool.eq_false_or_eq_true (!r231) with hb232 | hb233
                  · have h := hT hb232
                    clear hT hF
                    refine HList.gskips rfl rfl rfl rfl (congrArg Value.bool hb232) ?_
                    refine HList.gskips rfl rfl rfl rfl (congrArg Value.bool hb232) ?_
                    refine HList.gskips rfl rfl rfl rfl (congrArg Value.bool hb232) ?_
                    refine HList.gskips rfl rfl rfl rfl (congrArg Value.bool hb232) ?_
                    refine HList.gskips rfl rfl rfl rfl (congrArg Value.bool hb232) ?_
                    refine HList.vals (v := (.bool true)) rfl (HVal.pickT rfl hb232 rfl) ?_
                    refine HList.vals (v := (.bool true)) rfl (HVal.move' rfl) ?_
                    refine HList.gskips rfl rfl rfl rfl rfl ?_
                    refine HList.gskips rfl rfl rfl rfl rfl ?_
                    refine HList.gskips rfl rfl rfl rfl rfl ?_
                    refine HList.gskips rfl rfl rfl rfl rfl ?_
                    refine HList.gskips rfl rfl rfl rfl rfl ?_
                    refine HList.gskips rfl rfl rfl rfl rfl ?_
                    refine HList.vals (v := (.bool true)) rfl (HVal.pickT rfl rfl rfl) ?_
                    refine HList.nil ?_
                    refine nt ?_
                    exact ⟨true, ⟨rfl, rfl, rfl, rfl, rfl, rfl, rfl, rfl, rfl, rfl, rfl, trivial⟩, h⟩
                  · have h := hF hb233
                    clear hT hF
                    refine HList.gvals (v := (Sl.v y174)) rfl rfl rfl rfl (congrArg Value.bool hb233) (HVal.move' rfl) ?_
                    refine HList.gvals (v := (.pointer (some (Addr.add ⟨H_4.size, 0, none⟩ 2)))) rfl rfl rfl rfl (congrArg Value.bool hb233) (HVal.fieldAddr' Try.runUnderlying34 rfl rfl Try.sizeOf32 rfl) ?_
                    obtain ⟨x236, x237, x238, c235, h⟩ := h
                    refine HList.gvals (v := (.agg #[(.string x236), (.int .i64 x237), (Sl.v x238)])) rfl rfl rfl rfl (congrArg Value.bool hb233) (HVal.loadN [(.string x236), (.int .i64 x237), (Sl.v x238)] Try.isAgg32 Try.sizeOf32 rfl c235) ?_
                    refine HList.gops rfl rfl rfl rfl (congrArg Value.bool hb233) (HOp.call' 13 [(Sl.v y174), (.agg #[(.string x236), (.int .i64 x237), (Sl.v x238)])] (cap := []) rfl rfl Try.call13 (walk13 h)) ?_
                    rintro _ H239 ⟨r241, rfl, h⟩
                    refine HList.gvals (v := (.bool (!r241))) rfl rfl rfl rfl (congrArg Value.bool hb233) (HVal.not rfl) ?_
                    refine HList.vals (v := (.bool (!r241))) rfl (HVal.pickF rfl hb233 rfl) ?_
                    refine HList.vals (v := (.bool (!r241))) rfl (HVal.move' rfl) ?_
                    obtain ⟨hT, hF⟩ := h
                    rcases Bool.eq_false_or_eq_true (!r241) with hb242 | hb243
                    · have h := hT hb242
                      clear hT hF
                      refine HList.gskips rfl rfl rfl rfl (congrArg Value.bool hb242) ?_
                      refine HList.gskips rfl rfl rfl rfl (congrArg Value.bool hb242) ?_
                      refine HList.gskips rfl rfl rfl rfl (congrArg Value.bool hb242) ?_
                      refine HList.gskips rfl rfl rfl rfl (congrArg Value.bool hb242) ?_
                      refine HList.gskips rfl rfl rfl rfl (congrArg Value.bool hb242) ?_
                      refine HList.gskips rfl rfl rfl rfl (congrArg Value.bool hb242) ?_
                      refine HList.vals (v := (.bool true)) rfl (HVal.pickT rfl hb242 rfl) ?_
                      refine HList.nil ?_
                      refine nt ?_
                      exact ⟨true, ⟨rfl, rfl, rfl, rfl, rfl, rfl, rfl, rfl, rfl, rfl, rfl, trivial⟩, h⟩
                    · have h := hF hb243
                      clear hT hF
                      refine HList.gvals (v := (.pointer (some (Addr.add ⟨H70.size, 0, none⟩ 2)))) rfl rfl rfl rfl (congrArg Value.bool hb243) (HVal.fieldAddr' Try.runUnderlying34 rfl rfl Try.sizeOf32 rfl) ?_
                      obtain ⟨x245, x246, x247, c244, h⟩ := h
                      refine HList.gvals (v := (.agg #[(.string x245), (.int .i64 x246), (Sl.v x247)])) rfl rfl rfl rfl (congrArg Value.bool hb243) (HVal.loadN [(.string x245), (.int .i64 x246), (Sl.v x247)] Try.isAgg32 Try.sizeOf32 rfl c244) ?_
                      refine HList.gvals (v := (.pointer (some (Addr.add ⟨H_4.size, 0, none⟩ 2)))) rfl rfl rfl rfl (congrArg Value.bool hb243) (HVal.fieldAddr' Try.runUnderlying34 rfl rfl Try.sizeOf32 rfl) ?_
                      obtain ⟨x249, x250, x251, c248, h⟩ := h
                      refine HList.gvals (v := (.agg #[(.string x249), (.int .i64 x250), (Sl.v x251)])) rfl rfl rfl rfl (congrArg Value.bool hb243) (HVal.loadN [(.string x249), (.int .i64 x250), (Sl.v x251)] Try.isAgg32 Try.sizeOf32 rfl c248) ?_
                      refine HList.gops rfl rfl rfl rfl (congrArg Value.bool hb243) (HOp.call' 14 [(.agg #[(.string x245), (.int .i64 x246), (Sl.v x247)]), (.agg #[(.string x249), (.int .i64 x250), (Sl.v x251)])] (cap := []) rfl rfl Try.call14 (walk14 h)) ?_
                      rintro _ H252 ⟨r254, rfl, h⟩
                      refine HList.gvals (v := (.bool (!r254))) rfl rfl rfl rfl (congrArg Value.bool hb243) (HVal.not rfl) ?_
                      refine HList.vals (v := (.bool (!r254))) rfl (HVal.pickF rfl hb243 rfl) ?_
                      refine HList.nil ?_
                      refine nt ?_
                      exact ⟨(!r254), ⟨rfl, rfl, rfl, rfl, rfl, rfl, rfl, rfl, rfl, rfl, rfl, trivial⟩, h⟩
                · rintro ρ H_8 ⟨y234, hI, h⟩
                  obtain ⟨ρ0, rfl⟩ : ∃ ρ0, ρ = (Env.set (Env.set (Env.set (Env.set (Env.set (Env.set (Env.set (Env.set (Env.set (Env.set (Env.set ρ0 144 (.bool y234)) 20 (Sl.v r184)) 18 (Sl.v y174)) 13 (.int .i64 y48)) 12 (Sl.v (Sl.mk (some ⟨H34.size, 0, none⟩) (50 : Int).toNat (50 : Int).toNat))) 11 (.pointer (some ⟨H_2.size, 0, none⟩))) 9 (.pointer r7)) 7 (.pointer r3)) 2 (Sl.v p2)) 1 (.int .i64 p1)) 0 (.int .i64 p0)) := ⟨ρ, hI.eq⟩
                  clear hI; unfold F4_8 at h
                  obtain ⟨hT, hF⟩ := h
                  refine HW.cond y234 rfl (fun hb255 => ?_) (fun hb255 => ?_)
                  · have h := hT hb255
                    clear hT hF
                    refine HW.seq ?_
                    refine HW.region ?_
                    refine HList.vals (v := (.bool false)) rfl (HVal.assign' rfl) ?_
                    refine HList.nil ?_
                    refine nt ?_
                    refine HW.ret ?_
                    refine tr ?_
                    refine br ?_
                    refine tr ?_
                    refine tr ?_
                    refine br ?_
                    refine tr ?_
                    exact ⟨_, resOf1 rfl Res1.t, ⟨false, rfl, h⟩⟩
                  · have h := hF hb255
                    clear hT hF
                    refine HW.skip ?_
                    refine nt ?_
                    refine HW.cut (fun ρ H_9 => Env.Is ρ [(0, (.int .i64 p0)), (1, (.int .i64 p1)), (2, (Sl.v p2)), (7, (.pointer r3)), (9, (.pointer r7)), (11, (.pointer (some ⟨H_2.size, 0, none⟩))), (12, (Sl.v (Sl.mk (some ⟨H34.size, 0, none⟩) (50 : Int).toNat (50 : Int).toNat))), (13, (.int .i64 y48)), (20, (Sl.v r184))] ∧ F4_9 Q X4 p0 p1 p2 r3 r7 ⟨H_2.size, 0, none⟩ (Sl.mk (some ⟨H34.size, 0, none⟩) (50 : Int).toNat (50 : Int).toNat) y48 r184 H_9) ?_ ?_
                    · refine HW.seq ?_
                      refine HW.region ?_
                      refine HList.vals (v := (.int .i64 0)) rfl (HVal.assign' rfl) ?_
                      refine HList.nil ?_
                      refine nt ?_
                      refine HW.block ?_
                      refine HW.loop' (fun L10 hL10 => ?_)
                      obtain ⟨X10, hX10⟩ : ∃ X10 : Int → Hp → Prop, ∀ (y265 : Int) (H_10 : Hp), X10 y265 H_10 ↔ ∀ ρ, Env.Is ρ [(0, (.int .i64 p0)), (1, (.int .i64 p1)), (2, (Sl.v p2)), (7, (.pointer r3)), (9, (.pointer r7)), (11, (.pointer (some ⟨H_2.size, 0, none⟩))), (12, (Sl.v (Sl.mk (some ⟨H34.size, 0, none⟩) (50 : Int).toNat (50 : Int).toNat))), (13, (.int .i64 y48)), (18, (Sl.v y174)), (20, (Sl.v r184)), (23, (.int .i64 y265))] → L10 ρ H_10 := ⟨_, fun _ _ => Iff.rfl⟩
                      refine (hX10 _ _).1 (h X10 ?_) _ ?_
                      rotate_left
                      · exact ⟨rfl, rfl, rfl, rfl, rfl, rfl, rfl, rfl, rfl, rfl, rfl, trivial⟩
                      clear h
                      intro y265 H_10 h
                      refine (hX10 _ _).2 fun ρ hI => ?_
                      obtain ⟨ρ0, rfl⟩ : ∃ ρ0, ρ = (Env.set (Env.set (Env.set (Env.set (Env.set (Env.set (Env.set (Env.set (Env.set (Env.set (Env.set ρ0 23 (.int .i64 y265)) 20 (Sl.v r184)) 18 (Sl.v y174)) 13 (.int .i64 y48)) 12 (Sl.v (Sl.mk (some ⟨H34.size, 0, none⟩) (50 : Int).toNat (50 : Int).toNat))) 11 (.pointer (some ⟨H_2.size, 0, none⟩))) 9 (.pointer r7)) 7 (.pointer r3)) 2 (Sl.v p2)) 1 (.int .i64 p1)) 0 (.int .i64 p0)) := ⟨ρ, hI.eq⟩
                      clear hI; unfold F4_L10b at h; refine hL10 _ _ ?_
                      refine HW.seq ?_
                      refine HW.seq ?_
                      refine HW.region ?_
                      refine HList.vals (v := (.int .i64 y265)) rfl (HVal.move' rfl) ?_
                      refine HList.vals (v := (Sl.v y174)) rfl (HVal.move' rfl) ?_
                      refine HList.vals (v := (.int .i64 ((y174).n : Int))) rfl (HVal.len Try.runUnderlying30 rfl) ?_
                      refine HList.vals (v := (.bool (decide (y265 < ((y174).n : Int))))) rfl (HVal.lss rfl rfl) ?_
                      refine HList.nil ?_
                      refine nt ?_
                      obtain ⟨hT, hF⟩ := h
                      refine HW.cond (decide (y265 < ((y174).n : Int))) rfl (fun hb276 => ?_) (fun hb276 => ?_)
                      · have h := hT hb276
                        clear hT hF
                        refine HW.skip ?_
                        refine nt ?_
                        refine HW.seq ?_
                        refine HW.block ?_
                        refine HW.region ?_
                        refine HList.vals (v := (Sl.v y174)) rfl (HVal.move' rfl) ?_
                        refine HList.vals (v := (.int .i64 y265)) rfl (HVal.move' rfl) ?_
                        refine HList.ops' rfl (HOp.call' 15 [(.int .i64 (-3))] (cap := []) rfl rfl Try.call15 (walk15 h)) ?_
                        rintro _ H277 ⟨r279, r280, r281, r282, rfl, h⟩
                        obtain ⟨a283, e284, b285, b286, h⟩ := h
                        refine HList.vals (v := (.pointer (some (Addr.add a283 (y265.toNat * 4))))) rfl (HVal.indexAddr Try.runUnderlying30 Try.sizeOf49 (Sl.v_some rfl e284) rfl b285 b286) ?_
                        obtain ⟨z289, h⟩ := h
                        refine HList.opsn (HOp.storeN' (l := [(.int .i64 r279), (.int .i64 r280), (.string r281), (.bool r282)]) Try.sizeOf49 rfl rfl rfl z289) ?_
                        rintro _ H287 e288
                        replace h := h H287 e288
                        refine HList.nil ?_
                        refine nb ?_
                        refine nt ?_
                        refine HW.region ?_
                        refine HList.vals (v := (.int .i64 y265)) rfl (HVal.move' rfl) ?_
                        refine HList.vals (v := (.int .i64 (IntKind.i64.wrap (y265 + 1)))) rfl (HVal.add rfl rfl) ?_
                        refine HList.vals (v := (.int .i64 (IntKind.i64.wrap (y265 + 1)))) rfl (HVal.assign' rfl) ?_
                        refine HList.nil ?_
                        refine nt ?_
                        exact (hX10 _ _).1 h _ ⟨rfl, rfl, rfl, rfl, rfl, rfl, rfl, rfl, rfl, rfl, rfl, trivial⟩
                      · have h := hF hb276
                        clear hT hF
                        refine HW.exit ?_
                        refine te ?_
                        refine te ?_
                        refine be ?_
                        refine nt ?_
                        exact ⟨⟨rfl, rfl, rfl, rfl, rfl, rfl, rfl, rfl, rfl, trivial⟩, h⟩
                    · rintro ρ H_9 ⟨hI, h⟩
                      obtain ⟨ρ0, rfl⟩ : ∃ ρ0, ρ = (Env.set (Env.set (Env.set (Env.set (Env.set (Env.set (Env.set (Env.set (Env.set ρ0 20 (Sl.v r184)) 13 (.int .i64 y48)) 12 (Sl.v (Sl.mk (some ⟨H34.size, 0, none⟩) (50 : Int).toNat (50 : Int).toNat))) 11 (.pointer (some ⟨H_2.size, 0, none⟩))) 9 (.pointer r7)) 7 (.pointer r3)) 2 (Sl.v p2)) 1 (.int .i64 p1)) 0 (.int .i64 p0)) := ⟨ρ, hI.eq⟩
                      clear hI; unfold F4_9 at h
                      refine HW.seq ?_
                      refine HW.region ?_
                      refine HList.vals (v := (.pointer (some ⟨H_2.size, 0, none⟩))) rfl (HVal.move' rfl) ?_
                      refine HList.vals (v := (Sl.v r184)) rfl (HVal.move' rfl) ?_
                      refine HList.ops' rfl (HOp.call' 16 [(.pointer (some ⟨H_2.size, 0, none⟩)), (Sl.v r184)] (cap := []) rfl rfl Try.call16 (walk16 h)) ?_
                      rintro _ H290 ⟨rfl, h⟩
                      refine HList.nil ?_
                      refine nt ?_
                      refine HW.cut (fun ρ H_11 => ∃ (y307 : Bool), Env.Is ρ [(0, (.int .i64 p0)), (1, (.int .i64 p1)), (2, (Sl.v p2)), (7, (.pointer r3)), (9, (.pointer r7)), (11, (.pointer (some ⟨H_2.size, 0, none⟩))), (12, (Sl.v (Sl.mk (some ⟨H34.size, 0, none⟩) (50 : Int).toNat (50 : Int).toNat))), (13, (.int .i64 y48)), (172, (.bool y307))] ∧ F4_11 Q X4 p0 p1 p2 r3 r7 ⟨H_2.size, 0, none⟩ (Sl.mk (some ⟨H34.size, 0, none⟩) (50 : Int).toNat (50 : Int).toNat) y48 y307 H_11) ?_ ?_
                      · refine HW.region ?_
                        refine HList.vals (v := (.int .i64 y48)) rfl (HVal.move' rfl) ?_
                        refine HList.vals (v := (.int .i64 (Int.tmod y48 (64 : Int)))) rfl (HVal.rem rfl rfl (by decide)) ?_
                        refine HList.vals (v := (.bool (decide ((Int.tmod y48 (64 : Int)) = 63)))) rfl (HVal.eqlI rfl rfl) ?_
                        refine HList.vals (v := (.bool (decide ((Int.tmod y48 (64 : Int)) = 63)))) rfl (HVal.move' rfl) ?_
                        obtain ⟨hT, hF⟩ := h
                        rcases Bool.eq_false_or_eq_true (decide ((Int.tmod y48 (64 : Int)) = 63)) with hb300 | hb301
                        · have h := hT hb300
                          clear hT hF
                          refine HList.gvals (v := (.pointer (some ⟨H_2.size, 0, none⟩))) rfl rfl rfl rfl (congrArg Value.bool hb300) (HVal.move' rfl) ?_
                          refine HList.gops rfl rfl rfl rfl (congrArg Value.bool hb300) (HOp.call' 17 [(.pointer (some ⟨H_2.size, 0, none⟩))] (cap := []) rfl rfl Try.call17 (walk17 h)) ?_
                          rintro _ H302 ⟨r304, rfl, h⟩
                          refine HList.gvals (v := (.bool (!r304))) rfl rfl rfl rfl (congrArg Value.bool hb300) (HVal.not rfl) ?_
                          refine HList.vals (v := (.bool (!r304))) rfl (HVal.pickT rfl hb300 rfl) ?_
                          refine HList.vals (v := (.bool (!r304))) rfl (HVal.move' rfl) ?_
                          obtain ⟨hT, hF⟩ := h
                          rcases Bool.eq_false_or_eq_true (!r304) with hb305 | hb306
                          · have h := hT hb305
                            clear hT hF
                            refine HList.gskips rfl rfl rfl rfl (congrArg Value.bool hb305) ?_
                            refine HList.gskips rfl rfl rfl rfl (congrArg Value.bool hb305) ?_
                            refine HList.gskips rfl rfl rfl rfl (congrArg Value.bool hb305) ?_
                            refine HList.gskips rfl rfl rfl rfl (congrArg Value.bool hb305) ?_
                            refine HList.gskips rfl rfl rfl rfl (congrArg Value.bool hb305) ?_
                            refine HList.vals (v := (.bool true)) rfl (HVal.pickT rfl hb305 rfl) ?_
                            refine HList.nil ?_
                            refine nt ?_
                            exact ⟨true, ⟨rfl, rfl, rfl, rfl, rfl, rfl, rfl, rfl, rfl, trivial⟩, h⟩
                          · have h := hF hb306
                            clear hT hF
                            refine HList.gvals (v := (.pointer r3)) rfl rfl rfl rfl (congrArg Value.bool hb306) (HVal.move' rfl) ?_
                            refine HList.gops rfl rfl rfl rfl (congrArg Value.bool hb306) (HOp.call' 18 [(.pointer r3)] (cap := []) rfl rfl Try.call18 (walk18 h)) ?_
                            rintro _ H308 ⟨r310, rfl, h⟩
                            refine HList.gvals (v := (.pointer r7)) rfl rfl rfl rfl (congrArg Value.bool hb306) (HVal.move' rfl) ?_
                            refine HList.gops rfl rfl rfl rfl (congrArg Value.bool hb306) (HOp.call' 18 [(.pointer r7)] (cap := []) rfl rfl Try.call18 (walk18 h)) ?_
                            rintro _ H311 ⟨r313, rfl, h⟩
                            refine HList.gvals (v := (.bool (decide (r310 ≠ r313)))) rfl rfl rfl rfl (congrArg Value.bool hb306) (HVal.neqI rfl rfl) ?_
                            refine HList.vals (v := (.bool (decide (r310 ≠ r313)))) rfl (HVal.pickF rfl hb306 rfl) ?_
                            refine HList.nil ?_
                            refine nt ?_
                            exact ⟨(decide (r310 ≠ r313)), ⟨rfl, rfl, rfl, rfl, rfl, rfl, rfl, rfl, rfl, trivial⟩, h⟩
                        · have h := hF hb301
                          clear hT hF
                          refine HList.gskips rfl rfl rfl rfl (congrArg Value.bool hb301) ?_
                          refine HList.gskips rfl rfl rfl rfl (congrArg Value.bool hb301) ?_
                          refine HList.gskips rfl rfl rfl rfl (congrArg Value.bool hb301) ?_
                          refine HList.vals (v := (.bool false)) rfl (HVal.pickF rfl hb301 rfl) ?_
                          refine HList.vals (v := (.bool false)) rfl (HVal.move' rfl) ?_
                          refine HList.gvals (v := (.pointer r3)) rfl rfl rfl rfl rfl (HVal.move' rfl) ?_
                          refine HList.gops rfl rfl rfl rfl rfl (HOp.call' 18 [(.pointer r3)] (cap := []) rfl rfl Try.call18 (walk18 h)) ?_
                          rintro _ H314 ⟨r316, rfl, h⟩
                          refine HList.gvals (v := (.pointer r7)) rfl rfl rfl rfl rfl (HVal.move' rfl) ?_
                          refine HList.gops rfl rfl rfl rfl rfl (HOp.call' 18 [(.pointer r7)] (cap := []) rfl rfl Try.call18 (walk18 h)) ?_
                          rintro _ H317 ⟨r319, rfl, h⟩
                          refine HList.gvals (v := (.bool (decide (r316 ≠ r319)))) rfl rfl rfl rfl rfl (HVal.neqI rfl rfl) ?_
                          refine HList.vals (v := (.bool (decide (r316 ≠ r319)))) rfl (HVal.pickF rfl rfl rfl) ?_
                          refine HList.nil ?_
                          refine nt ?_
                          exact ⟨(decide (r316 ≠ r319)), ⟨rfl, rfl, rfl, rfl, rfl, rfl, rfl, rfl, rfl, trivial⟩, h⟩
                      · rintro ρ H_11 ⟨y307, hI, h⟩
                        obtain ⟨ρ0, rfl⟩ : ∃ ρ0, ρ = (Env.set (Env.set (Env.set (Env.set (Env.set (Env.set (Env.set (Env.set (Env.set ρ0 172 (.bool y307)) 13 (.int .i64 y48)) 12 (Sl.v (Sl.mk (some ⟨H34.size, 0, none⟩) (50 : Int).toNat (50 : Int).toNat))) 11 (.pointer (some ⟨H_2.size, 0, none⟩))) 9 (.pointer r7)) 7 (.pointer r3)) 2 (Sl.v p2)) 1 (.int .i64 p1)) 0 (.int .i64 p0)) := ⟨ρ, hI.eq⟩
                        clear hI; unfold F4_11 at h
                        obtain ⟨hT, hF⟩ := h
                        refine HW.cond y307 rfl (fun hb320 => ?_) (fun hb320 => ?_)
                        · have h := hT hb320
                          clear hT hF
                          refine HW.seq ?_
                          refine HW.region ?_
                          refine HList.vals (v := (.bool false)) rfl (HVal.assign' rfl) ?_
                          refine HList.nil ?_
                          refine nt ?_
                          refine HW.ret ?_
                          refine br ?_
                          refine tr ?_
                          refine tr ?_
                          refine br ?_
                          refine tr ?_
                          exact ⟨_, resOf1 rfl Res1.t, ⟨false, rfl, h⟩⟩
                        · have h := hF hb320
                          clear hT hF
                          refine HW.skip ?_
                          refine nb ?_
                          refine nt ?_
                          refine HW.region ?_
                          refine HList.vals (v := (.int .i64 y48)) rfl (HVal.move' rfl) ?_
                          refine HList.vals (v := (.int .i64 (IntKind.i64.wrap (y48 + 1)))) rfl (HVal.add rfl rfl) ?_
                          refine HList.vals (v := (.int .i64 (IntKind.i64.wrap (y48 + 1)))) rfl (HVal.assign' rfl) ?_
                          refine HList.nil ?_
                          refine nt ?_
                          exact (hX4 _ _).1 h _ ⟨rfl, rfl, rfl, rfl, rfl, rfl, rfl, rfl, trivial⟩
            · have h := hF hb56
              clear hT hF
              refine HW.exit ?_
              refine te ?_
              refine te ?_
              refine be ?_
              refine nt ?_
              exact ⟨⟨rfl, rfl, rfl, rfl, rfl, rfl, trivial⟩, h⟩
          · rintro ρ H_3 ⟨hI, h⟩
            obtain ⟨ρ0, rfl⟩ : ∃ ρ0, ρ = (Env.set (Env.set (Env.set (Env.set (Env.set (Env.set ρ0 11 (.pointer (some ⟨H_2.size, 0, none⟩))) 9 (.pointer r7)) 7 (.pointer r3)) 2 (Sl.v p2)) 1 (.int .i64 p1)) 0 (.int .i64 p0)) := ⟨ρ, hI.eq⟩
            clear hI; unfold F4_3 at h
            refine HW.seq ?_
            refine HW.region ?_
            refine HList.vals (v := (.pointer (some ⟨H_2.size, 0, none⟩))) rfl (HVal.move' rfl) ?_
            refine HList.ops' rfl (HOp.call' 17 [(.pointer (some ⟨H_2.size, 0, none⟩))] (cap := []) rfl rfl Try.call17 (walk17 h)) ?_
            rintro _ H321 ⟨r323, rfl, h⟩
            refine HList.vals (v := (.bool r323)) rfl (HVal.move' rfl) ?_
            obtain ⟨hT, hF⟩ := h
            rcases Bool.eq_false_or_eq_true r323 with hb324 | hb325
            · have h := hT hb324
              clear hT hF
              refine HList.gvals (v := (.pointer r3)) rfl rfl rfl rfl (congrArg Value.bool hb324) (HVal.move' rfl) ?_
              refine HList.gops rfl rfl rfl rfl (congrArg Value.bool hb324) (HOp.call' 19 [(.pointer r3)] (cap := []) rfl rfl Try.call19 (walk19 h)) ?_
              rintro _ H326 ⟨r328, rfl, h⟩
              refine HList.gvals (v := (.pointer r7)) rfl rfl rfl rfl (congrArg Value.bool hb324) (HVal.move' rfl) ?_
              refine HList.gops rfl rfl rfl rfl (congrArg Value.bool hb324) (HOp.call' 19 [(.pointer r7)] (cap := []) rfl rfl Try.call19 (walk19 h)) ?_
              rintro _ H329 ⟨r331, rfl, h⟩
              refine HList.gops rfl rfl rfl rfl (congrArg Value.bool hb324) (HOp.call' 12 [(Sl.v r328), (Sl.v r331)] (cap := []) rfl rfl Try.call12 (walk12 h)) ?_
              rintro _ H332 ⟨r334, rfl, h⟩
              refine HList.vals (v := (.bool r334)) rfl (HVal.pickT rfl hb324 rfl) ?_
              refine HList.vals (v := (.bool r334)) rfl (HVal.move' rfl) ?_
              obtain ⟨hT, hF⟩ := h
              rcases Bool.eq_false_or_eq_true r334 with hb335 | hb336
              · have h := hT hb335
                clear hT hF
                refine HList.gvals (v := (.pointer r3)) rfl rfl rfl rfl (congrArg Value.bool hb335) (HVal.move' rfl) ?_
                refine HList.gops rfl rfl rfl rfl (congrArg Value.bool hb335) (HOp.call' 20 [(.pointer r3)] (cap := []) rfl rfl Try.call20 (walk20 h)) ?_
                rintro _ H337 ⟨r339, rfl, h⟩
                refine HList.gvals (v := (.pointer r7)) rfl rfl rfl rfl (congrArg Value.bool hb335) (HVal.move' rfl) ?_
                refine HList.gops rfl rfl rfl rfl (congrArg Value.bool hb335) (HOp.call' 20 [(.pointer r7)] (cap := []) rfl rfl Try.call20 (walk20 h)) ?_
                rintro _ H340 ⟨r342, rfl, h⟩
                refine HList.gops rfl rfl rfl rfl (congrArg Value.bool hb335) (HOp.call' 12 [(Sl.v r339), (Sl.v r342)] (cap := []) rfl rfl Try.call12 (walk12 h)) ?_
                rintro _ H343 ⟨r345, rfl, h⟩
                refine HList.vals (v := (.bool r345)) rfl (HVal.pickT rfl hb335 rfl) ?_
                refine HList.vals (v := (.bool r345)) rfl (HVal.move' rfl) ?_
                obtain ⟨hT, hF⟩ := h
                rcases Bool.eq_false_or_eq_true r345 with hb346 | hb347
                · have h := hT hb346
                  clear hT hF
                  refine HList.gvals (v := (.int .i64 p0)) rfl rfl rfl rfl (congrArg Value.bool hb346) (HVal.move' rfl) ?_
                  refine HList.gvals (v := (.int .i64 p1)) rfl rfl rfl rfl (congrArg Value.bool hb346) (HVal.move' rfl) ?_
                  refine HList.gvals (v := (Sl.v p2)) rfl rfl rfl rfl (congrArg Value.bool hb346) (HVal.move' rfl) ?_
                  refine HList.gops rfl rfl rfl rfl (congrArg Value.bool hb346) (HOp.call' 21 [(.int .i64 p0), (.int .i64 p1), (Sl.v p2)] (cap := []) rfl rfl Try.call21 (walk21 h)) ?_
                  rintro _ H348 ⟨r350, rfl, h⟩
                  refine HList.vals (v := (.bool r350)) rfl (HVal.pickT rfl hb346 rfl) ?_
                  refine HList.vals (v := (.bool r350)) rfl (HVal.assign' rfl) ?_
                  refine HList.nil ?_
                  refine nt ?_
                  refine HW.ret ?_
                  exact ⟨_, resOf1 rfl Res1.t, ⟨r350, rfl, h⟩⟩
                · have h := hF hb347
                  clear hT hF
                  refine HList.gskips rfl rfl rfl rfl (congrArg Value.bool hb347) ?_
                  refine HList.gskips rfl rfl rfl rfl (congrArg Value.bool hb347) ?_
                  refine HList.gskips rfl rfl rfl rfl (congrArg Value.bool hb347) ?_
                  refine HList.gskips rfl rfl rfl rfl (congrArg Value.bool hb347) ?_
                  refine HList.vals (v := (.bool false)) rfl (HVal.pickF rfl hb347 rfl) ?_
                  refine HList.vals (v := (.bool false)) rfl (HVal.assign' rfl) ?_
                  refine HList.nil ?_
                  refine nt ?_
                  refine HW.ret ?_
                  exact ⟨_, resOf1 rfl Res1.t, ⟨false, rfl, h⟩⟩
              · have h := hF hb336
                clear hT hF
                refine HList.gskips rfl rfl rfl rfl (congrArg Value.bool hb336) ?_
                refine HList.gskips rfl rfl rfl rfl (congrArg Value.bool hb336) ?_
                refine HList.gskips rfl rfl rfl rfl (congrArg Value.bool hb336) ?_
                refine HList.gskips rfl rfl rfl rfl (congrArg Value.bool hb336) ?_
                refine HList.gskips rfl rfl rfl rfl (congrArg Value.bool hb336) ?_
                refine HList.vals (v := (.bool false)) rfl (HVal.pickF rfl hb336 rfl) ?_
                refine HList.vals (v := (.bool false)) rfl (HVal.move' rfl) ?_
                refine HList.gskips rfl rfl rfl rfl rfl ?_
                refine HList.gskips rfl rfl rfl rfl rfl ?_
                refine HList.gskips rfl rfl rfl rfl rfl ?_
                refine HList.gskips rfl rfl rfl rfl rfl ?_
                refine HList.vals (v := (.bool false)) rfl (HVal.pickF rfl rfl rfl) ?_
                refine HList.vals (v := (.bool false)) rfl (HVal.assign' rfl) ?_
                refine HList.nil ?_
                refine nt ?_
                refine HW.ret ?_
                exact ⟨_, resOf1 rfl Res1.t, ⟨false, rfl, h⟩⟩
            · have h := hF hb325
              clear hT hF
              refine HList.gskips rfl rfl rfl rfl (congrArg Value.bool hb325) ?_
              refine HList.gskips rfl rfl rfl rfl (congrArg Value.bool hb325) ?_
              refine HList.gskips rfl rfl rfl rfl (congrArg Value.bool hb325) ?_
              refine HList.gskips rfl rfl rfl rfl (congrArg Value.bool hb325) ?_
              refine HList.gskips rfl rfl rfl rfl (congrArg Value.bool hb325) ?_
              refine HList.vals (v := (.bool false)) rfl (HVal.pickF rfl hb325 rfl) ?_
              refine HList.vals (v := (.bool false)) rfl (HVal.move' rfl) ?_
              refine HList.gskips rfl rfl rfl rfl rfl ?_
              refine HList.gskips rfl rfl rfl rfl rfl ?_
              refine HList.gskips rfl rfl rfl rfl rfl ?_
              refine HList.gskips rfl rfl rfl rfl rfl ?_
              refine HList.gskips rfl rfl rfl rfl rfl ?_
              refine HList.vals (v := (.bool false)) rfl (HVal.pickF rfl rfl rfl) ?_
              refine HList.vals (v := (.bool false)) rfl (HVal.move' rfl) ?_
              refine HList.gskips rfl rfl rfl rfl rfl ?_
              refine HList.gskips rfl rfl rfl rfl rfl ?_
              refine HList.gskips rfl rfl rfl rfl rfl ?_
              refine HList.gskips rfl rfl rfl rfl rfl ?_
              refine HList.vals (v := (.bool false)) rfl (HVal.pickF rfl rfl rfl) ?_
              refine HList.vals (v := (.bool false)) rfl (HVal.assign' rfl) ?_
              refine HList.nil ?_
              refine nt ?_
              refine HW.ret ?_
              exact ⟨_, resOf1 rfl Res1.t, ⟨false, rfl, h⟩⟩

end Go.Hw
