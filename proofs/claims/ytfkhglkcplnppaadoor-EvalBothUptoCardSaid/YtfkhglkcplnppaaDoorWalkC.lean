/- The walks of this seat, printed by a program of this session (wip/tools/gen.py): of each function what it does to the heap, and that it does so. -/
import Derived.Test.YtfkhglkcplnppaaDoorHwT
import Derived.Test.YtfkhglkcplnppaaDoorProg
import Derived.Test.YtfkhglkcplnppaaDoorWAux
import Derived.Test.YtfkhglkcplnppaaDoorWalkB
set_option linter.unusedVariables false
set_option linter.unusedSimpArgs false
namespace Go.Hw
open Go Go.Proofs
def F4_7 (Q : Bool → Hp → Prop) (y106 : Addr) (H_7 : Hp) : Prop :=
∃ (x322 : Sl) (x323 : Sl) (x324 : ByteArray) (x325 : ByteArray) (x326 : Int) (x327 : Sl) (x328 : Sl), cells H_7 y106 [(Sl.v x322), (Sl.v x323), (.string x324), (.string x325), (.int .i64 x326), (Sl.v x327), (Sl.v x328)] 0 ∧ (
 F14 1 S_a 7 (ByteArray.mk #[]) H_7 (fun (r331 : Int) (r332 : Int) (r333 : Int) (r334 : Int) (r335 : ByteArray) (r336 : Bool) (r337 : ByteArray) (r338 : Int) (r339 : ByteArray) (r340 : Sl) (H329 : Hp) => 
 cells H329 y106 [(Sl.v x322), (Sl.v x323), (.string x324), (.string x325), (.int .i64 x326), (Sl.v x327), (Sl.v x328)] 0 ∧ (
 F15 r331 r332 r333 r334 r335 r336 r337 r338 r339 r340 x322 x323 x324 x325 x326 x327 x328 110 H329 (fun (r344 : Bool) (H342 : Hp) => 
 (r344 = true → (∃ (x348 : Sl) (x349 : Sl) (x350 : ByteArray) (x351 : ByteArray) (x352 : Int) (x353 : Sl) (x354 : Sl), cells H342 y106 [(Sl.v x348), (Sl.v x349), (.string x350), (.string x351), (.int .i64 x352), (Sl.v x353), (Sl.v x354)] 0 ∧ (
 F14 1 S_z 6 (ByteArray.mk #[]) H342 (fun (r357 : Int) (r358 : Int) (r359 : Int) (r360 : Int) (r361 : ByteArray) (r362 : Bool) (r363 : ByteArray) (r364 : Int) (r365 : ByteArray) (r366 : Sl) (H355 : Hp) => 
 cells H355 y106 [(Sl.v x348), (Sl.v x349), (.string x350), (.string x351), (.int .i64 x352), (Sl.v x353), (Sl.v x354)] 0 ∧ (
 F15 r357 r358 r359 r360 r361 r362 r363 r364 r365 r366 x348 x349 x350 x351 x352 x353 x354 110 H355 (fun (r370 : Bool) (H368 : Hp) => 
 Q r370 H368)))))) ∧
 (r344 = false → (Q false H342))))))
def F4_9 (Q : Bool → Hp → Prop) (X8 : Int → Hp → Prop) (y114 : Sl) (y115 : Addr) (y116 : Int) (y117 : Int) (y118 : Int) (y119 : Int) (H_9 : Hp) : Prop :=
X8 (IntKind.i64.wrap (y119 + 1)) H_9
def F4_11 (Q : Bool → Hp → Prop) (X8 : Int → Hp → Prop) (y179 : Sl) (y180 : Addr) (y181 : Int) (y182 : Int) (y183 : Int) (y184 : Int) (y211 : Bool) (H_11 : Hp) : Prop :=
(y211 = true → (Q false H_11)) ∧
 (y211 = false → (F4_9 Q X8 y179 y180 y181 y182 y183 y184 H_11))
def F4_12 (Q : Bool → Hp → Prop) (X8 : Int → Hp → Prop) (y237 : Sl) (y238 : Addr) (y239 : Int) (y240 : Int) (y241 : Int) (y242 : Int) (y269 : Bool) (H_12 : Hp) : Prop :=
(y269 = true → (Q false H_12)) ∧
 (y269 = false → (F4_9 Q X8 y237 y238 y239 y240 y241 y242 H_12))
def F4_10 (Q : Bool → Hp → Prop) (X8 : Int → Hp → Prop) (y120 : Sl) (y121 : Addr) (y122 : Int) (y123 : Int) (y124 : Int) (y125 : Int) (y152 : Bool) (H_10 : Hp) : Prop :=
(y152 = true → (Q false H_10)) ∧
 (y152 = false → (((decide (((y120).n : Int) = 0)) = true → (∃ (x186 : Sl) (x187 : Sl) (x188 : ByteArray) (x189 : ByteArray) (x190 : Int) (x191 : Sl) (x192 : Sl), cells H_10 y121 [(Sl.v x186), (Sl.v x187), (.string x188), (.string x189), (.int .i64 x190), (Sl.v x191), (Sl.v x192)] 0 ∧ (
 F14 3 S_b y125 S_x H_10 (fun (r195 : Int) (r196 : Int) (r197 : Int) (r198 : Int) (r199 : ByteArray) (r200 : Bool) (r201 : ByteArray) (r202 : Int) (r203 : ByteArray) (r204 : Sl) (H193 : Hp) => 
 cells H193 y121 [(Sl.v x186), (Sl.v x187), (.string x188), (.string x189), (.int .i64 x190), (Sl.v x191), (Sl.v x192)] 0 ∧ (
 F15 r195 r196 r197 r198 r199 r200 r201 r202 r203 r204 x186 x187 x188 x189 x190 x191 x192 110 H193 (fun (r208 : Bool) (H206 : Hp) => 
 ((!r208) = true → (F4_11 Q X8 y120 y121 y122 y123 y124 y125 true H206)) ∧
 ((!r208) = false → (∃ (x213 : Sl) (x214 : Sl) (x215 : ByteArray) (x216 : ByteArray) (x217 : Int) (x218 : Sl) (x219 : Sl), cells H206 y121 [(Sl.v x213), (Sl.v x214), (.string x215), (.string x216), (.int .i64 x217), (Sl.v x218), (Sl.v x219)] 0 ∧ (
 F14 4 S_b y125 S_x H206 (fun (r222 : Int) (r223 : Int) (r224 : Int) (r225 : Int) (r226 : ByteArray) (r227 : Bool) (r228 : ByteArray) (r229 : Int) (r230 : ByteArray) (r231 : Sl) (H220 : Hp) => 
 cells H220 y121 [(Sl.v x213), (Sl.v x214), (.string x215), (.string x216), (.int .i64 x217), (Sl.v x218), (Sl.v x219)] 0 ∧ (
 F15 r222 r223 r224 r225 r226 r227 r228 r229 r230 r231 x213 x214 x215 x216 x217 x218 x219 110 H220 (fun (r235 : Bool) (H233 : Hp) => 
 F4_11 Q X8 y120 y121 y122 y123 y124 y125 (!r235) H233)))))))))))) ∧
 ((decide (((y120).n : Int) = 0)) = false → (∃ (x244 : Sl) (x245 : Sl) (x246 : ByteArray) (x247 : ByteArray) (x248 : Int) (x249 : Sl) (x250 : Sl), cells H_10 y121 [(Sl.v x244), (Sl.v x245), (.string x246), (.string x247), (.int .i64 x248), (Sl.v x249), (Sl.v x250)] 0 ∧ (
 F14 3 S_b y125 S_x H_10 (fun (r253 : Int) (r254 : Int) (r255 : Int) (r256 : Int) (r257 : ByteArray) (r258 : Bool) (r259 : ByteArray) (r260 : Int) (r261 : ByteArray) (r262 : Sl) (H251 : Hp) => 
 cells H251 y121 [(Sl.v x244), (Sl.v x245), (.string x246), (.string x247), (.int .i64 x248), (Sl.v x249), (Sl.v x250)] 0 ∧ (
 F13 r253 r254 r255 r256 r257 r258 r259 r260 r261 r262 x244 x245 x246 x247 x248 x249 x250 y123 H251 (fun (r266 : Bool) (H264 : Hp) => 
 ((!r266) = true → (F4_12 Q X8 y120 y121 y122 y123 y124 y125 true H264)) ∧
 ((!r266) = false → (∃ (x271 : Sl) (x272 : Sl) (x273 : ByteArray) (x274 : ByteArray) (x275 : Int) (x276 : Sl) (x277 : Sl), cells H264 y121 [(Sl.v x271), (Sl.v x272), (.string x273), (.string x274), (.int .i64 x275), (Sl.v x276), (Sl.v x277)] 0 ∧ (
 F14 4 S_b y125 S_x H264 (fun (r280 : Int) (r281 : Int) (r282 : Int) (r283 : Int) (r284 : ByteArray) (r285 : Bool) (r286 : ByteArray) (r287 : Int) (r288 : ByteArray) (r289 : Sl) (H278 : Hp) => 
 cells H278 y121 [(Sl.v x271), (Sl.v x272), (.string x273), (.string x274), (.int .i64 x275), (Sl.v x276), (Sl.v x277)] 0 ∧ (
 F13 r280 r281 r282 r283 r284 r285 r286 r287 r288 r289 x271 x272 x273 x274 x275 x276 x277 y124 H278 (fun (r293 : Bool) (H291 : Hp) => 
 ((!r293) = true → (F4_12 Q X8 y120 y121 y122 y123 y124 y125 true H291)) ∧
 ((!r293) = false → (∃ (x297 : Sl) (x298 : Sl) (x299 : ByteArray) (x300 : ByteArray) (x301 : Int) (x302 : Sl) (x303 : Sl), cells H291 y121 [(Sl.v x297), (Sl.v x298), (.string x299), (.string x300), (.int .i64 x301), (Sl.v x302), (Sl.v x303)] 0 ∧ (
 F14 2 S_b y125 S_s H291 (fun (r306 : Int) (r307 : Int) (r308 : Int) (r309 : Int) (r310 : ByteArray) (r311 : Bool) (r312 : ByteArray) (r313 : Int) (r314 : ByteArray) (r315 : Sl) (H304 : Hp) => 
 cells H304 y121 [(Sl.v x297), (Sl.v x298), (.string x299), (.string x300), (.int .i64 x301), (Sl.v x302), (Sl.v x303)] 0 ∧ (
 F15 r306 r307 r308 r309 r310 r311 r312 r313 r314 r315 x297 x298 x299 x300 x301 x302 x303 10 H304 (fun (r319 : Bool) (H317 : Hp) => 
 F4_12 Q X8 y120 y121 y122 y123 y124 y125 (!r319) H317))))))))))))))))))))
def F4_L8b (Q : Bool → Hp → Prop) (X8 : Int → Hp → Prop) (y108 : Sl) (y109 : Addr) (y110 : Int) (y111 : Int) (y112 : Int) (y107 : Int) (H_8 : Hp) : Prop :=
((decide (y107 ≤ 7)) = true → (∃ (x127 : Sl) (x128 : Sl) (x129 : ByteArray) (x130 : ByteArray) (x131 : Int) (x132 : Sl) (x133 : Sl), cells H_8 y109 [(Sl.v x127), (Sl.v x128), (.string x129), (.string x130), (.int .i64 x131), (Sl.v x132), (Sl.v x133)] 0 ∧ (
 F14 1 S_b y107 (ByteArray.mk #[]) H_8 (fun (r136 : Int) (r137 : Int) (r138 : Int) (r139 : Int) (r140 : ByteArray) (r141 : Bool) (r142 : ByteArray) (r143 : Int) (r144 : ByteArray) (r145 : Sl) (H134 : Hp) => 
 cells H134 y109 [(Sl.v x127), (Sl.v x128), (.string x129), (.string x130), (.int .i64 x131), (Sl.v x132), (Sl.v x133)] 0 ∧ (
 F13 r136 r137 r138 r139 r140 r141 r142 r143 r144 r145 x127 x128 x129 x130 x131 x132 x133 ((y108).n : Int) H134 (fun (r149 : Bool) (H147 : Hp) => 
 ((!r149) = true → (F4_10 Q X8 y108 y109 y110 y111 y112 y107 true H147)) ∧
 ((!r149) = false → (∃ (x154 : Sl) (x155 : Sl) (x156 : ByteArray) (x157 : ByteArray) (x158 : Int) (x159 : Sl) (x160 : Sl), cells H147 y109 [(Sl.v x154), (Sl.v x155), (.string x156), (.string x157), (.int .i64 x158), (Sl.v x159), (Sl.v x160)] 0 ∧ (
 F14 2 S_b y107 S_x H147 (fun (r163 : Int) (r164 : Int) (r165 : Int) (r166 : Int) (r167 : ByteArray) (r168 : Bool) (r169 : ByteArray) (r170 : Int) (r171 : ByteArray) (r172 : Sl) (H161 : Hp) => 
 cells H161 y109 [(Sl.v x154), (Sl.v x155), (.string x156), (.string x157), (.int .i64 x158), (Sl.v x159), (Sl.v x160)] 0 ∧ (
 F13 r163 r164 r165 r166 r167 r168 r169 r170 r171 r172 x154 x155 x156 x157 x158 x159 x160 y110 H161 (fun (r176 : Bool) (H174 : Hp) => 
 F4_10 Q X8 y108 y109 y110 y111 y112 y107 (!r176) H174)))))))))))) ∧
 ((decide (y107 ≤ 7)) = false → (F4_7 Q y109 H_8))
def F4_L8 (Q : Bool → Hp → Prop) (y108 : Sl) (y109 : Addr) (y110 : Int) (y111 : Int) (y112 : Int) (y107 : Int) (H_8 : Hp) : Prop :=
  ∀ X8 : Int → Hp → Prop, (∀ (y107 : Int) (H_8 : Hp), F4_L8b Q X8 y108 y109 y110 y111 y112 y107 H_8 → X8 y107 H_8) → X8 y107 H_8
def F4_1 (Q : Bool → Hp → Prop) (y32 : Sl) (y33 : Addr) (y103 : Int) (y104 : Int) (y105 : Int) (H_1 : Hp) : Prop :=
F4_L8 Q y32 y33 y103 y104 y105 6 H_1
def F4_3 (Q : Bool → Hp → Prop) (X2 : Int → Int → Int → Int → Hp → Prop) (y41 : Sl) (y42 : Addr) (y43 : Int) (y100 : Int) (y101 : Int) (y102 : Int) (H_3 : Hp) : Prop :=
X2 y100 y101 y102 (IntKind.i64.wrap (y43 + 1)) H_3
def F4_6 (Q : Bool → Hp → Prop) (X2 : Int → Int → Int → Int → Hp → Prop) (y78 : Sl) (y79 : Addr) (y80 : Int) (y81 : Int) (y82 : Int) (y83 : Int) (y86 : Bool) (H_6 : Hp) : Prop :=
(y86 = true → (∃ a94 : Addr, (y78).b = some a94 ∧ (0 : Int) ≤ y83 ∧ y83 < ((y78).n : Int) ∧ (
 ∃ x99 : Int, cell H_6 (Addr.add a94 (y83.toNat * 1)) = some (.int .i64 x99) ∧ (
 F4_3 Q X2 y78 y79 y83 y80 y81 x99 H_6)))) ∧
 (y86 = false → (F4_3 Q X2 y78 y79 y83 y80 y81 y82 H_6))
def F4_4 (Q : Bool → Hp → Prop) (X2 : Int → Int → Int → Int → Hp → Prop) (y50 : Sl) (y51 : Addr) (y52 : Int) (y53 : Int) (y54 : Int) (y77 : Int) (H_4 : Hp) : Prop :=
((decide (y54 = 0)) = true → (F4_6 Q X2 y50 y51 y52 y77 y53 y54 true H_4)) ∧
 ((decide (y54 = 0)) = false → (∃ a87 : Addr, (y50).b = some a87 ∧ (0 : Int) ≤ y54 ∧ y54 < ((y50).n : Int) ∧ (
 ∃ x92 : Int, cell H_4 (Addr.add a87 (y54.toNat * 1)) = some (.int .i64 x92) ∧ (
 F4_6 Q X2 y50 y51 y52 y77 y53 y54 (decide (y53 < x92)) H_4))))
def F4_5 (Q : Bool → Hp → Prop) (X2 : Int → Int → Int → Int → Hp → Prop) (y55 : Sl) (y56 : Addr) (y57 : Int) (y58 : Int) (y59 : Int) (y60 : Int) (y63 : Bool) (H_5 : Hp) : Prop :=
(y63 = true → (∃ a71 : Addr, (y55).b = some a71 ∧ (0 : Int) ≤ y60 ∧ y60 < ((y55).n : Int) ∧ (
 ∃ x76 : Int, cell H_5 (Addr.add a71 (y60.toNat * 1)) = some (.int .i64 x76) ∧ (
 F4_4 Q X2 y55 y56 y57 y59 y60 x76 H_5)))) ∧
 (y63 = false → (F4_4 Q X2 y55 y56 y57 y59 y60 y58 H_5))
def F4_L2b (Q : Bool → Hp → Prop) (X2 : Int → Int → Int → Int → Hp → Prop) (y38 : Sl) (y39 : Addr) (y34 : Int) (y35 : Int) (y36 : Int) (y37 : Int) (H_2 : Hp) : Prop :=
((decide (y37 < ((y38).n : Int))) = true → (∃ a44 : Addr, (y38).b = some a44 ∧ (0 : Int) ≤ y37 ∧ y37 < ((y38).n : Int) ∧ (
 ∃ x49 : Int, cell H_2 (Addr.add a44 (y37.toNat * 1)) = some (.int .i64 x49) ∧ (
 ((decide (y37 = 0)) = true → (F4_5 Q X2 y38 y39 (IntKind.i64.wrap (y34 + x49)) y35 y36 y37 true H_2)) ∧
 ((decide (y37 = 0)) = false → (∃ a64 : Addr, (y38).b = some a64 ∧ (0 : Int) ≤ y37 ∧ y37 < ((y38).n : Int) ∧ (
 ∃ x69 : Int, cell H_2 (Addr.add a64 (y37.toNat * 1)) = some (.int .i64 x69) ∧ (
 F4_5 Q X2 y38 y39 (IntKind.i64.wrap (y34 + x49)) y35 y36 y37 (decide (x69 < y35)) H_2)))))))) ∧
 ((decide (y37 < ((y38).n : Int))) = false → (F4_1 Q y38 y39 y34 y35 y36 H_2))
def F4_L2 (Q : Bool → Hp → Prop) (y38 : Sl) (y39 : Addr) (y34 : Int) (y35 : Int) (y36 : Int) (y37 : Int) (H_2 : Hp) : Prop :=
  ∀ X2 : Int → Int → Int → Int → Hp → Prop, (∀ (y34 : Int) (y35 : Int) (y36 : Int) (y37 : Int) (H_2 : Hp), F4_L2b Q X2 y38 y39 y34 y35 y36 y37 H_2 → X2 y34 y35 y36 y37 H_2) → X2 y34 y35 y36 y37 H_2
def F4 (p0 : Sl) (p1 : Int) (H : Hp) (Q : Bool → Hp → Prop) : Prop :=
F8 H (fun (r3 : Bool) (H1 : Hp) => 
 ((!r3) = true → (Q false H1)) ∧
 ((!r3) = false → (∀ H5 : Hp, H5 = Array.push H1 (.cells #[(.string S_a), (.string S_b)] 9) → (
 F10 0 1 (ByteArray.mk #[]) H5 (fun (r9 : ByteArray) (r10 : Int) (r11 : Sl) (H7 : Hp) => 
 ∀ H12 : Hp, H12 = Array.push H7 (.cells #[(.string r9), (.int .i64 r10), (Sl.v r11)] 36) → (
 F11 p0 H12 (fun (r16 : Sl) (H14 : Hp) => 
 ∀ H17 : Hp, H17 = Array.push H14 (.cells #[(Sl.v (Sl.mk (some ⟨H7.size, 0, none⟩) 1 1)), (Sl.v r16)] 49) → (
 F10 99 p1 S_n H17 (fun (r21 : ByteArray) (r22 : Int) (r23 : Sl) (H19 : Hp) => 
 F12 H19 (fun (r26 : Sl) (H24 : Hp) => 
 ∀ H27 : Hp, H27 = Array.push H24 (.cells #[(Sl.v Sl.nil), (Sl.v Sl.nil), (.string (ByteArray.mk #[])), (.string (ByteArray.mk #[])), (.int .i64 0), (Sl.v Sl.nil), (Sl.v Sl.nil)] 43) → (
 mayw H27 ⟨H24.size, 0, none⟩ 7 0 ∧ ∀ H29 : Hp, H29 = sets H27 ⟨H24.size, 0, none⟩ [(Sl.v (Sl.mk (some ⟨H1.size, 0, none⟩) 2 2)), (Sl.v (Sl.mk (some ⟨H14.size, 0, none⟩) 2 2)), (.string S_b), (.string r21), (.int .i64 r22), (Sl.v r23), (Sl.v r26)] 0 → (
 F4_L2 Q p0 ⟨H24.size, 0, none⟩ 0 0 0 0 H29))))))))))))
set_option maxRecDepth 100000 in
set_option maxHeartbeats 4000000 in
theorem walk4 {w0 : World} {p0 : Sl} {p1 : Int} {H : Hp} {Q : Bool → Hp → Prop} (h : F4 p0 p1 H Q) :
    Good Tryd.prog w0 4 #[(Sl.v p0), (.int .i64 p1)] H (fun v H => ∃ (r0 : Bool) , v = (.bool r0) ∧ Q r0 H) := by
  unfold F4 at h
  refine Good.enter' (fn := Tryd.f4) Tryd.func4 rfl rfl rfl ?_
  refine HW.seq ?_
  refine HW.region ?_
  refine HList.vals (v := (.bool false)) rfl (HVal.assign' rfl) ?_
  refine HList.nil ?_
  refine nt ?_
  refine HW.seq ?_
  refine HW.seq ?_
  refine HW.region ?_
  refine HList.ops' rfl (HOp.call' 8 [] (cap := []) rfl rfl Tryd.call8 (walk8 h)) ?_
  rintro _ H1 ⟨r3, rfl, h⟩
  refine HList.vals (v := (.bool (!r3))) rfl (HVal.not rfl) ?_
  refine HList.nil ?_
  refine nt ?_
  obtain ⟨hT, hF⟩ := h
  refine HW.cond (!r3) rfl (fun hb4 => ?_) (fun hb4 => ?_)
  · have h := hT hb4
    clear hT hF
    refine HW.seq ?_
    refine HW.region ?_
    refine HList.vals (v := (.bool false)) rfl (HVal.assign' rfl) ?_
    refine HList.nil ?_
    refine nt ?_
    refine HW.ret ?_
    refine tr ?_
    exact ⟨_, resOf1 rfl Res1.t, ⟨false, rfl, h⟩⟩
  · have h := hF hb4
    clear hT hF
    refine HW.skip ?_
    refine nt ?_
    refine HW.seq ?_
    refine HW.region ?_
    refine HList.ops' rfl (HOp.buildSlice' (zs := [(.string (ByteArray.mk #[])), (.string (ByteArray.mk #[]))]) (cs := [(.string S_a), (.string S_b)]) Tryd.runUnderlying29 Tryd.sizeOf9 Tryd.zeroValue9 (by decide) (by kernel_rfl) rfl (by decide)) ?_
    rintro _ H5 ⟨rfl, e6⟩
    replace h := h H5 e6
    refine HList.ops' rfl (HOp.call' 10 [(.int .i64 0), (.int .i64 1), (.string (ByteArray.mk #[]))] (cap := []) rfl rfl Tryd.call10 (walk10 h)) ?_
    rintro _ H7 ⟨r9, r10, r11, rfl, h⟩
    refine HList.ops' rfl (HOp.buildSlice' (zs := [(.string (ByteArray.mk #[])), (.int .i64 0), (Sl.v Sl.nil)]) (cs := [(.string r9), (.int .i64 r10), (Sl.v r11)]) Tryd.runUnderlying49 Tryd.sizeOf36 Tryd.zeroValue36 (by decide) (by kernel_rfl) rfl (by decide)) ?_
    rintro _ H12 ⟨rfl, e13⟩
    replace h := h H12 e13
    refine HList.vals (v := (Sl.v p0)) rfl (HVal.move' rfl) ?_
    refine HList.ops' rfl (HOp.call' 11 [(Sl.v p0)] (cap := []) rfl rfl Tryd.call11 (walk11 h)) ?_
    rintro _ H14 ⟨r16, rfl, h⟩
    refine HList.ops' rfl (HOp.buildSlice' (zs := [(Sl.v Sl.nil), (Sl.v Sl.nil)]) (cs := [(Sl.v (Sl.mk (some ⟨H7.size, 0, none⟩) 1 1)), (Sl.v r16)]) Tryd.runUnderlying27 Tryd.sizeOf49 Tryd.zeroValue49 (by decide) (by kernel_rfl) rfl (by decide)) ?_
    rintro _ H17 ⟨rfl, e18⟩
    replace h := h H17 e18
    refine HList.vals (v := (.int .i64 p1)) rfl (HVal.move' rfl) ?_
    refine HList.ops' rfl (HOp.call' 10 [(.int .i64 99), (.int .i64 p1), (.string S_n)] (cap := []) rfl rfl Tryd.call10 (walk10 h)) ?_
    rintro _ H19 ⟨r21, r22, r23, rfl, h⟩
    refine HList.ops' rfl (HOp.call' 12 [] (cap := []) rfl rfl Tryd.call12 (walk12 h)) ?_
    rintro _ H24 ⟨r26, rfl, h⟩
    refine HList.vals (v := (.agg #[(Sl.v (Sl.mk (some ⟨H1.size, 0, none⟩) 2 2)), (Sl.v (Sl.mk (some ⟨H14.size, 0, none⟩) 2 2)), (.string S_b), (.string r21), (.int .i64 r22), (Sl.v r23), (Sl.v r26)])) rfl (HVal.build' (cs := [(Sl.v (Sl.mk (some ⟨H1.size, 0, none⟩) 2 2)), (Sl.v (Sl.mk (some ⟨H14.size, 0, none⟩) 2 2)), (.string S_b), (.string r21), (.int .i64 r22), (Sl.v r23), (Sl.v r26)]) Tryd.runUnderlying43 Tryd.zeroValue43 places43 (by kernel_rfl)) ?_
    refine HList.ops' rfl (HOp.alloc Tryd.zeroValue43) ?_
    rintro _ H27 ⟨rfl, e28⟩
    replace h := h H27 e28
    obtain ⟨z31, h⟩ := h
    refine HList.opsn (HOp.storeN' (l := [(Sl.v (Sl.mk (some ⟨H1.size, 0, none⟩) 2 2)), (Sl.v (Sl.mk (some ⟨H14.size, 0, none⟩) 2 2)), (.string S_b), (.string r21), (.int .i64 r22), (Sl.v r23), (Sl.v r26)]) Tryd.sizeOf43 rfl rfl rfl z31) ?_
    rintro _ H29 e30
    replace h := h H29 e30
    refine HList.nil ?_
    refine nt ?_
    refine HW.seq ?_
    refine HW.region ?_
    refine HList.vals (v := (.int .i64 0)) rfl (HVal.assign' rfl) ?_
    refine HList.vals (v := (.int .i64 0)) rfl (HVal.assign' rfl) ?_
    refine HList.vals (v := (.int .i64 0)) rfl (HVal.assign' rfl) ?_
    refine HList.nil ?_
    refine nt ?_
    refine HW.cut (fun ρ H_1 => ∃ (y103 : Int) (y104 : Int) (y105 : Int), Env.Is ρ [(0, (Sl.v p0)), (5, (.pointer (some ⟨H24.size, 0, none⟩))), (6, (.int .i64 y103)), (7, (.int .i64 y104)), (8, (.int .i64 y105))] ∧ F4_1 Q p0 ⟨H24.size, 0, none⟩ y103 y104 y105 H_1) ?_ ?_
    · refine HW.seq ?_
      refine HW.region ?_
      refine HList.vals (v := (.int .i64 0)) rfl (HVal.assign' rfl) ?_
      refine HList.nil ?_
      refine nt ?_
      refine HW.block ?_
      refine HW.loop' (fun L2 hL2 => ?_)
      obtain ⟨X2, hX2⟩ : ∃ X2 : Int → Int → Int → Int → Hp → Prop, ∀ (y34 : Int) (y35 : Int) (y36 : Int) (y37 : Int) (H_2 : Hp), X2 y34 y35 y36 y37 H_2 ↔ ∀ ρ, Env.Is ρ [(0, (Sl.v p0)), (5, (.pointer (some ⟨H24.size, 0, none⟩))), (6, (.int .i64 y34)), (7, (.int .i64 y35)), (8, (.int .i64 y36)), (9, (.int .i64 y37))] → L2 ρ H_2 := ⟨_, fun _ _ _ _ _ => Iff.rfl⟩
      refine (hX2 _ _ _ _ _).1 (h X2 ?_) _ ?_
      rotate_left
      · exact ⟨rfl, rfl, rfl, rfl, rfl, rfl, trivial⟩
      clear h
      intro y34 y35 y36 y37 H_2 h
      refine (hX2 _ _ _ _ _).2 fun ρ hI => ?_
      obtain ⟨ρ0, rfl⟩ : ∃ ρ0, ρ = (Env.set (Env.set (Env.set (Env.set (Env.set (Env.set ρ0 9 (.int .i64 y37)) 8 (.int .i64 y36)) 7 (.int .i64 y35)) 6 (.int .i64 y34)) 5 (.pointer (some ⟨H24.size, 0, none⟩))) 0 (Sl.v p0)) := ⟨ρ, hI.eq⟩
      clear hI; unfold F4_L2b at h; refine hL2 _ _ ?_
      refine HW.seq ?_
      refine HW.seq ?_
      refine HW.region ?_
      refine HList.vals (v := (.int .i64 y37)) rfl (HVal.move' rfl) ?_
      refine HList.vals (v := (Sl.v p0)) rfl (HVal.move' rfl) ?_
      refine HList.vals (v := (.int .i64 ((p0).n : Int))) rfl (HVal.len Tryd.runUnderlying47 rfl) ?_
      refine HList.vals (v := (.bool (decide (y37 < ((p0).n : Int))))) rfl (HVal.lss rfl rfl) ?_
      refine HList.nil ?_
      refine nt ?_
      obtain ⟨hT, hF⟩ := h
      refine HW.cond (decide (y37 < ((p0).n : Int))) rfl (fun hb40 => ?_) (fun hb40 => ?_)
      · have h := hT hb40
        clear hT hF
        refine HW.skip ?_
        refine nt ?_
        refine HW.cut (fun ρ H_3 => ∃ (y100 : Int) (y101 : Int) (y102 : Int), Env.Is ρ [(0, (Sl.v p0)), (5, (.pointer (some ⟨H24.size, 0, none⟩))), (9, (.int .i64 y37)), (6, (.int .i64 y100)), (7, (.int .i64 y101)), (8, (.int .i64 y102))] ∧ F4_3 Q X2 p0 ⟨H24.size, 0, none⟩ y37 y100 y101 y102 H_3) ?_ ?_
        · refine HW.block ?_
          refine HW.seq ?_
          refine HW.region ?_
          refine HList.vals (v := (.int .i64 y34)) rfl (HVal.move' rfl) ?_
          refine HList.vals (v := (Sl.v p0)) rfl (HVal.move' rfl) ?_
          refine HList.vals (v := (.int .i64 y37)) rfl (HVal.move' rfl) ?_
          obtain ⟨a44, e45, b46, b47, h⟩ := h
          refine HList.vals (v := (.pointer (some (Addr.add a44 (y37.toNat * 1))))) rfl (HVal.indexAddr Tryd.runUnderlying47 Tryd.sizeOf2 (Sl.v_some rfl e45) rfl b46 b47) ?_
          obtain ⟨x49, c48, h⟩ := h
          refine HList.vals (v := (.int .i64 x49)) rfl (HVal.load1 Tryd.isAgg2 rfl c48) ?_
          refine HList.vals (v := (.int .i64 (IntKind.i64.wrap (y34 + x49)))) rfl (HVal.add rfl rfl) ?_
          refine HList.vals (v := (.int .i64 (IntKind.i64.wrap (y34 + x49)))) rfl (HVal.assign' rfl) ?_
          refine HList.nil ?_
          refine nt ?_
          refine HW.cut (fun ρ H_4 => ∃ (y77 : Int), Env.Is ρ [(0, (Sl.v p0)), (5, (.pointer (some ⟨H24.size, 0, none⟩))), (6, (.int .i64 (IntKind.i64.wrap (y34 + x49)))), (8, (.int .i64 y36)), (9, (.int .i64 y37)), (7, (.int .i64 y77))] ∧ F4_4 Q X2 p0 ⟨H24.size, 0, none⟩ (IntKind.i64.wrap (y34 + x49)) y36 y37 y77 H_4) ?_ ?_
          · refine HW.cut (fun ρ H_5 => ∃ (y63 : Bool), Env.Is ρ [(0, (Sl.v p0)), (5, (.pointer (some ⟨H24.size, 0, none⟩))), (6, (.int .i64 (IntKind.i64.wrap (y34 + x49)))), (7, (.int .i64 y35)), (8, (.int .i64 y36)), (9, (.int .i64 y37)), (44, (.bool y63))] ∧ F4_5 Q X2 p0 ⟨H24.size, 0, none⟩ (IntKind.i64.wrap (y34 + x49)) y35 y36 y37 y63 H_5) ?_ ?_
            · refine HW.region ?_
              refine HList.vals (v := (.int .i64 y37)) rfl (HVal.move' rfl) ?_
              refine HList.vals (v := (.bool (decide (y37 = 0)))) rfl (HVal.eqlI rfl rfl) ?_
              refine HList.vals (v := (.bool (decide (y37 = 0)))) rfl (HVal.move' rfl) ?_
              obtain ⟨hT, hF⟩ := h
              rcases Bool.eq_false_or_eq_true (decide (y37 = 0)) with hb61 | hb62
              · have h := hT hb61
                clear hT hF
                refine HList.gskips rfl rfl rfl rfl (congrArg Value.bool hb61) ?_
                refine HList.gskips rfl rfl rfl rfl (congrArg Value.bool hb61) ?_
                refine HList.gskips rfl rfl rfl rfl (congrArg Value.bool hb61) ?_
                refine HList.gskips rfl rfl rfl rfl (congrArg Value.bool hb61) ?_
                refine HList.gskips rfl rfl rfl rfl (congrArg Value.bool hb61) ?_
                refine HList.gskips rfl rfl rfl rfl (congrArg Value.bool hb61) ?_
                refine HList.vals (v := (.bool true)) rfl (HVal.pickT rfl hb61 rfl) ?_
                refine HList.nil ?_
                refine nt ?_
                exact ⟨true, ⟨rfl, rfl, rfl, rfl, rfl, rfl, rfl, trivial⟩, h⟩
              · have h := hF hb62
                clear hT hF
                refine HList.gvals (v := (Sl.v p0)) rfl rfl rfl rfl (congrArg Value.bool hb62) (HVal.move' rfl) ?_
                refine HList.gvals (v := (.int .i64 y37)) rfl rfl rfl rfl (congrArg Value.bool hb62) (HVal.move' rfl) ?_
                obtain ⟨a64, e65, b66, b67, h⟩ := h
                refine HList.gvals (v := (.pointer (some (Addr.add a64 (y37.toNat * 1))))) rfl rfl rfl rfl (congrArg Value.bool hb62) (HVal.indexAddr Tryd.runUnderlying47 Tryd.sizeOf2 (Sl.v_some rfl e65) rfl b66 b67) ?_
                obtain ⟨x69, c68, h⟩ := h
                refine HList.gvals (v := (.int .i64 x69)) rfl rfl rfl rfl (congrArg Value.bool hb62) (HVal.load1 Tryd.isAgg2 rfl c68) ?_
                refine HList.gvals (v := (.int .i64 y35)) rfl rfl rfl rfl (congrArg Value.bool hb62) (HVal.move' rfl) ?_
                refine HList.gvals (v := (.bool (decide (x69 < y35)))) rfl rfl rfl rfl (congrArg Value.bool hb62) (HVal.lss rfl rfl) ?_
                refine HList.vals (v := (.bool (decide (x69 < y35)))) rfl (HVal.pickF rfl hb62 rfl) ?_
                refine HList.nil ?_
                refine nt ?_
                exact ⟨(decide (x69 < y35)), ⟨rfl, rfl, rfl, rfl, rfl, rfl, rfl, trivial⟩, h⟩
            · rintro ρ H_5 ⟨y63, hI, h⟩
              obtain ⟨ρ0, rfl⟩ : ∃ ρ0, ρ = (Env.set (Env.set (Env.set (Env.set (Env.set (Env.set (Env.set ρ0 44 (.bool y63)) 9 (.int .i64 y37)) 8 (.int .i64 y36)) 7 (.int .i64 y35)) 6 (.int .i64 (IntKind.i64.wrap (y34 + x49)))) 5 (.pointer (some ⟨H24.size, 0, none⟩))) 0 (Sl.v p0)) := ⟨ρ, hI.eq⟩
              clear hI; unfold F4_5 at h
              obtain ⟨hT, hF⟩ := h
              refine HW.cond y63 rfl (fun hb70 => ?_) (fun hb70 => ?_)
              · have h := hT hb70
                clear hT hF
                refine HW.region ?_
                refine HList.vals (v := (Sl.v p0)) rfl (HVal.move' rfl) ?_
                refine HList.vals (v := (.int .i64 y37)) rfl (HVal.move' rfl) ?_
                obtain ⟨a71, e72, b73, b74, h⟩ := h
                refine HList.vals (v := (.pointer (some (Addr.add a71 (y37.toNat * 1))))) rfl (HVal.indexAddr Tryd.runUnderlying47 Tryd.sizeOf2 (Sl.v_some rfl e72) rfl b73 b74) ?_
                obtain ⟨x76, c75, h⟩ := h
                refine HList.vals (v := (.int .i64 x76)) rfl (HVal.load1 Tryd.isAgg2 rfl c75) ?_
                refine HList.vals (v := (.int .i64 x76)) rfl (HVal.assign' rfl) ?_
                refine HList.nil ?_
                refine nt ?_
                exact ⟨x76, ⟨rfl, rfl, rfl, rfl, rfl, rfl, trivial⟩, h⟩
              · have h := hF hb70
                clear hT hF
                refine HW.skip ?_
                refine nt ?_
                exact ⟨y35, ⟨rfl, rfl, rfl, rfl, rfl, rfl, trivial⟩, h⟩
          · rintro ρ H_4 ⟨y77, hI, h⟩
            obtain ⟨ρ0, rfl⟩ : ∃ ρ0, ρ = (Env.set (Env.set (Env.set (Env.set (Env.set (Env.set ρ0 7 (.int .i64 y77)) 9 (.int .i64 y37)) 8 (.int .i64 y36)) 6 (.int .i64 (IntKind.i64.wrap (y34 + x49)))) 5 (.pointer (some ⟨H24.size, 0, none⟩))) 0 (Sl.v p0)) := ⟨ρ, hI.eq⟩
            clear hI; unfold F4_4 at h
            refine HW.cut (fun ρ H_6 => ∃ (y86 : Bool), Env.Is ρ [(0, (Sl.v p0)), (5, (.pointer (some ⟨H24.size, 0, none⟩))), (6, (.int .i64 (IntKind.i64.wrap (y34 + x49)))), (7, (.int .i64 y77)), (8, (.int .i64 y36)), (9, (.int .i64 y37)), (58, (.bool y86))] ∧ F4_6 Q X2 p0 ⟨H24.size, 0, none⟩ (IntKind.i64.wrap (y34 + x49)) y77 y36 y37 y86 H_6) ?_ ?_
            · refine HW.region ?_
              refine HList.vals (v := (.int .i64 y37)) rfl (HVal.move' rfl) ?_
              refine HList.vals (v := (.bool (decide (y37 = 0)))) rfl (HVal.eqlI rfl rfl) ?_
              refine HList.vals (v := (.bool (decide (y37 = 0)))) rfl (HVal.move' rfl) ?_
              obtain ⟨hT, hF⟩ := h
              rcases Bool.eq_false_or_eq_true (decide (y37 = 0)) with hb84 | hb85
              · have h := hT hb84
                clear hT hF
                refine HList.gskips rfl rfl rfl rfl (congrArg Value.bool hb84) ?_
                refine HList.gskips rfl rfl rfl rfl (congrArg Value.bool hb84) ?_
                refine HList.gskips rfl rfl rfl rfl (congrArg Value.bool hb84) ?_
                refine HList.gskips rfl rfl rfl rfl (congrArg Value.bool hb84) ?_
                refine HList.gskips rfl rfl rfl rfl (congrArg Value.bool hb84) ?_
                refine HList.gskips rfl rfl rfl rfl (congrArg Value.bool hb84) ?_
                refine HList.vals (v := (.bool true)) rfl (HVal.pickT rfl hb84 rfl) ?_
                refine HList.nil ?_
                refine nt ?_
                exact ⟨true, ⟨rfl, rfl, rfl, rfl, rfl, rfl, rfl, trivial⟩, h⟩
              · have h := hF hb85
                clear hT hF
                refine HList.gvals (v := (Sl.v p0)) rfl rfl rfl rfl (congrArg Value.bool hb85) (HVal.move' rfl) ?_
                refine HList.gvals (v := (.int .i64 y37)) rfl rfl rfl rfl (congrArg Value.bool hb85) (HVal.move' rfl) ?_
                obtain ⟨a87, e88, b89, b90, h⟩ := h
                refine HList.gvals (v := (.pointer (some (Addr.add a87 (y37.toNat * 1))))) rfl rfl rfl rfl (congrArg Value.bool hb85) (HVal.indexAddr Tryd.runUnderlying47 Tryd.sizeOf2 (Sl.v_some rfl e88) rfl b89 b90) ?_
                obtain ⟨x92, c91, h⟩ := h
                refine HList.gvals (v := (.int .i64 x92)) rfl rfl rfl rfl (congrArg Value.bool hb85) (HVal.load1 Tryd.isAgg2 rfl c91) ?_
                refine HList.gvals (v := (.int .i64 y36)) rfl rfl rfl rfl (congrArg Value.bool hb85) (HVal.move' rfl) ?_
                refine HList.gvals (v := (.bool (decide (y36 < x92)))) rfl rfl rfl rfl (congrArg Value.bool hb85) (HVal.gtr rfl rfl) ?_
                refine HList.vals (v := (.bool (decide (y36 < x92)))) rfl (HVal.pickF rfl hb85 rfl) ?_
                refine HList.nil ?_
                refine nt ?_
                exact ⟨(decide (y36 < x92)), ⟨rfl, rfl, rfl, rfl, rfl, rfl, rfl, trivial⟩, h⟩
            · rintro ρ H_6 ⟨y86, hI, h⟩
              obtain ⟨ρ0, rfl⟩ : ∃ ρ0, ρ = (Env.set (Env.set (Env.set (Env.set (Env.set (Env.set (Env.set ρ0 58 (.bool y86)) 9 (.int .i64 y37)) 8 (.int .i64 y36)) 7 (.int .i64 y77)) 6 (.int .i64 (IntKind.i64.wrap (y34 + x49)))) 5 (.pointer (some ⟨H24.size, 0, none⟩))) 0 (Sl.v p0)) := ⟨ρ, hI.eq⟩
              clear hI; unfold F4_6 at h
              obtain ⟨hT, hF⟩ := h
              refine HW.cond y86 rfl (fun hb93 => ?_) (fun hb93 => ?_)
              · have h := hT hb93
                clear hT hF
                refine HW.region ?_
                refine HList.vals (v := (Sl.v p0)) rfl (HVal.move' rfl) ?_
                refine HList.vals (v := (.int .i64 y37)) rfl (HVal.move' rfl) ?_
                obtain ⟨a94, e95, b96, b97, h⟩ := h
                refine HList.vals (v := (.pointer (some (Addr.add a94 (y37.toNat * 1))))) rfl (HVal.indexAddr Tryd.runUnderlying47 Tryd.sizeOf2 (Sl.v_some rfl e95) rfl b96 b97) ?_
                obtain ⟨x99, c98, h⟩ := h
                refine HList.vals (v := (.int .i64 x99)) rfl (HVal.load1 Tryd.isAgg2 rfl c98) ?_
                refine HList.vals (v := (.int .i64 x99)) rfl (HVal.assign' rfl) ?_
                refine HList.nil ?_
                refine nb ?_
                refine nt ?_
                exact ⟨(IntKind.i64.wrap (y34 + x49)), y77, x99, ⟨rfl, rfl, rfl, rfl, rfl, rfl, trivial⟩, h⟩
              · have h := hF hb93
                clear hT hF
                refine HW.skip ?_
                refine nb ?_
                refine nt ?_
                exact ⟨(IntKind.i64.wrap (y34 + x49)), y77, y36, ⟨rfl, rfl, rfl, rfl, rfl, rfl, trivial⟩, h⟩
        · rintro ρ H_3 ⟨y100, y101, y102, hI, h⟩
          obtain ⟨ρ0, rfl⟩ : ∃ ρ0, ρ = (Env.set (Env.set (Env.set (Env.set (Env.set (Env.set ρ0 8 (.int .i64 y102)) 7 (.int .i64 y101)) 6 (.int .i64 y100)) 9 (.int .i64 y37)) 5 (.pointer (some ⟨H24.size, 0, none⟩))) 0 (Sl.v p0)) := ⟨ρ, hI.eq⟩
          clear hI; unfold F4_3 at h
          refine HW.region ?_
          refine HList.vals (v := (.int .i64 y37)) rfl (HVal.move' rfl) ?_
          refine HList.vals (v := (.int .i64 (IntKind.i64.wrap (y37 + 1)))) rfl (HVal.add rfl rfl) ?_
          refine HList.vals (v := (.int .i64 (IntKind.i64.wrap (y37 + 1)))) rfl (HVal.assign' rfl) ?_
          refine HList.nil ?_
          refine nt ?_
          exact (hX2 _ _ _ _ _).1 h _ ⟨rfl, rfl, rfl, rfl, rfl, rfl, trivial⟩
      · have h := hF hb40
        clear hT hF
        refine HW.exit ?_
        refine te ?_
        refine te ?_
        refine be ?_
        refine nt ?_
        exact ⟨y34, y35, y36, ⟨rfl, rfl, rfl, rfl, rfl, trivial⟩, h⟩
    · rintro ρ H_1 ⟨y103, y104, y105, hI, h⟩
      obtain ⟨ρ0, rfl⟩ : ∃ ρ0, ρ = (Env.set (Env.set (Env.set (Env.set (Env.set ρ0 8 (.int .i64 y105)) 7 (.int .i64 y104)) 6 (.int .i64 y103)) 5 (.pointer (some ⟨H24.size, 0, none⟩))) 0 (Sl.v p0)) := ⟨ρ, hI.eq⟩
      clear hI; unfold F4_1 at h
      refine HW.cut (fun ρ H_7 => Env.Is ρ [(5, (.pointer (some ⟨H24.size, 0, none⟩)))] ∧ F4_7 Q ⟨H24.size, 0, none⟩ H_7) ?_ ?_
      · refine HW.seq ?_
        refine HW.region ?_
        refine HList.vals (v := (.int .i64 6)) rfl (HVal.assign' rfl) ?_
        refine HList.nil ?_
        refine nt ?_
        refine HW.block ?_
        refine HW.loop' (fun L8 hL8 => ?_)
        obtain ⟨X8, hX8⟩ : ∃ X8 : Int → Hp → Prop, ∀ (y107 : Int) (H_8 : Hp), X8 y107 H_8 ↔ ∀ ρ, Env.Is ρ [(0, (Sl.v p0)), (5, (.pointer (some ⟨H24.size, 0, none⟩))), (6, (.int .i64 y103)), (7, (.int .i64 y104)), (8, (.int .i64 y105)), (10, (.int .i64 y107))] → L8 ρ H_8 := ⟨_, fun _ _ => Iff.rfl⟩
        refine (hX8 _ _).1 (h X8 ?_) _ ?_
        rotate_left
        · exact ⟨rfl, rfl, rfl, rfl, rfl, rfl, trivial⟩
        clear h
        intro y107 H_8 h
        refine (hX8 _ _).2 fun ρ hI => ?_
        obtain ⟨ρ0, rfl⟩ : ∃ ρ0, ρ = (Env.set (Env.set (Env.set (Env.set (Env.set (Env.set ρ0 10 (.int .i64 y107)) 8 (.int .i64 y105)) 7 (.int .i64 y104)) 6 (.int .i64 y103)) 5 (.pointer (some ⟨H24.size, 0, none⟩))) 0 (Sl.v p0)) := ⟨ρ, hI.eq⟩
        clear hI; unfold F4_L8b at h; refine hL8 _ _ ?_
        refine HW.seq ?_
        refine HW.seq ?_
        refine HW.region ?_
        refine HList.vals (v := (.int .i64 y107)) rfl (HVal.move' rfl) ?_
        refine HList.vals (v := (.bool (decide (y107 ≤ 7)))) rfl (HVal.leq rfl rfl) ?_
        refine HList.nil ?_
        refine nt ?_
        obtain ⟨hT, hF⟩ := h
        refine HW.cond (decide (y107 ≤ 7)) rfl (fun hb113 => ?_) (fun hb113 => ?_)
        · have h := hT hb113
          clear hT hF
          refine HW.skip ?_
          refine nt ?_
          refine HW.cut (fun ρ H_9 => Env.Is ρ [(0, (Sl.v p0)), (5, (.pointer (some ⟨H24.size, 0, none⟩))), (6, (.int .i64 y103)), (7, (.int .i64 y104)), (8, (.int .i64 y105)), (10, (.int .i64 y107))] ∧ F4_9 Q X8 p0 ⟨H24.size, 0, none⟩ y103 y104 y105 y107 H_9) ?_ ?_
          · refine HW.block ?_
            refine HW.seq ?_
            refine HW.cut (fun ρ H_10 => ∃ (y152 : Bool), Env.Is ρ [(0, (Sl.v p0)), (5, (.pointer (some ⟨H24.size, 0, none⟩))), (6, (.int .i64 y103)), (7, (.int .i64 y104)), (8, (.int .i64 y105)), (10, (.int .i64 y107)), (81, (.bool y152))] ∧ F4_10 Q X8 p0 ⟨H24.size, 0, none⟩ y103 y104 y105 y107 y152 H_10) ?_ ?_
            · refine HW.draw mixed [(0, some []), (2, some [5]), (3, some []), (4, some []), (1, none), (5, none), (6, some []), (7, some []), (8, some []), (10, some [12]), (11, some []), (9, none), (12, none), (13, some []), (14, some [])] rfl (by kernel_rfl) (by kernel_rfl) ?_
              refine HPlan.takev (v := (.int .i64 y107)) rfl rfl (fun _ => HVal.move' rfl) ?_
              obtain ⟨x127, x128, x129, x130, x131, x132, x133, c126, h⟩ := h
              refine HPlan.takel (v := (.agg #[(Sl.v x127), (Sl.v x128), (.string x129), (.string x130), (.int .i64 x131), (Sl.v x132), (Sl.v x133)])) (fun X => cells X ⟨H24.size, 0, none⟩ [(Sl.v x127), (Sl.v x128), (.string x129), (.string x130), (.int .i64 x131), (Sl.v x132), (Sl.v x133)] 0) rfl rfl (fun _ hX => HVal.loadN [(Sl.v x127), (Sl.v x128), (.string x129), (.string x130), (.int .i64 x131), (Sl.v x132), (Sl.v x133)] Tryd.isAgg43 Tryd.sizeOf43 rfl hX) c126 ?_
              refine HPlan.takev (v := (Sl.v p0)) rfl rfl (fun _ => HVal.move' rfl) ?_
              refine HPlan.takev (v := (.int .i64 ((p0).n : Int))) rfl rfl (fun _ => HVal.len Tryd.runUnderlying47 rfl) ?_
              refine HPlan.ops' rfl rfl (HOp.call' 14 [(.int .i64 1), (.string S_b), (.int .i64 y107), (.string (ByteArray.mk #[]))] (cap := []) rfl rfl Tryd.call14 (walk14 h)) ?_
              rintro _ H134 ⟨r136, r137, r138, r139, r140, r141, r142, r143, r144, r145, rfl, h⟩
              obtain ⟨s146, h⟩ := h
              refine ⟨SC_of ⟨fun _ => s146, trivial⟩, ?_⟩
              refine HPlan.ops' rfl rfl (HOp.call' 13 [(.agg #[(.int .i64 r136), (.int .i64 r137), (.int .i64 r138), (.int .i64 r139), (.string r140), (.bool r141), (.string r142), (.int .i64 r143), (.string r144), (Sl.v r145)]), (.agg #[(Sl.v x127), (Sl.v x128), (.string x129), (.string x130), (.int .i64 x131), (Sl.v x132), (Sl.v x133)]), (.int .i64 ((p0).n : Int))] (cap := []) rfl rfl Tryd.call13 (walk13 h)) ?_
              rintro _ H147 ⟨r149, rfl, h⟩
              refine ⟨SC_of ⟨fun e => absurd e (by decide), trivial⟩, ?_⟩
              refine HPlan.takev (v := (.bool (!r149))) rfl rfl (fun _ => HVal.not rfl) ?_
              refine HPlan.takev (v := (.bool (!r149))) rfl rfl (fun _ => HVal.move' rfl) ?_
              obtain ⟨hT, hF⟩ := h
              rcases Bool.eq_false_or_eq_true (!r149) with hb150 | hb151
              · have h := hT hb150
                clear hT hF
                refine HPlan.takegskip rfl rfl rfl rfl (congrArg Value.bool hb150) ?_
                refine HPlan.takegskip rfl rfl rfl rfl (congrArg Value.bool hb150) ?_
                refine HPlan.takegskip rfl rfl rfl rfl (congrArg Value.bool hb150) ?_
                refine HPlan.opgskip rfl rfl rfl rfl (congrArg Value.bool hb150) ?_
                refine HPlan.opgskip rfl rfl rfl rfl (congrArg Value.bool hb150) ?_
                refine HPlan.takegskip rfl rfl rfl rfl (congrArg Value.bool hb150) ?_
                refine HPlan.takev (v := (.bool true)) rfl rfl (fun _ => HVal.pickT rfl hb150 rfl) ?_
                refine HPlan.done ?_
                refine nt ?_
                exact ⟨true, ⟨rfl, rfl, rfl, rfl, rfl, rfl, rfl, trivial⟩, h⟩
              · have h := hF hb151
                clear hT hF
                refine HPlan.gtakev (v := (.int .i64 y107)) rfl rfl rfl rfl rfl (congrArg Value.bool hb151) (fun _ => HVal.move' rfl) ?_
                obtain ⟨x154, x155, x156, x157, x158, x159, x160, c153, h⟩ := h
                refine HPlan.gtakel (v := (.agg #[(Sl.v x154), (Sl.v x155), (.string x156), (.string x157), (.int .i64 x158), (Sl.v x159), (Sl.v x160)])) (fun X => cells X ⟨H24.size, 0, none⟩ [(Sl.v x154), (Sl.v x155), (.string x156), (.string x157), (.int .i64 x158), (Sl.v x159), (Sl.v x160)] 0) rfl rfl rfl rfl rfl (congrArg Value.bool hb151) (fun _ hX => HVal.loadN [(Sl.v x154), (Sl.v x155), (.string x156), (.string x157), (.int .i64 x158), (Sl.v x159), (Sl.v x160)] Tryd.isAgg43 Tryd.sizeOf43 rfl hX) c153 ?_
                refine HPlan.gtakev (v := (.int .i64 y103)) rfl rfl rfl rfl rfl (congrArg Value.bool hb151) (fun _ => HVal.move' rfl) ?_
                refine HPlan.gops rfl rfl rfl rfl rfl (congrArg Value.bool hb151) (HOp.call' 14 [(.int .i64 2), (.string S_b), (.int .i64 y107), (.string S_x)] (cap := []) rfl rfl Tryd.call14 (walk14 h)) ?_
                rintro _ H161 ⟨r163, r164, r165, r166, r167, r168, r169, r170, r171, r172, rfl, h⟩
                obtain ⟨s173, h⟩ := h
                refine ⟨SC_of ⟨fun _ => s173, fun e => absurd e (by decide), trivial⟩, ?_⟩
                refine HPlan.gops rfl rfl rfl rfl rfl (congrArg Value.bool hb151) (HOp.call' 13 [(.agg #[(.int .i64 r163), (.int .i64 r164), (.int .i64 r165), (.int .i64 r166), (.string r167), (.bool r168), (.string r169), (.int .i64 r170), (.string r171), (Sl.v r172)]), (.agg #[(Sl.v x154), (Sl.v x155), (.string x156), (.string x157), (.int .i64 x158), (Sl.v x159), (Sl.v x160)]), (.int .i64 y103)] (cap := []) rfl rfl Tryd.call13 (walk13 h)) ?_
                rintro _ H174 ⟨r176, rfl, h⟩
                refine ⟨SC_of ⟨fun e => absurd e (by decide), fun e => absurd e (by decide), trivial⟩, ?_⟩
                refine HPlan.gtakev (v := (.bool (!r176))) rfl rfl rfl rfl rfl (congrArg Value.bool hb151) (fun _ => HVal.not rfl) ?_
                refine HPlan.takev (v := (.bool (!r176))) rfl rfl (fun _ => HVal.pickF rfl hb151 rfl) ?_
                refine HPlan.done ?_
                refine nt ?_
                exact ⟨(!r176), ⟨rfl, rfl, rfl, rfl, rfl, rfl, rfl, trivial⟩, h⟩
            · rintro ρ H_10 ⟨y152, hI, h⟩
              obtain ⟨ρ0, rfl⟩ : ∃ ρ0, ρ = (Env.set (Env.set (Env.set (Env.set (Env.set (Env.set (Env.set ρ0 81 (.bool y152)) 10 (.int .i64 y107)) 8 (.int .i64 y105)) 7 (.int .i64 y104)) 6 (.int .i64 y103)) 5 (.pointer (some ⟨H24.size, 0, none⟩))) 0 (Sl.v p0)) := ⟨ρ, hI.eq⟩
              clear hI; unfold F4_10 at h
              obtain ⟨hT, hF⟩ := h
              refine HW.cond y152 rfl (fun hb177 => ?_) (fun hb177 => ?_)
              · have h := hT hb177
                clear hT hF
                refine HW.seq ?_
                refine HW.region ?_
                refine HList.vals (v := (.bool false)) rfl (HVal.assign' rfl) ?_
                refine HList.nil ?_
                refine nt ?_
                refine HW.ret ?_
                refine tr ?_
                refine br ?_
                refine tr ?_
                refine tr ?_
                refine br ?_
                refine tr ?_
                exact ⟨_, resOf1 rfl Res1.t, ⟨false, rfl, h⟩⟩
              · have h := hF hb177
                clear hT hF
                refine HW.skip ?_
                refine nt ?_
                refine HW.seq ?_
                refine HW.seq ?_
                refine HW.region ?_
                refine HList.vals (v := (Sl.v p0)) rfl (HVal.move' rfl) ?_
                refine HList.vals (v := (.int .i64 ((p0).n : Int))) rfl (HVal.len Tryd.runUnderlying47 rfl) ?_
                refine HList.vals (v := (.bool (decide (((p0).n : Int) = 0)))) rfl (HVal.eqlI rfl rfl) ?_
                refine HList.nil ?_
                refine nt ?_
                obtain ⟨hT, hF⟩ := h
                refine HW.cond (decide (((p0).n : Int) = 0)) rfl (fun hb178 => ?_) (fun hb178 => ?_)
                · have h := hT hb178
                  clear hT hF
                  refine HW.seq ?_
                  refine HW.cut (fun ρ H_11 => ∃ (y211 : Bool), Env.Is ρ [(0, (Sl.v p0)), (5, (.pointer (some ⟨H24.size, 0, none⟩))), (6, (.int .i64 y103)), (7, (.int .i64 y104)), (8, (.int .i64 y105)), (10, (.int .i64 y107)), (96, (.bool y211))] ∧ F4_11 Q X8 p0 ⟨H24.size, 0, none⟩ y103 y104 y105 y107 y211 H_11) ?_ ?_
                  · refine HW.draw mixed [(0, some []), (2, some [3]), (1, none), (3, none), (4, some []), (5, some []), (6, some []), (8, some [9]), (7, none), (9, none), (10, some []), (11, some [])] rfl (by kernel_rfl) (by kernel_rfl) ?_
                    refine HPlan.takev (v := (.int .i64 y107)) rfl rfl (fun _ => HVal.move' rfl) ?_
                    obtain ⟨x186, x187, x188, x189, x190, x191, x192, c185, h⟩ := h
                    refine HPlan.takel (v := (.agg #[(Sl.v x186), (Sl.v x187), (.string x188), (.string x189), (.int .i64 x190), (Sl.v x191), (Sl.v x192)])) (fun X => cells X ⟨H24.size, 0, none⟩ [(Sl.v x186), (Sl.v x187), (.string x188), (.string x189), (.int .i64 x190), (Sl.v x191), (Sl.v x192)] 0) rfl rfl (fun _ hX => HVal.loadN [(Sl.v x186), (Sl.v x187), (.string x188), (.string x189), (.int .i64 x190), (Sl.v x191), (Sl.v x192)] Tryd.isAgg43 Tryd.sizeOf43 rfl hX) c185 ?_
                    refine HPlan.ops' rfl rfl (HOp.call' 14 [(.int .i64 3), (.string S_b), (.int .i64 y107), (.string S_x)] (cap := []) rfl rfl Tryd.call14 (walk14 h)) ?_
                    rintro _ H193 ⟨r195, r196, r197, r198, r199, r200, r201, r202, r203, r204, rfl, h⟩
                    obtain ⟨s205, h⟩ := h
                    refine ⟨SC_of ⟨fun _ => s205, trivial⟩, ?_⟩
                    refine HPlan.ops' rfl rfl (HOp.call' 15 [(.agg #[(.int .i64 r195), (.int .i64 r196), (.int .i64 r197), (.int .i64 r198), (.string r199), (.bool r200), (.string r201), (.int .i64 r202), (.string r203), (Sl.v r204)]), (.agg #[(Sl.v x186), (Sl.v x187), (.string x188), (.string x189), (.int .i64 x190), (Sl.v x191), (Sl.v x192)]), (.int .i64 110)] (cap := []) rfl rfl Tryd.call15 (walk15 h)) ?_
                    rintro _ H206 ⟨r208, rfl, h⟩
                    refine ⟨SC_of ⟨fun e => absurd e (by decide), trivial⟩, ?_⟩
                    refine HPlan.takev (v := (.bool (!r208))) rfl rfl (fun _ => HVal.not rfl) ?_
                    refine HPlan.takev (v := (.bool (!r208))) rfl rfl (fun _ => HVal.move' rfl) ?_
                    obtain ⟨hT, hF⟩ := h
                    rcases Bool.eq_false_or_eq_true (!r208) with hb209 | hb210
                    · have h := hT hb209
                      clear hT hF
                      refine HPlan.takegskip rfl rfl rfl rfl (congrArg Value.bool hb209) ?_
                      refine HPlan.takegskip rfl rfl rfl rfl (congrArg Value.bool hb209) ?_
                      refine HPlan.opgskip rfl rfl rfl rfl (congrArg Value.bool hb209) ?_
                      refine HPlan.opgskip rfl rfl rfl rfl (congrArg Value.bool hb209) ?_
                      refine HPlan.takegskip rfl rfl rfl rfl (congrArg Value.bool hb209) ?_
                      refine HPlan.takev (v := (.bool true)) rfl rfl (fun _ => HVal.pickT rfl hb209 rfl) ?_
                      refine HPlan.done ?_
                      refine nt ?_
                      exact ⟨true, ⟨rfl, rfl, rfl, rfl, rfl, rfl, rfl, trivial⟩, h⟩
                    · have h := hF hb210
                      clear hT hF
                      refine HPlan.gtakev (v := (.int .i64 y107)) rfl rfl rfl rfl rfl (congrArg Value.bool hb210) (fun _ => HVal.move' rfl) ?_
                      obtain ⟨x213, x214, x215, x216, x217, x218, x219, c212, h⟩ := h
                      refine HPlan.gtakel (v := (.agg #[(Sl.v x213), (Sl.v x214), (.string x215), (.string x216), (.int .i64 x217), (Sl.v x218), (Sl.v x219)])) (fun X => cells X ⟨H24.size, 0, none⟩ [(Sl.v x213), (Sl.v x214), (.string x215), (.string x216), (.int .i64 x217), (Sl.v x218), (Sl.v x219)] 0) rfl rfl rfl rfl rfl (congrArg Value.bool hb210) (fun _ hX => HVal.loadN [(Sl.v x213), (Sl.v x214), (.string x215), (.string x216), (.int .i64 x217), (Sl.v x218), (Sl.v x219)] Tryd.isAgg43 Tryd.sizeOf43 rfl hX) c212 ?_
                      refine HPlan.gops rfl rfl rfl rfl rfl (congrArg Value.bool hb210) (HOp.call' 14 [(.int .i64 4), (.string S_b), (.int .i64 y107), (.string S_x)] (cap := []) rfl rfl Tryd.call14 (walk14 h)) ?_
                      rintro _ H220 ⟨r222, r223, r224, r225, r226, r227, r228, r229, r230, r231, rfl, h⟩
                      obtain ⟨s232, h⟩ := h
                      refine ⟨SC_of ⟨fun _ => s232, fun e => absurd e (by decide), trivial⟩, ?_⟩
                      refine HPlan.gops rfl rfl rfl rfl rfl (congrArg Value.bool hb210) (HOp.call' 15 [(.agg #[(.int .i64 r222), (.int .i64 r223), (.int .i64 r224), (.int .i64 r225), (.string r226), (.bool r227), (.string r228), (.int .i64 r229), (.string r230), (Sl.v r231)]), (.agg #[(Sl.v x213), (Sl.v x214), (.string x215), (.string x216), (.int .i64 x217), (Sl.v x218), (Sl.v x219)]), (.int .i64 110)] (cap := []) rfl rfl Tryd.call15 (walk15 h)) ?_
                      rintro _ H233 ⟨r235, rfl, h⟩
                      refine ⟨SC_of ⟨fun e => absurd e (by decide), fun e => absurd e (by decide), trivial⟩, ?_⟩
                      refine HPlan.gtakev (v := (.bool (!r235))) rfl rfl rfl rfl rfl (congrArg Value.bool hb210) (fun _ => HVal.not rfl) ?_
                      refine HPlan.takev (v := (.bool (!r235))) rfl rfl (fun _ => HVal.pickF rfl hb210 rfl) ?_
                      refine HPlan.done ?_
                      refine nt ?_
                      exact ⟨(!r235), ⟨rfl, rfl, rfl, rfl, rfl, rfl, rfl, trivial⟩, h⟩
                  · rintro ρ H_11 ⟨y211, hI, h⟩
                    obtain ⟨ρ0, rfl⟩ : ∃ ρ0, ρ = (Env.set (Env.set (Env.set (Env.set (Env.set (Env.set (Env.set ρ0 96 (.bool y211)) 10 (.int .i64 y107)) 8 (.int .i64 y105)) 7 (.int .i64 y104)) 6 (.int .i64 y103)) 5 (.pointer (some ⟨H24.size, 0, none⟩))) 0 (Sl.v p0)) := ⟨ρ, hI.eq⟩
                    clear hI; unfold F4_11 at h
                    obtain ⟨hT, hF⟩ := h
                    refine HW.cond y211 rfl (fun hb236 => ?_) (fun hb236 => ?_)
                    · have h := hT hb236
                      clear hT hF
                      refine HW.seq ?_
                      refine HW.region ?_
                      refine HList.vals (v := (.bool false)) rfl (HVal.assign' rfl) ?_
                      refine HList.nil ?_
                      refine nt ?_
                      refine HW.ret ?_
                      refine tr ?_
                      refine tr ?_
                      refine br ?_
                      refine tr ?_
                      refine tr ?_
                      refine br ?_
                      refine tr ?_
                      exact ⟨_, resOf1 rfl Res1.t, ⟨false, rfl, h⟩⟩
                    · have h := hF hb236
                      clear hT hF
                      refine HW.skip ?_
                      refine nt ?_
                      refine HW.exit ?_
                      refine te ?_
                      refine be ?_
                      refine nt ?_
                      exact ⟨⟨rfl, rfl, rfl, rfl, rfl, rfl, trivial⟩, h⟩
                · have h := hF hb178
                  clear hT hF
                  refine HW.skip ?_
                  refine nt ?_
                  refine HW.cut (fun ρ H_12 => ∃ (y269 : Bool), Env.Is ρ [(0, (Sl.v p0)), (5, (.pointer (some ⟨H24.size, 0, none⟩))), (6, (.int .i64 y103)), (7, (.int .i64 y104)), (8, (.int .i64 y105)), (10, (.int .i64 y107)), (117, (.bool y269))] ∧ F4_12 Q X8 p0 ⟨H24.size, 0, none⟩ y103 y104 y105 y107 y269 H_12) ?_ ?_
                  · refine HW.draw mixed [(0, some []), (2, some [4]), (3, some []), (1, none), (4, none), (5, some []), (6, some []), (7, some []), (9, some [11]), (10, some []), (8, none), (11, none), (12, some []), (13, some []), (14, some []), (15, some []), (17, some [18]), (16, none), (18, none), (19, some []), (20, some [])] rfl (by kernel_rfl) (by kernel_rfl) ?_
                    refine HPlan.takev (v := (.int .i64 y107)) rfl rfl (fun _ => HVal.move' rfl) ?_
                    obtain ⟨x244, x245, x246, x247, x248, x249, x250, c243, h⟩ := h
                    refine HPlan.takel (v := (.agg #[(Sl.v x244), (Sl.v x245), (.string x246), (.string x247), (.int .i64 x248), (Sl.v x249), (Sl.v x250)])) (fun X => cells X ⟨H24.size, 0, none⟩ [(Sl.v x244), (Sl.v x245), (.string x246), (.string x247), (.int .i64 x248), (Sl.v x249), (Sl.v x250)] 0) rfl rfl (fun _ hX => HVal.loadN [(Sl.v x244), (Sl.v x245), (.string x246), (.string x247), (.int .i64 x248), (Sl.v x249), (Sl.v x250)] Tryd.isAgg43 Tryd.sizeOf43 rfl hX) c243 ?_
                    refine HPlan.takev (v := (.int .i64 y104)) rfl rfl (fun _ => HVal.move' rfl) ?_
                    refine HPlan.ops' rfl rfl (HOp.call' 14 [(.int .i64 3), (.string S_b), (.int .i64 y107), (.string S_x)] (cap := []) rfl rfl Tryd.call14 (walk14 h)) ?_
                    rintro _ H251 ⟨r253, r254, r255, r256, r257, r258, r259, r260, r261, r262, rfl, h⟩
                    obtain ⟨s263, h⟩ := h
                    refine ⟨SC_of ⟨fun _ => s263, trivial⟩, ?_⟩
                    refine HPlan.ops' rfl rfl (HOp.call' 13 [(.agg #[(.int .i64 r253), (.int .i64 r254), (.int .i64 r255), (.int .i64 r256), (.string r257), (.bool r258), (.string r259), (.int .i64 r260), (.string r261), (Sl.v r262)]), (.agg #[(Sl.v x244), (Sl.v x245), (.string x246), (.string x247), (.int .i64 x248), (Sl.v x249), (Sl.v x250)]), (.int .i64 y104)] (cap := []) rfl rfl Tryd.call13 (walk13 h)) ?_
                    rintro _ H264 ⟨r266, rfl, h⟩
                    refine ⟨SC_of ⟨fun e => absurd e (by decide), trivial⟩, ?_⟩
                    refine HPlan.takev (v := (.bool (!r266))) rfl rfl (fun _ => HVal.not rfl) ?_
                    refine HPlan.takev (v := (.bool (!r266))) rfl rfl (fun _ => HVal.move' rfl) ?_
                    obtain ⟨hT, hF⟩ := h
                    rcases Bool.eq_false_or_eq_true (!r266) with hb267 | hb268
                    · have h := hT hb267
                      clear hT hF
                      refine HPlan.takegskip rfl rfl rfl rfl (congrArg Value.bool hb267) ?_
                      refine HPlan.takegskip rfl rfl rfl rfl (congrArg Value.bool hb267) ?_
                      refine HPlan.takegskip rfl rfl rfl rfl (congrArg Value.bool hb267) ?_
                      refine HPlan.opgskip rfl rfl rfl rfl (congrArg Value.bool hb267) ?_
                      refine HPlan.opgskip rfl rfl rfl rfl (congrArg Value.bool hb267) ?_
                      refine HPlan.takegskip rfl rfl rfl rfl (congrArg Value.bool hb267) ?_
                      refine HPlan.takev (v := (.bool true)) rfl rfl (fun _ => HVal.pickT rfl hb267 rfl) ?_
                      refine HPlan.takev (v := (.bool true)) rfl rfl (fun _ => HVal.move' rfl) ?_
                      refine HPlan.takegskip rfl rfl rfl rfl rfl ?_
                      refine HPlan.takegskip rfl rfl rfl rfl rfl ?_
                      refine HPlan.opgskip rfl rfl rfl rfl rfl ?_
                      refine HPlan.opgskip rfl rfl rfl rfl rfl ?_
                      refine HPlan.takegskip rfl rfl rfl rfl rfl ?_
                      refine HPlan.takev (v := (.bool true)) rfl rfl (fun _ => HVal.pickT rfl rfl rfl) ?_
                      refine HPlan.done ?_
                      refine nt ?_
                      exact ⟨true, ⟨rfl, rfl, rfl, rfl, rfl, rfl, rfl, trivial⟩, h⟩
                    · have h := hF hb268
                      clear hT hF
                      refine HPlan.gtakev (v := (.int .i64 y107)) rfl rfl rfl rfl rfl (congrArg Value.bool hb268) (fun _ => HVal.move' rfl) ?_
                      obtain ⟨x271, x272, x273, x274, x275, x276, x277, c270, h⟩ := h
                      refine HPlan.gtakel (v := (.agg #[(Sl.v x271), (Sl.v x272), (.string x273), (.string x274), (.int .i64 x275), (Sl.v x276), (Sl.v x277)])) (fun X => cells X ⟨H24.size, 0, none⟩ [(Sl.v x271), (Sl.v x272), (.string x273), (.string x274), (.int .i64 x275), (Sl.v x276), (Sl.v x277)] 0) rfl rfl rfl rfl rfl (congrArg Value.bool hb268) (fun _ hX => HVal.loadN [(Sl.v x271), (Sl.v x272), (.string x273), (.string x274), (.int .i64 x275), (Sl.v x276), (Sl.v x277)] Tryd.isAgg43 Tryd.sizeOf43 rfl hX) c270 ?_
                      refine HPlan.gtakev (v := (.int .i64 y105)) rfl rfl rfl rfl rfl (congrArg Value.bool hb268) (fun _ => HVal.move' rfl) ?_
                      refine HPlan.gops rfl rfl rfl rfl rfl (congrArg Value.bool hb268) (HOp.call' 14 [(.int .i64 4), (.string S_b), (.int .i64 y107), (.string S_x)] (cap := []) rfl rfl Tryd.call14 (walk14 h)) ?_
                      rintro _ H278 ⟨r280, r281, r282, r283, r284, r285, r286, r287, r288, r289, rfl, h⟩
                      obtain ⟨s290, h⟩ := h
                      refine ⟨SC_of ⟨fun _ => s290, fun e => absurd e (by decide), trivial⟩, ?_⟩
                      refine HPlan.gops rfl rfl rfl rfl rfl (congrArg Value.bool hb268) (HOp.call' 13 [(.agg #[(.int .i64 r280), (.int .i64 r281), (.int .i64 r282), (.int .i64 r283), (.string r284), (.bool r285), (.string r286), (.int .i64 r287), (.string r288), (Sl.v r289)]), (.agg #[(Sl.v x271), (Sl.v x272), (.string x273), (.string x274), (.int .i64 x275), (Sl.v x276), (Sl.v x277)]), (.int .i64 y105)] (cap := []) rfl rfl Tryd.call13 (walk13 h)) ?_
                      rintro _ H291 ⟨r293, rfl, h⟩
                      refine ⟨SC_of ⟨fun e => absurd e (by decide), fun e => absurd e (by decide), trivial⟩, ?_⟩
                      refine HPlan.gtakev (v := (.bool (!r293))) rfl rfl rfl rfl rfl (congrArg Value.bool hb268) (fun _ => HVal.not rfl) ?_
                      refine HPlan.takev (v := (.bool (!r293))) rfl rfl (fun _ => HVal.pickF rfl hb268 rfl) ?_
                      refine HPlan.takev (v := (.bool (!r293))) rfl rfl (fun _ => HVal.move' rfl) ?_
                      obtain ⟨hT, hF⟩ := h
                      rcases Bool.eq_false_or_eq_true (!r293) with hb294 | hb295
                      · have h := hT hb294
                        clear hT hF
                        refine HPlan.takegskip rfl rfl rfl rfl (congrArg Value.bool hb294) ?_
                        refine HPlan.takegskip rfl rfl rfl rfl (congrArg Value.bool hb294) ?_
                        refine HPlan.opgskip rfl rfl rfl rfl (congrArg Value.bool hb294) ?_
                        refine HPlan.opgskip rfl rfl rfl rfl (congrArg Value.bool hb294) ?_
                        refine HPlan.takegskip rfl rfl rfl rfl (congrArg Value.bool hb294) ?_
                        refine HPlan.takev (v := (.bool true)) rfl rfl (fun _ => HVal.pickT rfl hb294 rfl) ?_
                        refine HPlan.done ?_
                        refine nt ?_
                        exact ⟨true, ⟨rfl, rfl, rfl, rfl, rfl, rfl, rfl, trivial⟩, h⟩
                      · have h := hF hb295
                        clear hT hF
                        refine HPlan.gtakev (v := (.int .i64 y107)) rfl rfl rfl rfl rfl (congrArg Value.bool hb295) (fun _ => HVal.move' rfl) ?_
                        obtain ⟨x297, x298, x299, x300, x301, x302, x303, c296, h⟩ := h
                        refine HPlan.gtakel (v := (.agg #[(Sl.v x297), (Sl.v x298), (.string x299), (.string x300), (.int .i64 x301), (Sl.v x302), (Sl.v x303)])) (fun X => cells X ⟨H24.size, 0, none⟩ [(Sl.v x297), (Sl.v x298), (.string x299), (.string x300), (.int .i64 x301), (Sl.v x302), (Sl.v x303)] 0) rfl rfl rfl rfl rfl (congrArg Value.bool hb295) (fun _ hX => HVal.loadN [(Sl.v x297), (Sl.v x298), (.string x299), (.string x300), (.int .i64 x301), (Sl.v x302), (Sl.v x303)] Tryd.isAgg43 Tryd.sizeOf43 rfl hX) c296 ?_
                        refine HPlan.gops rfl rfl rfl rfl rfl (congrArg Value.bool hb295) (HOp.call' 14 [(.int .i64 2), (.string S_b), (.int .i64 y107), (.string S_s)] (cap := []) rfl rfl Tryd.call14 (walk14 h)) ?_
                        rintro _ H304 ⟨r306, r307, r308, r309, r310, r311, r312, r313, r314, r315, rfl, h⟩
                        obtain ⟨s316, h⟩ := h
                        refine ⟨SC_of ⟨fun _ => s316, fun e => absurd e (by decide), fun e => absurd e (by decide), trivial⟩, ?_⟩
                        refine HPlan.gops rfl rfl rfl rfl rfl (congrArg Value.bool hb295) (HOp.call' 15 [(.agg #[(.int .i64 r306), (.int .i64 r307), (.int .i64 r308), (.int .i64 r309), (.string r310), (.bool r311), (.string r312), (.int .i64 r313), (.string r314), (Sl.v r315)]), (.agg #[(Sl.v x297), (Sl.v x298), (.string x299), (.string x300), (.int .i64 x301), (Sl.v x302), (Sl.v x303)]), (.int .i64 10)] (cap := []) rfl rfl Tryd.call15 (walk15 h)) ?_
                        rintro _ H317 ⟨r319, rfl, h⟩
                        refine ⟨SC_of ⟨fun e => absurd e (by decide), fun e => absurd e (by decide), fun e => absurd e (by decide), trivial⟩, ?_⟩
                        refine HPlan.gtakev (v := (.bool (!r319))) rfl rfl rfl rfl rfl (congrArg Value.bool hb295) (fun _ => HVal.not rfl) ?_
                        refine HPlan.takev (v := (.bool (!r319))) rfl rfl (fun _ => HVal.pickF rfl hb295 rfl) ?_
                        refine HPlan.done ?_
                        refine nt ?_
                        exact ⟨(!r319), ⟨rfl, rfl, rfl, rfl, rfl, rfl, rfl, trivial⟩, h⟩
                  · rintro ρ H_12 ⟨y269, hI, h⟩
                    obtain ⟨ρ0, rfl⟩ : ∃ ρ0, ρ = (Env.set (Env.set (Env.set (Env.set (Env.set (Env.set (Env.set ρ0 117 (.bool y269)) 10 (.int .i64 y107)) 8 (.int .i64 y105)) 7 (.int .i64 y104)) 6 (.int .i64 y103)) 5 (.pointer (some ⟨H24.size, 0, none⟩))) 0 (Sl.v p0)) := ⟨ρ, hI.eq⟩
                    clear hI; unfold F4_12 at h
                    obtain ⟨hT, hF⟩ := h
                    refine HW.cond y269 rfl (fun hb320 => ?_) (fun hb320 => ?_)
                    · have h := hT hb320
                      clear hT hF
                      refine HW.seq ?_
                      refine HW.region ?_
                      refine HList.vals (v := (.bool false)) rfl (HVal.assign' rfl) ?_
                      refine HList.nil ?_
                      refine nt ?_
                      refine HW.ret ?_
                      refine br ?_
                      refine tr ?_
                      refine tr ?_
                      refine br ?_
                      refine tr ?_
                      exact ⟨_, resOf1 rfl Res1.t, ⟨false, rfl, h⟩⟩
                    · have h := hF hb320
                      clear hT hF
                      refine HW.skip ?_
                      refine nb ?_
                      refine nt ?_
                      exact ⟨⟨rfl, rfl, rfl, rfl, rfl, rfl, trivial⟩, h⟩
          · rintro ρ H_9 ⟨hI, h⟩
            obtain ⟨ρ0, rfl⟩ : ∃ ρ0, ρ = (Env.set (Env.set (Env.set (Env.set (Env.set (Env.set ρ0 10 (.int .i64 y107)) 8 (.int .i64 y105)) 7 (.int .i64 y104)) 6 (.int .i64 y103)) 5 (.pointer (some ⟨H24.size, 0, none⟩))) 0 (Sl.v p0)) := ⟨ρ, hI.eq⟩
            clear hI; unfold F4_9 at h
            refine HW.region ?_
            refine HList.vals (v := (.int .i64 y107)) rfl (HVal.move' rfl) ?_
            refine HList.vals (v := (.int .i64 (IntKind.i64.wrap (y107 + 1)))) rfl (HVal.add rfl rfl) ?_
            refine HList.vals (v := (.int .i64 (IntKind.i64.wrap (y107 + 1)))) rfl (HVal.assign' rfl) ?_
            refine HList.nil ?_
            refine nt ?_
            exact (hX8 _ _).1 h _ ⟨rfl, rfl, rfl, rfl, rfl, rfl, trivial⟩
        · have h := hF hb113
          clear hT hF
          refine HW.exit ?_
          refine te ?_
          refine te ?_
          refine be ?_
          refine nt ?_
          exact ⟨⟨rfl, trivial⟩, h⟩
      · rintro ρ H_7 ⟨hI, h⟩
        obtain ⟨ρ0, rfl⟩ : ∃ ρ0, ρ = (Env.set ρ0 5 (.pointer (some ⟨H24.size, 0, none⟩))) := ⟨ρ, hI.eq⟩
        clear hI; unfold F4_7 at h
        refine HW.seq ?_
        refine HW.draw mixed [(1, some [2]), (0, none), (2, none), (3, some []), (5, some [6]), (4, none), (6, none), (7, some []), (8, some [])] rfl (by kernel_rfl) (by kernel_rfl) ?_
        obtain ⟨x322, x323, x324, x325, x326, x327, x328, c321, h⟩ := h
        refine HPlan.takel (v := (.agg #[(Sl.v x322), (Sl.v x323), (.string x324), (.string x325), (.int .i64 x326), (Sl.v x327), (Sl.v x328)])) (fun X => cells X ⟨H24.size, 0, none⟩ [(Sl.v x322), (Sl.v x323), (.string x324), (.string x325), (.int .i64 x326), (Sl.v x327), (Sl.v x328)] 0) rfl rfl (fun _ hX => HVal.loadN [(Sl.v x322), (Sl.v x323), (.string x324), (.string x325), (.int .i64 x326), (Sl.v x327), (Sl.v x328)] Tryd.isAgg43 Tryd.sizeOf43 rfl hX) c321 ?_
        refine HPlan.ops' rfl rfl (HOp.call' 14 [(.int .i64 1), (.string S_a), (.int .i64 7), (.string (ByteArray.mk #[]))] (cap := []) rfl rfl Tryd.call14 (walk14 h)) ?_
        rintro _ H329 ⟨r331, r332, r333, r334, r335, r336, r337, r338, r339, r340, rfl, h⟩
        obtain ⟨s341, h⟩ := h
        refine ⟨SC_of ⟨fun _ => s341, trivial⟩, ?_⟩
        refine HPlan.ops' rfl rfl (HOp.call' 15 [(.agg #[(.int .i64 r331), (.int .i64 r332), (.int .i64 r333), (.int .i64 r334), (.string r335), (.bool r336), (.string r337), (.int .i64 r338), (.string r339), (Sl.v r340)]), (.agg #[(Sl.v x322), (Sl.v x323), (.string x324), (.string x325), (.int .i64 x326), (Sl.v x327), (Sl.v x328)]), (.int .i64 110)] (cap := []) rfl rfl Tryd.call15 (walk15 h)) ?_
        rintro _ H342 ⟨r344, rfl, h⟩
        refine ⟨SC_of ⟨fun e => absurd e (by decide), trivial⟩, ?_⟩
        refine HPlan.takev (v := (.bool r344)) rfl rfl (fun _ => HVal.move' rfl) ?_
        obtain ⟨hT, hF⟩ := h
        rcases Bool.eq_false_or_eq_true r344 with hb345 | hb346
        · have h := hT hb345
          clear hT hF
          obtain ⟨x348, x349, x350, x351, x352, x353, x354, c347, h⟩ := h
          refine HPlan.gtakel (v := (.agg #[(Sl.v x348), (Sl.v x349), (.string x350), (.string x351), (.int .i64 x352), (Sl.v x353), (Sl.v x354)])) (fun X => cells X ⟨H24.size, 0, none⟩ [(Sl.v x348), (Sl.v x349), (.string x350), (.string x351), (.int .i64 x352), (Sl.v x353), (Sl.v x354)] 0) rfl rfl rfl rfl rfl (congrArg Value.bool hb345) (fun _ hX => HVal.loadN [(Sl.v x348), (Sl.v x349), (.string x350), (.string x351), (.int .i64 x352), (Sl.v x353), (Sl.v x354)] Tryd.isAgg43 Tryd.sizeOf43 rfl hX) c347 ?_
          refine HPlan.gops rfl rfl rfl rfl rfl (congrArg Value.bool hb345) (HOp.call' 14 [(.int .i64 1), (.string S_z), (.int .i64 6), (.string (ByteArray.mk #[]))] (cap := []) rfl rfl Tryd.call14 (walk14 h)) ?_
          rintro _ H355 ⟨r357, r358, r359, r360, r361, r362, r363, r364, r365, r366, rfl, h⟩
          obtain ⟨s367, h⟩ := h
          refine ⟨SC_of ⟨fun _ => s367, fun e => absurd e (by decide), trivial⟩, ?_⟩
          refine HPlan.gops rfl rfl rfl rfl rfl (congrArg Value.bool hb345) (HOp.call' 15 [(.agg #[(.int .i64 r357), (.int .i64 r358), (.int .i64 r359), (.int .i64 r360), (.string r361), (.bool r362), (.string r363), (.int .i64 r364), (.string r365), (Sl.v r366)]), (.agg #[(Sl.v x348), (Sl.v x349), (.string x350), (.string x351), (.int .i64 x352), (Sl.v x353), (Sl.v x354)]), (.int .i64 110)] (cap := []) rfl rfl Tryd.call15 (walk15 h)) ?_
          rintro _ H368 ⟨r370, rfl, h⟩
          refine ⟨SC_of ⟨fun e => absurd e (by decide), fun e => absurd e (by decide), trivial⟩, ?_⟩
          refine HPlan.takev (v := (.bool r370)) rfl rfl (fun _ => HVal.pickT rfl hb345 rfl) ?_
          refine HPlan.takev (v := (.bool r370)) rfl rfl (fun _ => HVal.assign' rfl) ?_
          refine HPlan.done ?_
          refine nt ?_
          refine HW.ret ?_
          exact ⟨_, resOf1 rfl Res1.t, ⟨r370, rfl, h⟩⟩
        · have h := hF hb346
          clear hT hF
          refine HPlan.takegskip rfl rfl rfl rfl (congrArg Value.bool hb346) ?_
          refine HPlan.opgskip rfl rfl rfl rfl (congrArg Value.bool hb346) ?_
          refine HPlan.opgskip rfl rfl rfl rfl (congrArg Value.bool hb346) ?_
          refine HPlan.takev (v := (.bool false)) rfl rfl (fun _ => HVal.pickF rfl hb346 rfl) ?_
          refine HPlan.takev (v := (.bool false)) rfl rfl (fun _ => HVal.assign' rfl) ?_
          refine HPlan.done ?_
          refine nt ?_
          refine HW.ret ?_
          exact ⟨_, resOf1 rfl Res1.t, ⟨false, rfl, h⟩⟩

def F5_3 (Q : Bool → Hp → Prop) (y356 : Sl) (y357 : Int) (y358 : Addr) (y392 : Bool) (H_3 : Hp) : Prop :=
(y392 = true → (Q false H_3)) ∧
 (y392 = false → ((cell H_3 (Addr.add y358 2)).isSome = true ∧ frz H_3 (Addr.add y358 2) = false ∧ ∀ H517 : Hp, H517 = setc H_3 (Addr.add y358 2) (.string (ByteArray.mk #[])) → (
 ∃ (x522 : Sl) (x523 : Sl) (x524 : ByteArray) (x525 : ByteArray) (x526 : Int) (x527 : Sl) (x528 : Sl), cells H517 y358 [(Sl.v x522), (Sl.v x523), (.string x524), (.string x525), (.int .i64 x526), (Sl.v x527), (Sl.v x528)] 0 ∧ (
 F16 S_b 2 S_x H517 (fun (r531 : Int) (r532 : Int) (r533 : Int) (r534 : Int) (r535 : ByteArray) (r536 : Bool) (r537 : ByteArray) (r538 : Int) (r539 : ByteArray) (r540 : Sl) (H529 : Hp) => 
 cells H529 y358 [(Sl.v x522), (Sl.v x523), (.string x524), (.string x525), (.int .i64 x526), (Sl.v x527), (Sl.v x528)] 0 ∧ (
 F15 r531 r532 r533 r534 r535 r536 r537 r538 r539 r540 x522 x523 x524 x525 x526 x527 x528 110 H529 (fun (r544 : Bool) (H542 : Hp) => 
 (r544 = true → (∃ (x548 : Sl) (x549 : Sl) (x550 : ByteArray) (x551 : ByteArray) (x552 : Int) (x553 : Sl) (x554 : Sl), cells H542 y358 [(Sl.v x548), (Sl.v x549), (.string x550), (.string x551), (.int .i64 x552), (Sl.v x553), (Sl.v x554)] 0 ∧ (
 F16 S_b 3 S_x H542 (fun (r557 : Int) (r558 : Int) (r559 : Int) (r560 : Int) (r561 : ByteArray) (r562 : Bool) (r563 : ByteArray) (r564 : Int) (r565 : ByteArray) (r566 : Sl) (H555 : Hp) => 
 cells H555 y358 [(Sl.v x548), (Sl.v x549), (.string x550), (.string x551), (.int .i64 x552), (Sl.v x553), (Sl.v x554)] 0 ∧ (
 F15 r557 r558 r559 r560 r561 r562 r563 r564 r565 r566 x548 x549 x550 x551 x552 x553 x554 110 H555 (fun (r570 : Bool) (H568 : Hp) => 
 (r570 = true → (∃ (x574 : Sl) (x575 : Sl) (x576 : ByteArray) (x577 : ByteArray) (x578 : Int) (x579 : Sl) (x580 : Sl), cells H568 y358 [(Sl.v x574), (Sl.v x575), (.string x576), (.string x577), (.int .i64 x578), (Sl.v x579), (Sl.v x580)] 0 ∧ (
 ∃ a581 : Addr, (y356).b = some a581 ∧ (0 : Int) ≤ (IntKind.i64.wrap (y357 - 1)) ∧ (IntKind.i64.wrap (y357 - 1)) < ((y356).n : Int) ∧ (
 ∃ x586 : Int, cell H568 (Addr.add a581 ((IntKind.i64.wrap (y357 - 1)).toNat * 1)) = some (.int .i64 x586) ∧ (
 F16 S_b 5 S_x H568 (fun (r589 : Int) (r590 : Int) (r591 : Int) (r592 : Int) (r593 : ByteArray) (r594 : Bool) (r595 : ByteArray) (r596 : Int) (r597 : ByteArray) (r598 : Sl) (H587 : Hp) => 
 cell H587 (Addr.add a581 ((IntKind.i64.wrap (y357 - 1)).toNat * 1)) = some (.int .i64 x586) ∧ cells H587 y358 [(Sl.v x574), (Sl.v x575), (.string x576), (.string x577), (.int .i64 x578), (Sl.v x579), (Sl.v x580)] 0 ∧ (
 F13 r589 r590 r591 r592 r593 r594 r595 r596 r597 r598 x574 x575 x576 x577 x578 x579 x580 x586 H587 (fun (r603 : Bool) (H601 : Hp) => 
 Q r603 H601)))))))) ∧
 (r570 = false → (Q false H568)))))))) ∧
 (r544 = false → (Q false H542)))))))))
def F5_2 (Q : Bool → Hp → Prop) (y146 : Sl) (y147 : Int) (y148 : Addr) (y175 : Bool) (H_2 : Hp) : Prop :=
(y175 = true → (Q false H_2)) ∧
 (y175 = false → (((decide (y147 = 0)) = true → (∃ (x255 : Sl) (x256 : Sl) (x257 : ByteArray) (x258 : ByteArray) (x259 : Int) (x260 : Sl) (x261 : Sl), cells H_2 y148 [(Sl.v x255), (Sl.v x256), (.string x257), (.string x258), (.int .i64 x259), (Sl.v x260), (Sl.v x261)] 0 ∧ (
 F16 S_b 1 S_x H_2 (fun (r264 : Int) (r265 : Int) (r266 : Int) (r267 : Int) (r268 : ByteArray) (r269 : Bool) (r270 : ByteArray) (r271 : Int) (r272 : ByteArray) (r273 : Sl) (H262 : Hp) => 
 cells H262 y148 [(Sl.v x255), (Sl.v x256), (.string x257), (.string x258), (.int .i64 x259), (Sl.v x260), (Sl.v x261)] 0 ∧ (
 F15 r264 r265 r266 r267 r268 r269 r270 r271 r272 r273 x255 x256 x257 x258 x259 x260 x261 110 H262 (fun (r277 : Bool) (H275 : Hp) => 
 (r277 = true → (∃ (x281 : Sl) (x282 : Sl) (x283 : ByteArray) (x284 : ByteArray) (x285 : Int) (x286 : Sl) (x287 : Sl), cells H275 y148 [(Sl.v x281), (Sl.v x282), (.string x283), (.string x284), (.int .i64 x285), (Sl.v x286), (Sl.v x287)] 0 ∧ (
 F16 S_b 4 S_x H275 (fun (r290 : Int) (r291 : Int) (r292 : Int) (r293 : Int) (r294 : ByteArray) (r295 : Bool) (r296 : ByteArray) (r297 : Int) (r298 : ByteArray) (r299 : Sl) (H288 : Hp) => 
 cells H288 y148 [(Sl.v x281), (Sl.v x282), (.string x283), (.string x284), (.int .i64 x285), (Sl.v x286), (Sl.v x287)] 0 ∧ (
 F15 r290 r291 r292 r293 r294 r295 r296 r297 r298 r299 x281 x282 x283 x284 x285 x286 x287 110 H288 (fun (r303 : Bool) (H301 : Hp) => 
 (r303 = true → (∃ (x307 : Sl) (x308 : Sl) (x309 : ByteArray) (x310 : ByteArray) (x311 : Int) (x312 : Sl) (x313 : Sl), cells H301 y148 [(Sl.v x307), (Sl.v x308), (.string x309), (.string x310), (.int .i64 x311), (Sl.v x312), (Sl.v x313)] 0 ∧ (
 F16 S_b 5 S_x H301 (fun (r316 : Int) (r317 : Int) (r318 : Int) (r319 : Int) (r320 : ByteArray) (r321 : Bool) (r322 : ByteArray) (r323 : Int) (r324 : ByteArray) (r325 : Sl) (H314 : Hp) => 
 cells H314 y148 [(Sl.v x307), (Sl.v x308), (.string x309), (.string x310), (.int .i64 x311), (Sl.v x312), (Sl.v x313)] 0 ∧ (
 F15 r316 r317 r318 r319 r320 r321 r322 r323 r324 r325 x307 x308 x309 x310 x311 x312 x313 110 H314 (fun (r329 : Bool) (H327 : Hp) => 
 (r329 = true → (∃ (x333 : Sl) (x334 : Sl) (x335 : ByteArray) (x336 : ByteArray) (x337 : Int) (x338 : Sl) (x339 : Sl), cells H327 y148 [(Sl.v x333), (Sl.v x334), (.string x335), (.string x336), (.int .i64 x337), (Sl.v x338), (Sl.v x339)] 0 ∧ (
 F16 S_b 3 S_x H327 (fun (r342 : Int) (r343 : Int) (r344 : Int) (r345 : Int) (r346 : ByteArray) (r347 : Bool) (r348 : ByteArray) (r349 : Int) (r350 : ByteArray) (r351 : Sl) (H340 : Hp) => 
 cells H340 y148 [(Sl.v x333), (Sl.v x334), (.string x335), (.string x336), (.int .i64 x337), (Sl.v x338), (Sl.v x339)] 0 ∧ (
 F15 r342 r343 r344 r345 r346 r347 r348 r349 r350 r351 x333 x334 x335 x336 x337 x338 x339 110 H340 (fun (r355 : Bool) (H353 : Hp) => 
 Q r355 H353)))))) ∧
 (r329 = false → (Q false H327)))))))) ∧
 (r303 = false → (Q false H301)))))))) ∧
 (r277 = false → (Q false H275)))))))) ∧
 ((decide (y147 = 0)) = false → (∃ (x360 : Sl) (x361 : Sl) (x362 : ByteArray) (x363 : ByteArray) (x364 : Int) (x365 : Sl) (x366 : Sl), cells H_2 y148 [(Sl.v x360), (Sl.v x361), (.string x362), (.string x363), (.int .i64 x364), (Sl.v x365), (Sl.v x366)] 0 ∧ (
 ∃ a367 : Addr, (y146).b = some a367 ∧ (0 : Int) ≤ 0 ∧ (0 : Int) < ((y146).n : Int) ∧ (
 ∃ x372 : Int, cell H_2 (Addr.add a367 ((0 : Int).toNat * 1)) = some (.int .i64 x372) ∧ (
 F16 S_b 1 S_x H_2 (fun (r375 : Int) (r376 : Int) (r377 : Int) (r378 : Int) (r379 : ByteArray) (r380 : Bool) (r381 : ByteArray) (r382 : Int) (r383 : ByteArray) (r384 : Sl) (H373 : Hp) => 
 cell H373 (Addr.add a367 ((0 : Int).toNat * 1)) = some (.int .i64 x372) ∧ cells H373 y148 [(Sl.v x360), (Sl.v x361), (.string x362), (.string x363), (.int .i64 x364), (Sl.v x365), (Sl.v x366)] 0 ∧ (
 F13 r375 r376 r377 r378 r379 r380 r381 r382 r383 r384 x360 x361 x362 x363 x364 x365 x366 x372 H373 (fun (r389 : Bool) (H387 : Hp) => 
 ((!r389) = true → (F5_3 Q y146 y147 y148 true H387)) ∧
 ((!r389) = false → (∃ (x394 : Sl) (x395 : Sl) (x396 : ByteArray) (x397 : ByteArray) (x398 : Int) (x399 : Sl) (x400 : Sl), cells H387 y148 [(Sl.v x394), (Sl.v x395), (.string x396), (.string x397), (.int .i64 x398), (Sl.v x399), (Sl.v x400)] 0 ∧ (
 ∃ a401 : Addr, (y146).b = some a401 ∧ (0 : Int) ≤ 0 ∧ (0 : Int) < ((y146).n : Int) ∧ (
 ∃ x406 : Int, cell H387 (Addr.add a401 ((0 : Int).toNat * 1)) = some (.int .i64 x406) ∧ (
 F16 S_b 4 S_x H387 (fun (r409 : Int) (r410 : Int) (r411 : Int) (r412 : Int) (r413 : ByteArray) (r414 : Bool) (r415 : ByteArray) (r416 : Int) (r417 : ByteArray) (r418 : Sl) (H407 : Hp) => 
 cell H407 (Addr.add a401 ((0 : Int).toNat * 1)) = some (.int .i64 x406) ∧ cells H407 y148 [(Sl.v x394), (Sl.v x395), (.string x396), (.string x397), (.int .i64 x398), (Sl.v x399), (Sl.v x400)] 0 ∧ (
 F13 r409 r410 r411 r412 r413 r414 r415 r416 r417 r418 x394 x395 x396 x397 x398 x399 x400 x406 H407 (fun (r423 : Bool) (H421 : Hp) => 
 ((!r423) = true → (F5_3 Q y146 y147 y148 true H421)) ∧
 ((!r423) = false → (∃ (x427 : Sl) (x428 : Sl) (x429 : ByteArray) (x430 : ByteArray) (x431 : Int) (x432 : Sl) (x433 : Sl), cells H421 y148 [(Sl.v x427), (Sl.v x428), (.string x429), (.string x430), (.int .i64 x431), (Sl.v x432), (Sl.v x433)] 0 ∧ (
 ∃ a434 : Addr, (y146).b = some a434 ∧ (0 : Int) ≤ (IntKind.i64.wrap (y147 - 1)) ∧ (IntKind.i64.wrap (y147 - 1)) < ((y146).n : Int) ∧ (
 ∃ x439 : Int, cell H421 (Addr.add a434 ((IntKind.i64.wrap (y147 - 1)).toNat * 1)) = some (.int .i64 x439) ∧ (
 F16 S_b 5 S_x H421 (fun (r442 : Int) (r443 : Int) (r444 : Int) (r445 : Int) (r446 : ByteArray) (r447 : Bool) (r448 : ByteArray) (r449 : Int) (r450 : ByteArray) (r451 : Sl) (H440 : Hp) => 
 cell H440 (Addr.add a434 ((IntKind.i64.wrap (y147 - 1)).toNat * 1)) = some (.int .i64 x439) ∧ cells H440 y148 [(Sl.v x427), (Sl.v x428), (.string x429), (.string x430), (.int .i64 x431), (Sl.v x432), (Sl.v x433)] 0 ∧ (
 F13 r442 r443 r444 r445 r446 r447 r448 r449 r450 r451 x427 x428 x429 x430 x431 x432 x433 x439 H440 (fun (r456 : Bool) (H454 : Hp) => 
 ((!r456) = true → (F5_3 Q y146 y147 y148 true H454)) ∧
 ((!r456) = false → (∃ (x460 : Sl) (x461 : Sl) (x462 : ByteArray) (x463 : ByteArray) (x464 : Int) (x465 : Sl) (x466 : Sl), cells H454 y148 [(Sl.v x460), (Sl.v x461), (.string x462), (.string x463), (.int .i64 x464), (Sl.v x465), (Sl.v x466)] 0 ∧ (
 ∃ a467 : Addr, (y146).b = some a467 ∧ (0 : Int) ≤ (IntKind.i64.wrap (y147 - 1)) ∧ (IntKind.i64.wrap (y147 - 1)) < ((y146).n : Int) ∧ (
 ∃ x472 : Int, cell H454 (Addr.add a467 ((IntKind.i64.wrap (y147 - 1)).toNat * 1)) = some (.int .i64 x472) ∧ (
 F16 S_b 3 S_x H454 (fun (r475 : Int) (r476 : Int) (r477 : Int) (r478 : Int) (r479 : ByteArray) (r480 : Bool) (r481 : ByteArray) (r482 : Int) (r483 : ByteArray) (r484 : Sl) (H473 : Hp) => 
 cell H473 (Addr.add a467 ((IntKind.i64.wrap (y147 - 1)).toNat * 1)) = some (.int .i64 x472) ∧ cells H473 y148 [(Sl.v x460), (Sl.v x461), (.string x462), (.string x463), (.int .i64 x464), (Sl.v x465), (Sl.v x466)] 0 ∧ (
 F13 r475 r476 r477 r478 r479 r480 r481 r482 r483 r484 x460 x461 x462 x463 x464 x465 x466 x472 H473 (fun (r489 : Bool) (H487 : Hp) => 
 ((!r489) = true → (F5_3 Q y146 y147 y148 true H487)) ∧
 ((!r489) = false → (∃ (x493 : Sl) (x494 : Sl) (x495 : ByteArray) (x496 : ByteArray) (x497 : Int) (x498 : Sl) (x499 : Sl), cells H487 y148 [(Sl.v x493), (Sl.v x494), (.string x495), (.string x496), (.int .i64 x497), (Sl.v x498), (Sl.v x499)] 0 ∧ (
 F16 S_b 5 S_time H487 (fun (r502 : Int) (r503 : Int) (r504 : Int) (r505 : Int) (r506 : ByteArray) (r507 : Bool) (r508 : ByteArray) (r509 : Int) (r510 : ByteArray) (r511 : Sl) (H500 : Hp) => 
 cells H500 y148 [(Sl.v x493), (Sl.v x494), (.string x495), (.string x496), (.int .i64 x497), (Sl.v x498), (Sl.v x499)] 0 ∧ (
 F13 r502 r503 r504 r505 r506 r507 r508 r509 r510 r511 x493 x494 x495 x496 x497 x498 x499 (IntKind.i64.wrap (y147 - 1)) H500 (fun (r515 : Bool) (H513 : Hp) => 
 F5_3 Q y146 y147 y148 (!r515) H513))))))))))))))))))))))))))))))))))))))))
def F5_1 (Q : Bool → Hp → Prop) (y39 : Sl) (y40 : Int) (y41 : Addr) (y68 : Bool) (H_1 : Hp) : Prop :=
(y68 = true → (Q false H_1)) ∧
 (y68 = false → (∃ (x150 : Sl) (x151 : Sl) (x152 : ByteArray) (x153 : ByteArray) (x154 : Int) (x155 : Sl) (x156 : Sl), cells H_1 y41 [(Sl.v x150), (Sl.v x151), (.string x152), (.string x153), (.int .i64 x154), (Sl.v x155), (Sl.v x156)] 0 ∧ (
 F16 S_a 2 S_x H_1 (fun (r159 : Int) (r160 : Int) (r161 : Int) (r162 : Int) (r163 : ByteArray) (r164 : Bool) (r165 : ByteArray) (r166 : Int) (r167 : ByteArray) (r168 : Sl) (H157 : Hp) => 
 cells H157 y41 [(Sl.v x150), (Sl.v x151), (.string x152), (.string x153), (.int .i64 x154), (Sl.v x155), (Sl.v x156)] 0 ∧ (
 F15 r159 r160 r161 r162 r163 r164 r165 r166 r167 r168 x150 x151 x152 x153 x154 x155 x156 110 H157 (fun (r172 : Bool) (H170 : Hp) => 
 ((!r172) = true → (F5_2 Q y39 y40 y41 true H170)) ∧
 ((!r172) = false → (∃ (x177 : Sl) (x178 : Sl) (x179 : ByteArray) (x180 : ByteArray) (x181 : Int) (x182 : Sl) (x183 : Sl), cells H170 y41 [(Sl.v x177), (Sl.v x178), (.string x179), (.string x180), (.int .i64 x181), (Sl.v x182), (Sl.v x183)] 0 ∧ (
 F16 S_a 3 S_x H170 (fun (r186 : Int) (r187 : Int) (r188 : Int) (r189 : Int) (r190 : ByteArray) (r191 : Bool) (r192 : ByteArray) (r193 : Int) (r194 : ByteArray) (r195 : Sl) (H184 : Hp) => 
 cells H184 y41 [(Sl.v x177), (Sl.v x178), (.string x179), (.string x180), (.int .i64 x181), (Sl.v x182), (Sl.v x183)] 0 ∧ (
 F15 r186 r187 r188 r189 r190 r191 r192 r193 r194 r195 x177 x178 x179 x180 x181 x182 x183 110 H184 (fun (r199 : Bool) (H197 : Hp) => 
 ((!r199) = true → (F5_2 Q y39 y40 y41 true H197)) ∧
 ((!r199) = false → (∃ (x203 : Sl) (x204 : Sl) (x205 : ByteArray) (x206 : ByteArray) (x207 : Int) (x208 : Sl) (x209 : Sl), cells H197 y41 [(Sl.v x203), (Sl.v x204), (.string x205), (.string x206), (.int .i64 x207), (Sl.v x208), (Sl.v x209)] 0 ∧ (
 F16 S_z 1 S_x H197 (fun (r212 : Int) (r213 : Int) (r214 : Int) (r215 : Int) (r216 : ByteArray) (r217 : Bool) (r218 : ByteArray) (r219 : Int) (r220 : ByteArray) (r221 : Sl) (H210 : Hp) => 
 cells H210 y41 [(Sl.v x203), (Sl.v x204), (.string x205), (.string x206), (.int .i64 x207), (Sl.v x208), (Sl.v x209)] 0 ∧ (
 F15 r212 r213 r214 r215 r216 r217 r218 r219 r220 r221 x203 x204 x205 x206 x207 x208 x209 110 H210 (fun (r225 : Bool) (H223 : Hp) => 
 ((!r225) = true → (F5_2 Q y39 y40 y41 true H223)) ∧
 ((!r225) = false → (∃ (x229 : Sl) (x230 : Sl) (x231 : ByteArray) (x232 : ByteArray) (x233 : Int) (x234 : Sl) (x235 : Sl), cells H223 y41 [(Sl.v x229), (Sl.v x230), (.string x231), (.string x232), (.int .i64 x233), (Sl.v x234), (Sl.v x235)] 0 ∧ (
 F16 S_a 1 S_y H223 (fun (r238 : Int) (r239 : Int) (r240 : Int) (r241 : Int) (r242 : ByteArray) (r243 : Bool) (r244 : ByteArray) (r245 : Int) (r246 : ByteArray) (r247 : Sl) (H236 : Hp) => 
 cells H236 y41 [(Sl.v x229), (Sl.v x230), (.string x231), (.string x232), (.int .i64 x233), (Sl.v x234), (Sl.v x235)] 0 ∧ (
 F15 r238 r239 r240 r241 r242 r243 r244 r245 r246 r247 x229 x230 x231 x232 x233 x234 x235 82 H236 (fun (r251 : Bool) (H249 : Hp) => 
 F5_2 Q y39 y40 y41 (!r251) H249))))))))))))))))))))))))
def F5 (p0 : Sl) (p1 : Int) (p2 : Int) (H : Hp) (Q : Bool → Hp → Prop) : Prop :=
F8 H (fun (r3 : Bool) (H1 : Hp) => 
 ((!r3) = true → (Q false H1)) ∧
 ((!r3) = false → (∀ H5 : Hp, H5 = Array.push H1 (.cells #[(.string S_b), (.string S_a), (.string S_b)] 9) → (
 F11 p0 H5 (fun (r9 : Sl) (H7 : Hp) => 
 F10 7 70 S_a H7 (fun (r12 : ByteArray) (r13 : Int) (r14 : Sl) (H10 : Hp) => 
 ∀ H15 : Hp, H15 = Array.push H10 (.cells #[(.string r12), (.int .i64 r13), (Sl.v r14)] 36) → (
 F10 8 80 S_c H15 (fun (r19 : ByteArray) (r20 : Int) (r21 : Sl) (H17 : Hp) => 
 ∀ H22 : Hp, H22 = Array.push H17 (.cells #[(.string r19), (.int .i64 r20), (Sl.v r21)] 36) → (
 ∀ H24 : Hp, H24 = Array.push H22 (.cells #[(Sl.v r9), (Sl.v (Sl.mk (some ⟨H10.size, 0, none⟩) 1 1)), (Sl.v (Sl.mk (some ⟨H17.size, 0, none⟩) 1 1))] 49) → (
 F10 p2 p1 S_n H24 (fun (r28 : ByteArray) (r29 : Int) (r30 : Sl) (H26 : Hp) => 
 F12 H26 (fun (r33 : Sl) (H31 : Hp) => 
 ∀ H34 : Hp, H34 = Array.push H31 (.cells #[(Sl.v Sl.nil), (Sl.v Sl.nil), (.string (ByteArray.mk #[])), (.string (ByteArray.mk #[])), (.int .i64 0), (Sl.v Sl.nil), (Sl.v Sl.nil)] 43) → (
 mayw H34 ⟨H31.size, 0, none⟩ 7 0 ∧ ∀ H36 : Hp, H36 = sets H34 ⟨H31.size, 0, none⟩ [(Sl.v (Sl.mk (some ⟨H1.size, 0, none⟩) 3 3)), (Sl.v (Sl.mk (some ⟨H22.size, 0, none⟩) 3 3)), (.string S_b), (.string r28), (.int .i64 r29), (Sl.v r30), (Sl.v r33)] 0 → (
 ∃ (x43 : Sl) (x44 : Sl) (x45 : ByteArray) (x46 : ByteArray) (x47 : Int) (x48 : Sl) (x49 : Sl), cells H36 ⟨H31.size, 0, none⟩ [(Sl.v x43), (Sl.v x44), (.string x45), (.string x46), (.int .i64 x47), (Sl.v x48), (Sl.v x49)] 0 ∧ (
 F16 S_b 2 S_x H36 (fun (r52 : Int) (r53 : Int) (r54 : Int) (r55 : Int) (r56 : ByteArray) (r57 : Bool) (r58 : ByteArray) (r59 : Int) (r60 : ByteArray) (r61 : Sl) (H50 : Hp) => 
 cells H50 ⟨H31.size, 0, none⟩ [(Sl.v x43), (Sl.v x44), (.string x45), (.string x46), (.int .i64 x47), (Sl.v x48), (Sl.v x49)] 0 ∧ (
 F13 r52 r53 r54 r55 r56 r57 r58 r59 r60 r61 x43 x44 x45 x46 x47 x48 x49 p1 H50 (fun (r65 : Bool) (H63 : Hp) => 
 ((!r65) = true → (F5_1 Q p0 ((p0).n : Int) ⟨H31.size, 0, none⟩ true H63)) ∧
 ((!r65) = false → (∃ (x70 : Sl) (x71 : Sl) (x72 : ByteArray) (x73 : ByteArray) (x74 : Int) (x75 : Sl) (x76 : Sl), cells H63 ⟨H31.size, 0, none⟩ [(Sl.v x70), (Sl.v x71), (.string x72), (.string x73), (.int .i64 x74), (Sl.v x75), (Sl.v x76)] 0 ∧ (
 F16 S_b 2 S_time H63 (fun (r79 : Int) (r80 : Int) (r81 : Int) (r82 : Int) (r83 : ByteArray) (r84 : Bool) (r85 : ByteArray) (r86 : Int) (r87 : ByteArray) (r88 : Sl) (H77 : Hp) => 
 cells H77 ⟨H31.size, 0, none⟩ [(Sl.v x70), (Sl.v x71), (.string x72), (.string x73), (.int .i64 x74), (Sl.v x75), (Sl.v x76)] 0 ∧ (
 F13 r79 r80 r81 r82 r83 r84 r85 r86 r87 r88 x70 x71 x72 x73 x74 x75 x76 p2 H77 (fun (r92 : Bool) (H90 : Hp) => 
 ((!r92) = true → (F5_1 Q p0 ((p0).n : Int) ⟨H31.size, 0, none⟩ true H90)) ∧
 ((!r92) = false → (∃ (x96 : Sl) (x97 : Sl) (x98 : ByteArray) (x99 : ByteArray) (x100 : Int) (x101 : Sl) (x102 : Sl), cells H90 ⟨H31.size, 0, none⟩ [(Sl.v x96), (Sl.v x97), (.string x98), (.string x99), (.int .i64 x100), (Sl.v x101), (Sl.v x102)] 0 ∧ (
 F16 S_a 1 S_x H90 (fun (r105 : Int) (r106 : Int) (r107 : Int) (r108 : Int) (r109 : ByteArray) (r110 : Bool) (r111 : ByteArray) (r112 : Int) (r113 : ByteArray) (r114 : Sl) (H103 : Hp) => 
 cells H103 ⟨H31.size, 0, none⟩ [(Sl.v x96), (Sl.v x97), (.string x98), (.string x99), (.int .i64 x100), (Sl.v x101), (Sl.v x102)] 0 ∧ (
 F13 r105 r106 r107 r108 r109 r110 r111 r112 r113 r114 x96 x97 x98 x99 x100 x101 x102 70 H103 (fun (r118 : Bool) (H116 : Hp) => 
 ((!r118) = true → (F5_1 Q p0 ((p0).n : Int) ⟨H31.size, 0, none⟩ true H116)) ∧
 ((!r118) = false → (∃ (x122 : Sl) (x123 : Sl) (x124 : ByteArray) (x125 : ByteArray) (x126 : Int) (x127 : Sl) (x128 : Sl), cells H116 ⟨H31.size, 0, none⟩ [(Sl.v x122), (Sl.v x123), (.string x124), (.string x125), (.int .i64 x126), (Sl.v x127), (Sl.v x128)] 0 ∧ (
 F16 S_a 5 S_time H116 (fun (r131 : Int) (r132 : Int) (r133 : Int) (r134 : Int) (r135 : ByteArray) (r136 : Bool) (r137 : ByteArray) (r138 : Int) (r139 : ByteArray) (r140 : Sl) (H129 : Hp) => 
 cells H129 ⟨H31.size, 0, none⟩ [(Sl.v x122), (Sl.v x123), (.string x124), (.string x125), (.int .i64 x126), (Sl.v x127), (Sl.v x128)] 0 ∧ (
 F13 r131 r132 r133 r134 r135 r136 r137 r138 r139 r140 x122 x123 x124 x125 x126 x127 x128 7 H129 (fun (r144 : Bool) (H142 : Hp) => 
 F5_1 Q p0 ((p0).n : Int) ⟨H31.size, 0, none⟩ (!r144) H142))))))))))))))))))))))))))))))))))))
set_option maxRecDepth 100000 in
set_option maxHeartbeats 4000000 in
theorem walk5 {w0 : World} {p0 : Sl} {p1 : Int} {p2 : Int} {H : Hp} {Q : Bool → Hp → Prop} (h : F5 p0 p1 p2 H Q) :
    Good Tryd.prog w0 5 #[(Sl.v p0), (.int .i64 p1), (.int .i64 p2)] H (fun v H => ∃ (r0 : Bool) , v = (.bool r0) ∧ Q r0 H) := by
  unfold F5 at h
  refine Good.enter' (fn := Tryd.f5) Tryd.func5 rfl rfl rfl ?_
  refine HW.seq ?_
  refine HW.region ?_
  refine HList.vals (v := (.bool false)) rfl (HVal.assign' rfl) ?_
  refine HList.nil ?_
  refine nt ?_
  refine HW.seq ?_
  refine HW.seq ?_
  refine HW.region ?_
  refine HList.ops' rfl (HOp.call' 8 [] (cap := []) rfl rfl Tryd.call8 (walk8 h)) ?_
  rintro _ H1 ⟨r3, rfl, h⟩
  refine HList.vals (v := (.bool (!r3))) rfl (HVal.not rfl) ?_
  refine HList.nil ?_
  refine nt ?_
  obtain ⟨hT, hF⟩ := h
  refine HW.cond (!r3) rfl (fun hb4 => ?_) (fun hb4 => ?_)
  · have h := hT hb4
    clear hT hF
    refine HW.seq ?_
    refine HW.region ?_
    refine HList.vals (v := (.bool false)) rfl (HVal.assign' rfl) ?_
    refine HList.nil ?_
    refine nt ?_
    refine HW.ret ?_
    refine tr ?_
    exact ⟨_, resOf1 rfl Res1.t, ⟨false, rfl, h⟩⟩
  · have h := hF hb4
    clear hT hF
    refine HW.skip ?_
    refine nt ?_
    refine HW.seq ?_
    refine HW.region ?_
    refine HList.vals (v := (Sl.v p0)) rfl (HVal.move' rfl) ?_
    refine HList.vals (v := (.int .i64 ((p0).n : Int))) rfl (HVal.len Tryd.runUnderlying47 rfl) ?_
    refine HList.vals (v := (.int .i64 ((p0).n : Int))) rfl (HVal.assign' rfl) ?_
    refine HList.nil ?_
    refine nt ?_
    refine HW.seq ?_
    refine HW.region ?_
    refine HList.ops' rfl (HOp.buildSlice' (zs := [(.string (ByteArray.mk #[])), (.string (ByteArray.mk #[])), (.string (ByteArray.mk #[]))]) (cs := [(.string S_b), (.string S_a), (.string S_b)]) Tryd.runUnderlying29 Tryd.sizeOf9 Tryd.zeroValue9 (by decide) (by kernel_rfl) rfl (by decide)) ?_
    rintro _ H5 ⟨rfl, e6⟩
    replace h := h H5 e6
    refine HList.vals (v := (Sl.v p0)) rfl (HVal.move' rfl) ?_
    refine HList.ops' rfl (HOp.call' 11 [(Sl.v p0)] (cap := []) rfl rfl Tryd.call11 (walk11 h)) ?_
    rintro _ H7 ⟨r9, rfl, h⟩
    refine HList.ops' rfl (HOp.call' 10 [(.int .i64 7), (.int .i64 70), (.string S_a)] (cap := []) rfl rfl Tryd.call10 (walk10 h)) ?_
    rintro _ H10 ⟨r12, r13, r14, rfl, h⟩
    refine HList.ops' rfl (HOp.buildSlice' (zs := [(.string (ByteArray.mk #[])), (.int .i64 0), (Sl.v Sl.nil)]) (cs := [(.string r12), (.int .i64 r13), (Sl.v r14)]) Tryd.runUnderlying49 Tryd.sizeOf36 Tryd.zeroValue36 (by decide) (by kernel_rfl) rfl (by decide)) ?_
    rintro _ H15 ⟨rfl, e16⟩
    replace h := h H15 e16
    refine HList.ops' rfl (HOp.call' 10 [(.int .i64 8), (.int .i64 80), (.string S_c)] (cap := []) rfl rfl Tryd.call10 (walk10 h)) ?_
    rintro _ H17 ⟨r19, r20, r21, rfl, h⟩
    refine HList.ops' rfl (HOp.buildSlice' (zs := [(.string (ByteArray.mk #[])), (.int .i64 0), (Sl.v Sl.nil)]) (cs := [(.string r19), (.int .i64 r20), (Sl.v r21)]) Tryd.runUnderlying49 Tryd.sizeOf36 Tryd.zeroValue36 (by decide) (by kernel_rfl) rfl (by decide)) ?_
    rintro _ H22 ⟨rfl, e23⟩
    replace h := h H22 e23
    refine HList.ops' rfl (HOp.buildSlice' (zs := [(Sl.v Sl.nil), (Sl.v Sl.nil), (Sl.v Sl.nil)]) (cs := [(Sl.v r9), (Sl.v (Sl.mk (some ⟨H10.size, 0, none⟩) 1 1)), (Sl.v (Sl.mk (some ⟨H17.size, 0, none⟩) 1 1))]) Tryd.runUnderlying27 Tryd.sizeOf49 Tryd.zeroValue49 (by decide) (by kernel_rfl) rfl (by decide)) ?_
    rintro _ H24 ⟨rfl, e25⟩
    replace h := h H24 e25
    refine HList.vals (v := (.int .i64 p2)) rfl (HVal.move' rfl) ?_
    refine HList.vals (v := (.int .i64 p1)) rfl (HVal.move' rfl) ?_
    refine HList.ops' rfl (HOp.call' 10 [(.int .i64 p2), (.int .i64 p1), (.string S_n)] (cap := []) rfl rfl Tryd.call10 (walk10 h)) ?_
    rintro _ H26 ⟨r28, r29, r30, rfl, h⟩
    refine HList.ops' rfl (HOp.call' 12 [] (cap := []) rfl rfl Tryd.call12 (walk12 h)) ?_
    rintro _ H31 ⟨r33, rfl, h⟩
    refine HList.vals (v := (.agg #[(Sl.v (Sl.mk (some ⟨H1.size, 0, none⟩) 3 3)), (Sl.v (Sl.mk (some ⟨H22.size, 0, none⟩) 3 3)), (.string S_b), (.string r28), (.int .i64 r29), (Sl.v r30), (Sl.v r33)])) rfl (HVal.build' (cs := [(Sl.v (Sl.mk (some ⟨H1.size, 0, none⟩) 3 3)), (Sl.v (Sl.mk (some ⟨H22.size, 0, none⟩) 3 3)), (.string S_b), (.string r28), (.int .i64 r29), (Sl.v r30), (Sl.v r33)]) Tryd.runUnderlying43 Tryd.zeroValue43 places43 (by kernel_rfl)) ?_
    refine HList.ops' rfl (HOp.alloc Tryd.zeroValue43) ?_
    rintro _ H34 ⟨rfl, e35⟩
    replace h := h H34 e35
    obtain ⟨z38, h⟩ := h
    refine HList.opsn (HOp.storeN' (l := [(Sl.v (Sl.mk (some ⟨H1.size, 0, none⟩) 3 3)), (Sl.v (Sl.mk (some ⟨H22.size, 0, none⟩) 3 3)), (.string S_b), (.string r28), (.int .i64 r29), (Sl.v r30), (Sl.v r33)]) Tryd.sizeOf43 rfl rfl rfl z38) ?_
    rintro _ H36 e37
    replace h := h H36 e37
    refine HList.nil ?_
    refine nt ?_
    refine HW.seq ?_
    refine HW.cut (fun ρ H_1 => ∃ (y68 : Bool), Env.Is ρ [(0, (Sl.v p0)), (7, (.int .i64 ((p0).n : Int))), (8, (.pointer (some ⟨H31.size, 0, none⟩))), (49, (.bool y68))] ∧ F5_1 Q p0 ((p0).n : Int) ⟨H31.size, 0, none⟩ y68 H_1) ?_ ?_
    · refine HW.draw mixed [(1, some [3]), (2, some []), (0, none), (3, none), (4, some []), (5, some []), (7, some [9]), (8, some []), (6, none), (9, none), (10, some []), (11, some []), (12, some []), (14, some [15]), (13, none), (15, none), (16, some []), (17, some []), (18, some []), (20, some [21]), (19, none), (21, none), (22, some []), (23, some [])] rfl (by kernel_rfl) (by kernel_rfl) ?_
      obtain ⟨x43, x44, x45, x46, x47, x48, x49, c42, h⟩ := h
      refine HPlan.takel (v := (.agg #[(Sl.v x43), (Sl.v x44), (.string x45), (.string x46), (.int .i64 x47), (Sl.v x48), (Sl.v x49)])) (fun X => cells X ⟨H31.size, 0, none⟩ [(Sl.v x43), (Sl.v x44), (.string x45), (.string x46), (.int .i64 x47), (Sl.v x48), (Sl.v x49)] 0) rfl rfl (fun _ hX => HVal.loadN [(Sl.v x43), (Sl.v x44), (.string x45), (.string x46), (.int .i64 x47), (Sl.v x48), (Sl.v x49)] Tryd.isAgg43 Tryd.sizeOf43 rfl hX) c42 ?_
      refine HPlan.takev (v := (.int .i64 p1)) rfl rfl (fun _ => HVal.move' rfl) ?_
      refine HPlan.ops' rfl rfl (HOp.call' 16 [(.string S_b), (.int .i64 2), (.string S_x)] (cap := []) rfl rfl Tryd.call16 (walk16 h)) ?_
      rintro _ H50 ⟨r52, r53, r54, r55, r56, r57, r58, r59, r60, r61, rfl, h⟩
      obtain ⟨s62, h⟩ := h
      refine ⟨SC_of ⟨fun _ => s62, trivial⟩, ?_⟩
      refine HPlan.ops' rfl rfl (HOp.call' 13 [(.agg #[(.int .i64 r52), (.int .i64 r53), (.int .i64 r54), (.int .i64 r55), (.string r56), (.bool r57), (.string r58), (.int .i64 r59), (.string r60), (Sl.v r61)]), (.agg #[(Sl.v x43), (Sl.v x44), (.string x45), (.string x46), (.int .i64 x47), (Sl.v x48), (Sl.v x49)]), (.int .i64 p1)] (cap := []) rfl rfl Tryd.call13 (walk13 h)) ?_
      rintro _ H63 ⟨r65, rfl, h⟩
      refine ⟨SC_of ⟨fun e => absurd e (by decide), trivial⟩, ?_⟩
      refine HPlan.takev (v := (.bool (!r65))) rfl rfl (fun _ => HVal.not rfl) ?_
      refine HPlan.takev (v := (.bool (!r65))) rfl rfl (fun _ => HVal.move' rfl) ?_
      obtain ⟨hT, hF⟩ := h
      rcases Bool.eq_false_or_eq_true (!r65) with hb66 | hb67
      · have h := hT hb66
        clear hT hF
        refine HPlan.takegskip rfl rfl rfl rfl (congrArg Value.bool hb66) ?_
        refine HPlan.takegskip rfl rfl rfl rfl (congrArg Value.bool hb66) ?_
        refine HPlan.opgskip rfl rfl rfl rfl (congrArg Value.bool hb66) ?_
        refine HPlan.opgskip rfl rfl rfl rfl (congrArg Value.bool hb66) ?_
        refine HPlan.takegskip rfl rfl rfl rfl (congrArg Value.bool hb66) ?_
        refine HPlan.takev (v := (.bool true)) rfl rfl (fun _ => HVal.pickT rfl hb66 rfl) ?_
        refine HPlan.takev (v := (.bool true)) rfl rfl (fun _ => HVal.move' rfl) ?_
        refine HPlan.takegskip rfl rfl rfl rfl rfl ?_
        refine HPlan.opgskip rfl rfl rfl rfl rfl ?_
        refine HPlan.opgskip rfl rfl rfl rfl rfl ?_
        refine HPlan.takegskip rfl rfl rfl rfl rfl ?_
        refine HPlan.takev (v := (.bool true)) rfl rfl (fun _ => HVal.pickT rfl rfl rfl) ?_
        refine HPlan.takev (v := (.bool true)) rfl rfl (fun _ => HVal.move' rfl) ?_
        refine HPlan.takegskip rfl rfl rfl rfl rfl ?_
        refine HPlan.opgskip rfl rfl rfl rfl rfl ?_
        refine HPlan.opgskip rfl rfl rfl rfl rfl ?_
        refine HPlan.takegskip rfl rfl rfl rfl rfl ?_
        refine HPlan.takev (v := (.bool true)) rfl rfl (fun _ => HVal.pickT rfl rfl rfl) ?_
        refine HPlan.done ?_
        refine nt ?_
        exact ⟨true, ⟨rfl, rfl, rfl, rfl, trivial⟩, h⟩
      · have h := hF hb67
        clear hT hF
        obtain ⟨x70, x71, x72, x73, x74, x75, x76, c69, h⟩ := h
        refine HPlan.gtakel (v := (.agg #[(Sl.v x70), (Sl.v x71), (.string x72), (.string x73), (.int .i64 x74), (Sl.v x75), (Sl.v x76)])) (fun X => cells X ⟨H31.size, 0, none⟩ [(Sl.v x70), (Sl.v x71), (.string x72), (.string x73), (.int .i64 x74), (Sl.v x75), (Sl.v x76)] 0) rfl rfl rfl rfl rfl (congrArg Value.bool hb67) (fun _ hX => HVal.loadN [(Sl.v x70), (Sl.v x71), (.string x72), (.string x73), (.int .i64 x74), (Sl.v x75), (Sl.v x76)] Tryd.isAgg43 Tryd.sizeOf43 rfl hX) c69 ?_
        refine HPlan.gtakev (v := (.int .i64 p2)) rfl rfl rfl rfl rfl (congrArg Value.bool hb67) (fun _ => HVal.move' rfl) ?_
        refine HPlan.gops rfl rfl rfl rfl rfl (congrArg Value.bool hb67) (HOp.call' 16 [(.string S_b), (.int .i64 2), (.string S_time)] (cap := []) rfl rfl Tryd.call16 (walk16 h)) ?_
        rintro _ H77 ⟨r79, r80, r81, r82, r83, r84, r85, r86, r87, r88, rfl, h⟩
        obtain ⟨s89, h⟩ := h
        refine ⟨SC_of ⟨fun _ => s89, fun e => absurd e (by decide), trivial⟩, ?_⟩
        refine HPlan.gops rfl rfl rfl rfl rfl (congrArg Value.bool hb67) (HOp.call' 13 [(.agg #[(.int .i64 r79), (.int .i64 r80), (.int .i64 r81), (.int .i64 r82), (.string r83), (.bool r84), (.string r85), (.int .i64 r86), (.string r87), (Sl.v r88)]), (.agg #[(Sl.v x70), (Sl.v x71), (.string x72), (.string x73), (.int .i64 x74), (Sl.v x75), (Sl.v x76)]), (.int .i64 p2)] (cap := []) rfl rfl Tryd.call13 (walk13 h)) ?_
        rintro _ H90 ⟨r92, rfl, h⟩
        refine ⟨SC_of ⟨fun e => absurd e (by decide), fun e => absurd e (by decide), trivial⟩, ?_⟩
        refine HPlan.gtakev (v := (.bool (!r92))) rfl rfl rfl rfl rfl (congrArg Value.bool hb67) (fun _ => HVal.not rfl) ?_
        refine HPlan.takev (v := (.bool (!r92))) rfl rfl (fun _ => HVal.pickF rfl hb67 rfl) ?_
        refine HPlan.takev (v := (.bool (!r92))) rfl rfl (fun _ => HVal.move' rfl) ?_
        obtain ⟨hT, hF⟩ := h
        rcases Bool.eq_false_or_eq_true (!r92) with hb93 | hb94
        · have h := hT hb93
          clear hT hF
          refine HPlan.takegskip rfl rfl rfl rfl (congrArg Value.bool hb93) ?_
          refine HPlan.opgskip rfl rfl rfl rfl (congrArg Value.bool hb93) ?_
          refine HPlan.opgskip rfl rfl rfl rfl (congrArg Value.bool hb93) ?_
          refine HPlan.takegskip rfl rfl rfl rfl (congrArg Value.bool hb93) ?_
          refine HPlan.takev (v := (.bool true)) rfl rfl (fun _ => HVal.pickT rfl hb93 rfl) ?_
          refine HPlan.takev (v := (.bool true)) rfl rfl (fun _ => HVal.move' rfl) ?_
          refine HPlan.takegskip rfl rfl rfl rfl rfl ?_
          refine HPlan.opgskip rfl rfl rfl rfl rfl ?_
          refine HPlan.opgskip rfl rfl rfl rfl rfl ?_
          refine HPlan.takegskip rfl rfl rfl rfl rfl ?_
          refine HPlan.takev (v := (.bool true)) rfl rfl (fun _ => HVal.pickT rfl rfl rfl) ?_
          refine HPlan.done ?_
          refine nt ?_
          exact ⟨true, ⟨rfl, rfl, rfl, rfl, trivial⟩, h⟩
        · have h := hF hb94
          clear hT hF
          obtain ⟨x96, x97, x98, x99, x100, x101, x102, c95, h⟩ := h
          refine HPlan.gtakel (v := (.agg #[(Sl.v x96), (Sl.v x97), (.string x98), (.string x99), (.int .i64 x100), (Sl.v x101), (Sl.v x102)])) (fun X => cells X ⟨H31.size, 0, none⟩ [(Sl.v x96), (Sl.v x97), (.string x98), (.string x99), (.int .i64 x100), (Sl.v x101), (Sl.v x102)] 0) rfl rfl rfl rfl rfl (congrArg Value.bool hb94) (fun _ hX => HVal.loadN [(Sl.v x96), (Sl.v x97), (.string x98), (.string x99), (.int .i64 x100), (Sl.v x101), (Sl.v x102)] Tryd.isAgg43 Tryd.sizeOf43 rfl hX) c95 ?_
          refine HPlan.gops rfl rfl rfl rfl rfl (congrArg Value.bool hb94) (HOp.call' 16 [(.string S_a), (.int .i64 1), (.string S_x)] (cap := []) rfl rfl Tryd.call16 (walk16 h)) ?_
          rintro _ H103 ⟨r105, r106, r107, r108, r109, r110, r111, r112, r113, r114, rfl, h⟩
          obtain ⟨s115, h⟩ := h
          refine ⟨SC_of ⟨fun _ => s115, fun e => absurd e (by decide), fun e => absurd e (by decide), trivial⟩, ?_⟩
          refine HPlan.gops rfl rfl rfl rfl rfl (congrArg Value.bool hb94) (HOp.call' 13 [(.agg #[(.int .i64 r105), (.int .i64 r106), (.int .i64 r107), (.int .i64 r108), (.string r109), (.bool r110), (.string r111), (.int .i64 r112), (.string r113), (Sl.v r114)]), (.agg #[(Sl.v x96), (Sl.v x97), (.string x98), (.string x99), (.int .i64 x100), (Sl.v x101), (Sl.v x102)]), (.int .i64 70)] (cap := []) rfl rfl Tryd.call13 (walk13 h)) ?_
          rintro _ H116 ⟨r118, rfl, h⟩
          refine ⟨SC_of ⟨fun e => absurd e (by decide), fun e => absurd e (by decide), fun e => absurd e (by decide), trivial⟩, ?_⟩
          refine HPlan.gtakev (v := (.bool (!r118))) rfl rfl rfl rfl rfl (congrArg Value.bool hb94) (fun _ => HVal.not rfl) ?_
          refine HPlan.takev (v := (.bool (!r118))) rfl rfl (fun _ => HVal.pickF rfl hb94 rfl) ?_
          refine HPlan.takev (v := (.bool (!r118))) rfl rfl (fun _ => HVal.move' rfl) ?_
          obtain ⟨hT, hF⟩ := h
          rcases Bool.eq_false_or_eq_true (!r118) with hb119 | hb120
          · have h := hT hb119
            clear hT hF
            refine HPlan.takegskip rfl rfl rfl rfl (congrArg Value.bool hb119) ?_
            refine HPlan.opgskip rfl rfl rfl rfl (congrArg Value.bool hb119) ?_
            refine HPlan.opgskip rfl rfl rfl rfl (congrArg Value.bool hb119) ?_
            refine HPlan.takegskip rfl rfl rfl rfl (congrArg Value.bool hb119) ?_
            refine HPlan.takev (v := (.bool true)) rfl rfl (fun _ => HVal.pickT rfl hb119 rfl) ?_
            refine HPlan.done ?_
            refine nt ?_
            exact ⟨true, ⟨rfl, rfl, rfl, rfl, trivial⟩, h⟩
          · have h := hF hb120
            clear hT hF
            obtain ⟨x122, x123, x124, x125, x126, x127, x128, c121, h⟩ := h
            refine HPlan.gtakel (v := (.agg #[(Sl.v x122), (Sl.v x123), (.string x124), (.string x125), (.int .i64 x126), (Sl.v x127), (Sl.v x128)])) (fun X => cells X ⟨H31.size, 0, none⟩ [(Sl.v x122), (Sl.v x123), (.string x124), (.string x125), (.int .i64 x126), (Sl.v x127), (Sl.v x128)] 0) rfl rfl rfl rfl rfl (congrArg Value.bool hb120) (fun _ hX => HVal.loadN [(Sl.v x122), (Sl.v x123), (.string x124), (.string x125), (.int .i64 x126), (Sl.v x127), (Sl.v x128)] Tryd.isAgg43 Tryd.sizeOf43 rfl hX) c121 ?_
            refine HPlan.gops rfl rfl rfl rfl rfl (congrArg Value.bool hb120) (HOp.call' 16 [(.string S_a), (.int .i64 5), (.string S_time)] (cap := []) rfl rfl Tryd.call16 (walk16 h)) ?_
            rintro _ H129 ⟨r131, r132, r133, r134, r135, r136, r137, r138, r139, r140, rfl, h⟩
            obtain ⟨s141, h⟩ := h
            refine ⟨SC_of ⟨fun _ => s141, fun e => absurd e (by decide), fun e => absurd e (by decide), fun e => absurd e (by decide), trivial⟩, ?_⟩
            refine HPlan.gops rfl rfl rfl rfl rfl (congrArg Value.bool hb120) (HOp.call' 13 [(.agg #[(.int .i64 r131), (.int .i64 r132), (.int .i64 r133), (.int .i64 r134), (.string r135), (.bool r136), (.string r137), (.int .i64 r138), (.string r139), (Sl.v r140)]), (.agg #[(Sl.v x122), (Sl.v x123), (.string x124), (.string x125), (.int .i64 x126), (Sl.v x127), (Sl.v x128)]), (.int .i64 7)] (cap := []) rfl rfl Tryd.call13 (walk13 h)) ?_
            rintro _ H142 ⟨r144, rfl, h⟩
            refine ⟨SC_of ⟨fun e => absurd e (by decide), fun e => absurd e (by decide), fun e => absurd e (by decide), fun e => absurd e (by decide), trivial⟩, ?_⟩
            refine HPlan.gtakev (v := (.bool (!r144))) rfl rfl rfl rfl rfl (congrArg Value.bool hb120) (fun _ => HVal.not rfl) ?_
            refine HPlan.takev (v := (.bool (!r144))) rfl rfl (fun _ => HVal.pickF rfl hb120 rfl) ?_
            refine HPlan.done ?_
            refine nt ?_
            exact ⟨(!r144), ⟨rfl, rfl, rfl, rfl, trivial⟩, h⟩
    · rintro ρ H_1 ⟨y68, hI, h⟩
      obtain ⟨ρ0, rfl⟩ : ∃ ρ0, ρ = (Env.set (Env.set (Env.set (Env.set ρ0 49 (.bool y68)) 8 (.pointer (some ⟨H31.size, 0, none⟩))) 7 (.int .i64 ((p0).n : Int))) 0 (Sl.v p0)) := ⟨ρ, hI.eq⟩
      clear hI; unfold F5_1 at h
      obtain ⟨hT, hF⟩ := h
      refine HW.cond y68 rfl (fun hb145 => ?_) (fun hb145 => ?_)
      · have h := hT hb145
        clear hT hF
        refine HW.seq ?_
        refine HW.region ?_
        refine HList.vals (v := (.bool false)) rfl (HVal.assign' rfl) ?_
        refine HList.nil ?_
        refine nt ?_
        refine HW.ret ?_
        refine tr ?_
        exact ⟨_, resOf1 rfl Res1.t, ⟨false, rfl, h⟩⟩
      · have h := hF hb145
        clear hT hF
        refine HW.skip ?_
        refine nt ?_
        refine HW.seq ?_
        refine HW.cut (fun ρ H_2 => ∃ (y175 : Bool), Env.Is ρ [(0, (Sl.v p0)), (7, (.int .i64 ((p0).n : Int))), (8, (.pointer (some ⟨H31.size, 0, none⟩))), (71, (.bool y175))] ∧ F5_2 Q p0 ((p0).n : Int) ⟨H31.size, 0, none⟩ y175 H_2) ?_ ?_
        · refine HW.draw mixed [(1, some [2]), (0, none), (2, none), (3, some []), (4, some []), (6, some [7]), (5, none), (7, none), (8, some []), (9, some []), (10, some []), (12, some [13]), (11, none), (13, none), (14, some []), (15, some []), (16, some []), (18, some [19]), (17, none), (19, none), (20, some []), (21, some [])] rfl (by kernel_rfl) (by kernel_rfl) ?_
          obtain ⟨x150, x151, x152, x153, x154, x155, x156, c149, h⟩ := h
          refine HPlan.takel (v := (.agg #[(Sl.v x150), (Sl.v x151), (.string x152), (.string x153), (.int .i64 x154), (Sl.v x155), (Sl.v x156)])) (fun X => cells X ⟨H31.size, 0, none⟩ [(Sl.v x150), (Sl.v x151), (.string x152), (.string x153), (.int .i64 x154), (Sl.v x155), (Sl.v x156)] 0) rfl rfl (fun _ hX => HVal.loadN [(Sl.v x150), (Sl.v x151), (.string x152), (.string x153), (.int .i64 x154), (Sl.v x155), (Sl.v x156)] Tryd.isAgg43 Tryd.sizeOf43 rfl hX) c149 ?_
          refine HPlan.ops' rfl rfl (HOp.call' 16 [(.string S_a), (.int .i64 2), (.string S_x)] (cap := []) rfl rfl Tryd.call16 (walk16 h)) ?_
          rintro _ H157 ⟨r159, r160, r161, r162, r163, r164, r165, r166, r167, r168, rfl, h⟩
          obtain ⟨s169, h⟩ := h
          refine ⟨SC_of ⟨fun _ => s169, trivial⟩, ?_⟩
          refine HPlan.ops' rfl rfl (HOp.call' 15 [(.agg #[(.int .i64 r159), (.int .i64 r160), (.int .i64 r161), (.int .i64 r162), (.string r163), (.bool r164), (.string r165), (.int .i64 r166), (.string r167), (Sl.v r168)]), (.agg #[(Sl.v x150), (Sl.v x151), (.string x152), (.string x153), (.int .i64 x154), (Sl.v x155), (Sl.v x156)]), (.int .i64 110)] (cap := []) rfl rfl Tryd.call15 (walk15 h)) ?_
          rintro _ H170 ⟨r172, rfl, h⟩
          refine ⟨SC_of ⟨fun e => absurd e (by decide), trivial⟩, ?_⟩
          refine HPlan.takev (v := (.bool (!r172))) rfl rfl (fun _ => HVal.not rfl) ?_
          refine HPlan.takev (v := (.bool (!r172))) rfl rfl (fun _ => HVal.move' rfl) ?_
          obtain ⟨hT, hF⟩ := h
          rcases Bool.eq_false_or_eq_true (!r172) with hb173 | hb174
          · have h := hT hb173
            clear hT hF
            refine HPlan.takegskip rfl rfl rfl rfl (congrArg Value.bool hb173) ?_
            refine HPlan.opgskip rfl rfl rfl rfl (congrArg Value.bool hb173) ?_
            refine HPlan.opgskip rfl rfl rfl rfl (congrArg Value.bool hb173) ?_
            refine HPlan.takegskip rfl rfl rfl rfl (congrArg Value.bool hb173) ?_
            refine HPlan.takev (v := (.bool true)) rfl rfl (fun _ => HVal.pickT rfl hb173 rfl) ?_
            refine HPlan.takev (v := (.bool true)) rfl rfl (fun _ => HVal.move' rfl) ?_
            refine HPlan.takegskip rfl rfl rfl rfl rfl ?_
            refine HPlan.opgskip rfl rfl rfl rfl rfl ?_
            refine HPlan.opgskip rfl rfl rfl rfl rfl ?_
            refine HPlan.takegskip rfl rfl rfl rfl rfl ?_
            refine HPlan.takev (v := (.bool true)) rfl rfl (fun _ => HVal.pickT rfl rfl rfl) ?_
            refine HPlan.takev (v := (.bool true)) rfl rfl (fun _ => HVal.move' rfl) ?_
            refine HPlan.takegskip rfl rfl rfl rfl rfl ?_
            refine HPlan.opgskip rfl rfl rfl rfl rfl ?_
            refine HPlan.opgskip rfl rfl rfl rfl rfl ?_
            refine HPlan.takegskip rfl rfl rfl rfl rfl ?_
            refine HPlan.takev (v := (.bool true)) rfl rfl (fun _ => HVal.pickT rfl rfl rfl) ?_
            refine HPlan.done ?_
            refine nt ?_
            exact ⟨true, ⟨rfl, rfl, rfl, rfl, trivial⟩, h⟩
          · have h := hF hb174
            clear hT hF
            obtain ⟨x177, x178, x179, x180, x181, x182, x183, c176, h⟩ := h
            refine HPlan.gtakel (v := (.agg #[(Sl.v x177), (Sl.v x178), (.string x179), (.string x180), (.int .i64 x181), (Sl.v x182), (Sl.v x183)])) (fun X => cells X ⟨H31.size, 0, none⟩ [(Sl.v x177), (Sl.v x178), (.string x179), (.string x180), (.int .i64 x181), (Sl.v x182), (Sl.v x183)] 0) rfl rfl rfl rfl rfl (congrArg Value.bool hb174) (fun _ hX => HVal.loadN [(Sl.v x177), (Sl.v x178), (.string x179), (.string x180), (.int .i64 x181), (Sl.v x182), (Sl.v x183)] Tryd.isAgg43 Tryd.sizeOf43 rfl hX) c176 ?_
            refine HPlan.gops rfl rfl rfl rfl rfl (congrArg Value.bool hb174) (HOp.call' 16 [(.string S_a), (.int .i64 3), (.string S_x)] (cap := []) rfl rfl Tryd.call16 (walk16 h)) ?_
            rintro _ H184 ⟨r186, r187, r188, r189, r190, r191, r192, r193, r194, r195, rfl, h⟩
            obtain ⟨s196, h⟩ := h
            refine ⟨SC_of ⟨fun _ => s196, fun e => absurd e (by decide), trivial⟩, ?_⟩
            refine HPlan.gops rfl rfl rfl rfl rfl (congrArg Value.bool hb174) (HOp.call' 15 [(.agg #[(.int .i64 r186), (.int .i64 r187), (.int .i64 r188), (.int .i64 r189), (.string r190), (.bool r191), (.string r192), (.int .i64 r193), (.string r194), (Sl.v r195)]), (.agg #[(Sl.v x177), (Sl.v x178), (.string x179), (.string x180), (.int .i64 x181), (Sl.v x182), (Sl.v x183)]), (.int .i64 110)] (cap := []) rfl rfl Tryd.call15 (walk15 h)) ?_
            rintro _ H197 ⟨r199, rfl, h⟩
            refine ⟨SC_of ⟨fun e => absurd e (by decide), fun e => absurd e (by decide), trivial⟩, ?_⟩
            refine HPlan.gtakev (v := (.bool (!r199))) rfl rfl rfl rfl rfl (congrArg Value.bool hb174) (fun _ => HVal.not rfl) ?_
            refine HPlan.takev (v := (.bool (!r199))) rfl rfl (fun _ => HVal.pickF rfl hb174 rfl) ?_
            refine HPlan.takev (v := (.bool (!r199))) rfl rfl (fun _ => HVal.move' rfl) ?_
            obtain ⟨hT, hF⟩ := h
            rcases Bool.eq_false_or_eq_true (!r199) with hb200 | hb201
            · have h := hT hb200
              clear hT hF
              refine HPlan.takegskip rfl rfl rfl rfl (congrArg Value.bool hb200) ?_
              refine HPlan.opgskip rfl rfl rfl rfl (congrArg Value.bool hb200) ?_
              refine HPlan.opgskip rfl rfl rfl rfl (congrArg Value.bool hb200) ?_
              refine HPlan.takegskip rfl rfl rfl rfl (congrArg Value.bool hb200) ?_
              refine HPlan.takev (v := (.bool true)) rfl rfl (fun _ => HVal.pickT rfl hb200 rfl) ?_
              refine HPlan.takev (v := (.bool true)) rfl rfl (fun _ => HVal.move' rfl) ?_
              refine HPlan.takegskip rfl rfl rfl rfl rfl ?_
              refine HPlan.opgskip rfl rfl rfl rfl rfl ?_
              refine HPlan.opgskip rfl rfl rfl rfl rfl ?_
              refine HPlan.takegskip rfl rfl rfl rfl rfl ?_
              refine HPlan.takev (v := (.bool true)) rfl rfl (fun _ => HVal.pickT rfl rfl rfl) ?_
              refine HPlan.done ?_
              refine nt ?_
              exact ⟨true, ⟨rfl, rfl, rfl, rfl, trivial⟩, h⟩
            · have h := hF hb201
              clear hT hF
              obtain ⟨x203, x204, x205, x206, x207, x208, x209, c202, h⟩ := h
              refine HPlan.gtakel (v := (.agg #[(Sl.v x203), (Sl.v x204), (.string x205), (.string x206), (.int .i64 x207), (Sl.v x208), (Sl.v x209)])) (fun X => cells X ⟨H31.size, 0, none⟩ [(Sl.v x203), (Sl.v x204), (.string x205), (.string x206), (.int .i64 x207), (Sl.v x208), (Sl.v x209)] 0) rfl rfl rfl rfl rfl (congrArg Value.bool hb201) (fun _ hX => HVal.loadN [(Sl.v x203), (Sl.v x204), (.string x205), (.string x206), (.int .i64 x207), (Sl.v x208), (Sl.v x209)] Tryd.isAgg43 Tryd.sizeOf43 rfl hX) c202 ?_
              refine HPlan.gops rfl rfl rfl rfl rfl (congrArg Value.bool hb201) (HOp.call' 16 [(.string S_z), (.int .i64 1), (.string S_x)] (cap := []) rfl rfl Tryd.call16 (walk16 h)) ?_
              rintro _ H210 ⟨r212, r213, r214, r215, r216, r217, r218, r219, r220, r221, rfl, h⟩
              obtain ⟨s222, h⟩ := h
              refine ⟨SC_of ⟨fun _ => s222, fun e => absurd e (by decide), fun e => absurd e (by decide), trivial⟩, ?_⟩
              refine HPlan.gops rfl rfl rfl rfl rfl (congrArg Value.bool hb201) (HOp.call' 15 [(.agg #[(.int .i64 r212), (.int .i64 r213), (.int .i64 r214), (.int .i64 r215), (.string r216), (.bool r217), (.string r218), (.int .i64 r219), (.string r220), (Sl.v r221)]), (.agg #[(Sl.v x203), (Sl.v x204), (.string x205), (.string x206), (.int .i64 x207), (Sl.v x208), (Sl.v x209)]), (.int .i64 110)] (cap := []) rfl rfl Tryd.call15 (walk15 h)) ?_
              rintro _ H223 ⟨r225, rfl, h⟩
              refine ⟨SC_of ⟨fun e => absurd e (by decide), fun e => absurd e (by decide), fun e => absurd e (by decide), trivial⟩, ?_⟩
              refine HPlan.gtakev (v := (.bool (!r225))) rfl rfl rfl rfl rfl (congrArg Value.bool hb201) (fun _ => HVal.not rfl) ?_
              refine HPlan.takev (v := (.bool (!r225))) rfl rfl (fun _ => HVal.pickF rfl hb201 rfl) ?_
              refine HPlan.takev (v := (.bool (!r225))) rfl rfl (fun _ => HVal.move' rfl) ?_
              obtain ⟨hT, hF⟩ := h
              rcases Bool.eq_false_or_eq_true (!r225) with hb226 | hb227
              · have h := hT hb226
                clear hT hF
                refine HPlan.takegskip rfl rfl rfl rfl (congrArg Value.bool hb226) ?_
                refine HPlan.opgskip rfl rfl rfl rfl (congrArg Value.bool hb226) ?_
                refine HPlan.opgskip rfl rfl rfl rfl (congrArg Value.bool hb226) ?_
                refine HPlan.takegskip rfl rfl rfl rfl (congrArg Value.bool hb226) ?_
                refine HPlan.takev (v := (.bool true)) rfl rfl (fun _ => HVal.pickT rfl hb226 rfl) ?_
                refine HPlan.done ?_
                refine nt ?_
                exact ⟨true, ⟨rfl, rfl, rfl, rfl, trivial⟩, h⟩
              · have h := hF hb227
                clear hT hF
                obtain ⟨x229, x230, x231, x232, x233, x234, x235, c228, h⟩ := h
                refine HPlan.gtakel (v := (.agg #[(Sl.v x229), (Sl.v x230), (.string x231), (.string x232), (.int .i64 x233), (Sl.v x234), (Sl.v x235)])) (fun X => cells X ⟨H31.size, 0, none⟩ [(Sl.v x229), (Sl.v x230), (.string x231), (.string x232), (.int .i64 x233), (Sl.v x234), (Sl.v x235)] 0) rfl rfl rfl rfl rfl (congrArg Value.bool hb227) (fun _ hX => HVal.loadN [(Sl.v x229), (Sl.v x230), (.string x231), (.string x232), (.int .i64 x233), (Sl.v x234), (Sl.v x235)] Tryd.isAgg43 Tryd.sizeOf43 rfl hX) c228 ?_
                refine HPlan.gops rfl rfl rfl rfl rfl (congrArg Value.bool hb227) (HOp.call' 16 [(.string S_a), (.int .i64 1), (.string S_y)] (cap := []) rfl rfl Tryd.call16 (walk16 h)) ?_
                rintro _ H236 ⟨r238, r239, r240, r241, r242, r243, r244, r245, r246, r247, rfl, h⟩
                obtain ⟨s248, h⟩ := h
                refine ⟨SC_of ⟨fun _ => s248, fun e => absurd e (by decide), fun e => absurd e (by decide), fun e => absurd e (by decide), trivial⟩, ?_⟩
                refine HPlan.gops rfl rfl rfl rfl rfl (congrArg Value.bool hb227) (HOp.call' 15 [(.agg #[(.int .i64 r238), (.int .i64 r239), (.int .i64 r240), (.int .i64 r241), (.string r242), (.bool r243), (.string r244), (.int .i64 r245), (.string r246), (Sl.v r247)]), (.agg #[(Sl.v x229), (Sl.v x230), (.string x231), (.string x232), (.int .i64 x233), (Sl.v x234), (Sl.v x235)]), (.int .i64 82)] (cap := []) rfl rfl Tryd.call15 (walk15 h)) ?_
                rintro _ H249 ⟨r251, rfl, h⟩
                refine ⟨SC_of ⟨fun e => absurd e (by decide), fun e => absurd e (by decide), fun e => absurd e (by decide), fun e => absurd e (by decide), trivial⟩, ?_⟩
                refine HPlan.gtakev (v := (.bool (!r251))) rfl rfl rfl rfl rfl (congrArg Value.bool hb227) (fun _ => HVal.not rfl) ?_
                refine HPlan.takev (v := (.bool (!r251))) rfl rfl (fun _ => HVal.pickF rfl hb227 rfl) ?_
                refine HPlan.done ?_
                refine nt ?_
                exact ⟨(!r251), ⟨rfl, rfl, rfl, rfl, trivial⟩, h⟩
        · rintro ρ H_2 ⟨y175, hI, h⟩
          obtain ⟨ρ0, rfl⟩ : ∃ ρ0, ρ = (Env.set (Env.set (Env.set (Env.set ρ0 71 (.bool y175)) 8 (.pointer (some ⟨H31.size, 0, none⟩))) 7 (.int .i64 ((p0).n : Int))) 0 (Sl.v p0)) := ⟨ρ, hI.eq⟩
          clear hI; unfold F5_2 at h
          obtain ⟨hT, hF⟩ := h
          refine HW.cond y175 rfl (fun hb252 => ?_) (fun hb252 => ?_)
          · have h := hT hb252
            clear hT hF
            refine HW.seq ?_
            refine HW.region ?_
            refine HList.vals (v := (.bool false)) rfl (HVal.assign' rfl) ?_
            refine HList.nil ?_
            refine nt ?_
            refine HW.ret ?_
            refine tr ?_
            exact ⟨_, resOf1 rfl Res1.t, ⟨false, rfl, h⟩⟩
          · have h := hF hb252
            clear hT hF
            refine HW.skip ?_
            refine nt ?_
            refine HW.seq ?_
            refine HW.seq ?_
            refine HW.region ?_
            refine HList.vals (v := (.int .i64 ((p0).n : Int))) rfl (HVal.move' rfl) ?_
            refine HList.vals (v := (.bool (decide (((p0).n : Int) = 0)))) rfl (HVal.eqlI rfl rfl) ?_
            refine HList.nil ?_
            refine nt ?_
            obtain ⟨hT, hF⟩ := h
            refine HW.cond (decide (((p0).n : Int) = 0)) rfl (fun hb253 => ?_) (fun hb253 => ?_)
            · have h := hT hb253
              clear hT hF
              refine HW.seq ?_
              refine HW.draw mixed [(1, some [2]), (0, none), (2, none), (3, some []), (5, some [6]), (4, none), (6, none), (7, some []), (8, some []), (10, some [11]), (9, none), (11, none), (12, some []), (13, some []), (15, some [16]), (14, none), (16, none), (17, some []), (18, some [])] rfl (by kernel_rfl) (by kernel_rfl) ?_
              obtain ⟨x255, x256, x257, x258, x259, x260, x261, c254, h⟩ := h
              refine HPlan.takel (v := (.agg #[(Sl.v x255), (Sl.v x256), (.string x257), (.string x258), (.int .i64 x259), (Sl.v x260), (Sl.v x261)])) (fun X => cells X ⟨H31.size, 0, none⟩ [(Sl.v x255), (Sl.v x256), (.string x257), (.string x258), (.int .i64 x259), (Sl.v x260), (Sl.v x261)] 0) rfl rfl (fun _ hX => HVal.loadN [(Sl.v x255), (Sl.v x256), (.string x257), (.string x258), (.int .i64 x259), (Sl.v x260), (Sl.v x261)] Tryd.isAgg43 Tryd.sizeOf43 rfl hX) c254 ?_
              refine HPlan.ops' rfl rfl (HOp.call' 16 [(.string S_b), (.int .i64 1), (.string S_x)] (cap := []) rfl rfl Tryd.call16 (walk16 h)) ?_
              rintro _ H262 ⟨r264, r265, r266, r267, r268, r269, r270, r271, r272, r273, rfl, h⟩
              obtain ⟨s274, h⟩ := h
              refine ⟨SC_of ⟨fun _ => s274, trivial⟩, ?_⟩
              refine HPlan.ops' rfl rfl (HOp.call' 15 [(.agg #[(.int .i64 r264), (.int .i64 r265), (.int .i64 r266), (.int .i64 r267), (.string r268), (.bool r269), (.string r270), (.int .i64 r271), (.string r272), (Sl.v r273)]), (.agg #[(Sl.v x255), (Sl.v x256), (.string x257), (.string x258), (.int .i64 x259), (Sl.v x260), (Sl.v x261)]), (.int .i64 110)] (cap := []) rfl rfl Tryd.call15 (walk15 h)) ?_
              rintro _ H275 ⟨r277, rfl, h⟩
              refine ⟨SC_of ⟨fun e => absurd e (by decide), trivial⟩, ?_⟩
              refine HPlan.takev (v := (.bool r277)) rfl rfl (fun _ => HVal.move' rfl) ?_
              obtain ⟨hT, hF⟩ := h
              rcases Bool.eq_false_or_eq_true r277 with hb278 | hb279
              · have h := hT hb278
                clear hT hF
                obtain ⟨x281, x282, x283, x284, x285, x286, x287, c280, h⟩ := h
                refine HPlan.gtakel (v := (.agg #[(Sl.v x281), (Sl.v x282), (.string x283), (.string x284), (.int .i64 x285), (Sl.v x286), (Sl.v x287)])) (fun X => cells X ⟨H31.size, 0, none⟩ [(Sl.v x281), (Sl.v x282), (.string x283), (.string x284), (.int .i64 x285), (Sl.v x286), (Sl.v x287)] 0) rfl rfl rfl rfl rfl (congrArg Value.bool hb278) (fun _ hX => HVal.loadN [(Sl.v x281), (Sl.v x282), (.string x283), (.string x284), (.int .i64 x285), (Sl.v x286), (Sl.v x287)] Tryd.isAgg43 Tryd.sizeOf43 rfl hX) c280 ?_
                refine HPlan.gops rfl rfl rfl rfl rfl (congrArg Value.bool hb278) (HOp.call' 16 [(.string S_b), (.int .i64 4), (.string S_x)] (cap := []) rfl rfl Tryd.call16 (walk16 h)) ?_
                rintro _ H288 ⟨r290, r291, r292, r293, r294, r295, r296, r297, r298, r299, rfl, h⟩
                obtain ⟨s300, h⟩ := h
                refine ⟨SC_of ⟨fun _ => s300, fun e => absurd e (by decide), trivial⟩, ?_⟩
                refine HPlan.gops rfl rfl rfl rfl rfl (congrArg Value.bool hb278) (HOp.call' 15 [(.agg #[(.int .i64 r290), (.int .i64 r291), (.int .i64 r292), (.int .i64 r293), (.string r294), (.bool r295), (.string r296), (.int .i64 r297), (.string r298), (Sl.v r299)]), (.agg #[(Sl.v x281), (Sl.v x282), (.string x283), (.string x284), (.int .i64 x285), (Sl.v x286), (Sl.v x287)]), (.int .i64 110)] (cap := []) rfl rfl Tryd.call15 (walk15 h)) ?_
                rintro _ H301 ⟨r303, rfl, h⟩
                refine ⟨SC_of ⟨fun e => absurd e (by decide), fun e => absurd e (by decide), trivial⟩, ?_⟩
                refine HPlan.takev (v := (.bool r303)) rfl rfl (fun _ => HVal.pickT rfl hb278 rfl) ?_
                refine HPlan.takev (v := (.bool r303)) rfl rfl (fun _ => HVal.move' rfl) ?_
                obtain ⟨hT, hF⟩ := h
                rcases Bool.eq_false_or_eq_true r303 with hb304 | hb305
                · have h := hT hb304
                  clear hT hF
                  obtain ⟨x307, x308, x309, x310, x311, x312, x313, c306, h⟩ := h
                  refine HPlan.gtakel (v := (.agg #[(Sl.v x307), (Sl.v x308), (.string x309), (.string x310), (.int .i64 x311), (Sl.v x312), (Sl.v x313)])) (fun X => cells X ⟨H31.size, 0, none⟩ [(Sl.v x307), (Sl.v x308), (.string x309), (.string x310), (.int .i64 x311), (Sl.v x312), (Sl.v x313)] 0) rfl rfl rfl rfl rfl (congrArg Value.bool hb304) (fun _ hX => HVal.loadN [(Sl.v x307), (Sl.v x308), (.string x309), (.string x310), (.int .i64 x311), (Sl.v x312), (Sl.v x313)] Tryd.isAgg43 Tryd.sizeOf43 rfl hX) c306 ?_
                  refine HPlan.gops rfl rfl rfl rfl rfl (congrArg Value.bool hb304) (HOp.call' 16 [(.string S_b), (.int .i64 5), (.string S_x)] (cap := []) rfl rfl Tryd.call16 (walk16 h)) ?_
                  rintro _ H314 ⟨r316, r317, r318, r319, r320, r321, r322, r323, r324, r325, rfl, h⟩
                  obtain ⟨s326, h⟩ := h
                  refine ⟨SC_of ⟨fun _ => s326, fun e => absurd e (by decide), fun e => absurd e (by decide), trivial⟩, ?_⟩
                  refine HPlan.gops rfl rfl rfl rfl rfl (congrArg Value.bool hb304) (HOp.call' 15 [(.agg #[(.int .i64 r316), (.int .i64 r317), (.int .i64 r318), (.int .i64 r319), (.string r320), (.bool r321), (.string r322), (.int .i64 r323), (.string r324), (Sl.v r325)]), (.agg #[(Sl.v x307), (Sl.v x308), (.string x309), (.string x310), (.int .i64 x311), (Sl.v x312), (Sl.v x313)]), (.int .i64 110)] (cap := []) rfl rfl Tryd.call15 (walk15 h)) ?_
                  rintro _ H327 ⟨r329, rfl, h⟩
                  refine ⟨SC_of ⟨fun e => absurd e (by decide), fun e => absurd e (by decide), fun e => absurd e (by decide), trivial⟩, ?_⟩
                  refine HPlan.takev (v := (.bool r329)) rfl rfl (fun _ => HVal.pickT rfl hb304 rfl) ?_
                  refine HPlan.takev (v := (.bool r329)) rfl rfl (fun _ => HVal.move' rfl) ?_
                  obtain ⟨hT, hF⟩ := h
                  rcases Bool.eq_false_or_eq_true r329 with hb330 | hb331
                  · have h := hT hb330
                    clear hT hF
                    obtain ⟨x333, x334, x335, x336, x337, x338, x339, c332, h⟩ := h
                    refine HPlan.gtakel (v := (.agg #[(Sl.v x333), (Sl.v x334), (.string x335), (.string x336), (.int .i64 x337), (Sl.v x338), (Sl.v x339)])) (fun X => cells X ⟨H31.size, 0, none⟩ [(Sl.v x333), (Sl.v x334), (.string x335), (.string x336), (.int .i64 x337), (Sl.v x338), (Sl.v x339)] 0) rfl rfl rfl rfl rfl (congrArg Value.bool hb330) (fun _ hX => HVal.loadN [(Sl.v x333), (Sl.v x334), (.string x335), (.string x336), (.int .i64 x337), (Sl.v x338), (Sl.v x339)] Tryd.isAgg43 Tryd.sizeOf43 rfl hX) c332 ?_
                    refine HPlan.gops rfl rfl rfl rfl rfl (congrArg Value.bool hb330) (HOp.call' 16 [(.string S_b), (.int .i64 3), (.string S_x)] (cap := []) rfl rfl Tryd.call16 (walk16 h)) ?_
                    rintro _ H340 ⟨r342, r343, r344, r345, r346, r347, r348, r349, r350, r351, rfl, h⟩
                    obtain ⟨s352, h⟩ := h
                    refine ⟨SC_of ⟨fun _ => s352, fun e => absurd e (by decide), fun e => absurd e (by decide), fun e => absurd e (by decide), trivial⟩, ?_⟩
                    refine HPlan.gops rfl rfl rfl rfl rfl (congrArg Value.bool hb330) (HOp.call' 15 [(.agg #[(.int .i64 r342), (.int .i64 r343), (.int .i64 r344), (.int .i64 r345), (.string r346), (.bool r347), (.string r348), (.int .i64 r349), (.string r350), (Sl.v r351)]), (.agg #[(Sl.v x333), (Sl.v x334), (.string x335), (.string x336), (.int .i64 x337), (Sl.v x338), (Sl.v x339)]), (.int .i64 110)] (cap := []) rfl rfl Tryd.call15 (walk15 h)) ?_
                    rintro _ H353 ⟨r355, rfl, h⟩
                    refine ⟨SC_of ⟨fun e => absurd e (by decide), fun e => absurd e (by decide), fun e => absurd e (by decide), fun e => absurd e (by decide), trivial⟩, ?_⟩
                    refine HPlan.takev (v := (.bool r355)) rfl rfl (fun _ => HVal.pickT rfl hb330 rfl) ?_
                    refine HPlan.takev (v := (.bool r355)) rfl rfl (fun _ => HVal.assign' rfl) ?_
                    refine HPlan.done ?_
                    refine nt ?_
                    refine HW.ret ?_
                    refine tr ?_
                    exact ⟨_, resOf1 rfl Res1.t, ⟨r355, rfl, h⟩⟩
                  · have h := hF hb331
                    clear hT hF
                    refine HPlan.takegskip rfl rfl rfl rfl (congrArg Value.bool hb331) ?_
                    refine HPlan.opgskip rfl rfl rfl rfl (congrArg Value.bool hb331) ?_
                    refine HPlan.opgskip rfl rfl rfl rfl (congrArg Value.bool hb331) ?_
                    refine HPlan.takev (v := (.bool false)) rfl rfl (fun _ => HVal.pickF rfl hb331 rfl) ?_
                    refine HPlan.takev (v := (.bool false)) rfl rfl (fun _ => HVal.assign' rfl) ?_
                    refine HPlan.done ?_
                    refine nt ?_
                    refine HW.ret ?_
                    refine tr ?_
                    exact ⟨_, resOf1 rfl Res1.t, ⟨false, rfl, h⟩⟩
                · have h := hF hb305
                  clear hT hF
                  refine HPlan.takegskip rfl rfl rfl rfl (congrArg Value.bool hb305) ?_
                  refine HPlan.opgskip rfl rfl rfl rfl (congrArg Value.bool hb305) ?_
                  refine HPlan.opgskip rfl rfl rfl rfl (congrArg Value.bool hb305) ?_
                  refine HPlan.takev (v := (.bool false)) rfl rfl (fun _ => HVal.pickF rfl hb305 rfl) ?_
                  refine HPlan.takev (v := (.bool false)) rfl rfl (fun _ => HVal.move' rfl) ?_
                  refine HPlan.takegskip rfl rfl rfl rfl rfl ?_
                  refine HPlan.opgskip rfl rfl rfl rfl rfl ?_
                  refine HPlan.opgskip rfl rfl rfl rfl rfl ?_
                  refine HPlan.takev (v := (.bool false)) rfl rfl (fun _ => HVal.pickF rfl rfl rfl) ?_
                  refine HPlan.takev (v := (.bool false)) rfl rfl (fun _ => HVal.assign' rfl) ?_
                  refine HPlan.done ?_
                  refine nt ?_
                  refine HW.ret ?_
                  refine tr ?_
                  exact ⟨_, resOf1 rfl Res1.t, ⟨false, rfl, h⟩⟩
              · have h := hF hb279
                clear hT hF
                refine HPlan.takegskip rfl rfl rfl rfl (congrArg Value.bool hb279) ?_
                refine HPlan.opgskip rfl rfl rfl rfl (congrArg Value.bool hb279) ?_
                refine HPlan.opgskip rfl rfl rfl rfl (congrArg Value.bool hb279) ?_
                refine HPlan.takev (v := (.bool false)) rfl rfl (fun _ => HVal.pickF rfl hb279 rfl) ?_
                refine HPlan.takev (v := (.bool false)) rfl rfl (fun _ => HVal.move' rfl) ?_
                refine HPlan.takegskip rfl rfl rfl rfl rfl ?_
                refine HPlan.opgskip rfl rfl rfl rfl rfl ?_
                refine HPlan.opgskip rfl rfl rfl rfl rfl ?_
                refine HPlan.takev (v := (.bool false)) rfl rfl (fun _ => HVal.pickF rfl rfl rfl) ?_
                refine HPlan.takev (v := (.bool false)) rfl rfl (fun _ => HVal.move' rfl) ?_
                refine HPlan.takegskip rfl rfl rfl rfl rfl ?_
                refine HPlan.opgskip rfl rfl rfl rfl rfl ?_
                refine HPlan.opgskip rfl rfl rfl rfl rfl ?_
                refine HPlan.takev (v := (.bool false)) rfl rfl (fun _ => HVal.pickF rfl rfl rfl) ?_
                refine HPlan.takev (v := (.bool false)) rfl rfl (fun _ => HVal.assign' rfl) ?_
                refine HPlan.done ?_
                refine nt ?_
                refine HW.ret ?_
                refine tr ?_
                exact ⟨_, resOf1 rfl Res1.t, ⟨false, rfl, h⟩⟩
            · have h := hF hb253
              clear hT hF
              refine HW.skip ?_
              refine nt ?_
              refine HW.seq ?_
              refine HW.cut (fun ρ H_3 => ∃ (y392 : Bool), Env.Is ρ [(0, (Sl.v p0)), (7, (.int .i64 ((p0).n : Int))), (8, (.pointer (some ⟨H31.size, 0, none⟩))), (137, (.bool y392))] ∧ F5_3 Q p0 ((p0).n : Int) ⟨H31.size, 0, none⟩ y392 H_3) ?_ ?_
              · refine HW.draw mixed [(1, some [5]), (2, some []), (3, some []), (4, some [5]), (0, none), (5, none), (6, some []), (7, some []), (9, some [13]), (10, some []), (11, some []), (12, some [13]), (8, none), (13, none), (14, some []), (15, some []), (16, some []), (18, some [24]), (19, some []), (20, some []), (21, some []), (22, some []), (23, some [24]), (17, none), (24, none), (25, some []), (26, some []), (27, some []), (29, some [35]), (30, some []), (31, some []), (32, some []), (33, some []), (34, some [35]), (28, none), (35, none), (36, some []), (37, some []), (38, some []), (40, some [43]), (41, some []), (42, some []), (39, none), (43, none), (44, some []), (45, some [])] rfl (by kernel_rfl) (by kernel_rfl) ?_
                obtain ⟨x360, x361, x362, x363, x364, x365, x366, c359, h⟩ := h
                refine HPlan.takel (v := (.agg #[(Sl.v x360), (Sl.v x361), (.string x362), (.string x363), (.int .i64 x364), (Sl.v x365), (Sl.v x366)])) (fun X => cells X ⟨H31.size, 0, none⟩ [(Sl.v x360), (Sl.v x361), (.string x362), (.string x363), (.int .i64 x364), (Sl.v x365), (Sl.v x366)] 0) rfl rfl (fun _ hX => HVal.loadN [(Sl.v x360), (Sl.v x361), (.string x362), (.string x363), (.int .i64 x364), (Sl.v x365), (Sl.v x366)] Tryd.isAgg43 Tryd.sizeOf43 rfl hX) c359 ?_
                refine HPlan.takev (v := (Sl.v p0)) rfl rfl (fun _ => HVal.move' rfl) ?_
                obtain ⟨a367, e368, b369, b370, h⟩ := h
                refine HPlan.takev (v := (.pointer (some (Addr.add a367 ((0 : Int).toNat * 1))))) rfl rfl (fun _ => HVal.indexAddr Tryd.runUnderlying47 Tryd.sizeOf2 (Sl.v_some rfl e368) rfl b369 b370) ?_
                obtain ⟨x372, c371, h⟩ := h
                refine HPlan.takel (v := (.int .i64 x372)) (fun X => cell X (Addr.add a367 ((0 : Int).toNat * 1)) = some (.int .i64 x372)) rfl rfl (fun _ hX => HVal.load1 Tryd.isAgg2 rfl hX) c371 ?_
                refine HPlan.ops' rfl rfl (HOp.call' 16 [(.string S_b), (.int .i64 1), (.string S_x)] (cap := []) rfl rfl Tryd.call16 (walk16 h)) ?_
                rintro _ H373 ⟨r375, r376, r377, r378, r379, r380, r381, r382, r383, r384, rfl, h⟩
                obtain ⟨s385, s386, h⟩ := h
                refine ⟨SC_of ⟨fun _ => s385, fun _ => s386, trivial⟩, ?_⟩
                refine HPlan.ops' rfl rfl (HOp.call' 13 [(.agg #[(.int .i64 r375), (.int .i64 r376), (.int .i64 r377), (.int .i64 r378), (.string r379), (.bool r380), (.string r381), (.int .i64 r382), (.string r383), (Sl.v r384)]), (.agg #[(Sl.v x360), (Sl.v x361), (.string x362), (.string x363), (.int .i64 x364), (Sl.v x365), (Sl.v x366)]), (.int .i64 x372)] (cap := []) rfl rfl Tryd.call13 (walk13 h)) ?_
                rintro _ H387 ⟨r389, rfl, h⟩
                refine ⟨SC_of ⟨fun e => absurd e (by decide), fun e => absurd e (by decide), trivial⟩, ?_⟩
                refine HPlan.takev (v := (.bool (!r389))) rfl rfl (fun _ => HVal.not rfl) ?_
                refine HPlan.takev (v := (.bool (!r389))) rfl rfl (fun _ => HVal.move' rfl) ?_
                obtain ⟨hT, hF⟩ := h
                rcases Bool.eq_false_or_eq_true (!r389) with hb390 | hb391
                · have h := hT hb390
                  clear hT hF
                  refine HPlan.takegskip rfl rfl rfl rfl (congrArg Value.bool hb390) ?_
                  refine HPlan.takegskip rfl rfl rfl rfl (congrArg Value.bool hb390) ?_
                  refine HPlan.takegskip rfl rfl rfl rfl (congrArg Value.bool hb390) ?_
                  refine HPlan.takegskip rfl rfl rfl rfl (congrArg Value.bool hb390) ?_
                  refine HPlan.opgskip rfl rfl rfl rfl (congrArg Value.bool hb390) ?_
                  refine HPlan.opgskip rfl rfl rfl rfl (congrArg Value.bool hb390) ?_
                  refine HPlan.takegskip rfl rfl rfl rfl (congrArg Value.bool hb390) ?_
                  refine HPlan.takev (v := (.bool true)) rfl rfl (fun _ => HVal.pickT rfl hb390 rfl) ?_
                  refine HPlan.takev (v := (.bool true)) rfl rfl (fun _ => HVal.move' rfl) ?_
                  refine HPlan.takegskip rfl rfl rfl rfl rfl ?_
                  refine HPlan.takegskip rfl rfl rfl rfl rfl ?_
                  refine HPlan.takegskip rfl rfl rfl rfl rfl ?_
                  refine HPlan.takegskip rfl rfl rfl rfl rfl ?_
                  refine HPlan.takegskip rfl rfl rfl rfl rfl ?_
                  refine HPlan.takegskip rfl rfl rfl rfl rfl ?_
                  refine HPlan.opgskip rfl rfl rfl rfl rfl ?_
                  refine HPlan.opgskip rfl rfl rfl rfl rfl ?_
                  refine HPlan.takegskip rfl rfl rfl rfl rfl ?_
                  refine HPlan.takev (v := (.bool true)) rfl rfl (fun _ => HVal.pickT rfl rfl rfl) ?_
                  refine HPlan.takev (v := (.bool true)) rfl rfl (fun _ => HVal.move' rfl) ?_
                  refine HPlan.takegskip rfl rfl rfl rfl rfl ?_
                  refine HPlan.takegskip rfl rfl rfl rfl rfl ?_
                  refine HPlan.takegskip rfl rfl rfl rfl rfl ?_
                  refine HPlan.takegskip rfl rfl rfl rfl rfl ?_
                  refine HPlan.takegskip rfl rfl rfl rfl rfl ?_
                  refine HPlan.takegskip rfl rfl rfl rfl rfl ?_
                  refine HPlan.opgskip rfl rfl rfl rfl rfl ?_
                  refine HPlan.opgskip rfl rfl rfl rfl rfl ?_
                  refine HPlan.takegskip rfl rfl rfl rfl rfl ?_
                  refine HPlan.takev (v := (.bool true)) rfl rfl (fun _ => HVal.pickT rfl rfl rfl) ?_
                  refine HPlan.takev (v := (.bool true)) rfl rfl (fun _ => HVal.move' rfl) ?_
                  refine HPlan.takegskip rfl rfl rfl rfl rfl ?_
                  refine HPlan.takegskip rfl rfl rfl rfl rfl ?_
                  refine HPlan.takegskip rfl rfl rfl rfl rfl ?_
                  refine HPlan.opgskip rfl rfl rfl rfl rfl ?_
                  refine HPlan.opgskip rfl rfl rfl rfl rfl ?_
                  refine HPlan.takegskip rfl rfl rfl rfl rfl ?_
                  refine HPlan.takev (v := (.bool true)) rfl rfl (fun _ => HVal.pickT rfl rfl rfl) ?_
                  refine HPlan.done ?_
                  refine nt ?_
                  exact ⟨true, ⟨rfl, rfl, rfl, rfl, trivial⟩, h⟩
                · have h := hF hb391
                  clear hT hF
                  obtain ⟨x394, x395, x396, x397, x398, x399, x400, c393, h⟩ := h
                  refine HPlan.gtakel (v := (.agg #[(Sl.v x394), (Sl.v x395), (.string x396), (.string x397), (.int .i64 x398), (Sl.v x399), (Sl.v x400)])) (fun X => cells X ⟨H31.size, 0, none⟩ [(Sl.v x394), (Sl.v x395), (.string x396), (.string x397), (.int .i64 x398), (Sl.v x399), (Sl.v x400)] 0) rfl rfl rfl rfl rfl (congrArg Value.bool hb391) (fun _ hX => HVal.loadN [(Sl.v x394), (Sl.v x395), (.string x396), (.string x397), (.int .i64 x398), (Sl.v x399), (Sl.v x400)] Tryd.isAgg43 Tryd.sizeOf43 rfl hX) c393 ?_
                  refine HPlan.gtakev (v := (Sl.v p0)) rfl rfl rfl rfl rfl (congrArg Value.bool hb391) (fun _ => HVal.move' rfl) ?_
                  obtain ⟨a401, e402, b403, b404, h⟩ := h
                  refine HPlan.gtakev (v := (.pointer (some (Addr.add a401 ((0 : Int).toNat * 1))))) rfl rfl rfl rfl rfl (congrArg Value.bool hb391) (fun _ => HVal.indexAddr Tryd.runUnderlying47 Tryd.sizeOf2 (Sl.v_some rfl e402) rfl b403 b404) ?_
                  obtain ⟨x406, c405, h⟩ := h
                  refine HPlan.gtakel (v := (.int .i64 x406)) (fun X => cell X (Addr.add a401 ((0 : Int).toNat * 1)) = some (.int .i64 x406)) rfl rfl rfl rfl rfl (congrArg Value.bool hb391) (fun _ hX => HVal.load1 Tryd.isAgg2 rfl hX) c405 ?_
                  refine HPlan.gops rfl rfl rfl rfl rfl (congrArg Value.bool hb391) (HOp.call' 16 [(.string S_b), (.int .i64 4), (.string S_x)] (cap := []) rfl rfl Tryd.call16 (walk16 h)) ?_
                  rintro _ H407 ⟨r409, r410, r411, r412, r413, r414, r415, r416, r417, r418, rfl, h⟩
                  obtain ⟨s419, s420, h⟩ := h
                  refine ⟨SC_of ⟨fun _ => s419, fun _ => s420, fun e => absurd e (by decide), fun e => absurd e (by decide), trivial⟩, ?_⟩
                  refine HPlan.gops rfl rfl rfl rfl rfl (congrArg Value.bool hb391) (HOp.call' 13 [(.agg #[(.int .i64 r409), (.int .i64 r410), (.int .i64 r411), (.int .i64 r412), (.string r413), (.bool r414), (.string r415), (.int .i64 r416), (.string r417), (Sl.v r418)]), (.agg #[(Sl.v x394), (Sl.v x395), (.string x396), (.string x397), (.int .i64 x398), (Sl.v x399), (Sl.v x400)]), (.int .i64 x406)] (cap := []) rfl rfl Tryd.call13 (walk13 h)) ?_
                  rintro _ H421 ⟨r423, rfl, h⟩
                  refine ⟨SC_of ⟨fun e => absurd e (by decide), fun e => absurd e (by decide), fun e => absurd e (by decide), fun e => absurd e (by decide), trivial⟩, ?_⟩
                  refine HPlan.gtakev (v := (.bool (!r423))) rfl rfl rfl rfl rfl (congrArg Value.bool hb391) (fun _ => HVal.not rfl) ?_
                  refine HPlan.takev (v := (.bool (!r423))) rfl rfl (fun _ => HVal.pickF rfl hb391 rfl) ?_
                  refine HPlan.takev (v := (.bool (!r423))) rfl rfl (fun _ => HVal.move' rfl) ?_
                  obtain ⟨hT, hF⟩ := h
                  rcases Bool.eq_false_or_eq_true (!r423) with hb424 | hb425
                  · have h := hT hb424
                    clear hT hF
                    refine HPlan.takegskip rfl rfl rfl rfl (congrArg Value.bool hb424) ?_
                    refine HPlan.takegskip rfl rfl rfl rfl (congrArg Value.bool hb424) ?_
                    refine HPlan.takegskip rfl rfl rfl rfl (congrArg Value.bool hb424) ?_
                    refine HPlan.takegskip rfl rfl rfl rfl (congrArg Value.bool hb424) ?_
                    refine HPlan.takegskip rfl rfl rfl rfl (congrArg Value.bool hb424) ?_
                    refine HPlan.takegskip rfl rfl rfl rfl (congrArg Value.bool hb424) ?_
                    refine HPlan.opgskip rfl rfl rfl rfl (congrArg Value.bool hb424) ?_
                    refine HPlan.opgskip rfl rfl rfl rfl (congrArg Value.bool hb424) ?_
                    refine HPlan.takegskip rfl rfl rfl rfl (congrArg Value.bool hb424) ?_
                    refine HPlan.takev (v := (.bool true)) rfl rfl (fun _ => HVal.pickT rfl hb424 rfl) ?_
                    refine HPlan.takev (v := (.bool true)) rfl rfl (fun _ => HVal.move' rfl) ?_
                    refine HPlan.takegskip rfl rfl rfl rfl rfl ?_
                    refine HPlan.takegskip rfl rfl rfl rfl rfl ?_
                    refine HPlan.takegskip rfl rfl rfl rfl rfl ?_
                    refine HPlan.takegskip rfl rfl rfl rfl rfl ?_
                    refine HPlan.takegskip rfl rfl rfl rfl rfl ?_
                    refine HPlan.takegskip rfl rfl rfl rfl rfl ?_
                    refine HPlan.opgskip rfl rfl rfl rfl rfl ?_
                    refine HPlan.opgskip rfl rfl rfl rfl rfl ?_
                    refine HPlan.takegskip rfl rfl rfl rfl rfl ?_
                    refine HPlan.takev (v := (.bool true)) rfl rfl (fun _ => HVal.pickT rfl rfl rfl) ?_
                    refine HPlan.takev (v := (.bool true)) rfl rfl (fun _ => HVal.move' rfl) ?_
                    refine HPlan.takegskip rfl rfl rfl rfl rfl ?_
                    refine HPlan.takegskip rfl rfl rfl rfl rfl ?_
                    refine HPlan.takegskip rfl rfl rfl rfl rfl ?_
                    refine HPlan.opgskip rfl rfl rfl rfl rfl ?_
                    refine HPlan.opgskip rfl rfl rfl rfl rfl ?_
                    refine HPlan.takegskip rfl rfl rfl rfl rfl ?_
                    refine HPlan.takev (v := (.bool true)) rfl rfl (fun _ => HVal.pickT rfl rfl rfl) ?_
                    refine HPlan.done ?_
                    refine nt ?_
                    exact ⟨true, ⟨rfl, rfl, rfl, rfl, trivial⟩, h⟩
                  · have h := hF hb425
                    clear hT hF
                    obtain ⟨x427, x428, x429, x430, x431, x432, x433, c426, h⟩ := h
                    refine HPlan.gtakel (v := (.agg #[(Sl.v x427), (Sl.v x428), (.string x429), (.string x430), (.int .i64 x431), (Sl.v x432), (Sl.v x433)])) (fun X => cells X ⟨H31.size, 0, none⟩ [(Sl.v x427), (Sl.v x428), (.string x429), (.string x430), (.int .i64 x431), (Sl.v x432), (Sl.v x433)] 0) rfl rfl rfl rfl rfl (congrArg Value.bool hb425) (fun _ hX => HVal.loadN [(Sl.v x427), (Sl.v x428), (.string x429), (.string x430), (.int .i64 x431), (Sl.v x432), (Sl.v x433)] Tryd.isAgg43 Tryd.sizeOf43 rfl hX) c426 ?_
                    refine HPlan.gtakev (v := (Sl.v p0)) rfl rfl rfl rfl rfl (congrArg Value.bool hb425) (fun _ => HVal.move' rfl) ?_
                    refine HPlan.gtakev (v := (.int .i64 ((p0).n : Int))) rfl rfl rfl rfl rfl (congrArg Value.bool hb425) (fun _ => HVal.move' rfl) ?_
                    refine HPlan.gtakev (v := (.int .i64 (IntKind.i64.wrap (((p0).n : Int) - 1)))) rfl rfl rfl rfl rfl (congrArg Value.bool hb425) (fun _ => HVal.sub rfl rfl) ?_
                    obtain ⟨a434, e435, b436, b437, h⟩ := h
                    refine HPlan.gtakev (v := (.pointer (some (Addr.add a434 ((IntKind.i64.wrap (((p0).n : Int) - 1)).toNat * 1))))) rfl rfl rfl rfl rfl (congrArg Value.bool hb425) (fun _ => HVal.indexAddr Tryd.runUnderlying47 Tryd.sizeOf2 (Sl.v_some rfl e435) rfl b436 b437) ?_
                    obtain ⟨x439, c438, h⟩ := h
                    refine HPlan.gtakel (v := (.int .i64 x439)) (fun X => cell X (Addr.add a434 ((IntKind.i64.wrap (((p0).n : Int) - 1)).toNat * 1)) = some (.int .i64 x439)) rfl rfl rfl rfl rfl (congrArg Value.bool hb425) (fun _ hX => HVal.load1 Tryd.isAgg2 rfl hX) c438 ?_
                    refine HPlan.gops rfl rfl rfl rfl rfl (congrArg Value.bool hb425) (HOp.call' 16 [(.string S_b), (.int .i64 5), (.string S_x)] (cap := []) rfl rfl Tryd.call16 (walk16 h)) ?_
                    rintro _ H440 ⟨r442, r443, r444, r445, r446, r447, r448, r449, r450, r451, rfl, h⟩
                    obtain ⟨s452, s453, h⟩ := h
                    refine ⟨SC_of ⟨fun _ => s452, fun _ => s453, fun e => absurd e (by decide), fun e => absurd e (by decide), fun e => absurd e (by decide), fun e => absurd e (by decide), trivial⟩, ?_⟩
                    refine HPlan.gops rfl rfl rfl rfl rfl (congrArg Value.bool hb425) (HOp.call' 13 [(.agg #[(.int .i64 r442), (.int .i64 r443), (.int .i64 r444), (.int .i64 r445), (.string r446), (.bool r447), (.string r448), (.int .i64 r449), (.string r450), (Sl.v r451)]), (.agg #[(Sl.v x427), (Sl.v x428), (.string x429), (.string x430), (.int .i64 x431), (Sl.v x432), (Sl.v x433)]), (.int .i64 x439)] (cap := []) rfl rfl Tryd.call13 (walk13 h)) ?_
                    rintro _ H454 ⟨r456, rfl, h⟩
                    refine ⟨SC_of ⟨fun e => absurd e (by decide), fun e => absurd e (by decide), fun e => absurd e (by decide), fun e => absurd e (by decide), fun e => absurd e (by decide), fun e => absurd e (by decide), trivial⟩, ?_⟩
                    refine HPlan.gtakev (v := (.bool (!r456))) rfl rfl rfl rfl rfl (congrArg Value.bool hb425) (fun _ => HVal.not rfl) ?_
                    refine HPlan.takev (v := (.bool (!r456))) rfl rfl (fun _ => HVal.pickF rfl hb425 rfl) ?_
                    refine HPlan.takev (v := (.bool (!r456))) rfl rfl (fun _ => HVal.move' rfl) ?_
                    obtain ⟨hT, hF⟩ := h
                    rcases Bool.eq_false_or_eq_true (!r456) with hb457 | hb458
                    · have h := hT hb457
                      clear hT hF
                      refine HPlan.takegskip rfl rfl rfl rfl (congrArg Value.bool hb457) ?_
                      refine HPlan.takegskip rfl rfl rfl rfl (congrArg Value.bool hb457) ?_
                      refine HPlan.takegskip rfl rfl rfl rfl (congrArg Value.bool hb457) ?_
                      refine HPlan.takegskip rfl rfl rfl rfl (congrArg Value.bool hb457) ?_
                      refine HPlan.takegskip rfl rfl rfl rfl (congrArg Value.bool hb457) ?_
                      refine HPlan.takegskip rfl rfl rfl rfl (congrArg Value.bool hb457) ?_
                      refine HPlan.opgskip rfl rfl rfl rfl (congrArg Value.bool hb457) ?_
                      refine HPlan.opgskip rfl rfl rfl rfl (congrArg Value.bool hb457) ?_
                      refine HPlan.takegskip rfl rfl rfl rfl (congrArg Value.bool hb457) ?_
                      refine HPlan.takev (v := (.bool true)) rfl rfl (fun _ => HVal.pickT rfl hb457 rfl) ?_
                      refine HPlan.takev (v := (.bool true)) rfl rfl (fun _ => HVal.move' rfl) ?_
                      refine HPlan.takegskip rfl rfl rfl rfl rfl ?_
                      refine HPlan.takegskip rfl rfl rfl rfl rfl ?_
                      refine HPlan.takegskip rfl rfl rfl rfl rfl ?_
                      refine HPlan.opgskip rfl rfl rfl rfl rfl ?_
                      refine HPlan.opgskip rfl rfl rfl rfl rfl ?_
                      refine HPlan.takegskip rfl rfl rfl rfl rfl ?_
                      refine HPlan.takev (v := (.bool true)) rfl rfl (fun _ => HVal.pickT rfl rfl rfl) ?_
                      refine HPlan.done ?_
                      refine nt ?_
                      exact ⟨true, ⟨rfl, rfl, rfl, rfl, trivial⟩, h⟩
                    · have h := hF hb458
                      clear hT hF
                      obtain ⟨x460, x461, x462, x463, x464, x465, x466, c459, h⟩ := h
                      refine HPlan.gtakel (v := (.agg #[(Sl.v x460), (Sl.v x461), (.string x462), (.string x463), (.int .i64 x464), (Sl.v x465), (Sl.v x466)])) (fun X => cells X ⟨H31.size, 0, none⟩ [(Sl.v x460), (Sl.v x461), (.string x462), (.string x463), (.int .i64 x464), (Sl.v x465), (Sl.v x466)] 0) rfl rfl rfl rfl rfl (congrArg Value.bool hb458) (fun _ hX => HVal.loadN [(Sl.v x460), (Sl.v x461), (.string x462), (.string x463), (.int .i64 x464), (Sl.v x465), (Sl.v x466)] Tryd.isAgg43 Tryd.sizeOf43 rfl hX) c459 ?_
                      refine HPlan.gtakev (v := (Sl.v p0)) rfl rfl rfl rfl rfl (congrArg Value.bool hb458) (fun _ => HVal.move' rfl) ?_
                      refine HPlan.gtakev (v := (.int .i64 ((p0).n : Int))) rfl rfl rfl rfl rfl (congrArg Value.bool hb458) (fun _ => HVal.move' rfl) ?_
                      refine HPlan.gtakev (v := (.int .i64 (IntKind.i64.wrap (((p0).n : Int) - 1)))) rfl rfl rfl rfl rfl (congrArg Value.bool hb458) (fun _ => HVal.sub rfl rfl) ?_
                      obtain ⟨a467, e468, b469, b470, h⟩ := h
                      refine HPlan.gtakev (v := (.pointer (some (Addr.add a467 ((IntKind.i64.wrap (((p0).n : Int) - 1)).toNat * 1))))) rfl rfl rfl rfl rfl (congrArg Value.bool hb458) (fun _ => HVal.indexAddr Tryd.runUnderlying47 Tryd.sizeOf2 (Sl.v_some rfl e468) rfl b469 b470) ?_
                      obtain ⟨x472, c471, h⟩ := h
                      refine HPlan.gtakel (v := (.int .i64 x472)) (fun X => cell X (Addr.add a467 ((IntKind.i64.wrap (((p0).n : Int) - 1)).toNat * 1)) = some (.int .i64 x472)) rfl rfl rfl rfl rfl (congrArg Value.bool hb458) (fun _ hX => HVal.load1 Tryd.isAgg2 rfl hX) c471 ?_
                      refine HPlan.gops rfl rfl rfl rfl rfl (congrArg Value.bool hb458) (HOp.call' 16 [(.string S_b), (.int .i64 3), (.string S_x)] (cap := []) rfl rfl Tryd.call16 (walk16 h)) ?_
                      rintro _ H473 ⟨r475, r476, r477, r478, r479, r480, r481, r482, r483, r484, rfl, h⟩
                      obtain ⟨s485, s486, h⟩ := h
                      refine ⟨SC_of ⟨fun _ => s485, fun _ => s486, fun e => absurd e (by decide), fun e => absurd e (by decide), fun e => absurd e (by decide), fun e => absurd e (by decide), fun e => absurd e (by decide), fun e => absurd e (by decide), trivial⟩, ?_⟩
                      refine HPlan.gops rfl rfl rfl rfl rfl (congrArg Value.bool hb458) (HOp.call' 13 [(.agg #[(.int .i64 r475), (.int .i64 r476), (.int .i64 r477), (.int .i64 r478), (.string r479), (.bool r480), (.string r481), (.int .i64 r482), (.string r483), (Sl.v r484)]), (.agg #[(Sl.v x460), (Sl.v x461), (.string x462), (.string x463), (.int .i64 x464), (Sl.v x465), (Sl.v x466)]), (.int .i64 x472)] (cap := []) rfl rfl Tryd.call13 (walk13 h)) ?_
                      rintro _ H487 ⟨r489, rfl, h⟩
                      refine ⟨SC_of ⟨fun e => absurd e (by decide), fun e => absurd e (by decide), fun e => absurd e (by decide), fun e => absurd e (by decide), fun e => absurd e (by decide), fun e => absurd e (by decide), fun e => absurd e (by decide), fun e => absurd e (by decide), trivial⟩, ?_⟩
                      refine HPlan.gtakev (v := (.bool (!r489))) rfl rfl rfl rfl rfl (congrArg Value.bool hb458) (fun _ => HVal.not rfl) ?_
                      refine HPlan.takev (v := (.bool (!r489))) rfl rfl (fun _ => HVal.pickF rfl hb458 rfl) ?_
                      refine HPlan.takev (v := (.bool (!r489))) rfl rfl (fun _ => HVal.move' rfl) ?_
                      obtain ⟨hT, hF⟩ := h
                      rcases Bool.eq_false_or_eq_true (!r489) with hb490 | hb491
                      · have h := hT hb490
                        clear hT hF
                        refine HPlan.takegskip rfl rfl rfl rfl (congrArg Value.bool hb490) ?_
                        refine HPlan.takegskip rfl rfl rfl rfl (congrArg Value.bool hb490) ?_
                        refine HPlan.takegskip rfl rfl rfl rfl (congrArg Value.bool hb490) ?_
                        refine HPlan.opgskip rfl rfl rfl rfl (congrArg Value.bool hb490) ?_
                        refine HPlan.opgskip rfl rfl rfl rfl (congrArg Value.bool hb490) ?_
                        refine HPlan.takegskip rfl rfl rfl rfl (congrArg Value.bool hb490) ?_
                        refine HPlan.takev (v := (.bool true)) rfl rfl (fun _ => HVal.pickT rfl hb490 rfl) ?_
                        refine HPlan.done ?_
                        refine nt ?_
                        exact ⟨true, ⟨rfl, rfl, rfl, rfl, trivial⟩, h⟩
                      · have h := hF hb491
                        clear hT hF
                        obtain ⟨x493, x494, x495, x496, x497, x498, x499, c492, h⟩ := h
                        refine HPlan.gtakel (v := (.agg #[(Sl.v x493), (Sl.v x494), (.string x495), (.string x496), (.int .i64 x497), (Sl.v x498), (Sl.v x499)])) (fun X => cells X ⟨H31.size, 0, none⟩ [(Sl.v x493), (Sl.v x494), (.string x495), (.string x496), (.int .i64 x497), (Sl.v x498), (Sl.v x499)] 0) rfl rfl rfl rfl rfl (congrArg Value.bool hb491) (fun _ hX => HVal.loadN [(Sl.v x493), (Sl.v x494), (.string x495), (.string x496), (.int .i64 x497), (Sl.v x498), (Sl.v x499)] Tryd.isAgg43 Tryd.sizeOf43 rfl hX) c492 ?_
                        refine HPlan.gtakev (v := (.int .i64 ((p0).n : Int))) rfl rfl rfl rfl rfl (congrArg Value.bool hb491) (fun _ => HVal.move' rfl) ?_
                        refine HPlan.gtakev (v := (.int .i64 (IntKind.i64.wrap (((p0).n : Int) - 1)))) rfl rfl rfl rfl rfl (congrArg Value.bool hb491) (fun _ => HVal.sub rfl rfl) ?_
                        refine HPlan.gops rfl rfl rfl rfl rfl (congrArg Value.bool hb491) (HOp.call' 16 [(.string S_b), (.int .i64 5), (.string S_time)] (cap := []) rfl rfl Tryd.call16 (walk16 h)) ?_
                        rintro _ H500 ⟨r502, r503, r504, r505, r506, r507, r508, r509, r510, r511, rfl, h⟩
                        obtain ⟨s512, h⟩ := h
                        refine ⟨SC_of ⟨fun _ => s512, fun e => absurd e (by decide), fun e => absurd e (by decide), fun e => absurd e (by decide), fun e => absurd e (by decide), fun e => absurd e (by decide), fun e => absurd e (by decide), fun e => absurd e (by decide), fun e => absurd e (by decide), trivial⟩, ?_⟩
                        refine HPlan.gops rfl rfl rfl rfl rfl (congrArg Value.bool hb491) (HOp.call' 13 [(.agg #[(.int .i64 r502), (.int .i64 r503), (.int .i64 r504), (.int .i64 r505), (.string r506), (.bool r507), (.string r508), (.int .i64 r509), (.string r510), (Sl.v r511)]), (.agg #[(Sl.v x493), (Sl.v x494), (.string x495), (.string x496), (.int .i64 x497), (Sl.v x498), (Sl.v x499)]), (.int .i64 (IntKind.i64.wrap (((p0).n : Int) - 1)))] (cap := []) rfl rfl Tryd.call13 (walk13 h)) ?_
                        rintro _ H513 ⟨r515, rfl, h⟩
                        refine ⟨SC_of ⟨fun e => absurd e (by decide), fun e => absurd e (by decide), fun e => absurd e (by decide), fun e => absurd e (by decide), fun e => absurd e (by decide), fun e => absurd e (by decide), fun e => absurd e (by decide), fun e => absurd e (by decide), fun e => absurd e (by decide), trivial⟩, ?_⟩
                        refine HPlan.gtakev (v := (.bool (!r515))) rfl rfl rfl rfl rfl (congrArg Value.bool hb491) (fun _ => HVal.not rfl) ?_
                        refine HPlan.takev (v := (.bool (!r515))) rfl rfl (fun _ => HVal.pickF rfl hb491 rfl) ?_
                        refine HPlan.done ?_
                        refine nt ?_
                        exact ⟨(!r515), ⟨rfl, rfl, rfl, rfl, trivial⟩, h⟩
              · rintro ρ H_3 ⟨y392, hI, h⟩
                obtain ⟨ρ0, rfl⟩ : ∃ ρ0, ρ = (Env.set (Env.set (Env.set (Env.set ρ0 137 (.bool y392)) 8 (.pointer (some ⟨H31.size, 0, none⟩))) 7 (.int .i64 ((p0).n : Int))) 0 (Sl.v p0)) := ⟨ρ, hI.eq⟩
                clear hI; unfold F5_3 at h
                obtain ⟨hT, hF⟩ := h
                refine HW.cond y392 rfl (fun hb516 => ?_) (fun hb516 => ?_)
                · have h := hT hb516
                  clear hT hF
                  refine HW.seq ?_
                  refine HW.region ?_
                  refine HList.vals (v := (.bool false)) rfl (HVal.assign' rfl) ?_
                  refine HList.nil ?_
                  refine nt ?_
                  refine HW.ret ?_
                  refine tr ?_
                  exact ⟨_, resOf1 rfl Res1.t, ⟨false, rfl, h⟩⟩
                · have h := hF hb516
                  clear hT hF
                  refine HW.skip ?_
                  refine nt ?_
                  refine HW.seq ?_
                  refine HW.region ?_
                  refine HList.vals (v := (.pointer (some (Addr.add ⟨H31.size, 0, none⟩ 2)))) rfl (HVal.fieldAddr' Tryd.runUnderlying43 rfl rfl Tryd.sizeOf9 rfl) ?_
                  obtain ⟨z519, z520, h⟩ := h
                  refine HList.opsn (HOp.store1 Tryd.sizeOf9 rfl rfl rfl z519 z520) ?_
                  rintro _ H517 e518
                  replace h := h H517 e518
                  refine HList.nil ?_
                  refine nt ?_
                  refine HW.seq ?_
                  refine HW.draw mixed [(1, some [2]), (0, none), (2, none), (3, some []), (5, some [6]), (4, none), (6, none), (7, some []), (8, some []), (10, some [16]), (11, some []), (12, some []), (13, some []), (14, some []), (15, some [16]), (9, none), (16, none), (17, some []), (18, some [])] rfl (by kernel_rfl) (by kernel_rfl) ?_
                  obtain ⟨x522, x523, x524, x525, x526, x527, x528, c521, h⟩ := h
                  refine HPlan.takel (v := (.agg #[(Sl.v x522), (Sl.v x523), (.string x524), (.string x525), (.int .i64 x526), (Sl.v x527), (Sl.v x528)])) (fun X => cells X ⟨H31.size, 0, none⟩ [(Sl.v x522), (Sl.v x523), (.string x524), (.string x525), (.int .i64 x526), (Sl.v x527), (Sl.v x528)] 0) rfl rfl (fun _ hX => HVal.loadN [(Sl.v x522), (Sl.v x523), (.string x524), (.string x525), (.int .i64 x526), (Sl.v x527), (Sl.v x528)] Tryd.isAgg43 Tryd.sizeOf43 rfl hX) c521 ?_
                  refine HPlan.ops' rfl rfl (HOp.call' 16 [(.string S_b), (.int .i64 2), (.string S_x)] (cap := []) rfl rfl Tryd.call16 (walk16 h)) ?_
                  rintro _ H529 ⟨r531, r532, r533, r534, r535, r536, r537, r538, r539, r540, rfl, h⟩
                  obtain ⟨s541, h⟩ := h
                  refine ⟨SC_of ⟨fun _ => s541, trivial⟩, ?_⟩
                  refine HPlan.ops' rfl rfl (HOp.call' 15 [(.agg #[(.int .i64 r531), (.int .i64 r532), (.int .i64 r533), (.int .i64 r534), (.string r535), (.bool r536), (.string r537), (.int .i64 r538), (.string r539), (Sl.v r540)]), (.agg #[(Sl.v x522), (Sl.v x523), (.string x524), (.string x525), (.int .i64 x526), (Sl.v x527), (Sl.v x528)]), (.int .i64 110)] (cap := []) rfl rfl Tryd.call15 (walk15 h)) ?_
                  rintro _ H542 ⟨r544, rfl, h⟩
                  refine ⟨SC_of ⟨fun e => absurd e (by decide), trivial⟩, ?_⟩
                  refine HPlan.takev (v := (.bool r544)) rfl rfl (fun _ => HVal.move' rfl) ?_
                  obtain ⟨hT, hF⟩ := h
                  rcases Bool.eq_false_or_eq_true r544 with hb545 | hb546
                  · have h := hT hb545
                    clear hT hF
                    obtain ⟨x548, x549, x550, x551, x552, x553, x554, c547, h⟩ := h
                    refine HPlan.gtakel (v := (.agg #[(Sl.v x548), (Sl.v x549), (.string x550), (.string x551), (.int .i64 x552), (Sl.v x553), (Sl.v x554)])) (fun X => cells X ⟨H31.size, 0, none⟩ [(Sl.v x548), (Sl.v x549), (.string x550), (.string x551), (.int .i64 x552), (Sl.v x553), (Sl.v x554)] 0) rfl rfl rfl rfl rfl (congrArg Value.bool hb545) (fun _ hX => HVal.loadN [(Sl.v x548), (Sl.v x549), (.string x550), (.string x551), (.int .i64 x552), (Sl.v x553), (Sl.v x554)] Tryd.isAgg43 Tryd.sizeOf43 rfl hX) c547 ?_
                    refine HPlan.gops rfl rfl rfl rfl rfl (congrArg Value.bool hb545) (HOp.call' 16 [(.string S_b), (.int .i64 3), (.string S_x)] (cap := []) rfl rfl Tryd.call16 (walk16 h)) ?_
                    rintro _ H555 ⟨r557, r558, r559, r560, r561, r562, r563, r564, r565, r566, rfl, h⟩
                    obtain ⟨s567, h⟩ := h
                    refine ⟨SC_of ⟨fun _ => s567, fun e => absurd e (by decide), trivial⟩, ?_⟩
                    refine HPlan.gops rfl rfl rfl rfl rfl (congrArg Value.bool hb545) (HOp.call' 15 [(.agg #[(.int .i64 r557), (.int .i64 r558), (.int .i64 r559), (.int .i64 r560), (.string r561), (.bool r562), (.string r563), (.int .i64 r564), (.string r565), (Sl.v r566)]), (.agg #[(Sl.v x548), (Sl.v x549), (.string x550), (.string x551), (.int .i64 x552), (Sl.v x553), (Sl.v x554)]), (.int .i64 110)] (cap := []) rfl rfl Tryd.call15 (walk15 h)) ?_
                    rintro _ H568 ⟨r570, rfl, h⟩
                    refine ⟨SC_of ⟨fun e => absurd e (by decide), fun e => absurd e (by decide), trivial⟩, ?_⟩
                    refine HPlan.takev (v := (.bool r570)) rfl rfl (fun _ => HVal.pickT rfl hb545 rfl) ?_
                    refine HPlan.takev (v := (.bool r570)) rfl rfl (fun _ => HVal.move' rfl) ?_
                    obtain ⟨hT, hF⟩ := h
                    rcases Bool.eq_false_or_eq_true r570 with hb571 | hb572
                    · have h := hT hb571
                      clear hT hF
                      obtain ⟨x574, x575, x576, x577, x578, x579, x580, c573, h⟩ := h
                      refine HPlan.gtakel (v := (.agg #[(Sl.v x574), (Sl.v x575), (.string x576), (.string x577), (.int .i64 x578), (Sl.v x579), (Sl.v x580)])) (fun X => cells X ⟨H31.size, 0, none⟩ [(Sl.v x574), (Sl.v x575), (.string x576), (.string x577), (.int .i64 x578), (Sl.v x579), (Sl.v x580)] 0) rfl rfl rfl rfl rfl (congrArg Value.bool hb571) (fun _ hX => HVal.loadN [(Sl.v x574), (Sl.v x575), (.string x576), (.string x577), (.int .i64 x578), (Sl.v x579), (Sl.v x580)] Tryd.isAgg43 Tryd.sizeOf43 rfl hX) c573 ?_
                      refine HPlan.gtakev (v := (Sl.v p0)) rfl rfl rfl rfl rfl (congrArg Value.bool hb571) (fun _ => HVal.move' rfl) ?_
                      refine HPlan.gtakev (v := (.int .i64 ((p0).n : Int))) rfl rfl rfl rfl rfl (congrArg Value.bool hb571) (fun _ => HVal.move' rfl) ?_
                      refine HPlan.gtakev (v := (.int .i64 (IntKind.i64.wrap (((p0).n : Int) - 1)))) rfl rfl rfl rfl rfl (congrArg Value.bool hb571) (fun _ => HVal.sub rfl rfl) ?_
                      obtain ⟨a581, e582, b583, b584, h⟩ := h
                      refine HPlan.gtakev (v := (.pointer (some (Addr.add a581 ((IntKind.i64.wrap (((p0).n : Int) - 1)).toNat * 1))))) rfl rfl rfl rfl rfl (congrArg Value.bool hb571) (fun _ => HVal.indexAddr Tryd.runUnderlying47 Tryd.sizeOf2 (Sl.v_some rfl e582) rfl b583 b584) ?_
                      obtain ⟨x586, c585, h⟩ := h
                      refine HPlan.gtakel (v := (.int .i64 x586)) (fun X => cell X (Addr.add a581 ((IntKind.i64.wrap (((p0).n : Int) - 1)).toNat * 1)) = some (.int .i64 x586)) rfl rfl rfl rfl rfl (congrArg Value.bool hb571) (fun _ hX => HVal.load1 Tryd.isAgg2 rfl hX) c585 ?_
                      refine HPlan.gops rfl rfl rfl rfl rfl (congrArg Value.bool hb571) (HOp.call' 16 [(.string S_b), (.int .i64 5), (.string S_x)] (cap := []) rfl rfl Tryd.call16 (walk16 h)) ?_
                      rintro _ H587 ⟨r589, r590, r591, r592, r593, r594, r595, r596, r597, r598, rfl, h⟩
                      obtain ⟨s599, s600, h⟩ := h
                      refine ⟨SC_of ⟨fun _ => s599, fun _ => s600, fun e => absurd e (by decide), fun e => absurd e (by decide), trivial⟩, ?_⟩
                      refine HPlan.gops rfl rfl rfl rfl rfl (congrArg Value.bool hb571) (HOp.call' 13 [(.agg #[(.int .i64 r589), (.int .i64 r590), (.int .i64 r591), (.int .i64 r592), (.string r593), (.bool r594), (.string r595), (.int .i64 r596), (.string r597), (Sl.v r598)]), (.agg #[(Sl.v x574), (Sl.v x575), (.string x576), (.string x577), (.int .i64 x578), (Sl.v x579), (Sl.v x580)]), (.int .i64 x586)] (cap := []) rfl rfl Tryd.call13 (walk13 h)) ?_
                      rintro _ H601 ⟨r603, rfl, h⟩
                      refine ⟨SC_of ⟨fun e => absurd e (by decide), fun e => absurd e (by decide), fun e => absurd e (by decide), fun e => absurd e (by decide), trivial⟩, ?_⟩
                      refine HPlan.takev (v := (.bool r603)) rfl rfl (fun _ => HVal.pickT rfl hb571 rfl) ?_
                      refine HPlan.takev (v := (.bool r603)) rfl rfl (fun _ => HVal.assign' rfl) ?_
                      refine HPlan.done ?_
                      refine nt ?_
                      refine HW.ret ?_
                      exact ⟨_, resOf1 rfl Res1.t, ⟨r603, rfl, h⟩⟩
                    · have h := hF hb572
                      clear hT hF
                      refine HPlan.takegskip rfl rfl rfl rfl (congrArg Value.bool hb572) ?_
                      refine HPlan.takegskip rfl rfl rfl rfl (congrArg Value.bool hb572) ?_
                      refine HPlan.takegskip rfl rfl rfl rfl (congrArg Value.bool hb572) ?_
                      refine HPlan.takegskip rfl rfl rfl rfl (congrArg Value.bool hb572) ?_
                      refine HPlan.takegskip rfl rfl rfl rfl (congrArg Value.bool hb572) ?_
                      refine HPlan.takegskip rfl rfl rfl rfl (congrArg Value.bool hb572) ?_
                      refine HPlan.opgskip rfl rfl rfl rfl (congrArg Value.bool hb572) ?_
                      refine HPlan.opgskip rfl rfl rfl rfl (congrArg Value.bool hb572) ?_
                      refine HPlan.takev (v := (.bool false)) rfl rfl (fun _ => HVal.pickF rfl hb572 rfl) ?_
                      refine HPlan.takev (v := (.bool false)) rfl rfl (fun _ => HVal.assign' rfl) ?_
                      refine HPlan.done ?_
                      refine nt ?_
                      refine HW.ret ?_
                      exact ⟨_, resOf1 rfl Res1.t, ⟨false, rfl, h⟩⟩
                  · have h := hF hb546
                    clear hT hF
                    refine HPlan.takegskip rfl rfl rfl rfl (congrArg Value.bool hb546) ?_
                    refine HPlan.opgskip rfl rfl rfl rfl (congrArg Value.bool hb546) ?_
                    refine HPlan.opgskip rfl rfl rfl rfl (congrArg Value.bool hb546) ?_
                    refine HPlan.takev (v := (.bool false)) rfl rfl (fun _ => HVal.pickF rfl hb546 rfl) ?_
                    refine HPlan.takev (v := (.bool false)) rfl rfl (fun _ => HVal.move' rfl) ?_
                    refine HPlan.takegskip rfl rfl rfl rfl rfl ?_
                    refine HPlan.takegskip rfl rfl rfl rfl rfl ?_
                    refine HPlan.takegskip rfl rfl rfl rfl rfl ?_
                    refine HPlan.takegskip rfl rfl rfl rfl rfl ?_
                    refine HPlan.takegskip rfl rfl rfl rfl rfl ?_
                    refine HPlan.takegskip rfl rfl rfl rfl rfl ?_
                    refine HPlan.opgskip rfl rfl rfl rfl rfl ?_
                    refine HPlan.opgskip rfl rfl rfl rfl rfl ?_
                    refine HPlan.takev (v := (.bool false)) rfl rfl (fun _ => HVal.pickF rfl rfl rfl) ?_
                    refine HPlan.takev (v := (.bool false)) rfl rfl (fun _ => HVal.assign' rfl) ?_
                    refine HPlan.done ?_
                    refine nt ?_
                    refine HW.ret ?_
                    exact ⟨_, resOf1 rfl Res1.t, ⟨false, rfl, h⟩⟩

end Go.Hw
