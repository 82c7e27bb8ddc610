/- The walks of this seat, printed by a program of this session (wip/tools/gen.py): of each function what it does to the heap, and that it does so. -/
import Derived.Test.YtfkhglkcplnppaaDoorHwT
import Derived.Test.YtfkhglkcplnppaaDoorProg
import Derived.Test.YtfkhglkcplnppaaDoorWAux
import Derived.Test.YtfkhglkcplnppaaDoorWalkC
set_option linter.unusedVariables false
set_option linter.unusedSimpArgs false
namespace Go.Hw
open Go Go.Proofs
def F6_1 (Q : Bool → Hp → Prop) (y89 : Addr) (y90 : Addr) (y435 : Sl) (y436 : Bool) (H_1 : Hp) : Prop :=
∃ (x438 : Sl) (x439 : Sl) (x440 : ByteArray) (x441 : ByteArray) (x442 : Int) (x443 : Sl) (x444 : Sl), cells H_1 y89 [(Sl.v x438), (Sl.v x439), (.string x440), (.string x441), (.int .i64 x442), (Sl.v x443), (Sl.v x444)] 0 ∧ (
 F21 y435 x438 x439 x440 x441 x442 x443 x444 H_1 (fun (r447 : Bool) (H445 : Hp) => 
 ((r447 == y436) = true → (∃ (x451 : Sl) (x452 : Sl) (x453 : ByteArray) (x454 : ByteArray) (x455 : Int) (x456 : Sl) (x457 : Sl), cells H445 y89 [(Sl.v x451), (Sl.v x452), (.string x453), (.string x454), (.int .i64 x455), (Sl.v x456), (Sl.v x457)] 0 ∧ (
 F21 Sl.nil x451 x452 x453 x454 x455 x456 x457 H445 (fun (r460 : Bool) (H458 : Hp) => 
 (r460 = true → (∃ (x464 : Sl) (x465 : Sl) (x466 : ByteArray) (x467 : ByteArray) (x468 : Int) (x469 : Sl) (x470 : Sl), cells H458 y89 [(Sl.v x464), (Sl.v x465), (.string x466), (.string x467), (.int .i64 x468), (Sl.v x469), (Sl.v x470)] 0 ∧ (
 F20 true H458 (fun (r473 : Int) (r474 : Int) (r475 : Int) (r476 : Int) (r477 : ByteArray) (r478 : Bool) (r479 : ByteArray) (r480 : Int) (r481 : ByteArray) (r482 : Sl) (H471 : Hp) => 
 cells H471 y89 [(Sl.v x464), (Sl.v x465), (.string x466), (.string x467), (.int .i64 x468), (Sl.v x469), (Sl.v x470)] 0 ∧ (
 F20 false H471 (fun (r486 : Int) (r487 : Int) (r488 : Int) (r489 : Int) (r490 : ByteArray) (r491 : Bool) (r492 : ByteArray) (r493 : Int) (r494 : ByteArray) (r495 : Sl) (H484 : Hp) => 
 cells H484 y89 [(Sl.v x464), (Sl.v x465), (.string x466), (.string x467), (.int .i64 x468), (Sl.v x469), (Sl.v x470)] 0 ∧ (
 ∀ H497 : Hp, H497 = Array.push H484 (.cells #[(.int .i64 r473), (.int .i64 r474), (.int .i64 r475), (.int .i64 r476), (.string r477), (.bool r478), (.string r479), (.int .i64 r480), (.string r481), (Sl.v r482), (.int .i64 r486), (.int .i64 r487), (.int .i64 r488), (.int .i64 r489), (.string r490), (.bool r491), (.string r492), (.int .i64 r493), (.string r494), (Sl.v r495)] 41) → (
 cells H497 y89 [(Sl.v x464), (Sl.v x465), (.string x466), (.string x467), (.int .i64 x468), (Sl.v x469), (Sl.v x470)] 0 ∧ (
 F21 (Sl.mk (some ⟨H484.size, 0, none⟩) 2 2) x464 x465 x466 x467 x468 x469 x470 H497 (fun (r502 : Bool) (H500 : Hp) => 
 ((!r502) = true → ((0 : Int) ≤ 0 ∧ (0 : Int) < ((3 : Nat) : Int) ∧ (
 ∃ (x508 : Int) (x509 : Int) (x510 : Int) (x511 : Int) (x512 : ByteArray) (x513 : Bool) (x514 : ByteArray) (x515 : Int) (x516 : ByteArray) (x517 : Sl), cells H500 (Addr.add y90 ((0 : Int).toNat * 10)) [(.int .i64 x508), (.int .i64 x509), (.int .i64 x510), (.int .i64 x511), (.string x512), (.bool x513), (.string x514), (.int .i64 x515), (.string x516), (Sl.v x517)] 0 ∧ (
 ∃ (x519 : Sl) (x520 : Sl) (x521 : ByteArray) (x522 : ByteArray) (x523 : Int) (x524 : Sl) (x525 : Sl), cells H500 y89 [(Sl.v x519), (Sl.v x520), (.string x521), (.string x522), (.int .i64 x523), (Sl.v x524), (Sl.v x525)] 0 ∧ (
 ∀ H526 : Hp, H526 = Array.push H500 (.cells #[(.int .i64 x508), (.int .i64 x509), (.int .i64 x510), (.int .i64 x511), (.string x512), (.bool x513), (.string x514), (.int .i64 x515), (.string x516), (Sl.v x517)] 41) → (
 cells H526 y89 [(Sl.v x519), (Sl.v x520), (.string x521), (.string x522), (.int .i64 x523), (Sl.v x524), (Sl.v x525)] 0 ∧ (
 F21 (Sl.mk (some ⟨H500.size, 0, none⟩) 1 1) x519 x520 x521 x522 x523 x524 x525 H526 (fun (r531 : Bool) (H529 : Hp) => 
 Q (!r531) H529)))))))) ∧
 ((!r502) = false → (Q false H500)))))))))))) ∧
 (r460 = false → (Q false H458)))))) ∧
 ((r447 == y436) = false → (Q false H445))))
def F6_7 (Q : Bool → Hp → Prop) (X2 : Sl → Bool → Int → Hp → Prop) (y394 : Sl) (y395 : Sl) (y396 : Addr) (y397 : Addr) (y398 : Addr) (y399 : Sl) (y400 : Int) (y401 : Addr) (y418 : Bool) (H_7 : Hp) : Prop :=
∃ (x420 : Int) (x421 : Int) (x422 : Int) (x423 : Int) (x424 : ByteArray) (x425 : Bool) (x426 : ByteArray) (x427 : Int) (x428 : ByteArray) (x429 : Sl), cells H_7 y401 [(.int .i64 x420), (.int .i64 x421), (.int .i64 x422), (.int .i64 x423), (.string x424), (.bool x425), (.string x426), (.int .i64 x427), (.string x428), (Sl.v x429)] 0 ∧ (
 ∀ H430 : Hp, H430 = Array.push H_7 (.cells #[(.int .i64 x420), (.int .i64 x421), (.int .i64 x422), (.int .i64 x423), (.string x424), (.bool x425), (.string x426), (.int .i64 x427), (.string x428), (Sl.v x429)] 41) → (
 AppendF H430 41 10 120 #[(.int .i64 0), (.int .i64 0), (.int .i64 0), (.int .i64 0), (.string (ByteArray.mk #[])), (.bool false), (.string (ByteArray.mk #[])), (.int .i64 0), (.string (ByteArray.mk #[])), (Sl.v Sl.nil)] y399 ((Sl.mk (some ⟨H_7.size, 0, none⟩) 1 1)).b ((Sl.mk (some ⟨H_7.size, 0, none⟩) 1 1)).n (fun (r434 : Sl) (H432 : Hp) => 
 X2 r434 y418 (IntKind.i64.wrap (y400 + 1)) H432)))
def F6_5 (Q : Bool → Hp → Prop) (X2 : Sl → Bool → Int → Hp → Prop) (y159 : Sl) (y160 : Sl) (y161 : Addr) (y162 : Addr) (y163 : Addr) (y164 : Sl) (y165 : Int) (y166 : Addr) (y167 : Int) (y393 : Bool) (H_5 : Hp) : Prop :=
((decide (y167 = 4)) = true → (F19 1 H_5 (fun (r405 : Int) (r406 : Int) (r407 : Int) (r408 : Int) (r409 : ByteArray) (r410 : Bool) (r411 : ByteArray) (r412 : Int) (r413 : ByteArray) (r414 : Sl) (H403 : Hp) => 
 mayw H403 y166 10 0 ∧ ∀ H415 : Hp, H415 = sets H403 y166 [(.int .i64 r405), (.int .i64 r406), (.int .i64 r407), (.int .i64 r408), (.string r409), (.bool r410), (.string r411), (.int .i64 r412), (.string r413), (Sl.v r414)] 0 → (
 F6_7 Q X2 y159 y160 y161 y162 y163 y164 y165 y166 false H415)))) ∧
 ((decide (y167 = 4)) = false → (F6_7 Q X2 y159 y160 y161 y162 y163 y164 y165 y166 y393 H_5))
def F6_6 (Q : Bool → Hp → Prop) (X2 : Sl → Bool → Int → Hp → Prop) (y169 : Sl) (y170 : Sl) (y171 : Addr) (y172 : Addr) (y173 : Addr) (y174 : Sl) (y175 : Int) (y176 : Addr) (y177 : Int) (y178 : Int) (y238 : Bool) (H_6 : Hp) : Prop :=
(y238 = true → (Q false H_6)) ∧
 (y238 = false → (∃ (x355 : Int) (x356 : Int) (x357 : Int) (x358 : Int) (x359 : ByteArray) (x360 : Bool) (x361 : ByteArray) (x362 : Int) (x363 : ByteArray) (x364 : Sl), cells H_6 y176 [(.int .i64 x355), (.int .i64 x356), (.int .i64 x357), (.int .i64 x358), (.string x359), (.bool x360), (.string x361), (.int .i64 x362), (.string x363), (Sl.v x364)] 0 ∧ (
 (0 : Int) ≤ y178 ∧ y178 < ((3 : Nat) : Int) ∧ (
 ∃ (x368 : Int) (x369 : Int) (x370 : Int) (x371 : Int) (x372 : ByteArray) (x373 : Bool) (x374 : ByteArray) (x375 : Int) (x376 : ByteArray) (x377 : Sl), cells H_6 (Addr.add y172 (y178.toNat * 10)) [(.int .i64 x368), (.int .i64 x369), (.int .i64 x370), (.int .i64 x371), (.string x372), (.bool x373), (.string x374), (.int .i64 x375), (.string x376), (Sl.v x377)] 0 ∧ (
 F18 13 x355 x356 x357 x358 x359 x360 x361 x362 x363 x364 x368 x369 x370 x371 x372 x373 x374 x375 x376 x377 H_6 (fun (r380 : Int) (r381 : Int) (r382 : Int) (r383 : Int) (r384 : ByteArray) (r385 : Bool) (r386 : ByteArray) (r387 : Int) (r388 : ByteArray) (r389 : Sl) (H378 : Hp) => 
 mayw H378 y176 10 0 ∧ ∀ H390 : Hp, H390 = sets H378 y176 [(.int .i64 r380), (.int .i64 r381), (.int .i64 r382), (.int .i64 r383), (.string r384), (.bool r385), (.string r386), (.int .i64 r387), (.string r388), (Sl.v r389)] 0 → (
 F6_5 Q X2 y169 y170 y171 y172 y173 y174 y175 y176 y177 false H390)))))))
def F6_4 (Q : Bool → Hp → Prop) (X2 : Sl → Bool → Int → Hp → Prop) (y142 : Sl) (y143 : Sl) (y144 : Addr) (y145 : Addr) (y146 : Addr) (y147 : Sl) (y148 : Bool) (y149 : Int) (y150 : Addr) (y158 : Int) (H_4 : Hp) : Prop :=
((decide (y158 < 3)) = true → ((0 : Int) ≤ (Int.tmod y158 (3 : Int)) ∧ (Int.tmod y158 (3 : Int)) < ((3 : Nat) : Int) ∧ (
 ∃ (x182 : Int) (x183 : Int) (x184 : Int) (x185 : Int) (x186 : ByteArray) (x187 : Bool) (x188 : ByteArray) (x189 : Int) (x190 : ByteArray) (x191 : Sl), cells H_4 (Addr.add y145 ((Int.tmod y158 (3 : Int)).toNat * 10)) [(.int .i64 x182), (.int .i64 x183), (.int .i64 x184), (.int .i64 x185), (.string x186), (.bool x187), (.string x188), (.int .i64 x189), (.string x190), (Sl.v x191)] 0 ∧ (
 ∃ (x193 : Sl) (x194 : Sl) (x195 : ByteArray) (x196 : ByteArray) (x197 : Int) (x198 : Sl) (x199 : Sl), cells H_4 y144 [(Sl.v x193), (Sl.v x194), (.string x195), (.string x196), (.int .i64 x197), (Sl.v x198), (Sl.v x199)] 0 ∧ (
 (0 : Int) ≤ (Int.tmod y158 (3 : Int)) ∧ (Int.tmod y158 (3 : Int)) < ((3 : Nat) : Int) ∧ (
 ∃ x203 : Int, cell H_4 (Addr.add y146 ((Int.tmod y158 (3 : Int)).toNat * 1)) = some (.int .i64 x203) ∧ (
 F20 true H_4 (fun (r206 : Int) (r207 : Int) (r208 : Int) (r209 : Int) (r210 : ByteArray) (r211 : Bool) (r212 : ByteArray) (r213 : Int) (r214 : ByteArray) (r215 : Sl) (H204 : Hp) => 
 cell H204 (Addr.add y146 ((Int.tmod y158 (3 : Int)).toNat * 1)) = some (.int .i64 x203) ∧ cells H204 y144 [(Sl.v x193), (Sl.v x194), (.string x195), (.string x196), (.int .i64 x197), (Sl.v x198), (Sl.v x199)] 0 ∧ cells H204 (Addr.add y145 ((Int.tmod y158 (3 : Int)).toNat * 10)) [(.int .i64 x182), (.int .i64 x183), (.int .i64 x184), (.int .i64 x185), (.string x186), (.bool x187), (.string x188), (.int .i64 x189), (.string x190), (Sl.v x191)] 0 ∧ (
 F18 13 r206 r207 r208 r209 r210 r211 r212 r213 r214 r215 x182 x183 x184 x185 x186 x187 x188 x189 x190 x191 H204 (fun (r221 : Int) (r222 : Int) (r223 : Int) (r224 : Int) (r225 : ByteArray) (r226 : Bool) (r227 : ByteArray) (r228 : Int) (r229 : ByteArray) (r230 : Sl) (H219 : Hp) => 
 cell H219 (Addr.add y146 ((Int.tmod y158 (3 : Int)).toNat * 1)) = some (.int .i64 x203) ∧ cells H219 y144 [(Sl.v x193), (Sl.v x194), (.string x195), (.string x196), (.int .i64 x197), (Sl.v x198), (Sl.v x199)] 0 ∧ (
 F15 r221 r222 r223 r224 r225 r226 r227 r228 r229 r230 x193 x194 x195 x196 x197 x198 x199 x203 H219 (fun (r235 : Bool) (H233 : Hp) => 
 ((!r235) = true → (F6_6 Q X2 y142 y143 y144 y145 y146 y147 y149 y150 y158 (Int.tmod y158 (3 : Int)) true H233)) ∧
 ((!r235) = false → ((0 : Int) ≤ (Int.tmod y158 (3 : Int)) ∧ (Int.tmod y158 (3 : Int)) < ((3 : Nat) : Int) ∧ (
 ∃ (x242 : Int) (x243 : Int) (x244 : Int) (x245 : Int) (x246 : ByteArray) (x247 : Bool) (x248 : ByteArray) (x249 : Int) (x250 : ByteArray) (x251 : Sl), cells H233 (Addr.add y145 ((Int.tmod y158 (3 : Int)).toNat * 10)) [(.int .i64 x242), (.int .i64 x243), (.int .i64 x244), (.int .i64 x245), (.string x246), (.bool x247), (.string x248), (.int .i64 x249), (.string x250), (Sl.v x251)] 0 ∧ (
 ∃ (x253 : Sl) (x254 : Sl) (x255 : ByteArray) (x256 : ByteArray) (x257 : Int) (x258 : Sl) (x259 : Sl), cells H233 y144 [(Sl.v x253), (Sl.v x254), (.string x255), (.string x256), (.int .i64 x257), (Sl.v x258), (Sl.v x259)] 0 ∧ (
 (0 : Int) ≤ (Int.tmod y158 (3 : Int)) ∧ (Int.tmod y158 (3 : Int)) < ((3 : Nat) : Int) ∧ (
 ∃ x263 : Int, cell H233 (Addr.add y146 ((Int.tmod y158 (3 : Int)).toNat * 1)) = some (.int .i64 x263) ∧ (
 F20 false H233 (fun (r266 : Int) (r267 : Int) (r268 : Int) (r269 : Int) (r270 : ByteArray) (r271 : Bool) (r272 : ByteArray) (r273 : Int) (r274 : ByteArray) (r275 : Sl) (H264 : Hp) => 
 cell H264 (Addr.add y146 ((Int.tmod y158 (3 : Int)).toNat * 1)) = some (.int .i64 x263) ∧ cells H264 y144 [(Sl.v x253), (Sl.v x254), (.string x255), (.string x256), (.int .i64 x257), (Sl.v x258), (Sl.v x259)] 0 ∧ cells H264 (Addr.add y145 ((Int.tmod y158 (3 : Int)).toNat * 10)) [(.int .i64 x242), (.int .i64 x243), (.int .i64 x244), (.int .i64 x245), (.string x246), (.bool x247), (.string x248), (.int .i64 x249), (.string x250), (Sl.v x251)] 0 ∧ (
 F18 12 r266 r267 r268 r269 r270 r271 r272 r273 r274 r275 x242 x243 x244 x245 x246 x247 x248 x249 x250 x251 H264 (fun (r281 : Int) (r282 : Int) (r283 : Int) (r284 : Int) (r285 : ByteArray) (r286 : Bool) (r287 : ByteArray) (r288 : Int) (r289 : ByteArray) (r290 : Sl) (H279 : Hp) => 
 cell H279 (Addr.add y146 ((Int.tmod y158 (3 : Int)).toNat * 1)) = some (.int .i64 x263) ∧ cells H279 y144 [(Sl.v x253), (Sl.v x254), (.string x255), (.string x256), (.int .i64 x257), (Sl.v x258), (Sl.v x259)] 0 ∧ (
 F15 r281 r282 r283 r284 r285 r286 r287 r288 r289 r290 x253 x254 x255 x256 x257 x258 x259 x263 H279 (fun (r295 : Bool) (H293 : Hp) => 
 ((!r295) = true → (F6_6 Q X2 y142 y143 y144 y145 y146 y147 y149 y150 y158 (Int.tmod y158 (3 : Int)) true H293)) ∧
 ((!r295) = false → ((0 : Int) ≤ (Int.tmod y158 (3 : Int)) ∧ (Int.tmod y158 (3 : Int)) < ((3 : Nat) : Int) ∧ (
 ∃ (x301 : Int) (x302 : Int) (x303 : Int) (x304 : Int) (x305 : ByteArray) (x306 : Bool) (x307 : ByteArray) (x308 : Int) (x309 : ByteArray) (x310 : Sl), cells H293 (Addr.add y145 ((Int.tmod y158 (3 : Int)).toNat * 10)) [(.int .i64 x301), (.int .i64 x302), (.int .i64 x303), (.int .i64 x304), (.string x305), (.bool x306), (.string x307), (.int .i64 x308), (.string x309), (Sl.v x310)] 0 ∧ (
 (0 : Int) ≤ (Int.tmod (IntKind.i64.wrap ((Int.tmod y158 (3 : Int)) + 1)) (3 : Int)) ∧ (Int.tmod (IntKind.i64.wrap ((Int.tmod y158 (3 : Int)) + 1)) (3 : Int)) < ((3 : Nat) : Int) ∧ (
 ∃ (x314 : Int) (x315 : Int) (x316 : Int) (x317 : Int) (x318 : ByteArray) (x319 : Bool) (x320 : ByteArray) (x321 : Int) (x322 : ByteArray) (x323 : Sl), cells H293 (Addr.add y145 ((Int.tmod (IntKind.i64.wrap ((Int.tmod y158 (3 : Int)) + 1)) (3 : Int)).toNat * 10)) [(.int .i64 x314), (.int .i64 x315), (.int .i64 x316), (.int .i64 x317), (.string x318), (.bool x319), (.string x320), (.int .i64 x321), (.string x322), (Sl.v x323)] 0 ∧ (
 ∃ (x325 : Sl) (x326 : Sl) (x327 : ByteArray) (x328 : ByteArray) (x329 : Int) (x330 : Sl) (x331 : Sl), cells H293 y144 [(Sl.v x325), (Sl.v x326), (.string x327), (.string x328), (.int .i64 x329), (Sl.v x330), (Sl.v x331)] 0 ∧ (
 (0 : Int) ≤ (Int.tmod y158 (3 : Int)) ∧ (Int.tmod y158 (3 : Int)) < ((3 : Nat) : Int) ∧ (
 ∃ x335 : Int, cell H293 (Addr.add y146 ((Int.tmod y158 (3 : Int)).toNat * 1)) = some (.int .i64 x335) ∧ (
 F18 13 x301 x302 x303 x304 x305 x306 x307 x308 x309 x310 x314 x315 x316 x317 x318 x319 x320 x321 x322 x323 H293 (fun (r338 : Int) (r339 : Int) (r340 : Int) (r341 : Int) (r342 : ByteArray) (r343 : Bool) (r344 : ByteArray) (r345 : Int) (r346 : ByteArray) (r347 : Sl) (H336 : Hp) => 
 cell H336 (Addr.add y146 ((Int.tmod y158 (3 : Int)).toNat * 1)) = some (.int .i64 x335) ∧ cells H336 y144 [(Sl.v x325), (Sl.v x326), (.string x327), (.string x328), (.int .i64 x329), (Sl.v x330), (Sl.v x331)] 0 ∧ (
 F15 r338 r339 r340 r341 r342 r343 r344 r345 r346 r347 x325 x326 x327 x328 x329 x330 x331 x335 H336 (fun (r352 : Bool) (H350 : Hp) => 
 F6_6 Q X2 y142 y143 y144 y145 y146 y147 y149 y150 y158 (Int.tmod y158 (3 : Int)) (!r352) H350)))))))))))))))))))))))))))))))))))) ∧
 ((decide (y158 < 3)) = false → (F6_5 Q X2 y142 y143 y144 y145 y146 y147 y149 y150 y158 y148 H_4))
def F6_3 (Q : Bool → Hp → Prop) (X2 : Sl → Bool → Int → Hp → Prop) (y125 : Sl) (y126 : Sl) (y127 : Addr) (y128 : Addr) (y129 : Addr) (y130 : Sl) (y131 : Int) (y132 : Addr) (y141 : Bool) (H_3 : Hp) : Prop :=
((decide (y131 < ((y126).n : Int))) = true → (∃ a152 : Addr, (y126).b = some a152 ∧ (0 : Int) ≤ y131 ∧ y131 < ((y126).n : Int) ∧ (
 ∃ x157 : Int, cell H_3 (Addr.add a152 (y131.toNat * 1)) = some (.int .u8 x157) ∧ (
 F6_4 Q X2 y125 y126 y127 y128 y129 y130 y141 y131 y132 (Int.tmod (IntKind.i64.wrap x157) (12 : Int)) H_3)))) ∧
 ((decide (y131 < ((y126).n : Int))) = false → (F6_4 Q X2 y125 y126 y127 y128 y129 y130 y141 y131 y132 3 H_3))
def F6_L2b (Q : Bool → Hp → Prop) (X2 : Sl → Bool → Int → Hp → Prop) (y94 : Sl) (y95 : Sl) (y96 : Addr) (y97 : Addr) (y98 : Addr) (y91 : Sl) (y92 : Bool) (y93 : Int) (H_2 : Hp) : Prop :=
((decide (y93 < ((y94).n : Int))) = true → (((decide (y93 < 40)) = true → (∃ a102 : Addr, (y94).b = some a102 ∧ (0 : Int) ≤ y93 ∧ y93 < ((y94).n : Int) ∧ (
 ∃ x107 : Bool, cell H_2 (Addr.add a102 (y93.toNat * 1)) = some (.bool x107) ∧ (
 F20 x107 H_2 (fun (r110 : Int) (r111 : Int) (r112 : Int) (r113 : Int) (r114 : ByteArray) (r115 : Bool) (r116 : ByteArray) (r117 : Int) (r118 : ByteArray) (r119 : Sl) (H108 : Hp) => 
 ∀ H120 : Hp, H120 = Array.push H108 (.cells #[(.int .i64 0), (.int .i64 0), (.int .i64 0), (.int .i64 0), (.string (ByteArray.mk #[])), (.bool false), (.string (ByteArray.mk #[])), (.int .i64 0), (.string (ByteArray.mk #[])), (Sl.v Sl.nil)] 41) → (
 mayw H120 ⟨H108.size, 0, none⟩ 10 0 ∧ ∀ H122 : Hp, H122 = sets H120 ⟨H108.size, 0, none⟩ [(.int .i64 r110), (.int .i64 r111), (.int .i64 r112), (.int .i64 r113), (.string r114), (.bool r115), (.string r116), (.int .i64 r117), (.string r118), (Sl.v r119)] 0 → (
 (y92 = true → (∃ a135 : Addr, (y94).b = some a135 ∧ (0 : Int) ≤ y93 ∧ y93 < ((y94).n : Int) ∧ (
 ∃ x140 : Bool, cell H122 (Addr.add a135 (y93.toNat * 1)) = some (.bool x140) ∧ (
 F6_3 Q X2 y94 y95 y96 y97 y98 y91 y93 ⟨H108.size, 0, none⟩ x140 H122)))) ∧
 (y92 = false → (F6_3 Q X2 y94 y95 y96 y97 y98 y91 y93 ⟨H108.size, 0, none⟩ false H122))))))))) ∧
 ((decide (y93 < 40)) = false → (F6_1 Q y96 y97 y91 y92 H_2)))) ∧
 ((decide (y93 < ((y94).n : Int))) = false → (F6_1 Q y96 y97 y91 y92 H_2))
def F6_L2 (Q : Bool → Hp → Prop) (y94 : Sl) (y95 : Sl) (y96 : Addr) (y97 : Addr) (y98 : Addr) (y91 : Sl) (y92 : Bool) (y93 : Int) (H_2 : Hp) : Prop :=
  ∀ X2 : Sl → Bool → Int → Hp → Prop, (∀ (y91 : Sl) (y92 : Bool) (y93 : Int) (H_2 : Hp), F6_L2b Q X2 y94 y95 y96 y97 y98 y91 y92 y93 H_2 → X2 y91 y92 y93 H_2) → X2 y91 y92 y93 H_2
def F6 (p0 : Sl) (p1 : Sl) (H : Hp) (Q : Bool → Hp → Prop) : Prop :=
F8 H (fun (r3 : Bool) (H1 : Hp) => 
 ((!r3) = true → (Q false H1)) ∧
 ((!r3) = false → (F17 H1 (fun (r7 : Sl) (r8 : Sl) (r9 : ByteArray) (r10 : ByteArray) (r11 : Int) (r12 : Sl) (r13 : Sl) (H5 : Hp) => 
 ∀ H14 : Hp, H14 = Array.push H5 (.cells #[(Sl.v Sl.nil), (Sl.v Sl.nil), (.string (ByteArray.mk #[])), (.string (ByteArray.mk #[])), (.int .i64 0), (Sl.v Sl.nil), (Sl.v Sl.nil)] 43) → (
 mayw H14 ⟨H5.size, 0, none⟩ 7 0 ∧ ∀ H16 : Hp, H16 = sets H14 ⟨H5.size, 0, none⟩ [(Sl.v r7), (Sl.v r8), (.string r9), (.string r10), (.int .i64 r11), (Sl.v r12), (Sl.v r13)] 0 → (
 F16 S_d 1 S_x H16 (fun (r21 : Int) (r22 : Int) (r23 : Int) (r24 : Int) (r25 : ByteArray) (r26 : Bool) (r27 : ByteArray) (r28 : Int) (r29 : ByteArray) (r30 : Sl) (H19 : Hp) => 
 F16 S_a 1 S_y H19 (fun (r33 : Int) (r34 : Int) (r35 : Int) (r36 : Int) (r37 : ByteArray) (r38 : Bool) (r39 : ByteArray) (r40 : Int) (r41 : ByteArray) (r42 : Sl) (H31 : Hp) => 
 F19 1 H31 (fun (r45 : Int) (r46 : Int) (r47 : Int) (r48 : Int) (r49 : ByteArray) (r50 : Bool) (r51 : ByteArray) (r52 : Int) (r53 : ByteArray) (r54 : Sl) (H43 : Hp) => 
 F16 S_a 1 S_s H43 (fun (r57 : Int) (r58 : Int) (r59 : Int) (r60 : Int) (r61 : ByteArray) (r62 : Bool) (r63 : ByteArray) (r64 : Int) (r65 : ByteArray) (r66 : Sl) (H55 : Hp) => 
 F18 3 r45 r46 r47 r48 r49 r50 r51 r52 r53 r54 r57 r58 r59 r60 r61 r62 r63 r64 r65 r66 H55 (fun (r69 : Int) (r70 : Int) (r71 : Int) (r72 : Int) (r73 : ByteArray) (r74 : Bool) (r75 : ByteArray) (r76 : Int) (r77 : ByteArray) (r78 : Sl) (H67 : Hp) => 
 ∀ H79 : Hp, H79 = Array.push H67 (.cells #[(.int .i64 0), (.int .i64 0), (.int .i64 0), (.int .i64 0), (.string (ByteArray.mk #[])), (.bool false), (.string (ByteArray.mk #[])), (.int .i64 0), (.string (ByteArray.mk #[])), (Sl.v Sl.nil), (.int .i64 0), (.int .i64 0), (.int .i64 0), (.int .i64 0), (.string (ByteArray.mk #[])), (.bool false), (.string (ByteArray.mk #[])), (.int .i64 0), (.string (ByteArray.mk #[])), (Sl.v Sl.nil), (.int .i64 0), (.int .i64 0), (.int .i64 0), (.int .i64 0), (.string (ByteArray.mk #[])), (.bool false), (.string (ByteArray.mk #[])), (.int .i64 0), (.string (ByteArray.mk #[])), (Sl.v Sl.nil)] 64) → (
 mayw H79 ⟨H67.size, 0, none⟩ 30 0 ∧ ∀ H81 : Hp, H81 = sets H79 ⟨H67.size, 0, none⟩ [(.int .i64 r21), (.int .i64 r22), (.int .i64 r23), (.int .i64 r24), (.string r25), (.bool r26), (.string r27), (.int .i64 r28), (.string r29), (Sl.v r30), (.int .i64 r33), (.int .i64 r34), (.int .i64 r35), (.int .i64 r36), (.string r37), (.bool r38), (.string r39), (.int .i64 r40), (.string r41), (Sl.v r42), (.int .i64 r69), (.int .i64 r70), (.int .i64 r71), (.int .i64 r72), (.string r73), (.bool r74), (.string r75), (.int .i64 r76), (.string r77), (Sl.v r78)] 0 → (
 ∀ H84 : Hp, H84 = Array.push H81 (.cells #[(.int .i64 0), (.int .i64 0), (.int .i64 0)] 65) → (
 mayw H84 ⟨H81.size, 0, none⟩ 3 0 ∧ ∀ H86 : Hp, H86 = sets H84 ⟨H81.size, 0, none⟩ [(.int .i64 110), (.int .i64 82), (.int .i64 10)] 0 → (
 F6_L2 Q p0 p1 ⟨H5.size, 0, none⟩ ⟨H67.size, 0, none⟩ ⟨H81.size, 0, none⟩ Sl.nil true 0 H86)))))))))))))))
set_option maxRecDepth 100000 in
set_option maxHeartbeats 4000000 in
theorem walk6 {w0 : World} {p0 : Sl} {p1 : Sl} {H : Hp} {Q : Bool → Hp → Prop} (h : F6 p0 p1 H Q) :
    Good Tryd.prog w0 6 #[(Sl.v p0), (Sl.v p1)] H (fun v H => ∃ (r0 : Bool) , v = (.bool r0) ∧ Q r0 H) := by
  unfold F6 at h
  refine Good.enter' (fn := Tryd.f6) Tryd.func6 rfl rfl rfl ?_
  refine HW.seq ?_
  refine HW.region ?_
  refine HList.vals (v := (.bool false)) rfl (HVal.assign' rfl) ?_
  refine HList.nil ?_
  refine nt ?_
  refine HW.seq ?_
  refine HW.seq ?_
  refine HW.region ?_
  refine HList.ops' rfl (HOp.call' 8 [] (cap := []) rfl rfl Tryd.call8 (walk8 h)) ?_
  rintro _ H1 ⟨r3, rfl, h⟩
  refine HList.vals (v := (.bool (!r3))) rfl (HVal.not rfl) ?_
  refine HList.nil ?_
  refine nt ?_
  obtain ⟨hT, hF⟩ := h
  refine HW.cond (!r3) rfl (fun hb4 => ?_) (fun hb4 => ?_)
  · have h := hT hb4
    clear hT hF
    refine HW.seq ?_
    refine HW.region ?_
    refine HList.vals (v := (.bool false)) rfl (HVal.assign' rfl) ?_
    refine HList.nil ?_
    refine nt ?_
    refine HW.ret ?_
    refine tr ?_
    exact ⟨_, resOf1 rfl Res1.t, ⟨false, rfl, h⟩⟩
  · have h := hF hb4
    clear hT hF
    refine HW.skip ?_
    refine nt ?_
    refine HW.seq ?_
    refine HW.region ?_
    refine HList.ops' rfl (HOp.call' 17 [] (cap := []) rfl rfl Tryd.call17 (walk17 h)) ?_
    rintro _ H5 ⟨r7, r8, r9, r10, r11, r12, r13, rfl, h⟩
    refine HList.ops' rfl (HOp.alloc Tryd.zeroValue43) ?_
    rintro _ H14 ⟨rfl, e15⟩
    replace h := h H14 e15
    obtain ⟨z18, h⟩ := h
    refine HList.opsn (HOp.storeN' (l := [(Sl.v r7), (Sl.v r8), (.string r9), (.string r10), (.int .i64 r11), (Sl.v r12), (Sl.v r13)]) Tryd.sizeOf43 rfl rfl rfl z18) ?_
    rintro _ H16 e17
    replace h := h H16 e17
    refine HList.nil ?_
    refine nt ?_
    refine HW.seq ?_
    refine HW.region ?_
    refine HList.ops' rfl (HOp.call' 16 [(.string S_d), (.int .i64 1), (.string S_x)] (cap := []) rfl rfl Tryd.call16 (walk16 h)) ?_
    rintro _ H19 ⟨r21, r22, r23, r24, r25, r26, r27, r28, r29, r30, rfl, h⟩
    refine HList.ops' rfl (HOp.call' 16 [(.string S_a), (.int .i64 1), (.string S_y)] (cap := []) rfl rfl Tryd.call16 (walk16 h)) ?_
    rintro _ H31 ⟨r33, r34, r35, r36, r37, r38, r39, r40, r41, r42, rfl, h⟩
    refine HList.ops' rfl (HOp.call' 19 [(.int .i64 1)] (cap := []) rfl rfl Tryd.call19 (walk19 h)) ?_
    rintro _ H43 ⟨r45, r46, r47, r48, r49, r50, r51, r52, r53, r54, rfl, h⟩
    refine HList.ops' rfl (HOp.call' 16 [(.string S_a), (.int .i64 1), (.string S_s)] (cap := []) rfl rfl Tryd.call16 (walk16 h)) ?_
    rintro _ H55 ⟨r57, r58, r59, r60, r61, r62, r63, r64, r65, r66, rfl, h⟩
    refine HList.ops' rfl (HOp.call' 18 [(.int .i64 3), (.agg #[(.int .i64 r45), (.int .i64 r46), (.int .i64 r47), (.int .i64 r48), (.string r49), (.bool r50), (.string r51), (.int .i64 r52), (.string r53), (Sl.v r54)]), (.agg #[(.int .i64 r57), (.int .i64 r58), (.int .i64 r59), (.int .i64 r60), (.string r61), (.bool r62), (.string r63), (.int .i64 r64), (.string r65), (Sl.v r66)])] (cap := []) rfl rfl Tryd.call18 (walk18 h)) ?_
    rintro _ H67 ⟨r69, r70, r71, r72, r73, r74, r75, r76, r77, r78, rfl, h⟩
    refine HList.vals (v := (.agg #[(.int .i64 r21), (.int .i64 r22), (.int .i64 r23), (.int .i64 r24), (.string r25), (.bool r26), (.string r27), (.int .i64 r28), (.string r29), (Sl.v r30), (.int .i64 r33), (.int .i64 r34), (.int .i64 r35), (.int .i64 r36), (.string r37), (.bool r38), (.string r39), (.int .i64 r40), (.string r41), (Sl.v r42), (.int .i64 r69), (.int .i64 r70), (.int .i64 r71), (.int .i64 r72), (.string r73), (.bool r74), (.string r75), (.int .i64 r76), (.string r77), (Sl.v r78)])) rfl (HVal.buildA' (cs := [(.int .i64 r21), (.int .i64 r22), (.int .i64 r23), (.int .i64 r24), (.string r25), (.bool r26), (.string r27), (.int .i64 r28), (.string r29), (Sl.v r30), (.int .i64 r33), (.int .i64 r34), (.int .i64 r35), (.int .i64 r36), (.string r37), (.bool r38), (.string r39), (.int .i64 r40), (.string r41), (Sl.v r42), (.int .i64 r69), (.int .i64 r70), (.int .i64 r71), (.int .i64 r72), (.string r73), (.bool r74), (.string r75), (.int .i64 r76), (.string r77), (Sl.v r78)]) Tryd.runUnderlying64 Tryd.zeroValue64 Tryd.sizeOf41 (by kernel_rfl)) ?_
    refine HList.ops' rfl (HOp.alloc Tryd.zeroValue64) ?_
    rintro _ H79 ⟨rfl, e80⟩
    replace h := h H79 e80
    obtain ⟨z83, h⟩ := h
    refine HList.opsn (HOp.storeN' (l := [(.int .i64 r21), (.int .i64 r22), (.int .i64 r23), (.int .i64 r24), (.string r25), (.bool r26), (.string r27), (.int .i64 r28), (.string r29), (Sl.v r30), (.int .i64 r33), (.int .i64 r34), (.int .i64 r35), (.int .i64 r36), (.string r37), (.bool r38), (.string r39), (.int .i64 r40), (.string r41), (Sl.v r42), (.int .i64 r69), (.int .i64 r70), (.int .i64 r71), (.int .i64 r72), (.string r73), (.bool r74), (.string r75), (.int .i64 r76), (.string r77), (Sl.v r78)]) Tryd.sizeOf64 rfl rfl rfl z83) ?_
    rintro _ H81 e82
    replace h := h H81 e82
    refine HList.nil ?_
    refine nt ?_
    refine HW.seq ?_
    refine HW.region ?_
    refine HList.vals (v := (.agg #[(.int .i64 110), (.int .i64 82), (.int .i64 10)])) rfl (HVal.buildA' (cs := [(.int .i64 110), (.int .i64 82), (.int .i64 10)]) Tryd.runUnderlying65 Tryd.zeroValue65 Tryd.sizeOf55 rfl) ?_
    refine HList.ops' rfl (HOp.alloc Tryd.zeroValue65) ?_
    rintro _ H84 ⟨rfl, e85⟩
    replace h := h H84 e85
    obtain ⟨z88, h⟩ := h
    refine HList.opsn (HOp.storeN' (l := [(.int .i64 110), (.int .i64 82), (.int .i64 10)]) Tryd.sizeOf65 rfl rfl rfl z88) ?_
    rintro _ H86 e87
    replace h := h H86 e87
    refine HList.nil ?_
    refine nt ?_
    refine HW.seq ?_
    refine HW.region ?_
    refine HList.vals (v := (Sl.v Sl.nil)) rfl (HVal.assign' rfl) ?_
    refine HList.nil ?_
    refine nt ?_
    refine HW.seq ?_
    refine HW.region ?_
    refine HList.vals (v := (.bool true)) rfl (HVal.assign' rfl) ?_
    refine HList.nil ?_
    refine nt ?_
    refine HW.cut (fun ρ H_1 => ∃ (y435 : Sl) (y436 : Bool), Env.Is ρ [(5, (.pointer (some ⟨H5.size, 0, none⟩))), (6, (.pointer (some ⟨H67.size, 0, none⟩))), (8, (Sl.v y435)), (9, (.bool y436))] ∧ F6_1 Q ⟨H5.size, 0, none⟩ ⟨H67.size, 0, none⟩ y435 y436 H_1) ?_ ?_
    · refine HW.seq ?_
      refine HW.region ?_
      refine HList.vals (v := (.int .i64 0)) rfl (HVal.assign' rfl) ?_
      refine HList.nil ?_
      refine nt ?_
      refine HW.block ?_
      refine HW.loop' (fun L2 hL2 => ?_)
      obtain ⟨X2, hX2⟩ : ∃ X2 : Sl → Bool → Int → Hp → Prop, ∀ (y91 : Sl) (y92 : Bool) (y93 : Int) (H_2 : Hp), X2 y91 y92 y93 H_2 ↔ ∀ ρ, Env.Is ρ [(0, (Sl.v p0)), (1, (Sl.v p1)), (5, (.pointer (some ⟨H5.size, 0, none⟩))), (6, (.pointer (some ⟨H67.size, 0, none⟩))), (7, (.pointer (some ⟨H81.size, 0, none⟩))), (8, (Sl.v y91)), (9, (.bool y92)), (10, (.int .i64 y93))] → L2 ρ H_2 := ⟨_, fun _ _ _ _ => Iff.rfl⟩
      refine (hX2 _ _ _ _).1 (h X2 ?_) _ ?_
      rotate_left
      · exact ⟨rfl, rfl, rfl, rfl, rfl, rfl, rfl, rfl, trivial⟩
      clear h
      intro y91 y92 y93 H_2 h
      refine (hX2 _ _ _ _).2 fun ρ hI => ?_
      obtain ⟨ρ0, rfl⟩ : ∃ ρ0, ρ = (Env.set (Env.set (Env.set (Env.set (Env.set (Env.set (Env.set (Env.set ρ0 10 (.int .i64 y93)) 9 (.bool y92)) 8 (Sl.v y91)) 7 (.pointer (some ⟨H81.size, 0, none⟩))) 6 (.pointer (some ⟨H67.size, 0, none⟩))) 5 (.pointer (some ⟨H5.size, 0, none⟩))) 1 (Sl.v p1)) 0 (Sl.v p0)) := ⟨ρ, hI.eq⟩
      clear hI; unfold F6_L2b at h; refine hL2 _ _ ?_
      refine HW.seq ?_
      refine HW.seq ?_
      refine HW.region ?_
      refine HList.vals (v := (.int .i64 y93)) rfl (HVal.move' rfl) ?_
      refine HList.vals (v := (Sl.v p0)) rfl (HVal.move' rfl) ?_
      refine HList.vals (v := (.int .i64 ((p0).n : Int))) rfl (HVal.len Tryd.runUnderlying59 rfl) ?_
      refine HList.vals (v := (.bool (decide (y93 < ((p0).n : Int))))) rfl (HVal.lss rfl rfl) ?_
      refine HList.vals (v := (.bool (decide (y93 < ((p0).n : Int))))) rfl (HVal.move' rfl) ?_
      obtain ⟨hT, hF⟩ := h
      rcases Bool.eq_false_or_eq_true (decide (y93 < ((p0).n : Int))) with hb99 | hb100
      · have h := hT hb99
        clear hT hF
        refine HList.gvals (v := (.int .i64 y93)) rfl rfl rfl rfl (congrArg Value.bool hb99) (HVal.move' rfl) ?_
        refine HList.gvals (v := (.bool (decide (y93 < 40)))) rfl rfl rfl rfl (congrArg Value.bool hb99) (HVal.lss rfl rfl) ?_
        refine HList.vals (v := (.bool (decide (y93 < 40)))) rfl (HVal.pickT rfl hb99 rfl) ?_
        refine HList.nil ?_
        refine nt ?_
        obtain ⟨hT, hF⟩ := h
        refine HW.cond (decide (y93 < 40)) rfl (fun hb101 => ?_) (fun hb101 => ?_)
        · have h := hT hb101
          clear hT hF
          refine HW.skip ?_
          refine nt ?_
          refine HW.seq ?_
          refine HW.block ?_
          refine HW.seq ?_
          refine HW.region ?_
          refine HList.vals (v := (Sl.v p0)) rfl (HVal.move' rfl) ?_
          refine HList.vals (v := (.int .i64 y93)) rfl (HVal.move' rfl) ?_
          obtain ⟨a102, e103, b104, b105, h⟩ := h
          refine HList.vals (v := (.pointer (some (Addr.add a102 (y93.toNat * 1))))) rfl (HVal.indexAddr Tryd.runUnderlying59 Tryd.sizeOf4 (Sl.v_some rfl e103) rfl b104 b105) ?_
          obtain ⟨x107, c106, h⟩ := h
          refine HList.vals (v := (.bool x107)) rfl (HVal.load1 Tryd.isAgg4 rfl c106) ?_
          refine HList.ops' rfl (HOp.call' 20 [(.bool x107)] (cap := []) rfl rfl Tryd.call20 (walk20 h)) ?_
          rintro _ H108 ⟨r110, r111, r112, r113, r114, r115, r116, r117, r118, r119, rfl, h⟩
          refine HList.ops' rfl (HOp.alloc Tryd.zeroValue41) ?_
          rintro _ H120 ⟨rfl, e121⟩
          replace h := h H120 e121
          obtain ⟨z124, h⟩ := h
          refine HList.opsn (HOp.storeN' (l := [(.int .i64 r110), (.int .i64 r111), (.int .i64 r112), (.int .i64 r113), (.string r114), (.bool r115), (.string r116), (.int .i64 r117), (.string r118), (Sl.v r119)]) Tryd.sizeOf41 rfl rfl rfl z124) ?_
          rintro _ H122 e123
          replace h := h H122 e123
          refine HList.nil ?_
          refine nt ?_
          refine HW.cut (fun ρ H_3 => ∃ (y141 : Bool), Env.Is ρ [(0, (Sl.v p0)), (1, (Sl.v p1)), (5, (.pointer (some ⟨H5.size, 0, none⟩))), (6, (.pointer (some ⟨H67.size, 0, none⟩))), (7, (.pointer (some ⟨H81.size, 0, none⟩))), (8, (Sl.v y91)), (10, (.int .i64 y93)), (11, (.pointer (some ⟨H108.size, 0, none⟩))), (9, (.bool y141))] ∧ F6_3 Q X2 p0 p1 ⟨H5.size, 0, none⟩ ⟨H67.size, 0, none⟩ ⟨H81.size, 0, none⟩ y91 y93 ⟨H108.size, 0, none⟩ y141 H_3) ?_ ?_
          · refine HW.region ?_
            refine HList.vals (v := (.bool y92)) rfl (HVal.move' rfl) ?_
            refine HList.vals (v := (.bool y92)) rfl (HVal.move' rfl) ?_
            obtain ⟨hT, hF⟩ := h
            rcases Bool.eq_false_or_eq_true y92 with hb133 | hb134
            · have h := hT hb133
              clear hT hF
              refine HList.gvals (v := (Sl.v p0)) rfl rfl rfl rfl (congrArg Value.bool hb133) (HVal.move' rfl) ?_
              refine HList.gvals (v := (.int .i64 y93)) rfl rfl rfl rfl (congrArg Value.bool hb133) (HVal.move' rfl) ?_
              obtain ⟨a135, e136, b137, b138, h⟩ := h
              refine HList.gvals (v := (.pointer (some (Addr.add a135 (y93.toNat * 1))))) rfl rfl rfl rfl (congrArg Value.bool hb133) (HVal.indexAddr Tryd.runUnderlying59 Tryd.sizeOf4 (Sl.v_some rfl e136) rfl b137 b138) ?_
              obtain ⟨x140, c139, h⟩ := h
              refine HList.gvals (v := (.bool x140)) rfl rfl rfl rfl (congrArg Value.bool hb133) (HVal.load1 Tryd.isAgg4 rfl c139) ?_
              refine HList.vals (v := (.bool x140)) rfl (HVal.pickT rfl hb133 rfl) ?_
              refine HList.vals (v := (.bool x140)) rfl (HVal.assign' rfl) ?_
              refine HList.nil ?_
              refine nt ?_
              exact ⟨x140, ⟨rfl, rfl, rfl, rfl, rfl, rfl, rfl, rfl, rfl, trivial⟩, h⟩
            · have h := hF hb134
              clear hT hF
              refine HList.gskips rfl rfl rfl rfl (congrArg Value.bool hb134) ?_
              refine HList.gskips rfl rfl rfl rfl (congrArg Value.bool hb134) ?_
              refine HList.gskips rfl rfl rfl rfl (congrArg Value.bool hb134) ?_
              refine HList.gskips rfl rfl rfl rfl (congrArg Value.bool hb134) ?_
              refine HList.vals (v := (.bool false)) rfl (HVal.pickF rfl hb134 rfl) ?_
              refine HList.vals (v := (.bool false)) rfl (HVal.assign' rfl) ?_
              refine HList.nil ?_
              refine nt ?_
              exact ⟨false, ⟨rfl, rfl, rfl, rfl, rfl, rfl, rfl, rfl, rfl, trivial⟩, h⟩
          · rintro ρ H_3 ⟨y141, hI, h⟩
            obtain ⟨ρ0, rfl⟩ : ∃ ρ0, ρ = (Env.set (Env.set (Env.set (Env.set (Env.set (Env.set (Env.set (Env.set (Env.set ρ0 9 (.bool y141)) 11 (.pointer (some ⟨H108.size, 0, none⟩))) 10 (.int .i64 y93)) 8 (Sl.v y91)) 7 (.pointer (some ⟨H81.size, 0, none⟩))) 6 (.pointer (some ⟨H67.size, 0, none⟩))) 5 (.pointer (some ⟨H5.size, 0, none⟩))) 1 (Sl.v p1)) 0 (Sl.v p0)) := ⟨ρ, hI.eq⟩
            clear hI; unfold F6_3 at h
            refine HW.seq ?_
            refine HW.region ?_
            refine HList.vals (v := (.int .i64 3)) rfl (HVal.assign' rfl) ?_
            refine HList.nil ?_
            refine nt ?_
            refine HW.cut (fun ρ H_4 => ∃ (y158 : Int), Env.Is ρ [(0, (Sl.v p0)), (1, (Sl.v p1)), (5, (.pointer (some ⟨H5.size, 0, none⟩))), (6, (.pointer (some ⟨H67.size, 0, none⟩))), (7, (.pointer (some ⟨H81.size, 0, none⟩))), (8, (Sl.v y91)), (9, (.bool y141)), (10, (.int .i64 y93)), (11, (.pointer (some ⟨H108.size, 0, none⟩))), (12, (.int .i64 y158))] ∧ F6_4 Q X2 p0 p1 ⟨H5.size, 0, none⟩ ⟨H67.size, 0, none⟩ ⟨H81.size, 0, none⟩ y91 y141 y93 ⟨H108.size, 0, none⟩ y158 H_4) ?_ ?_
            · refine HW.seq ?_
              refine HW.region ?_
              refine HList.vals (v := (.int .i64 y93)) rfl (HVal.move' rfl) ?_
              refine HList.vals (v := (Sl.v p1)) rfl (HVal.move' rfl) ?_
              refine HList.vals (v := (.int .i64 ((p1).n : Int))) rfl (HVal.len Tryd.runUnderlying60 rfl) ?_
              refine HList.vals (v := (.bool (decide (y93 < ((p1).n : Int))))) rfl (HVal.lss rfl rfl) ?_
              refine HList.nil ?_
              refine nt ?_
              obtain ⟨hT, hF⟩ := h
              refine HW.cond (decide (y93 < ((p1).n : Int))) rfl (fun hb151 => ?_) (fun hb151 => ?_)
              · have h := hT hb151
                clear hT hF
                refine HW.region ?_
                refine HList.vals (v := (Sl.v p1)) rfl (HVal.move' rfl) ?_
                refine HList.vals (v := (.int .i64 y93)) rfl (HVal.move' rfl) ?_
                obtain ⟨a152, e153, b154, b155, h⟩ := h
                refine HList.vals (v := (.pointer (some (Addr.add a152 (y93.toNat * 1))))) rfl (HVal.indexAddr Tryd.runUnderlying60 Tryd.sizeOf5 (Sl.v_some rfl e153) rfl b154 b155) ?_
                obtain ⟨x157, c156, h⟩ := h
                refine HList.vals (v := (.int .u8 x157)) rfl (HVal.load1 Tryd.isAgg5 rfl c156) ?_
                refine HList.vals (v := (.int .i64 (IntKind.i64.wrap x157))) rfl (HVal.convI Tryd.runUnderlying5 Tryd.runUnderlying3 rfl) ?_
                refine HList.vals (v := (.int .i64 (Int.tmod (IntKind.i64.wrap x157) (12 : Int)))) rfl (HVal.rem rfl rfl (by decide)) ?_
                refine HList.vals (v := (.int .i64 (Int.tmod (IntKind.i64.wrap x157) (12 : Int)))) rfl (HVal.assign' rfl) ?_
                refine HList.nil ?_
                refine nt ?_
                exact ⟨(Int.tmod (IntKind.i64.wrap x157) (12 : Int)), ⟨rfl, rfl, rfl, rfl, rfl, rfl, rfl, rfl, rfl, rfl, trivial⟩, h⟩
              · have h := hF hb151
                clear hT hF
                refine HW.skip ?_
                refine nt ?_
                exact ⟨3, ⟨rfl, rfl, rfl, rfl, rfl, rfl, rfl, rfl, rfl, rfl, trivial⟩, h⟩
            · rintro ρ H_4 ⟨y158, hI, h⟩
              obtain ⟨ρ0, rfl⟩ : ∃ ρ0, ρ = (Env.set (Env.set (Env.set (Env.set (Env.set (Env.set (Env.set (Env.set (Env.set (Env.set ρ0 12 (.int .i64 y158)) 11 (.pointer (some ⟨H108.size, 0, none⟩))) 10 (.int .i64 y93)) 9 (.bool y141)) 8 (Sl.v y91)) 7 (.pointer (some ⟨H81.size, 0, none⟩))) 6 (.pointer (some ⟨H67.size, 0, none⟩))) 5 (.pointer (some ⟨H5.size, 0, none⟩))) 1 (Sl.v p1)) 0 (Sl.v p0)) := ⟨ρ, hI.eq⟩
              clear hI; unfold F6_4 at h
              refine HW.cut (fun ρ H_5 => ∃ (y393 : Bool), Env.Is ρ [(0, (Sl.v p0)), (1, (Sl.v p1)), (5, (.pointer (some ⟨H5.size, 0, none⟩))), (6, (.pointer (some ⟨H67.size, 0, none⟩))), (7, (.pointer (some ⟨H81.size, 0, none⟩))), (8, (Sl.v y91)), (10, (.int .i64 y93)), (11, (.pointer (some ⟨H108.size, 0, none⟩))), (12, (.int .i64 y158)), (9, (.bool y393))] ∧ F6_5 Q X2 p0 p1 ⟨H5.size, 0, none⟩ ⟨H67.size, 0, none⟩ ⟨H81.size, 0, none⟩ y91 y93 ⟨H108.size, 0, none⟩ y158 y393 H_5) ?_ ?_
              · refine HW.seq ?_
                refine HW.region ?_
                refine HList.vals (v := (.int .i64 y158)) rfl (HVal.move' rfl) ?_
                refine HList.vals (v := (.bool (decide (y158 < 3)))) rfl (HVal.lss rfl rfl) ?_
                refine HList.nil ?_
                refine nt ?_
                obtain ⟨hT, hF⟩ := h
                refine HW.cond (decide (y158 < 3)) rfl (fun hb168 => ?_) (fun hb168 => ?_)
                · have h := hT hb168
                  clear hT hF
                  refine HW.seq ?_
                  refine HW.region ?_
                  refine HList.vals (v := (.int .i64 y158)) rfl (HVal.move' rfl) ?_
                  refine HList.vals (v := (.int .i64 (Int.tmod y158 (3 : Int)))) rfl (HVal.rem rfl rfl (by decide)) ?_
                  refine HList.vals (v := (.int .i64 (Int.tmod y158 (3 : Int)))) rfl (HVal.assign' rfl) ?_
                  refine HList.nil ?_
                  refine nt ?_
                  refine HW.seq ?_
                  refine HW.cut (fun ρ H_6 => ∃ (y238 : Bool), Env.Is ρ [(0, (Sl.v p0)), (1, (Sl.v p1)), (5, (.pointer (some ⟨H5.size, 0, none⟩))), (6, (.pointer (some ⟨H67.size, 0, none⟩))), (7, (.pointer (some ⟨H81.size, 0, none⟩))), (8, (Sl.v y91)), (10, (.int .i64 y93)), (11, (.pointer (some ⟨H108.size, 0, none⟩))), (12, (.int .i64 y158)), (13, (.int .i64 (Int.tmod y158 (3 : Int)))), (100, (.bool y238))] ∧ F6_6 Q X2 p0 p1 ⟨H5.size, 0, none⟩ ⟨H67.size, 0, none⟩ ⟨H81.size, 0, none⟩ y91 y93 ⟨H108.size, 0, none⟩ y158 (Int.tmod y158 (3 : Int)) y238 H_6) ?_ ?_
                  · refine HW.draw mixed [(1, some []), (2, some []), (3, some [4]), (5, some [9]), (6, some []), (7, some []), (8, some [9]), (0, none), (4, none), (9, none), (10, some []), (11, some []), (13, some []), (14, some []), (15, some [16]), (17, some [21]), (18, some []), (19, some []), (20, some [21]), (12, none), (16, none), (21, none), (22, some []), (23, some []), (24, some []), (25, some []), (26, some []), (27, some [33]), (28, some []), (29, some []), (30, some []), (31, some []), (32, some [33]), (34, some [38]), (35, some []), (36, some []), (37, some [38]), (33, none), (38, none), (39, some []), (40, some [])] rfl (by kernel_rfl) (by kernel_rfl) ?_
                    refine HPlan.takev (v := (.int .i64 (Int.tmod y158 (3 : Int)))) rfl rfl (fun _ => HVal.move' rfl) ?_
                    obtain ⟨b179, b180, h⟩ := h
                    refine HPlan.takev (v := (.pointer (some (Addr.add ⟨H67.size, 0, none⟩ ((Int.tmod y158 (3 : Int)).toNat * 10))))) rfl rfl (fun _ => HVal.indexAddrA Tryd.runUnderlying64 Tryd.sizeOf41 rfl rfl b179 b180) ?_
                    obtain ⟨x182, x183, x184, x185, x186, x187, x188, x189, x190, x191, c181, h⟩ := h
                    refine HPlan.takel (v := (.agg #[(.int .i64 x182), (.int .i64 x183), (.int .i64 x184), (.int .i64 x185), (.string x186), (.bool x187), (.string x188), (.int .i64 x189), (.string x190), (Sl.v x191)])) (fun X => cells X (Addr.add ⟨H67.size, 0, none⟩ ((Int.tmod y158 (3 : Int)).toNat * 10)) [(.int .i64 x182), (.int .i64 x183), (.int .i64 x184), (.int .i64 x185), (.string x186), (.bool x187), (.string x188), (.int .i64 x189), (.string x190), (Sl.v x191)] 0) rfl rfl (fun _ hX => HVal.loadN [(.int .i64 x182), (.int .i64 x183), (.int .i64 x184), (.int .i64 x185), (.string x186), (.bool x187), (.string x188), (.int .i64 x189), (.string x190), (Sl.v x191)] Tryd.isAgg41 Tryd.sizeOf41 rfl hX) c181 ?_
                    obtain ⟨x193, x194, x195, x196, x197, x198, x199, c192, h⟩ := h
                    refine HPlan.takel (v := (.agg #[(Sl.v x193), (Sl.v x194), (.string x195), (.string x196), (.int .i64 x197), (Sl.v x198), (Sl.v x199)])) (fun X => cells X ⟨H5.size, 0, none⟩ [(Sl.v x193), (Sl.v x194), (.string x195), (.string x196), (.int .i64 x197), (Sl.v x198), (Sl.v x199)] 0) rfl rfl (fun _ hX => HVal.loadN [(Sl.v x193), (Sl.v x194), (.string x195), (.string x196), (.int .i64 x197), (Sl.v x198), (Sl.v x199)] Tryd.isAgg43 Tryd.sizeOf43 rfl hX) c192 ?_
                    refine HPlan.takev (v := (.int .i64 (Int.tmod y158 (3 : Int)))) rfl rfl (fun _ => HVal.move' rfl) ?_
                    obtain ⟨b200, b201, h⟩ := h
                    refine HPlan.takev (v := (.pointer (some (Addr.add ⟨H81.size, 0, none⟩ ((Int.tmod y158 (3 : Int)).toNat * 1))))) rfl rfl (fun _ => HVal.indexAddrA Tryd.runUnderlying65 Tryd.sizeOf55 rfl rfl b200 b201) ?_
                    obtain ⟨x203, c202, h⟩ := h
                    refine HPlan.takel (v := (.int .i64 x203)) (fun X => cell X (Addr.add ⟨H81.size, 0, none⟩ ((Int.tmod y158 (3 : Int)).toNat * 1)) = some (.int .i64 x203)) rfl rfl (fun _ hX => HVal.load1 Tryd.isAgg55 rfl hX) c202 ?_
                    refine HPlan.ops' rfl rfl (HOp.call' 20 [(.bool true)] (cap := []) rfl rfl Tryd.call20 (walk20 h)) ?_
                    rintro _ H204 ⟨r206, r207, r208, r209, r210, r211, r212, r213, r214, r215, rfl, h⟩
                    obtain ⟨s216, s217, s218, h⟩ := h
                    refine ⟨SC_of ⟨fun _ => s216, fun _ => s217, fun _ => s218, trivial⟩, ?_⟩
                    refine HPlan.ops' rfl rfl (HOp.call' 18 [(.int .i64 13), (.agg #[(.int .i64 r206), (.int .i64 r207), (.int .i64 r208), (.int .i64 r209), (.string r210), (.bool r211), (.string r212), (.int .i64 r213), (.string r214), (Sl.v r215)]), (.agg #[(.int .i64 x182), (.int .i64 x183), (.int .i64 x184), (.int .i64 x185), (.string x186), (.bool x187), (.string x188), (.int .i64 x189), (.string x190), (Sl.v x191)])] (cap := []) rfl rfl Tryd.call18 (walk18 h)) ?_
                    rintro _ H219 ⟨r221, r222, r223, r224, r225, r226, r227, r228, r229, r230, rfl, h⟩
                    obtain ⟨s231, s232, h⟩ := h
                    refine ⟨SC_of ⟨fun _ => s231, fun _ => s232, fun e => absurd e (by decide), trivial⟩, ?_⟩
                    refine HPlan.ops' rfl rfl (HOp.call' 15 [(.agg #[(.int .i64 r221), (.int .i64 r222), (.int .i64 r223), (.int .i64 r224), (.string r225), (.bool r226), (.string r227), (.int .i64 r228), (.string r229), (Sl.v r230)]), (.agg #[(Sl.v x193), (Sl.v x194), (.string x195), (.string x196), (.int .i64 x197), (Sl.v x198), (Sl.v x199)]), (.int .i64 x203)] (cap := []) rfl rfl Tryd.call15 (walk15 h)) ?_
                    rintro _ H233 ⟨r235, rfl, h⟩
                    refine ⟨SC_of ⟨fun e => absurd e (by decide), fun e => absurd e (by decide), fun e => absurd e (by decide), trivial⟩, ?_⟩
                    refine HPlan.takev (v := (.bool (!r235))) rfl rfl (fun _ => HVal.not rfl) ?_
                    refine HPlan.takev (v := (.bool (!r235))) rfl rfl (fun _ => HVal.move' rfl) ?_
                    obtain ⟨hT, hF⟩ := h
                    rcases Bool.eq_false_or_eq_true (!r235) with hb236 | hb237
                    · have h := hT hb236
                      clear hT hF
                      refine HPlan.takegskip rfl rfl rfl rfl (congrArg Value.bool hb236) ?_
                      refine HPlan.takegskip rfl rfl rfl rfl (congrArg Value.bool hb236) ?_
                      refine HPlan.takegskip rfl rfl rfl rfl (congrArg Value.bool hb236) ?_
                      refine HPlan.takegskip rfl rfl rfl rfl (congrArg Value.bool hb236) ?_
                      refine HPlan.takegskip rfl rfl rfl rfl (congrArg Value.bool hb236) ?_
                      refine HPlan.takegskip rfl rfl rfl rfl (congrArg Value.bool hb236) ?_
                      refine HPlan.takegskip rfl rfl rfl rfl (congrArg Value.bool hb236) ?_
                      refine HPlan.opgskip rfl rfl rfl rfl (congrArg Value.bool hb236) ?_
                      refine HPlan.opgskip rfl rfl rfl rfl (congrArg Value.bool hb236) ?_
                      refine HPlan.opgskip rfl rfl rfl rfl (congrArg Value.bool hb236) ?_
                      refine HPlan.takegskip rfl rfl rfl rfl (congrArg Value.bool hb236) ?_
                      refine HPlan.takev (v := (.bool true)) rfl rfl (fun _ => HVal.pickT rfl hb236 rfl) ?_
                      refine HPlan.takev (v := (.bool true)) rfl rfl (fun _ => HVal.move' rfl) ?_
                      refine HPlan.takegskip rfl rfl rfl rfl rfl ?_
                      refine HPlan.takegskip rfl rfl rfl rfl rfl ?_
                      refine HPlan.takegskip rfl rfl rfl rfl rfl ?_
                      refine HPlan.takegskip rfl rfl rfl rfl rfl ?_
                      refine HPlan.takegskip rfl rfl rfl rfl rfl ?_
                      refine HPlan.takegskip rfl rfl rfl rfl rfl ?_
                      refine HPlan.takegskip rfl rfl rfl rfl rfl ?_
                      refine HPlan.takegskip rfl rfl rfl rfl rfl ?_
                      refine HPlan.takegskip rfl rfl rfl rfl rfl ?_
                      refine HPlan.takegskip rfl rfl rfl rfl rfl ?_
                      refine HPlan.takegskip rfl rfl rfl rfl rfl ?_
                      refine HPlan.takegskip rfl rfl rfl rfl rfl ?_
                      refine HPlan.opgskip rfl rfl rfl rfl rfl ?_
                      refine HPlan.opgskip rfl rfl rfl rfl rfl ?_
                      refine HPlan.takegskip rfl rfl rfl rfl rfl ?_
                      refine HPlan.takev (v := (.bool true)) rfl rfl (fun _ => HVal.pickT rfl rfl rfl) ?_
                      refine HPlan.done ?_
                      refine nt ?_
                      exact ⟨true, ⟨rfl, rfl, rfl, rfl, rfl, rfl, rfl, rfl, rfl, rfl, rfl, trivial⟩, h⟩
                    · have h := hF hb237
                      clear hT hF
                      refine HPlan.gtakev (v := (.int .i64 (Int.tmod y158 (3 : Int)))) rfl rfl rfl rfl rfl (congrArg Value.bool hb237) (fun _ => HVal.move' rfl) ?_
                      obtain ⟨b239, b240, h⟩ := h
                      refine HPlan.gtakev (v := (.pointer (some (Addr.add ⟨H67.size, 0, none⟩ ((Int.tmod y158 (3 : Int)).toNat * 10))))) rfl rfl rfl rfl rfl (congrArg Value.bool hb237) (fun _ => HVal.indexAddrA Tryd.runUnderlying64 Tryd.sizeOf41 rfl rfl b239 b240) ?_
                      obtain ⟨x242, x243, x244, x245, x246, x247, x248, x249, x250, x251, c241, h⟩ := h
                      refine HPlan.gtakel (v := (.agg #[(.int .i64 x242), (.int .i64 x243), (.int .i64 x244), (.int .i64 x245), (.string x246), (.bool x247), (.string x248), (.int .i64 x249), (.string x250), (Sl.v x251)])) (fun X => cells X (Addr.add ⟨H67.size, 0, none⟩ ((Int.tmod y158 (3 : Int)).toNat * 10)) [(.int .i64 x242), (.int .i64 x243), (.int .i64 x244), (.int .i64 x245), (.string x246), (.bool x247), (.string x248), (.int .i64 x249), (.string x250), (Sl.v x251)] 0) rfl rfl rfl rfl rfl (congrArg Value.bool hb237) (fun _ hX => HVal.loadN [(.int .i64 x242), (.int .i64 x243), (.int .i64 x244), (.int .i64 x245), (.string x246), (.bool x247), (.string x248), (.int .i64 x249), (.string x250), (Sl.v x251)] Tryd.isAgg41 Tryd.sizeOf41 rfl hX) c241 ?_
                      obtain ⟨x253, x254, x255, x256, x257, x258, x259, c252, h⟩ := h
                      refine HPlan.gtakel (v := (.agg #[(Sl.v x253), (Sl.v x254), (.string x255), (.string x256), (.int .i64 x257), (Sl.v x258), (Sl.v x259)])) (fun X => cells X ⟨H5.size, 0, none⟩ [(Sl.v x253), (Sl.v x254), (.string x255), (.string x256), (.int .i64 x257), (Sl.v x258), (Sl.v x259)] 0) rfl rfl rfl rfl rfl (congrArg Value.bool hb237) (fun _ hX => HVal.loadN [(Sl.v x253), (Sl.v x254), (.string x255), (.string x256), (.int .i64 x257), (Sl.v x258), (Sl.v x259)] Tryd.isAgg43 Tryd.sizeOf43 rfl hX) c252 ?_
                      refine HPlan.gtakev (v := (.int .i64 (Int.tmod y158 (3 : Int)))) rfl rfl rfl rfl rfl (congrArg Value.bool hb237) (fun _ => HVal.move' rfl) ?_
                      obtain ⟨b260, b261, h⟩ := h
                      refine HPlan.gtakev (v := (.pointer (some (Addr.add ⟨H81.size, 0, none⟩ ((Int.tmod y158 (3 : Int)).toNat * 1))))) rfl rfl rfl rfl rfl (congrArg Value.bool hb237) (fun _ => HVal.indexAddrA Tryd.runUnderlying65 Tryd.sizeOf55 rfl rfl b260 b261) ?_
                      obtain ⟨x263, c262, h⟩ := h
                      refine HPlan.gtakel (v := (.int .i64 x263)) (fun X => cell X (Addr.add ⟨H81.size, 0, none⟩ ((Int.tmod y158 (3 : Int)).toNat * 1)) = some (.int .i64 x263)) rfl rfl rfl rfl rfl (congrArg Value.bool hb237) (fun _ hX => HVal.load1 Tryd.isAgg55 rfl hX) c262 ?_
                      refine HPlan.gops rfl rfl rfl rfl rfl (congrArg Value.bool hb237) (HOp.call' 20 [(.bool false)] (cap := []) rfl rfl Tryd.call20 (walk20 h)) ?_
                      rintro _ H264 ⟨r266, r267, r268, r269, r270, r271, r272, r273, r274, r275, rfl, h⟩
                      obtain ⟨s276, s277, s278, h⟩ := h
                      refine ⟨SC_of ⟨fun _ => s276, fun _ => s277, fun _ => s278, fun e => absurd e (by decide), fun e => absurd e (by decide), fun e => absurd e (by decide), trivial⟩, ?_⟩
                      refine HPlan.gops rfl rfl rfl rfl rfl (congrArg Value.bool hb237) (HOp.call' 18 [(.int .i64 12), (.agg #[(.int .i64 r266), (.int .i64 r267), (.int .i64 r268), (.int .i64 r269), (.string r270), (.bool r271), (.string r272), (.int .i64 r273), (.string r274), (Sl.v r275)]), (.agg #[(.int .i64 x242), (.int .i64 x243), (.int .i64 x244), (.int .i64 x245), (.string x246), (.bool x247), (.string x248), (.int .i64 x249), (.string x250), (Sl.v x251)])] (cap := []) rfl rfl Tryd.call18 (walk18 h)) ?_
                      rintro _ H279 ⟨r281, r282, r283, r284, r285, r286, r287, r288, r289, r290, rfl, h⟩
                      obtain ⟨s291, s292, h⟩ := h
                      refine ⟨SC_of ⟨fun _ => s291, fun _ => s292, fun e => absurd e (by decide), fun e => absurd e (by decide), fun e => absurd e (by decide), fun e => absurd e (by decide), trivial⟩, ?_⟩
                      refine HPlan.gops rfl rfl rfl rfl rfl (congrArg Value.bool hb237) (HOp.call' 15 [(.agg #[(.int .i64 r281), (.int .i64 r282), (.int .i64 r283), (.int .i64 r284), (.string r285), (.bool r286), (.string r287), (.int .i64 r288), (.string r289), (Sl.v r290)]), (.agg #[(Sl.v x253), (Sl.v x254), (.string x255), (.string x256), (.int .i64 x257), (Sl.v x258), (Sl.v x259)]), (.int .i64 x263)] (cap := []) rfl rfl Tryd.call15 (walk15 h)) ?_
                      rintro _ H293 ⟨r295, rfl, h⟩
                      refine ⟨SC_of ⟨fun e => absurd e (by decide), fun e => absurd e (by decide), fun e => absurd e (by decide), fun e => absurd e (by decide), fun e => absurd e (by decide), fun e => absurd e (by decide), trivial⟩, ?_⟩
                      refine HPlan.gtakev (v := (.bool (!r295))) rfl rfl rfl rfl rfl (congrArg Value.bool hb237) (fun _ => HVal.not rfl) ?_
                      refine HPlan.takev (v := (.bool (!r295))) rfl rfl (fun _ => HVal.pickF rfl hb237 rfl) ?_
                      refine HPlan.takev (v := (.bool (!r295))) rfl rfl (fun _ => HVal.move' rfl) ?_
                      obtain ⟨hT, hF⟩ := h
                      rcases Bool.eq_false_or_eq_true (!r295) with hb296 | hb297
                      · have h := hT hb296
                        clear hT hF
                        refine HPlan.takegskip rfl rfl rfl rfl (congrArg Value.bool hb296) ?_
                        refine HPlan.takegskip rfl rfl rfl rfl (congrArg Value.bool hb296) ?_
                        refine HPlan.takegskip rfl rfl rfl rfl (congrArg Value.bool hb296) ?_
                        refine HPlan.takegskip rfl rfl rfl rfl (congrArg Value.bool hb296) ?_
                        refine HPlan.takegskip rfl rfl rfl rfl (congrArg Value.bool hb296) ?_
                        refine HPlan.takegskip rfl rfl rfl rfl (congrArg Value.bool hb296) ?_
                        refine HPlan.takegskip rfl rfl rfl rfl (congrArg Value.bool hb296) ?_
                        refine HPlan.takegskip rfl rfl rfl rfl (congrArg Value.bool hb296) ?_
                        refine HPlan.takegskip rfl rfl rfl rfl (congrArg Value.bool hb296) ?_
                        refine HPlan.takegskip rfl rfl rfl rfl (congrArg Value.bool hb296) ?_
                        refine HPlan.takegskip rfl rfl rfl rfl (congrArg Value.bool hb296) ?_
                        refine HPlan.takegskip rfl rfl rfl rfl (congrArg Value.bool hb296) ?_
                        refine HPlan.opgskip rfl rfl rfl rfl (congrArg Value.bool hb296) ?_
                        refine HPlan.opgskip rfl rfl rfl rfl (congrArg Value.bool hb296) ?_
                        refine HPlan.takegskip rfl rfl rfl rfl (congrArg Value.bool hb296) ?_
                        refine HPlan.takev (v := (.bool true)) rfl rfl (fun _ => HVal.pickT rfl hb296 rfl) ?_
                        refine HPlan.done ?_
                        refine nt ?_
                        exact ⟨true, ⟨rfl, rfl, rfl, rfl, rfl, rfl, rfl, rfl, rfl, rfl, rfl, trivial⟩, h⟩
                      · have h := hF hb297
                        clear hT hF
                        refine HPlan.gtakev (v := (.int .i64 (Int.tmod y158 (3 : Int)))) rfl rfl rfl rfl rfl (congrArg Value.bool hb297) (fun _ => HVal.move' rfl) ?_
                        obtain ⟨b298, b299, h⟩ := h
                        refine HPlan.gtakev (v := (.pointer (some (Addr.add ⟨H67.size, 0, none⟩ ((Int.tmod y158 (3 : Int)).toNat * 10))))) rfl rfl rfl rfl rfl (congrArg Value.bool hb297) (fun _ => HVal.indexAddrA Tryd.runUnderlying64 Tryd.sizeOf41 rfl rfl b298 b299) ?_
                        obtain ⟨x301, x302, x303, x304, x305, x306, x307, x308, x309, x310, c300, h⟩ := h
                        refine HPlan.gtakel (v := (.agg #[(.int .i64 x301), (.int .i64 x302), (.int .i64 x303), (.int .i64 x304), (.string x305), (.bool x306), (.string x307), (.int .i64 x308), (.string x309), (Sl.v x310)])) (fun X => cells X (Addr.add ⟨H67.size, 0, none⟩ ((Int.tmod y158 (3 : Int)).toNat * 10)) [(.int .i64 x301), (.int .i64 x302), (.int .i64 x303), (.int .i64 x304), (.string x305), (.bool x306), (.string x307), (.int .i64 x308), (.string x309), (Sl.v x310)] 0) rfl rfl rfl rfl rfl (congrArg Value.bool hb297) (fun _ hX => HVal.loadN [(.int .i64 x301), (.int .i64 x302), (.int .i64 x303), (.int .i64 x304), (.string x305), (.bool x306), (.string x307), (.int .i64 x308), (.string x309), (Sl.v x310)] Tryd.isAgg41 Tryd.sizeOf41 rfl hX) c300 ?_
                        refine HPlan.gtakev (v := (.int .i64 (Int.tmod y158 (3 : Int)))) rfl rfl rfl rfl rfl (congrArg Value.bool hb297) (fun _ => HVal.move' rfl) ?_
                        refine HPlan.gtakev (v := (.int .i64 (IntKind.i64.wrap ((Int.tmod y158 (3 : Int)) + 1)))) rfl rfl rfl rfl rfl (congrArg Value.bool hb297) (fun _ => HVal.add rfl rfl) ?_
                        refine HPlan.gtakev (v := (.int .i64 (Int.tmod (IntKind.i64.wrap ((Int.tmod y158 (3 : Int)) + 1)) (3 : Int)))) rfl rfl rfl rfl rfl (congrArg Value.bool hb297) (fun _ => HVal.rem rfl rfl (by decide)) ?_
                        obtain ⟨b311, b312, h⟩ := h
                        refine HPlan.gtakev (v := (.pointer (some (Addr.add ⟨H67.size, 0, none⟩ ((Int.tmod (IntKind.i64.wrap ((Int.tmod y158 (3 : Int)) + 1)) (3 : Int)).toNat * 10))))) rfl rfl rfl rfl rfl (congrArg Value.bool hb297) (fun _ => HVal.indexAddrA Tryd.runUnderlying64 Tryd.sizeOf41 rfl rfl b311 b312) ?_
                        obtain ⟨x314, x315, x316, x317, x318, x319, x320, x321, x322, x323, c313, h⟩ := h
                        refine HPlan.gtakel (v := (.agg #[(.int .i64 x314), (.int .i64 x315), (.int .i64 x316), (.int .i64 x317), (.string x318), (.bool x319), (.string x320), (.int .i64 x321), (.string x322), (Sl.v x323)])) (fun X => cells X (Addr.add ⟨H67.size, 0, none⟩ ((Int.tmod (IntKind.i64.wrap ((Int.tmod y158 (3 : Int)) + 1)) (3 : Int)).toNat * 10)) [(.int .i64 x314), (.int .i64 x315), (.int .i64 x316), (.int .i64 x317), (.string x318), (.bool x319), (.string x320), (.int .i64 x321), (.string x322), (Sl.v x323)] 0) rfl rfl rfl rfl rfl (congrArg Value.bool hb297) (fun _ hX => HVal.loadN [(.int .i64 x314), (.int .i64 x315), (.int .i64 x316), (.int .i64 x317), (.string x318), (.bool x319), (.string x320), (.int .i64 x321), (.string x322), (Sl.v x323)] Tryd.isAgg41 Tryd.sizeOf41 rfl hX) c313 ?_
                        obtain ⟨x325, x326, x327, x328, x329, x330, x331, c324, h⟩ := h
                        refine HPlan.gtakel (v := (.agg #[(Sl.v x325), (Sl.v x326), (.string x327), (.string x328), (.int .i64 x329), (Sl.v x330), (Sl.v x331)])) (fun X => cells X ⟨H5.size, 0, none⟩ [(Sl.v x325), (Sl.v x326), (.string x327), (.string x328), (.int .i64 x329), (Sl.v x330), (Sl.v x331)] 0) rfl rfl rfl rfl rfl (congrArg Value.bool hb297) (fun _ hX => HVal.loadN [(Sl.v x325), (Sl.v x326), (.string x327), (.string x328), (.int .i64 x329), (Sl.v x330), (Sl.v x331)] Tryd.isAgg43 Tryd.sizeOf43 rfl hX) c324 ?_
                        refine HPlan.gtakev (v := (.int .i64 (Int.tmod y158 (3 : Int)))) rfl rfl rfl rfl rfl (congrArg Value.bool hb297) (fun _ => HVal.move' rfl) ?_
                        obtain ⟨b332, b333, h⟩ := h
                        refine HPlan.gtakev (v := (.pointer (some (Addr.add ⟨H81.size, 0, none⟩ ((Int.tmod y158 (3 : Int)).toNat * 1))))) rfl rfl rfl rfl rfl (congrArg Value.bool hb297) (fun _ => HVal.indexAddrA Tryd.runUnderlying65 Tryd.sizeOf55 rfl rfl b332 b333) ?_
                        obtain ⟨x335, c334, h⟩ := h
                        refine HPlan.gtakel (v := (.int .i64 x335)) (fun X => cell X (Addr.add ⟨H81.size, 0, none⟩ ((Int.tmod y158 (3 : Int)).toNat * 1)) = some (.int .i64 x335)) rfl rfl rfl rfl rfl (congrArg Value.bool hb297) (fun _ hX => HVal.load1 Tryd.isAgg55 rfl hX) c334 ?_
                        refine HPlan.gops rfl rfl rfl rfl rfl (congrArg Value.bool hb297) (HOp.call' 18 [(.int .i64 13), (.agg #[(.int .i64 x301), (.int .i64 x302), (.int .i64 x303), (.int .i64 x304), (.string x305), (.bool x306), (.string x307), (.int .i64 x308), (.string x309), (Sl.v x310)]), (.agg #[(.int .i64 x314), (.int .i64 x315), (.int .i64 x316), (.int .i64 x317), (.string x318), (.bool x319), (.string x320), (.int .i64 x321), (.string x322), (Sl.v x323)])] (cap := []) rfl rfl Tryd.call18 (walk18 h)) ?_
                        rintro _ H336 ⟨r338, r339, r340, r341, r342, r343, r344, r345, r346, r347, rfl, h⟩
                        obtain ⟨s348, s349, h⟩ := h
                        refine ⟨SC_of ⟨fun _ => s348, fun _ => s349, fun e => absurd e (by decide), fun e => absurd e (by decide), fun e => absurd e (by decide), fun e => absurd e (by decide), fun e => absurd e (by decide), fun e => absurd e (by decide), fun e => absurd e (by decide), fun e => absurd e (by decide), trivial⟩, ?_⟩
                        refine HPlan.gops rfl rfl rfl rfl rfl (congrArg Value.bool hb297) (HOp.call' 15 [(.agg #[(.int .i64 r338), (.int .i64 r339), (.int .i64 r340), (.int .i64 r341), (.string r342), (.bool r343), (.string r344), (.int .i64 r345), (.string r346), (Sl.v r347)]), (.agg #[(Sl.v x325), (Sl.v x326), (.string x327), (.string x328), (.int .i64 x329), (Sl.v x330), (Sl.v x331)]), (.int .i64 x335)] (cap := []) rfl rfl Tryd.call15 (walk15 h)) ?_
                        rintro _ H350 ⟨r352, rfl, h⟩
                        refine ⟨SC_of ⟨fun e => absurd e (by decide), fun e => absurd e (by decide), fun e => absurd e (by decide), fun e => absurd e (by decide), fun e => absurd e (by decide), fun e => absurd e (by decide), fun e => absurd e (by decide), fun e => absurd e (by decide), fun e => absurd e (by decide), fun e => absurd e (by decide), trivial⟩, ?_⟩
                        refine HPlan.gtakev (v := (.bool (!r352))) rfl rfl rfl rfl rfl (congrArg Value.bool hb297) (fun _ => HVal.not rfl) ?_
                        refine HPlan.takev (v := (.bool (!r352))) rfl rfl (fun _ => HVal.pickF rfl hb297 rfl) ?_
                        refine HPlan.done ?_
                        refine nt ?_
                        exact ⟨(!r352), ⟨rfl, rfl, rfl, rfl, rfl, rfl, rfl, rfl, rfl, rfl, rfl, trivial⟩, h⟩
                  · rintro ρ H_6 ⟨y238, hI, h⟩
                    obtain ⟨ρ0, rfl⟩ : ∃ ρ0, ρ = (Env.set (Env.set (Env.set (Env.set (Env.set (Env.set (Env.set (Env.set (Env.set (Env.set (Env.set ρ0 100 (.bool y238)) 13 (.int .i64 (Int.tmod y158 (3 : Int)))) 12 (.int .i64 y158)) 11 (.pointer (some ⟨H108.size, 0, none⟩))) 10 (.int .i64 y93)) 8 (Sl.v y91)) 7 (.pointer (some ⟨H81.size, 0, none⟩))) 6 (.pointer (some ⟨H67.size, 0, none⟩))) 5 (.pointer (some ⟨H5.size, 0, none⟩))) 1 (Sl.v p1)) 0 (Sl.v p0)) := ⟨ρ, hI.eq⟩
                    clear hI; unfold F6_6 at h
                    obtain ⟨hT, hF⟩ := h
                    refine HW.cond y238 rfl (fun hb353 => ?_) (fun hb353 => ?_)
                    · have h := hT hb353
                      clear hT hF
                      refine HW.seq ?_
                      refine HW.region ?_
                      refine HList.vals (v := (.bool false)) rfl (HVal.assign' rfl) ?_
                      refine HList.nil ?_
                      refine nt ?_
                      refine HW.ret ?_
                      refine tr ?_
                      refine tr ?_
                      refine br ?_
                      refine tr ?_
                      refine tr ?_
                      refine br ?_
                      refine tr ?_
                      exact ⟨_, resOf1 rfl Res1.t, ⟨false, rfl, h⟩⟩
                    · have h := hF hb353
                      clear hT hF
                      refine HW.skip ?_
                      refine nt ?_
                      refine HW.seq ?_
                      refine HW.draw mixed [(0, some [4, 5]), (1, some []), (2, some []), (3, some [4, 5]), (4, none), (5, none)] rfl (by kernel_rfl) (by kernel_rfl) ?_
                      obtain ⟨x355, x356, x357, x358, x359, x360, x361, x362, x363, x364, c354, h⟩ := h
                      refine HPlan.takel (v := (.agg #[(.int .i64 x355), (.int .i64 x356), (.int .i64 x357), (.int .i64 x358), (.string x359), (.bool x360), (.string x361), (.int .i64 x362), (.string x363), (Sl.v x364)])) (fun X => cells X ⟨H108.size, 0, none⟩ [(.int .i64 x355), (.int .i64 x356), (.int .i64 x357), (.int .i64 x358), (.string x359), (.bool x360), (.string x361), (.int .i64 x362), (.string x363), (Sl.v x364)] 0) rfl rfl (fun _ hX => HVal.loadN [(.int .i64 x355), (.int .i64 x356), (.int .i64 x357), (.int .i64 x358), (.string x359), (.bool x360), (.string x361), (.int .i64 x362), (.string x363), (Sl.v x364)] Tryd.isAgg41 Tryd.sizeOf41 rfl hX) c354 ?_
                      refine HPlan.takev (v := (.int .i64 (Int.tmod y158 (3 : Int)))) rfl rfl (fun _ => HVal.move' rfl) ?_
                      obtain ⟨b365, b366, h⟩ := h
                      refine HPlan.takev (v := (.pointer (some (Addr.add ⟨H67.size, 0, none⟩ ((Int.tmod y158 (3 : Int)).toNat * 10))))) rfl rfl (fun _ => HVal.indexAddrA Tryd.runUnderlying64 Tryd.sizeOf41 rfl rfl b365 b366) ?_
                      obtain ⟨x368, x369, x370, x371, x372, x373, x374, x375, x376, x377, c367, h⟩ := h
                      refine HPlan.takel (v := (.agg #[(.int .i64 x368), (.int .i64 x369), (.int .i64 x370), (.int .i64 x371), (.string x372), (.bool x373), (.string x374), (.int .i64 x375), (.string x376), (Sl.v x377)])) (fun X => cells X (Addr.add ⟨H67.size, 0, none⟩ ((Int.tmod y158 (3 : Int)).toNat * 10)) [(.int .i64 x368), (.int .i64 x369), (.int .i64 x370), (.int .i64 x371), (.string x372), (.bool x373), (.string x374), (.int .i64 x375), (.string x376), (Sl.v x377)] 0) rfl rfl (fun _ hX => HVal.loadN [(.int .i64 x368), (.int .i64 x369), (.int .i64 x370), (.int .i64 x371), (.string x372), (.bool x373), (.string x374), (.int .i64 x375), (.string x376), (Sl.v x377)] Tryd.isAgg41 Tryd.sizeOf41 rfl hX) c367 ?_
                      refine HPlan.ops' rfl rfl (HOp.call' 18 [(.int .i64 13), (.agg #[(.int .i64 x355), (.int .i64 x356), (.int .i64 x357), (.int .i64 x358), (.string x359), (.bool x360), (.string x361), (.int .i64 x362), (.string x363), (Sl.v x364)]), (.agg #[(.int .i64 x368), (.int .i64 x369), (.int .i64 x370), (.int .i64 x371), (.string x372), (.bool x373), (.string x374), (.int .i64 x375), (.string x376), (Sl.v x377)])] (cap := []) rfl rfl Tryd.call18 (walk18 h)) ?_
                      rintro _ H378 ⟨r380, r381, r382, r383, r384, r385, r386, r387, r388, r389, rfl, h⟩
                      refine ⟨SC_of ⟨fun e => absurd e (by decide), fun e => absurd e (by decide), trivial⟩, ?_⟩
                      obtain ⟨z392, h⟩ := h
                      refine HPlan.opsn rfl (HOp.storeN' (l := [(.int .i64 r380), (.int .i64 r381), (.int .i64 r382), (.int .i64 r383), (.string r384), (.bool r385), (.string r386), (.int .i64 r387), (.string r388), (Sl.v r389)]) Tryd.sizeOf41 rfl rfl rfl z392) ?_
                      rintro _ H390 e391
                      replace h := h H390 e391
                      refine ⟨SC_of ⟨fun e => absurd e (by decide), fun e => absurd e (by decide), trivial⟩, ?_⟩
                      refine HPlan.done ?_
                      refine nt ?_
                      refine HW.region ?_
                      refine HList.vals (v := (.bool false)) rfl (HVal.assign' rfl) ?_
                      refine HList.nil ?_
                      refine nt ?_
                      exact ⟨false, ⟨rfl, rfl, rfl, rfl, rfl, rfl, rfl, rfl, rfl, rfl, trivial⟩, h⟩
                · have h := hF hb168
                  clear hT hF
                  refine HW.skip ?_
                  refine nt ?_
                  exact ⟨y141, ⟨rfl, rfl, rfl, rfl, rfl, rfl, rfl, rfl, rfl, rfl, trivial⟩, h⟩
              · rintro ρ H_5 ⟨y393, hI, h⟩
                obtain ⟨ρ0, rfl⟩ : ∃ ρ0, ρ = (Env.set (Env.set (Env.set (Env.set (Env.set (Env.set (Env.set (Env.set (Env.set (Env.set ρ0 9 (.bool y393)) 12 (.int .i64 y158)) 11 (.pointer (some ⟨H108.size, 0, none⟩))) 10 (.int .i64 y93)) 8 (Sl.v y91)) 7 (.pointer (some ⟨H81.size, 0, none⟩))) 6 (.pointer (some ⟨H67.size, 0, none⟩))) 5 (.pointer (some ⟨H5.size, 0, none⟩))) 1 (Sl.v p1)) 0 (Sl.v p0)) := ⟨ρ, hI.eq⟩
                clear hI; unfold F6_5 at h
                refine HW.cut (fun ρ H_7 => ∃ (y418 : Bool), Env.Is ρ [(0, (Sl.v p0)), (1, (Sl.v p1)), (5, (.pointer (some ⟨H5.size, 0, none⟩))), (6, (.pointer (some ⟨H67.size, 0, none⟩))), (7, (.pointer (some ⟨H81.size, 0, none⟩))), (8, (Sl.v y91)), (10, (.int .i64 y93)), (11, (.pointer (some ⟨H108.size, 0, none⟩))), (9, (.bool y418))] ∧ F6_7 Q X2 p0 p1 ⟨H5.size, 0, none⟩ ⟨H67.size, 0, none⟩ ⟨H81.size, 0, none⟩ y91 y93 ⟨H108.size, 0, none⟩ y418 H_7) ?_ ?_
                · refine HW.seq ?_
                  refine HW.region ?_
                  refine HList.vals (v := (.int .i64 y158)) rfl (HVal.move' rfl) ?_
                  refine HList.vals (v := (.bool (decide (y158 = 4)))) rfl (HVal.eqlI rfl rfl) ?_
                  refine HList.nil ?_
                  refine nt ?_
                  obtain ⟨hT, hF⟩ := h
                  refine HW.cond (decide (y158 = 4)) rfl (fun hb402 => ?_) (fun hb402 => ?_)
                  · have h := hT hb402
                    clear hT hF
                    refine HW.seq ?_
                    refine HW.region ?_
                    refine HList.ops' rfl (HOp.call' 19 [(.int .i64 1)] (cap := []) rfl rfl Tryd.call19 (walk19 h)) ?_
                    rintro _ H403 ⟨r405, r406, r407, r408, r409, r410, r411, r412, r413, r414, rfl, h⟩
                    obtain ⟨z417, h⟩ := h
                    refine HList.opsn (HOp.storeN' (l := [(.int .i64 r405), (.int .i64 r406), (.int .i64 r407), (.int .i64 r408), (.string r409), (.bool r410), (.string r411), (.int .i64 r412), (.string r413), (Sl.v r414)]) Tryd.sizeOf41 rfl rfl rfl z417) ?_
                    rintro _ H415 e416
                    replace h := h H415 e416
                    refine HList.nil ?_
                    refine nt ?_
                    refine HW.region ?_
                    refine HList.vals (v := (.bool false)) rfl (HVal.assign' rfl) ?_
                    refine HList.nil ?_
                    refine nt ?_
                    exact ⟨false, ⟨rfl, rfl, rfl, rfl, rfl, rfl, rfl, rfl, rfl, trivial⟩, h⟩
                  · have h := hF hb402
                    clear hT hF
                    refine HW.skip ?_
                    refine nt ?_
                    exact ⟨y393, ⟨rfl, rfl, rfl, rfl, rfl, rfl, rfl, rfl, rfl, trivial⟩, h⟩
                · rintro ρ H_7 ⟨y418, hI, h⟩
                  obtain ⟨ρ0, rfl⟩ : ∃ ρ0, ρ = (Env.set (Env.set (Env.set (Env.set (Env.set (Env.set (Env.set (Env.set (Env.set ρ0 9 (.bool y418)) 11 (.pointer (some ⟨H108.size, 0, none⟩))) 10 (.int .i64 y93)) 8 (Sl.v y91)) 7 (.pointer (some ⟨H81.size, 0, none⟩))) 6 (.pointer (some ⟨H67.size, 0, none⟩))) 5 (.pointer (some ⟨H5.size, 0, none⟩))) 1 (Sl.v p1)) 0 (Sl.v p0)) := ⟨ρ, hI.eq⟩
                  clear hI; unfold F6_7 at h
                  refine HW.region ?_
                  refine HList.vals (v := (Sl.v y91)) rfl (HVal.move' rfl) ?_
                  obtain ⟨x420, x421, x422, x423, x424, x425, x426, x427, x428, x429, c419, h⟩ := h
                  refine HList.vals (v := (.agg #[(.int .i64 x420), (.int .i64 x421), (.int .i64 x422), (.int .i64 x423), (.string x424), (.bool x425), (.string x426), (.int .i64 x427), (.string x428), (Sl.v x429)])) rfl (HVal.loadN [(.int .i64 x420), (.int .i64 x421), (.int .i64 x422), (.int .i64 x423), (.string x424), (.bool x425), (.string x426), (.int .i64 x427), (.string x428), (Sl.v x429)] Tryd.isAgg41 Tryd.sizeOf41 rfl c419) ?_
                  refine HList.ops' rfl (HOp.buildSlice' (zs := [(.int .i64 0), (.int .i64 0), (.int .i64 0), (.int .i64 0), (.string (ByteArray.mk #[])), (.bool false), (.string (ByteArray.mk #[])), (.int .i64 0), (.string (ByteArray.mk #[])), (Sl.v Sl.nil)]) (cs := [(.int .i64 x420), (.int .i64 x421), (.int .i64 x422), (.int .i64 x423), (.string x424), (.bool x425), (.string x426), (.int .i64 x427), (.string x428), (Sl.v x429)]) Tryd.runUnderlying39 Tryd.sizeOf41 Tryd.zeroValue41 (by decide) (by kernel_rfl) (by kernel_rfl) (by decide)) ?_
                  rintro _ H430 ⟨rfl, e431⟩
                  replace h := h H430 e431
                  refine HList.ops' rfl (HOp.append (k := 10) (b := 120) Tryd.runUnderlying39 Tryd.runUnderlying39 Tryd.typeInfo41 rfl rfl Tryd.zeroValue41 rfl rfl h) ?_
                  rintro _ H432 ⟨r434, rfl, h⟩
                  refine HList.vals (v := (Sl.v r434)) rfl (HVal.assign' rfl) ?_
                  refine HList.nil ?_
                  refine nb ?_
                  refine nt ?_
                  refine HW.region ?_
                  refine HList.vals (v := (.int .i64 y93)) rfl (HVal.move' rfl) ?_
                  refine HList.vals (v := (.int .i64 (IntKind.i64.wrap (y93 + 1)))) rfl (HVal.add rfl rfl) ?_
                  refine HList.vals (v := (.int .i64 (IntKind.i64.wrap (y93 + 1)))) rfl (HVal.assign' rfl) ?_
                  refine HList.nil ?_
                  refine nt ?_
                  exact (hX2 _ _ _ _).1 h _ ⟨rfl, rfl, rfl, rfl, rfl, rfl, rfl, rfl, trivial⟩
        · have h := hF hb101
          clear hT hF
          refine HW.exit ?_
          refine te ?_
          refine te ?_
          refine be ?_
          refine nt ?_
          exact ⟨y91, y92, ⟨rfl, rfl, rfl, rfl, trivial⟩, h⟩
      · have h := hF hb100
        clear hT hF
        refine HList.gskips rfl rfl rfl rfl (congrArg Value.bool hb100) ?_
        refine HList.gskips rfl rfl rfl rfl (congrArg Value.bool hb100) ?_
        refine HList.vals (v := (.bool false)) rfl (HVal.pickF rfl hb100 rfl) ?_
        refine HList.nil ?_
        refine nt ?_
        refine HW.condF false rfl rfl ?_
        refine HW.exit ?_
        refine te ?_
        refine te ?_
        refine be ?_
        refine nt ?_
        exact ⟨y91, y92, ⟨rfl, rfl, rfl, rfl, trivial⟩, h⟩
    · rintro ρ H_1 ⟨y435, y436, hI, h⟩
      obtain ⟨ρ0, rfl⟩ : ∃ ρ0, ρ = (Env.set (Env.set (Env.set (Env.set ρ0 9 (.bool y436)) 8 (Sl.v y435)) 6 (.pointer (some ⟨H67.size, 0, none⟩))) 5 (.pointer (some ⟨H5.size, 0, none⟩))) := ⟨ρ, hI.eq⟩
      clear hI; unfold F6_1 at h
      refine HW.seq ?_
      refine HW.draw mixed [(0, some []), (1, some [2]), (3, some []), (2, none), (4, some []), (5, some []), (6, some [7]), (7, none), (8, some []), (9, some []), (13, some [14]), (10, none), (11, none), (12, none), (14, none), (15, some []), (16, some []), (17, some []), (18, some []), (19, some [20]), (21, some [22]), (20, none), (22, none), (23, some []), (24, some []), (25, some [])] rfl (by kernel_rfl) (by kernel_rfl) ?_
      refine HPlan.takev (v := (Sl.v y435)) rfl rfl (fun _ => HVal.move' rfl) ?_
      obtain ⟨x438, x439, x440, x441, x442, x443, x444, c437, h⟩ := h
      refine HPlan.takel (v := (.agg #[(Sl.v x438), (Sl.v x439), (.string x440), (.string x441), (.int .i64 x442), (Sl.v x443), (Sl.v x444)])) (fun X => cells X ⟨H5.size, 0, none⟩ [(Sl.v x438), (Sl.v x439), (.string x440), (.string x441), (.int .i64 x442), (Sl.v x443), (Sl.v x444)] 0) rfl rfl (fun _ hX => HVal.loadN [(Sl.v x438), (Sl.v x439), (.string x440), (.string x441), (.int .i64 x442), (Sl.v x443), (Sl.v x444)] Tryd.isAgg43 Tryd.sizeOf43 rfl hX) c437 ?_
      refine HPlan.takev (v := (.bool y436)) rfl rfl (fun _ => HVal.move' rfl) ?_
      refine HPlan.ops' rfl rfl (HOp.call' 21 [(Sl.v y435), (.agg #[(Sl.v x438), (Sl.v x439), (.string x440), (.string x441), (.int .i64 x442), (Sl.v x443), (Sl.v x444)])] (cap := []) rfl rfl Tryd.call21 (walk21 h)) ?_
      rintro _ H445 ⟨r447, rfl, h⟩
      refine ⟨SC_of ⟨fun e => absurd e (by decide), trivial⟩, ?_⟩
      refine HPlan.takev (v := (.bool (r447 == y436))) rfl rfl (fun _ => HVal.eqlB Tryd.underlying4 rfl rfl) ?_
      refine HPlan.takev (v := (.bool (r447 == y436))) rfl rfl (fun _ => HVal.move' rfl) ?_
      obtain ⟨hT, hF⟩ := h
      rcases Bool.eq_false_or_eq_true (r447 == y436) with hb448 | hb449
      · have h := hT hb448
        clear hT hF
        obtain ⟨x451, x452, x453, x454, x455, x456, x457, c450, h⟩ := h
        refine HPlan.gtakel (v := (.agg #[(Sl.v x451), (Sl.v x452), (.string x453), (.string x454), (.int .i64 x455), (Sl.v x456), (Sl.v x457)])) (fun X => cells X ⟨H5.size, 0, none⟩ [(Sl.v x451), (Sl.v x452), (.string x453), (.string x454), (.int .i64 x455), (Sl.v x456), (Sl.v x457)] 0) rfl rfl rfl rfl rfl (congrArg Value.bool hb448) (fun _ hX => HVal.loadN [(Sl.v x451), (Sl.v x452), (.string x453), (.string x454), (.int .i64 x455), (Sl.v x456), (Sl.v x457)] Tryd.isAgg43 Tryd.sizeOf43 rfl hX) c450 ?_
        refine HPlan.gops rfl rfl rfl rfl rfl (congrArg Value.bool hb448) (HOp.call' 21 [(Sl.v Sl.nil), (.agg #[(Sl.v x451), (Sl.v x452), (.string x453), (.string x454), (.int .i64 x455), (Sl.v x456), (Sl.v x457)])] (cap := []) rfl rfl Tryd.call21 (walk21 h)) ?_
        rintro _ H458 ⟨r460, rfl, h⟩
        refine ⟨SC_of ⟨fun e => absurd e (by decide), fun e => absurd e (by decide), trivial⟩, ?_⟩
        refine HPlan.takev (v := (.bool r460)) rfl rfl (fun _ => HVal.pickT rfl hb448 rfl) ?_
        refine HPlan.takev (v := (.bool r460)) rfl rfl (fun _ => HVal.move' rfl) ?_
        obtain ⟨hT, hF⟩ := h
        rcases Bool.eq_false_or_eq_true r460 with hb461 | hb462
        · have h := hT hb461
          clear hT hF
          obtain ⟨x464, x465, x466, x467, x468, x469, x470, c463, h⟩ := h
          refine HPlan.gtakel (v := (.agg #[(Sl.v x464), (Sl.v x465), (.string x466), (.string x467), (.int .i64 x468), (Sl.v x469), (Sl.v x470)])) (fun X => cells X ⟨H5.size, 0, none⟩ [(Sl.v x464), (Sl.v x465), (.string x466), (.string x467), (.int .i64 x468), (Sl.v x469), (Sl.v x470)] 0) rfl rfl rfl rfl rfl (congrArg Value.bool hb461) (fun _ hX => HVal.loadN [(Sl.v x464), (Sl.v x465), (.string x466), (.string x467), (.int .i64 x468), (Sl.v x469), (Sl.v x470)] Tryd.isAgg43 Tryd.sizeOf43 rfl hX) c463 ?_
          refine HPlan.gops rfl rfl rfl rfl rfl (congrArg Value.bool hb461) (HOp.call' 20 [(.bool true)] (cap := []) rfl rfl Tryd.call20 (walk20 h)) ?_
          rintro _ H471 ⟨r473, r474, r475, r476, r477, r478, r479, r480, r481, r482, rfl, h⟩
          obtain ⟨s483, h⟩ := h
          refine ⟨SC_of ⟨fun _ => s483, fun e => absurd e (by decide), fun e => absurd e (by decide), trivial⟩, ?_⟩
          refine HPlan.gops rfl rfl rfl rfl rfl (congrArg Value.bool hb461) (HOp.call' 20 [(.bool false)] (cap := []) rfl rfl Tryd.call20 (walk20 h)) ?_
          rintro _ H484 ⟨r486, r487, r488, r489, r490, r491, r492, r493, r494, r495, rfl, h⟩
          obtain ⟨s496, h⟩ := h
          refine ⟨SC_of ⟨fun _ => s496, fun e => absurd e (by decide), fun e => absurd e (by decide), trivial⟩, ?_⟩
          refine HPlan.gops rfl rfl rfl rfl rfl (congrArg Value.bool hb461) (HOp.buildSlice' (zs := [(.int .i64 0), (.int .i64 0), (.int .i64 0), (.int .i64 0), (.string (ByteArray.mk #[])), (.bool false), (.string (ByteArray.mk #[])), (.int .i64 0), (.string (ByteArray.mk #[])), (Sl.v Sl.nil), (.int .i64 0), (.int .i64 0), (.int .i64 0), (.int .i64 0), (.string (ByteArray.mk #[])), (.bool false), (.string (ByteArray.mk #[])), (.int .i64 0), (.string (ByteArray.mk #[])), (Sl.v Sl.nil)]) (cs := [(.int .i64 r473), (.int .i64 r474), (.int .i64 r475), (.int .i64 r476), (.string r477), (.bool r478), (.string r479), (.int .i64 r480), (.string r481), (Sl.v r482), (.int .i64 r486), (.int .i64 r487), (.int .i64 r488), (.int .i64 r489), (.string r490), (.bool r491), (.string r492), (.int .i64 r493), (.string r494), (Sl.v r495)]) Tryd.runUnderlying39 Tryd.sizeOf41 Tryd.zeroValue41 (by decide) (by kernel_rfl) (by kernel_rfl) (by decide)) ?_
          rintro _ H497 ⟨rfl, e498⟩
          replace h := h H497 e498
          obtain ⟨s499, h⟩ := h
          refine ⟨SC_of ⟨fun _ => s499, fun e => absurd e (by decide), fun e => absurd e (by decide), trivial⟩, ?_⟩
          refine HPlan.gops rfl rfl rfl rfl rfl (congrArg Value.bool hb461) (HOp.call' 21 [(Sl.v (Sl.mk (some ⟨H484.size, 0, none⟩) 2 2)), (.agg #[(Sl.v x464), (Sl.v x465), (.string x466), (.string x467), (.int .i64 x468), (Sl.v x469), (Sl.v x470)])] (cap := []) rfl rfl Tryd.call21 (walk21 h)) ?_
          rintro _ H500 ⟨r502, rfl, h⟩
          refine ⟨SC_of ⟨fun e => absurd e (by decide), fun e => absurd e (by decide), fun e => absurd e (by decide), trivial⟩, ?_⟩
          refine HPlan.gtakev (v := (.bool (!r502))) rfl rfl rfl rfl rfl (congrArg Value.bool hb461) (fun _ => HVal.not rfl) ?_
          refine HPlan.takev (v := (.bool (!r502))) rfl rfl (fun _ => HVal.pickT rfl hb461 rfl) ?_
          refine HPlan.takev (v := (.bool (!r502))) rfl rfl (fun _ => HVal.move' rfl) ?_
          obtain ⟨hT, hF⟩ := h
          rcases Bool.eq_false_or_eq_true (!r502) with hb503 | hb504
          · have h := hT hb503
            clear hT hF
            obtain ⟨b505, b506, h⟩ := h
            refine HPlan.gtakev (v := (.pointer (some (Addr.add ⟨H67.size, 0, none⟩ ((0 : Int).toNat * 10))))) rfl rfl rfl rfl rfl (congrArg Value.bool hb503) (fun _ => HVal.indexAddrA Tryd.runUnderlying64 Tryd.sizeOf41 rfl rfl b505 b506) ?_
            obtain ⟨x508, x509, x510, x511, x512, x513, x514, x515, x516, x517, c507, h⟩ := h
            refine HPlan.gtakel (v := (.agg #[(.int .i64 x508), (.int .i64 x509), (.int .i64 x510), (.int .i64 x511), (.string x512), (.bool x513), (.string x514), (.int .i64 x515), (.string x516), (Sl.v x517)])) (fun X => cells X (Addr.add ⟨H67.size, 0, none⟩ ((0 : Int).toNat * 10)) [(.int .i64 x508), (.int .i64 x509), (.int .i64 x510), (.int .i64 x511), (.string x512), (.bool x513), (.string x514), (.int .i64 x515), (.string x516), (Sl.v x517)] 0) rfl rfl rfl rfl rfl (congrArg Value.bool hb503) (fun _ hX => HVal.loadN [(.int .i64 x508), (.int .i64 x509), (.int .i64 x510), (.int .i64 x511), (.string x512), (.bool x513), (.string x514), (.int .i64 x515), (.string x516), (Sl.v x517)] Tryd.isAgg41 Tryd.sizeOf41 rfl hX) c507 ?_
            obtain ⟨x519, x520, x521, x522, x523, x524, x525, c518, h⟩ := h
            refine HPlan.gtakel (v := (.agg #[(Sl.v x519), (Sl.v x520), (.string x521), (.string x522), (.int .i64 x523), (Sl.v x524), (Sl.v x525)])) (fun X => cells X ⟨H5.size, 0, none⟩ [(Sl.v x519), (Sl.v x520), (.string x521), (.string x522), (.int .i64 x523), (Sl.v x524), (Sl.v x525)] 0) rfl rfl rfl rfl rfl (congrArg Value.bool hb503) (fun _ hX => HVal.loadN [(Sl.v x519), (Sl.v x520), (.string x521), (.string x522), (.int .i64 x523), (Sl.v x524), (Sl.v x525)] Tryd.isAgg43 Tryd.sizeOf43 rfl hX) c518 ?_
            refine HPlan.gops rfl rfl rfl rfl rfl (congrArg Value.bool hb503) (HOp.buildSlice' (zs := [(.int .i64 0), (.int .i64 0), (.int .i64 0), (.int .i64 0), (.string (ByteArray.mk #[])), (.bool false), (.string (ByteArray.mk #[])), (.int .i64 0), (.string (ByteArray.mk #[])), (Sl.v Sl.nil)]) (cs := [(.int .i64 x508), (.int .i64 x509), (.int .i64 x510), (.int .i64 x511), (.string x512), (.bool x513), (.string x514), (.int .i64 x515), (.string x516), (Sl.v x517)]) Tryd.runUnderlying39 Tryd.sizeOf41 Tryd.zeroValue41 (by decide) (by kernel_rfl) (by kernel_rfl) (by decide)) ?_
            rintro _ H526 ⟨rfl, e527⟩
            replace h := h H526 e527
            obtain ⟨s528, h⟩ := h
            refine ⟨SC_of ⟨fun _ => s528, fun e => absurd e (by decide), fun e => absurd e (by decide), fun e => absurd e (by decide), fun e => absurd e (by decide), trivial⟩, ?_⟩
            refine HPlan.gops rfl rfl rfl rfl rfl (congrArg Value.bool hb503) (HOp.call' 21 [(Sl.v (Sl.mk (some ⟨H500.size, 0, none⟩) 1 1)), (.agg #[(Sl.v x519), (Sl.v x520), (.string x521), (.string x522), (.int .i64 x523), (Sl.v x524), (Sl.v x525)])] (cap := []) rfl rfl Tryd.call21 (walk21 h)) ?_
            rintro _ H529 ⟨r531, rfl, h⟩
            refine ⟨SC_of ⟨fun e => absurd e (by decide), fun e => absurd e (by decide), fun e => absurd e (by decide), fun e => absurd e (by decide), fun e => absurd e (by decide), trivial⟩, ?_⟩
            refine HPlan.gtakev (v := (.bool (!r531))) rfl rfl rfl rfl rfl (congrArg Value.bool hb503) (fun _ => HVal.not rfl) ?_
            refine HPlan.takev (v := (.bool (!r531))) rfl rfl (fun _ => HVal.pickT rfl hb503 rfl) ?_
            refine HPlan.takev (v := (.bool (!r531))) rfl rfl (fun _ => HVal.assign' rfl) ?_
            refine HPlan.done ?_
            refine nt ?_
            refine HW.ret ?_
            exact ⟨_, resOf1 rfl Res1.t, ⟨(!r531), rfl, h⟩⟩
          · have h := hF hb504
            clear hT hF
            refine HPlan.takegskip rfl rfl rfl rfl (congrArg Value.bool hb504) ?_
            refine HPlan.takegskip rfl rfl rfl rfl (congrArg Value.bool hb504) ?_
            refine HPlan.takegskip rfl rfl rfl rfl (congrArg Value.bool hb504) ?_
            refine HPlan.opgskip rfl rfl rfl rfl (congrArg Value.bool hb504) ?_
            refine HPlan.opgskip rfl rfl rfl rfl (congrArg Value.bool hb504) ?_
            refine HPlan.takegskip rfl rfl rfl rfl (congrArg Value.bool hb504) ?_
            refine HPlan.takev (v := (.bool false)) rfl rfl (fun _ => HVal.pickF rfl hb504 rfl) ?_
            refine HPlan.takev (v := (.bool false)) rfl rfl (fun _ => HVal.assign' rfl) ?_
            refine HPlan.done ?_
            refine nt ?_
            refine HW.ret ?_
            exact ⟨_, resOf1 rfl Res1.t, ⟨false, rfl, h⟩⟩
        · have h := hF hb462
          clear hT hF
          refine HPlan.takegskip rfl rfl rfl rfl (congrArg Value.bool hb462) ?_
          refine HPlan.opgskip rfl rfl rfl rfl (congrArg Value.bool hb462) ?_
          refine HPlan.opgskip rfl rfl rfl rfl (congrArg Value.bool hb462) ?_
          refine HPlan.opgskip rfl rfl rfl rfl (congrArg Value.bool hb462) ?_
          refine HPlan.opgskip rfl rfl rfl rfl (congrArg Value.bool hb462) ?_
          refine HPlan.takegskip rfl rfl rfl rfl (congrArg Value.bool hb462) ?_
          refine HPlan.takev (v := (.bool false)) rfl rfl (fun _ => HVal.pickF rfl hb462 rfl) ?_
          refine HPlan.takev (v := (.bool false)) rfl rfl (fun _ => HVal.move' rfl) ?_
          refine HPlan.takegskip rfl rfl rfl rfl rfl ?_
          refine HPlan.takegskip rfl rfl rfl rfl rfl ?_
          refine HPlan.takegskip rfl rfl rfl rfl rfl ?_
          refine HPlan.opgskip rfl rfl rfl rfl rfl ?_
          refine HPlan.opgskip rfl rfl rfl rfl rfl ?_
          refine HPlan.takegskip rfl rfl rfl rfl rfl ?_
          refine HPlan.takev (v := (.bool false)) rfl rfl (fun _ => HVal.pickF rfl rfl rfl) ?_
          refine HPlan.takev (v := (.bool false)) rfl rfl (fun _ => HVal.assign' rfl) ?_
          refine HPlan.done ?_
          refine nt ?_
          refine HW.ret ?_
          exact ⟨_, resOf1 rfl Res1.t, ⟨false, rfl, h⟩⟩
      · have h := hF hb449
        clear hT hF
        refine HPlan.takegskip rfl rfl rfl rfl (congrArg Value.bool hb449) ?_
        refine HPlan.opgskip rfl rfl rfl rfl (congrArg Value.bool hb449) ?_
        refine HPlan.takev (v := (.bool false)) rfl rfl (fun _ => HVal.pickF rfl hb449 rfl) ?_
        refine HPlan.takev (v := (.bool false)) rfl rfl (fun _ => HVal.move' rfl) ?_
        refine HPlan.takegskip rfl rfl rfl rfl rfl ?_
        refine HPlan.opgskip rfl rfl rfl rfl rfl ?_
        refine HPlan.opgskip rfl rfl rfl rfl rfl ?_
        refine HPlan.opgskip rfl rfl rfl rfl rfl ?_
        refine HPlan.opgskip rfl rfl rfl rfl rfl ?_
        refine HPlan.takegskip rfl rfl rfl rfl rfl ?_
        refine HPlan.takev (v := (.bool false)) rfl rfl (fun _ => HVal.pickF rfl rfl rfl) ?_
        refine HPlan.takev (v := (.bool false)) rfl rfl (fun _ => HVal.move' rfl) ?_
        refine HPlan.takegskip rfl rfl rfl rfl rfl ?_
        refine HPlan.takegskip rfl rfl rfl rfl rfl ?_
        refine HPlan.takegskip rfl rfl rfl rfl rfl ?_
        refine HPlan.opgskip rfl rfl rfl rfl rfl ?_
        refine HPlan.opgskip rfl rfl rfl rfl rfl ?_
        refine HPlan.takegskip rfl rfl rfl rfl rfl ?_
        refine HPlan.takev (v := (.bool false)) rfl rfl (fun _ => HVal.pickF rfl rfl rfl) ?_
        refine HPlan.takev (v := (.bool false)) rfl rfl (fun _ => HVal.assign' rfl) ?_
        refine HPlan.done ?_
        refine nt ?_
        refine HW.ret ?_
        exact ⟨_, resOf1 rfl Res1.t, ⟨false, rfl, h⟩⟩

def F7_3 (Q : Bool → Hp → Prop) (y79 : Int) (y80 : Addr) (y81 : Addr) (y82 : Addr) (y127 : Int) (H_3 : Hp) : Prop :=
∃ (x129 : Int) (x130 : Int) (x131 : Int) (x132 : Int) (x133 : ByteArray) (x134 : Bool) (x135 : ByteArray) (x136 : Int) (x137 : ByteArray) (x138 : Sl), cells H_3 y82 [(.int .i64 x129), (.int .i64 x130), (.int .i64 x131), (.int .i64 x132), (.string x133), (.bool x134), (.string x135), (.int .i64 x136), (.string x137), (Sl.v x138)] 0 ∧ (
 (F19 1 H_3 (fun (r141 : Int) (r142 : Int) (r143 : Int) (r144 : Int) (r145 : ByteArray) (r146 : Bool) (r147 : ByteArray) (r148 : Int) (r149 : ByteArray) (r150 : Sl) (H139 : Hp) => 
 cells H139 y82 [(.int .i64 x129), (.int .i64 x130), (.int .i64 x131), (.int .i64 x132), (.string x133), (.bool x134), (.string x135), (.int .i64 x136), (.string x137), (Sl.v x138)] 0 ∧ (
 (F18 3 x129 x130 x131 x132 x133 x134 x135 x136 x137 x138 r141 r142 r143 r144 r145 r146 r147 r148 r149 r150 H139 (fun (r154 : Int) (r155 : Int) (r156 : Int) (r157 : Int) (r158 : ByteArray) (r159 : Bool) (r160 : ByteArray) (r161 : Int) (r162 : ByteArray) (r163 : Sl) (H152 : Hp) => 
 ∀ H164 : Hp, H164 = Array.push H152 (.cells #[(.int .i64 0), (.int .i64 0), (.int .i64 0), (.int .i64 0), (.string (ByteArray.mk #[])), (.bool false), (.string (ByteArray.mk #[])), (.int .i64 0), (.string (ByteArray.mk #[])), (Sl.v Sl.nil)] 41) → (
 mayw H164 ⟨H152.size, 0, none⟩ 10 0 ∧ ∀ H166 : Hp, H166 = sets H164 ⟨H152.size, 0, none⟩ [(.int .i64 r154), (.int .i64 r155), (.int .i64 r156), (.int .i64 r157), (.string r158), (.bool r159), (.string r160), (.int .i64 r161), (.string r162), (Sl.v r163)] 0 → (
 ∃ (x170 : Int) (x171 : Int) (x172 : Int) (x173 : Int) (x174 : ByteArray) (x175 : Bool) (x176 : ByteArray) (x177 : Int) (x178 : ByteArray) (x179 : Sl), cells H166 y80 [(.int .i64 x170), (.int .i64 x171), (.int .i64 x172), (.int .i64 x173), (.string x174), (.bool x175), (.string x176), (.int .i64 x177), (.string x178), (Sl.v x179)] 0 ∧ (
 F13 x170 x171 x172 x173 x174 x175 x176 x177 x178 x179 Sl.nil Sl.nil (ByteArray.mk #[]) (ByteArray.mk #[]) 0 Sl.nil Sl.nil (IntKind.i64.wrap (0 - y79)) H166 (fun (r182 : Bool) (H180 : Hp) => 
 (r182 = true → (∃ (x186 : Int) (x187 : Int) (x188 : Int) (x189 : Int) (x190 : ByteArray) (x191 : Bool) (x192 : ByteArray) (x193 : Int) (x194 : ByteArray) (x195 : Sl), cells H180 y81 [(.int .i64 x186), (.int .i64 x187), (.int .i64 x188), (.int .i64 x189), (.string x190), (.bool x191), (.string x192), (.int .i64 x193), (.string x194), (Sl.v x195)] 0 ∧ (
 F15 x186 x187 x188 x189 x190 x191 x192 x193 x194 x195 Sl.nil Sl.nil (ByteArray.mk #[]) (ByteArray.mk #[]) 0 Sl.nil Sl.nil 71 H180 (fun (r198 : Bool) (H196 : Hp) => 
 (r198 = true → (∃ (x202 : Int) (x203 : Int) (x204 : Int) (x205 : Int) (x206 : ByteArray) (x207 : Bool) (x208 : ByteArray) (x209 : Int) (x210 : ByteArray) (x211 : Sl), cells H196 y82 [(.int .i64 x202), (.int .i64 x203), (.int .i64 x204), (.int .i64 x205), (.string x206), (.bool x207), (.string x208), (.int .i64 x209), (.string x210), (Sl.v x211)] 0 ∧ (
 F13 x202 x203 x204 x205 x206 x207 x208 x209 x210 x211 Sl.nil Sl.nil (ByteArray.mk #[]) (ByteArray.mk #[]) 0 Sl.nil Sl.nil y127 H196 (fun (r214 : Bool) (H212 : Hp) => 
 (r214 = true → (∃ (x218 : Int) (x219 : Int) (x220 : Int) (x221 : Int) (x222 : ByteArray) (x223 : Bool) (x224 : ByteArray) (x225 : Int) (x226 : ByteArray) (x227 : Sl), cells H212 ⟨H152.size, 0, none⟩ [(.int .i64 x218), (.int .i64 x219), (.int .i64 x220), (.int .i64 x221), (.string x222), (.bool x223), (.string x224), (.int .i64 x225), (.string x226), (Sl.v x227)] 0 ∧ (
 F15 x218 x219 x220 x221 x222 x223 x224 x225 x226 x227 Sl.nil Sl.nil (ByteArray.mk #[]) (ByteArray.mk #[]) 0 Sl.nil Sl.nil 71 H212 (fun (r230 : Bool) (H228 : Hp) => 
 Q r230 H228)))) ∧
 (r214 = false → (Q false H212)))))) ∧
 (r198 = false → (Q false H196)))))) ∧
 (r182 = false → (Q false H180)))))))) ∧
 (∀ H231 : Hp, H231 = Array.push H139 (.cells #[(.int .i64 0), (.int .i64 0), (.int .i64 0), (.int .i64 0), (.string (ByteArray.mk #[])), (.bool false), (.string (ByteArray.mk #[])), (.int .i64 0), (.string (ByteArray.mk #[])), (Sl.v Sl.nil)] 41) → (
 cells H231 y82 [(.int .i64 x129), (.int .i64 x130), (.int .i64 x131), (.int .i64 x132), (.string x133), (.bool x134), (.string x135), (.int .i64 x136), (.string x137), (Sl.v x138)] 0 ∧ (
 F18 3 x129 x130 x131 x132 x133 x134 x135 x136 x137 x138 r141 r142 r143 r144 r145 r146 r147 r148 r149 r150 H231 (fun (r236 : Int) (r237 : Int) (r238 : Int) (r239 : Int) (r240 : ByteArray) (r241 : Bool) (r242 : ByteArray) (r243 : Int) (r244 : ByteArray) (r245 : Sl) (H234 : Hp) => 
 mayw H234 ⟨H139.size, 0, none⟩ 10 0 ∧ ∀ H246 : Hp, H246 = sets H234 ⟨H139.size, 0, none⟩ [(.int .i64 r236), (.int .i64 r237), (.int .i64 r238), (.int .i64 r239), (.string r240), (.bool r241), (.string r242), (.int .i64 r243), (.string r244), (Sl.v r245)] 0 → (
 ∃ (x250 : Int) (x251 : Int) (x252 : Int) (x253 : Int) (x254 : ByteArray) (x255 : Bool) (x256 : ByteArray) (x257 : Int) (x258 : ByteArray) (x259 : Sl), cells H246 y80 [(.int .i64 x250), (.int .i64 x251), (.int .i64 x252), (.int .i64 x253), (.string x254), (.bool x255), (.string x256), (.int .i64 x257), (.string x258), (Sl.v x259)] 0 ∧ (
 F13 x250 x251 x252 x253 x254 x255 x256 x257 x258 x259 Sl.nil Sl.nil (ByteArray.mk #[]) (ByteArray.mk #[]) 0 Sl.nil Sl.nil (IntKind.i64.wrap (0 - y79)) H246 (fun (r262 : Bool) (H260 : Hp) => 
 (r262 = true → (∃ (x266 : Int) (x267 : Int) (x268 : Int) (x269 : Int) (x270 : ByteArray) (x271 : Bool) (x272 : ByteArray) (x273 : Int) (x274 : ByteArray) (x275 : Sl), cells H260 y81 [(.int .i64 x266), (.int .i64 x267), (.int .i64 x268), (.int .i64 x269), (.string x270), (.bool x271), (.string x272), (.int .i64 x273), (.string x274), (Sl.v x275)] 0 ∧ (
 F15 x266 x267 x268 x269 x270 x271 x272 x273 x274 x275 Sl.nil Sl.nil (ByteArray.mk #[]) (ByteArray.mk #[]) 0 Sl.nil Sl.nil 71 H260 (fun (r278 : Bool) (H276 : Hp) => 
 (r278 = true → (∃ (x282 : Int) (x283 : Int) (x284 : Int) (x285 : Int) (x286 : ByteArray) (x287 : Bool) (x288 : ByteArray) (x289 : Int) (x290 : ByteArray) (x291 : Sl), cells H276 y82 [(.int .i64 x282), (.int .i64 x283), (.int .i64 x284), (.int .i64 x285), (.string x286), (.bool x287), (.string x288), (.int .i64 x289), (.string x290), (Sl.v x291)] 0 ∧ (
 F13 x282 x283 x284 x285 x286 x287 x288 x289 x290 x291 Sl.nil Sl.nil (ByteArray.mk #[]) (ByteArray.mk #[]) 0 Sl.nil Sl.nil y127 H276 (fun (r294 : Bool) (H292 : Hp) => 
 (r294 = true → (∃ (x298 : Int) (x299 : Int) (x300 : Int) (x301 : Int) (x302 : ByteArray) (x303 : Bool) (x304 : ByteArray) (x305 : Int) (x306 : ByteArray) (x307 : Sl), cells H292 ⟨H139.size, 0, none⟩ [(.int .i64 x298), (.int .i64 x299), (.int .i64 x300), (.int .i64 x301), (.string x302), (.bool x303), (.string x304), (.int .i64 x305), (.string x306), (Sl.v x307)] 0 ∧ (
 F15 x298 x299 x300 x301 x302 x303 x304 x305 x306 x307 Sl.nil Sl.nil (ByteArray.mk #[]) (ByteArray.mk #[]) 0 Sl.nil Sl.nil 71 H292 (fun (r310 : Bool) (H308 : Hp) => 
 Q r310 H308)))) ∧
 (r294 = false → (Q false H292)))))) ∧
 (r278 = false → (Q false H276)))))) ∧
 (r262 = false → (Q false H260)))))))))))) ∧
 (∀ H311 : Hp, H311 = Array.push H_3 (.cells #[(.int .i64 0), (.int .i64 0), (.int .i64 0), (.int .i64 0), (.string (ByteArray.mk #[])), (.bool false), (.string (ByteArray.mk #[])), (.int .i64 0), (.string (ByteArray.mk #[])), (Sl.v Sl.nil)] 41) → (
 cells H311 y82 [(.int .i64 x129), (.int .i64 x130), (.int .i64 x131), (.int .i64 x132), (.string x133), (.bool x134), (.string x135), (.int .i64 x136), (.string x137), (Sl.v x138)] 0 ∧ (
 F19 1 H311 (fun (r316 : Int) (r317 : Int) (r318 : Int) (r319 : Int) (r320 : ByteArray) (r321 : Bool) (r322 : ByteArray) (r323 : Int) (r324 : ByteArray) (r325 : Sl) (H314 : Hp) => 
 cells H314 y82 [(.int .i64 x129), (.int .i64 x130), (.int .i64 x131), (.int .i64 x132), (.string x133), (.bool x134), (.string x135), (.int .i64 x136), (.string x137), (Sl.v x138)] 0 ∧ (
 F18 3 x129 x130 x131 x132 x133 x134 x135 x136 x137 x138 r316 r317 r318 r319 r320 r321 r322 r323 r324 r325 H314 (fun (r329 : Int) (r330 : Int) (r331 : Int) (r332 : Int) (r333 : ByteArray) (r334 : Bool) (r335 : ByteArray) (r336 : Int) (r337 : ByteArray) (r338 : Sl) (H327 : Hp) => 
 mayw H327 ⟨H_3.size, 0, none⟩ 10 0 ∧ ∀ H339 : Hp, H339 = sets H327 ⟨H_3.size, 0, none⟩ [(.int .i64 r329), (.int .i64 r330), (.int .i64 r331), (.int .i64 r332), (.string r333), (.bool r334), (.string r335), (.int .i64 r336), (.string r337), (Sl.v r338)] 0 → (
 ∃ (x343 : Int) (x344 : Int) (x345 : Int) (x346 : Int) (x347 : ByteArray) (x348 : Bool) (x349 : ByteArray) (x350 : Int) (x351 : ByteArray) (x352 : Sl), cells H339 y80 [(.int .i64 x343), (.int .i64 x344), (.int .i64 x345), (.int .i64 x346), (.string x347), (.bool x348), (.string x349), (.int .i64 x350), (.string x351), (Sl.v x352)] 0 ∧ (
 F13 x343 x344 x345 x346 x347 x348 x349 x350 x351 x352 Sl.nil Sl.nil (ByteArray.mk #[]) (ByteArray.mk #[]) 0 Sl.nil Sl.nil (IntKind.i64.wrap (0 - y79)) H339 (fun (r355 : Bool) (H353 : Hp) => 
 (r355 = true → (∃ (x359 : Int) (x360 : Int) (x361 : Int) (x362 : Int) (x363 : ByteArray) (x364 : Bool) (x365 : ByteArray) (x366 : Int) (x367 : ByteArray) (x368 : Sl), cells H353 y81 [(.int .i64 x359), (.int .i64 x360), (.int .i64 x361), (.int .i64 x362), (.string x363), (.bool x364), (.string x365), (.int .i64 x366), (.string x367), (Sl.v x368)] 0 ∧ (
 F15 x359 x360 x361 x362 x363 x364 x365 x366 x367 x368 Sl.nil Sl.nil (ByteArray.mk #[]) (ByteArray.mk #[]) 0 Sl.nil Sl.nil 71 H353 (fun (r371 : Bool) (H369 : Hp) => 
 (r371 = true → (∃ (x375 : Int) (x376 : Int) (x377 : Int) (x378 : Int) (x379 : ByteArray) (x380 : Bool) (x381 : ByteArray) (x382 : Int) (x383 : ByteArray) (x384 : Sl), cells H369 y82 [(.int .i64 x375), (.int .i64 x376), (.int .i64 x377), (.int .i64 x378), (.string x379), (.bool x380), (.string x381), (.int .i64 x382), (.string x383), (Sl.v x384)] 0 ∧ (
 F13 x375 x376 x377 x378 x379 x380 x381 x382 x383 x384 Sl.nil Sl.nil (ByteArray.mk #[]) (ByteArray.mk #[]) 0 Sl.nil Sl.nil y127 H369 (fun (r387 : Bool) (H385 : Hp) => 
 (r387 = true → (∃ (x391 : Int) (x392 : Int) (x393 : Int) (x394 : Int) (x395 : ByteArray) (x396 : Bool) (x397 : ByteArray) (x398 : Int) (x399 : ByteArray) (x400 : Sl), cells H385 ⟨H_3.size, 0, none⟩ [(.int .i64 x391), (.int .i64 x392), (.int .i64 x393), (.int .i64 x394), (.string x395), (.bool x396), (.string x397), (.int .i64 x398), (.string x399), (Sl.v x400)] 0 ∧ (
 F15 x391 x392 x393 x394 x395 x396 x397 x398 x399 x400 Sl.nil Sl.nil (ByteArray.mk #[]) (ByteArray.mk #[]) 0 Sl.nil Sl.nil 71 H385 (fun (r403 : Bool) (H401 : Hp) => 
 Q r403 H401)))) ∧
 (r387 = false → (Q false H385)))))) ∧
 (r371 = false → (Q false H369)))))) ∧
 (r355 = false → (Q false H353))))))))))))
def F7_L4b (Q : Bool → Hp → Prop) (X4 : Int → Int → Hp → Prop) (y85 : Int) (y86 : Addr) (y87 : Addr) (y88 : Addr) (y83 : Int) (y84 : Int) (H_4 : Hp) : Prop :=
((decide (y84 < 7)) = true → (∃ (x91 : Int) (x92 : Int) (x93 : Int) (x94 : Int) (x95 : ByteArray) (x96 : Bool) (x97 : ByteArray) (x98 : Int) (x99 : ByteArray) (x100 : Sl), cells H_4 y88 [(.int .i64 x91), (.int .i64 x92), (.int .i64 x93), (.int .i64 x94), (.string x95), (.bool x96), (.string x97), (.int .i64 x98), (.string x99), (Sl.v x100)] 0 ∧ (
 ∃ (x102 : Int) (x103 : Int) (x104 : Int) (x105 : Int) (x106 : ByteArray) (x107 : Bool) (x108 : ByteArray) (x109 : Int) (x110 : ByteArray) (x111 : Sl), cells H_4 y88 [(.int .i64 x102), (.int .i64 x103), (.int .i64 x104), (.int .i64 x105), (.string x106), (.bool x107), (.string x108), (.int .i64 x109), (.string x110), (Sl.v x111)] 0 ∧ (
 F18 3 x91 x92 x93 x94 x95 x96 x97 x98 x99 x100 x102 x103 x104 x105 x106 x107 x108 x109 x110 x111 H_4 (fun (r114 : Int) (r115 : Int) (r116 : Int) (r117 : Int) (r118 : ByteArray) (r119 : Bool) (r120 : ByteArray) (r121 : Int) (r122 : ByteArray) (r123 : Sl) (H112 : Hp) => 
 mayw H112 y88 10 0 ∧ ∀ H124 : Hp, H124 = sets H112 y88 [(.int .i64 r114), (.int .i64 r115), (.int .i64 r116), (.int .i64 r117), (.string r118), (.bool r119), (.string r120), (.int .i64 r121), (.string r122), (Sl.v r123)] 0 → (
 X4 (IntKind.i64.wrap (y83 + y83)) (IntKind.i64.wrap (y84 + 1)) H124)))))) ∧
 ((decide (y84 < 7)) = false → (F7_3 Q y85 y86 y87 y88 y83 H_4))
def F7_L4 (Q : Bool → Hp → Prop) (y85 : Int) (y86 : Addr) (y87 : Addr) (y88 : Addr) (y83 : Int) (y84 : Int) (H_4 : Hp) : Prop :=
  ∀ X4 : Int → Int → Hp → Prop, (∀ (y83 : Int) (y84 : Int) (H_4 : Hp), F7_L4b Q X4 y85 y86 y87 y88 y83 y84 H_4 → X4 y83 y84 H_4) → X4 y83 y84 H_4
def F7_1 (Q : Bool → Hp → Prop) (y22 : Int) (y23 : Addr) (H_1 : Hp) : Prop :=
∃ (x45 : Int) (x46 : Int) (x47 : Int) (x48 : Int) (x49 : ByteArray) (x50 : Bool) (x51 : ByteArray) (x52 : Int) (x53 : ByteArray) (x54 : Sl), cells H_1 y23 [(.int .i64 x45), (.int .i64 x46), (.int .i64 x47), (.int .i64 x48), (.string x49), (.bool x50), (.string x51), (.int .i64 x52), (.string x53), (Sl.v x54)] 0 ∧ (
 ∀ H55 : Hp, H55 = Array.push H_1 (.cells #[(.int .i64 x45), (.int .i64 x46), (.int .i64 x47), (.int .i64 x48), (.string x49), (.bool x50), (.string x51), (.int .i64 x52), (.string x53), (Sl.v x54)] 41) → (
 ∀ H57 : Hp, H57 = Array.push H55 (.cells #[(.int .i64 0), (.int .i64 0), (.int .i64 0), (.int .i64 0), (.string (ByteArray.mk #[])), (.bool false), (.string (ByteArray.mk #[])), (.int .i64 0), (.string (ByteArray.mk #[])), (Sl.v Sl.nil)] 41) → (
 mayw H57 ⟨H55.size, 0, none⟩ 10 0 ∧ ∀ H59 : Hp, H59 = sets H57 ⟨H55.size, 0, none⟩ [(.int .i64 4), (.int .i64 1), (.int .i64 0), (.int .i64 0), (.string (ByteArray.mk #[])), (.bool false), (.string (ByteArray.mk #[])), (.int .i64 0), (.string (ByteArray.mk #[])), (Sl.v (Sl.mk (some ⟨H_1.size, 0, none⟩) 1 1))] 0 → (
 F19 y22 H59 (fun (r64 : Int) (r65 : Int) (r66 : Int) (r67 : Int) (r68 : ByteArray) (r69 : Bool) (r70 : ByteArray) (r71 : Int) (r72 : ByteArray) (r73 : Sl) (H62 : Hp) => 
 ∀ H74 : Hp, H74 = Array.push H62 (.cells #[(.int .i64 0), (.int .i64 0), (.int .i64 0), (.int .i64 0), (.string (ByteArray.mk #[])), (.bool false), (.string (ByteArray.mk #[])), (.int .i64 0), (.string (ByteArray.mk #[])), (Sl.v Sl.nil)] 41) → (
 mayw H74 ⟨H62.size, 0, none⟩ 10 0 ∧ ∀ H76 : Hp, H76 = sets H74 ⟨H62.size, 0, none⟩ [(.int .i64 r64), (.int .i64 r65), (.int .i64 r66), (.int .i64 r67), (.string r68), (.bool r69), (.string r70), (.int .i64 r71), (.string r72), (Sl.v r73)] 0 → (
 F7_L4 Q y22 y23 ⟨H55.size, 0, none⟩ ⟨H62.size, 0, none⟩ y22 0 H76)))))))
def F7_L2b (Q : Bool → Hp → Prop) (X2 : Int → Hp → Prop) (y25 : Int) (y26 : Addr) (y24 : Int) (H_2 : Hp) : Prop :=
((decide (y24 < 31)) = true → (∃ (x29 : Int) (x30 : Int) (x31 : Int) (x32 : Int) (x33 : ByteArray) (x34 : Bool) (x35 : ByteArray) (x36 : Int) (x37 : ByteArray) (x38 : Sl), cells H_2 y26 [(.int .i64 x29), (.int .i64 x30), (.int .i64 x31), (.int .i64 x32), (.string x33), (.bool x34), (.string x35), (.int .i64 x36), (.string x37), (Sl.v x38)] 0 ∧ (
 ∀ H39 : Hp, H39 = Array.push H_2 (.cells #[(.int .i64 x29), (.int .i64 x30), (.int .i64 x31), (.int .i64 x32), (.string x33), (.bool x34), (.string x35), (.int .i64 x36), (.string x37), (Sl.v x38)] 41) → (
 mayw H39 y26 10 0 ∧ ∀ H41 : Hp, H41 = sets H39 y26 [(.int .i64 4), (.int .i64 1), (.int .i64 0), (.int .i64 0), (.string (ByteArray.mk #[])), (.bool false), (.string (ByteArray.mk #[])), (.int .i64 0), (.string (ByteArray.mk #[])), (Sl.v (Sl.mk (some ⟨H_2.size, 0, none⟩) 1 1))] 0 → (
 X2 (IntKind.i64.wrap (y24 + 1)) H41))))) ∧
 ((decide (y24 < 31)) = false → (F7_1 Q y25 y26 H_2))
def F7_L2 (Q : Bool → Hp → Prop) (y25 : Int) (y26 : Addr) (y24 : Int) (H_2 : Hp) : Prop :=
  ∀ X2 : Int → Hp → Prop, (∀ (y24 : Int) (H_2 : Hp), F7_L2b Q X2 y25 y26 y24 H_2 → X2 y24 H_2) → X2 y24 H_2
def F7 (p0 : Int) (H : Hp) (Q : Bool → Hp → Prop) : Prop :=
F8 H (fun (r3 : Bool) (H1 : Hp) => 
 ((!r3) = true → (Q false H1)) ∧
 ((!r3) = false → (F19 p0 H1 (fun (r7 : Int) (r8 : Int) (r9 : Int) (r10 : Int) (r11 : ByteArray) (r12 : Bool) (r13 : ByteArray) (r14 : Int) (r15 : ByteArray) (r16 : Sl) (H5 : Hp) => 
 ∀ H17 : Hp, H17 = Array.push H5 (.cells #[(.int .i64 0), (.int .i64 0), (.int .i64 0), (.int .i64 0), (.string (ByteArray.mk #[])), (.bool false), (.string (ByteArray.mk #[])), (.int .i64 0), (.string (ByteArray.mk #[])), (Sl.v Sl.nil)] 41) → (
 mayw H17 ⟨H5.size, 0, none⟩ 10 0 ∧ ∀ H19 : Hp, H19 = sets H17 ⟨H5.size, 0, none⟩ [(.int .i64 r7), (.int .i64 r8), (.int .i64 r9), (.int .i64 r10), (.string r11), (.bool r12), (.string r13), (.int .i64 r14), (.string r15), (Sl.v r16)] 0 → (
 F7_L2 Q p0 ⟨H5.size, 0, none⟩ 0 H19))))))
set_option maxRecDepth 100000 in
set_option maxHeartbeats 4000000 in
theorem walk7 {w0 : World} {p0 : Int} {H : Hp} {Q : Bool → Hp → Prop} (h : F7 p0 H Q) :
    Good Tryd.prog w0 7 #[(.int .i64 p0)] H (fun v H => ∃ (r0 : Bool) , v = (.bool r0) ∧ Q r0 H) := by
  unfold F7 at h
  refine Good.enter' (fn := Tryd.f7) Tryd.func7 rfl rfl rfl ?_
  refine HW.seq ?_
  refine HW.region ?_
  refine HList.vals (v := (.bool false)) rfl (HVal.assign' rfl) ?_
  refine HList.nil ?_
  refine nt ?_
  refine HW.seq ?_
  refine HW.seq ?_
  refine HW.region ?_
  refine HList.ops' rfl (HOp.call' 8 [] (cap := []) rfl rfl Tryd.call8 (walk8 h)) ?_
  rintro _ H1 ⟨r3, rfl, h⟩
  refine HList.vals (v := (.bool (!r3))) rfl (HVal.not rfl) ?_
  refine HList.nil ?_
  refine nt ?_
  obtain ⟨hT, hF⟩ := h
  refine HW.cond (!r3) rfl (fun hb4 => ?_) (fun hb4 => ?_)
  · have h := hT hb4
    clear hT hF
    refine HW.seq ?_
    refine HW.region ?_
    refine HList.vals (v := (.bool false)) rfl (HVal.assign' rfl) ?_
    refine HList.nil ?_
    refine nt ?_
    refine HW.ret ?_
    refine tr ?_
    exact ⟨_, resOf1 rfl Res1.t, ⟨false, rfl, h⟩⟩
  · have h := hF hb4
    clear hT hF
    refine HW.skip ?_
    refine nt ?_
    refine HW.seq ?_
    refine HW.region ?_
    refine HList.vals (v := (.int .i64 p0)) rfl (HVal.move' rfl) ?_
    refine HList.ops' rfl (HOp.call' 19 [(.int .i64 p0)] (cap := []) rfl rfl Tryd.call19 (walk19 h)) ?_
    rintro _ H5 ⟨r7, r8, r9, r10, r11, r12, r13, r14, r15, r16, rfl, h⟩
    refine HList.ops' rfl (HOp.alloc Tryd.zeroValue41) ?_
    rintro _ H17 ⟨rfl, e18⟩
    replace h := h H17 e18
    obtain ⟨z21, h⟩ := h
    refine HList.opsn (HOp.storeN' (l := [(.int .i64 r7), (.int .i64 r8), (.int .i64 r9), (.int .i64 r10), (.string r11), (.bool r12), (.string r13), (.int .i64 r14), (.string r15), (Sl.v r16)]) Tryd.sizeOf41 rfl rfl rfl z21) ?_
    rintro _ H19 e20
    replace h := h H19 e20
    refine HList.nil ?_
    refine nt ?_
    refine HW.cut (fun ρ H_1 => Env.Is ρ [(0, (.int .i64 p0)), (3, (.pointer (some ⟨H5.size, 0, none⟩)))] ∧ F7_1 Q p0 ⟨H5.size, 0, none⟩ H_1) ?_ ?_
    · refine HW.seq ?_
      refine HW.region ?_
      refine HList.vals (v := (.int .i64 0)) rfl (HVal.assign' rfl) ?_
      refine HList.nil ?_
      refine nt ?_
      refine HW.block ?_
      refine HW.loop' (fun L2 hL2 => ?_)
      obtain ⟨X2, hX2⟩ : ∃ X2 : Int → Hp → Prop, ∀ (y24 : Int) (H_2 : Hp), X2 y24 H_2 ↔ ∀ ρ, Env.Is ρ [(0, (.int .i64 p0)), (3, (.pointer (some ⟨H5.size, 0, none⟩))), (4, (.int .i64 y24))] → L2 ρ H_2 := ⟨_, fun _ _ => Iff.rfl⟩
      refine (hX2 _ _).1 (h X2 ?_) _ ?_
      rotate_left
      · exact ⟨rfl, rfl, rfl, trivial⟩
      clear h
      intro y24 H_2 h
      refine (hX2 _ _).2 fun ρ hI => ?_
      obtain ⟨ρ0, rfl⟩ : ∃ ρ0, ρ = (Env.set (Env.set (Env.set ρ0 4 (.int .i64 y24)) 3 (.pointer (some ⟨H5.size, 0, none⟩))) 0 (.int .i64 p0)) := ⟨ρ, hI.eq⟩
      clear hI; unfold F7_L2b at h; refine hL2 _ _ ?_
      refine HW.seq ?_
      refine HW.seq ?_
      refine HW.region ?_
      refine HList.vals (v := (.int .i64 y24)) rfl (HVal.move' rfl) ?_
      refine HList.vals (v := (.bool (decide (y24 < 31)))) rfl (HVal.lss rfl rfl) ?_
      refine HList.nil ?_
      refine nt ?_
      obtain ⟨hT, hF⟩ := h
      refine HW.cond (decide (y24 < 31)) rfl (fun hb27 => ?_) (fun hb27 => ?_)
      · have h := hT hb27
        clear hT hF
        refine HW.skip ?_
        refine nt ?_
        refine HW.seq ?_
        refine HW.block ?_
        refine HW.region ?_
        obtain ⟨x29, x30, x31, x32, x33, x34, x35, x36, x37, x38, c28, h⟩ := h
        refine HList.vals (v := (.agg #[(.int .i64 x29), (.int .i64 x30), (.int .i64 x31), (.int .i64 x32), (.string x33), (.bool x34), (.string x35), (.int .i64 x36), (.string x37), (Sl.v x38)])) rfl (HVal.loadN [(.int .i64 x29), (.int .i64 x30), (.int .i64 x31), (.int .i64 x32), (.string x33), (.bool x34), (.string x35), (.int .i64 x36), (.string x37), (Sl.v x38)] Tryd.isAgg41 Tryd.sizeOf41 rfl c28) ?_
        refine HList.ops' rfl (HOp.buildSlice' (zs := [(.int .i64 0), (.int .i64 0), (.int .i64 0), (.int .i64 0), (.string (ByteArray.mk #[])), (.bool false), (.string (ByteArray.mk #[])), (.int .i64 0), (.string (ByteArray.mk #[])), (Sl.v Sl.nil)]) (cs := [(.int .i64 x29), (.int .i64 x30), (.int .i64 x31), (.int .i64 x32), (.string x33), (.bool x34), (.string x35), (.int .i64 x36), (.string x37), (Sl.v x38)]) Tryd.runUnderlying39 Tryd.sizeOf41 Tryd.zeroValue41 (by decide) (by kernel_rfl) (by kernel_rfl) (by decide)) ?_
        rintro _ H39 ⟨rfl, e40⟩
        replace h := h H39 e40
        refine HList.vals (v := (.agg #[(.int .i64 4), (.int .i64 1), (.int .i64 0), (.int .i64 0), (.string (ByteArray.mk #[])), (.bool false), (.string (ByteArray.mk #[])), (.int .i64 0), (.string (ByteArray.mk #[])), (Sl.v (Sl.mk (some ⟨H_2.size, 0, none⟩) 1 1))])) rfl (HVal.build' (cs := [(.int .i64 4), (.int .i64 1), (.int .i64 0), (.int .i64 0), (.string (ByteArray.mk #[])), (.bool false), (.string (ByteArray.mk #[])), (.int .i64 0), (.string (ByteArray.mk #[])), (Sl.v (Sl.mk (some ⟨H_2.size, 0, none⟩) 1 1))]) Tryd.runUnderlying41 Tryd.zeroValue41 places41 (by kernel_rfl)) ?_
        obtain ⟨z43, h⟩ := h
        refine HList.opsn (HOp.storeN' (l := [(.int .i64 4), (.int .i64 1), (.int .i64 0), (.int .i64 0), (.string (ByteArray.mk #[])), (.bool false), (.string (ByteArray.mk #[])), (.int .i64 0), (.string (ByteArray.mk #[])), (Sl.v (Sl.mk (some ⟨H_2.size, 0, none⟩) 1 1))]) Tryd.sizeOf41 rfl rfl rfl z43) ?_
        rintro _ H41 e42
        replace h := h H41 e42
        refine HList.nil ?_
        refine nb ?_
        refine nt ?_
        refine HW.region ?_
        refine HList.vals (v := (.int .i64 y24)) rfl (HVal.move' rfl) ?_
        refine HList.vals (v := (.int .i64 (IntKind.i64.wrap (y24 + 1)))) rfl (HVal.add rfl rfl) ?_
        refine HList.vals (v := (.int .i64 (IntKind.i64.wrap (y24 + 1)))) rfl (HVal.assign' rfl) ?_
        refine HList.nil ?_
        refine nt ?_
        exact (hX2 _ _).1 h _ ⟨rfl, rfl, rfl, trivial⟩
      · have h := hF hb27
        clear hT hF
        refine HW.exit ?_
        refine te ?_
        refine te ?_
        refine be ?_
        refine nt ?_
        exact ⟨⟨rfl, rfl, trivial⟩, h⟩
    · rintro ρ H_1 ⟨hI, h⟩
      obtain ⟨ρ0, rfl⟩ : ∃ ρ0, ρ = (Env.set (Env.set ρ0 3 (.pointer (some ⟨H5.size, 0, none⟩))) 0 (.int .i64 p0)) := ⟨ρ, hI.eq⟩
      clear hI; unfold F7_1 at h
      refine HW.seq ?_
      refine HW.region ?_
      obtain ⟨x45, x46, x47, x48, x49, x50, x51, x52, x53, x54, c44, h⟩ := h
      refine HList.vals (v := (.agg #[(.int .i64 x45), (.int .i64 x46), (.int .i64 x47), (.int .i64 x48), (.string x49), (.bool x50), (.string x51), (.int .i64 x52), (.string x53), (Sl.v x54)])) rfl (HVal.loadN [(.int .i64 x45), (.int .i64 x46), (.int .i64 x47), (.int .i64 x48), (.string x49), (.bool x50), (.string x51), (.int .i64 x52), (.string x53), (Sl.v x54)] Tryd.isAgg41 Tryd.sizeOf41 rfl c44) ?_
      refine HList.ops' rfl (HOp.buildSlice' (zs := [(.int .i64 0), (.int .i64 0), (.int .i64 0), (.int .i64 0), (.string (ByteArray.mk #[])), (.bool false), (.string (ByteArray.mk #[])), (.int .i64 0), (.string (ByteArray.mk #[])), (Sl.v Sl.nil)]) (cs := [(.int .i64 x45), (.int .i64 x46), (.int .i64 x47), (.int .i64 x48), (.string x49), (.bool x50), (.string x51), (.int .i64 x52), (.string x53), (Sl.v x54)]) Tryd.runUnderlying39 Tryd.sizeOf41 Tryd.zeroValue41 (by decide) (by kernel_rfl) (by kernel_rfl) (by decide)) ?_
      rintro _ H55 ⟨rfl, e56⟩
      replace h := h H55 e56
      refine HList.vals (v := (.agg #[(.int .i64 4), (.int .i64 1), (.int .i64 0), (.int .i64 0), (.string (ByteArray.mk #[])), (.bool false), (.string (ByteArray.mk #[])), (.int .i64 0), (.string (ByteArray.mk #[])), (Sl.v (Sl.mk (some ⟨H_1.size, 0, none⟩) 1 1))])) rfl (HVal.build' (cs := [(.int .i64 4), (.int .i64 1), (.int .i64 0), (.int .i64 0), (.string (ByteArray.mk #[])), (.bool false), (.string (ByteArray.mk #[])), (.int .i64 0), (.string (ByteArray.mk #[])), (Sl.v (Sl.mk (some ⟨H_1.size, 0, none⟩) 1 1))]) Tryd.runUnderlying41 Tryd.zeroValue41 places41 (by kernel_rfl)) ?_
      refine HList.ops' rfl (HOp.alloc Tryd.zeroValue41) ?_
      rintro _ H57 ⟨rfl, e58⟩
      replace h := h H57 e58
      obtain ⟨z61, h⟩ := h
      refine HList.opsn (HOp.storeN' (l := [(.int .i64 4), (.int .i64 1), (.int .i64 0), (.int .i64 0), (.string (ByteArray.mk #[])), (.bool false), (.string (ByteArray.mk #[])), (.int .i64 0), (.string (ByteArray.mk #[])), (Sl.v (Sl.mk (some ⟨H_1.size, 0, none⟩) 1 1))]) Tryd.sizeOf41 rfl rfl rfl z61) ?_
      rintro _ H59 e60
      replace h := h H59 e60
      refine HList.nil ?_
      refine nt ?_
      refine HW.seq ?_
      refine HW.region ?_
      refine HList.vals (v := (.int .i64 p0)) rfl (HVal.move' rfl) ?_
      refine HList.ops' rfl (HOp.call' 19 [(.int .i64 p0)] (cap := []) rfl rfl Tryd.call19 (walk19 h)) ?_
      rintro _ H62 ⟨r64, r65, r66, r67, r68, r69, r70, r71, r72, r73, rfl, h⟩
      refine HList.ops' rfl (HOp.alloc Tryd.zeroValue41) ?_
      rintro _ H74 ⟨rfl, e75⟩
      replace h := h H74 e75
      obtain ⟨z78, h⟩ := h
      refine HList.opsn (HOp.storeN' (l := [(.int .i64 r64), (.int .i64 r65), (.int .i64 r66), (.int .i64 r67), (.string r68), (.bool r69), (.string r70), (.int .i64 r71), (.string r72), (Sl.v r73)]) Tryd.sizeOf41 rfl rfl rfl z78) ?_
      rintro _ H76 e77
      replace h := h H76 e77
      refine HList.nil ?_
      refine nt ?_
      refine HW.seq ?_
      refine HW.region ?_
      refine HList.vals (v := (.int .i64 p0)) rfl (HVal.move' rfl) ?_
      refine HList.vals (v := (.int .i64 p0)) rfl (HVal.assign' rfl) ?_
      refine HList.nil ?_
      refine nt ?_
      refine HW.cut (fun ρ H_3 => ∃ (y127 : Int), Env.Is ρ [(0, (.int .i64 p0)), (3, (.pointer (some ⟨H5.size, 0, none⟩))), (5, (.pointer (some ⟨H55.size, 0, none⟩))), (6, (.pointer (some ⟨H62.size, 0, none⟩))), (7, (.int .i64 y127))] ∧ F7_3 Q p0 ⟨H5.size, 0, none⟩ ⟨H55.size, 0, none⟩ ⟨H62.size, 0, none⟩ y127 H_3) ?_ ?_
      · refine HW.seq ?_
        refine HW.region ?_
        refine HList.vals (v := (.int .i64 0)) rfl (HVal.assign' rfl) ?_
        refine HList.nil ?_
        refine nt ?_
        refine HW.block ?_
        refine HW.loop' (fun L4 hL4 => ?_)
        obtain ⟨X4, hX4⟩ : ∃ X4 : Int → Int → Hp → Prop, ∀ (y83 : Int) (y84 : Int) (H_4 : Hp), X4 y83 y84 H_4 ↔ ∀ ρ, Env.Is ρ [(0, (.int .i64 p0)), (3, (.pointer (some ⟨H5.size, 0, none⟩))), (5, (.pointer (some ⟨H55.size, 0, none⟩))), (6, (.pointer (some ⟨H62.size, 0, none⟩))), (7, (.int .i64 y83)), (8, (.int .i64 y84))] → L4 ρ H_4 := ⟨_, fun _ _ _ => Iff.rfl⟩
        refine (hX4 _ _ _).1 (h X4 ?_) _ ?_
        rotate_left
        · exact ⟨rfl, rfl, rfl, rfl, rfl, rfl, trivial⟩
        clear h
        intro y83 y84 H_4 h
        refine (hX4 _ _ _).2 fun ρ hI => ?_
        obtain ⟨ρ0, rfl⟩ : ∃ ρ0, ρ = (Env.set (Env.set (Env.set (Env.set (Env.set (Env.set ρ0 8 (.int .i64 y84)) 7 (.int .i64 y83)) 6 (.pointer (some ⟨H62.size, 0, none⟩))) 5 (.pointer (some ⟨H55.size, 0, none⟩))) 3 (.pointer (some ⟨H5.size, 0, none⟩))) 0 (.int .i64 p0)) := ⟨ρ, hI.eq⟩
        clear hI; unfold F7_L4b at h; refine hL4 _ _ ?_
        refine HW.seq ?_
        refine HW.seq ?_
        refine HW.region ?_
        refine HList.vals (v := (.int .i64 y84)) rfl (HVal.move' rfl) ?_
        refine HList.vals (v := (.bool (decide (y84 < 7)))) rfl (HVal.lss rfl rfl) ?_
        refine HList.nil ?_
        refine nt ?_
        obtain ⟨hT, hF⟩ := h
        refine HW.cond (decide (y84 < 7)) rfl (fun hb89 => ?_) (fun hb89 => ?_)
        · have h := hT hb89
          clear hT hF
          refine HW.skip ?_
          refine nt ?_
          refine HW.seq ?_
          refine HW.block ?_
          refine HW.seq ?_
          refine HW.region ?_
          obtain ⟨x91, x92, x93, x94, x95, x96, x97, x98, x99, x100, c90, h⟩ := h
          refine HList.vals (v := (.agg #[(.int .i64 x91), (.int .i64 x92), (.int .i64 x93), (.int .i64 x94), (.string x95), (.bool x96), (.string x97), (.int .i64 x98), (.string x99), (Sl.v x100)])) rfl (HVal.loadN [(.int .i64 x91), (.int .i64 x92), (.int .i64 x93), (.int .i64 x94), (.string x95), (.bool x96), (.string x97), (.int .i64 x98), (.string x99), (Sl.v x100)] Tryd.isAgg41 Tryd.sizeOf41 rfl c90) ?_
          obtain ⟨x102, x103, x104, x105, x106, x107, x108, x109, x110, x111, c101, h⟩ := h
          refine HList.vals (v := (.agg #[(.int .i64 x102), (.int .i64 x103), (.int .i64 x104), (.int .i64 x105), (.string x106), (.bool x107), (.string x108), (.int .i64 x109), (.string x110), (Sl.v x111)])) rfl (HVal.loadN [(.int .i64 x102), (.int .i64 x103), (.int .i64 x104), (.int .i64 x105), (.string x106), (.bool x107), (.string x108), (.int .i64 x109), (.string x110), (Sl.v x111)] Tryd.isAgg41 Tryd.sizeOf41 rfl c101) ?_
          refine HList.ops' rfl (HOp.call' 18 [(.int .i64 3), (.agg #[(.int .i64 x91), (.int .i64 x92), (.int .i64 x93), (.int .i64 x94), (.string x95), (.bool x96), (.string x97), (.int .i64 x98), (.string x99), (Sl.v x100)]), (.agg #[(.int .i64 x102), (.int .i64 x103), (.int .i64 x104), (.int .i64 x105), (.string x106), (.bool x107), (.string x108), (.int .i64 x109), (.string x110), (Sl.v x111)])] (cap := []) rfl rfl Tryd.call18 (walk18 h)) ?_
          rintro _ H112 ⟨r114, r115, r116, r117, r118, r119, r120, r121, r122, r123, rfl, h⟩
          obtain ⟨z126, h⟩ := h
          refine HList.opsn (HOp.storeN' (l := [(.int .i64 r114), (.int .i64 r115), (.int .i64 r116), (.int .i64 r117), (.string r118), (.bool r119), (.string r120), (.int .i64 r121), (.string r122), (Sl.v r123)]) Tryd.sizeOf41 rfl rfl rfl z126) ?_
          rintro _ H124 e125
          replace h := h H124 e125
          refine HList.nil ?_
          refine nt ?_
          refine HW.region ?_
          refine HList.vals (v := (.int .i64 y83)) rfl (HVal.move' rfl) ?_
          refine HList.vals (v := (.int .i64 y83)) rfl (HVal.move' rfl) ?_
          refine HList.vals (v := (.int .i64 (IntKind.i64.wrap (y83 + y83)))) rfl (HVal.add rfl rfl) ?_
          refine HList.vals (v := (.int .i64 (IntKind.i64.wrap (y83 + y83)))) rfl (HVal.assign' rfl) ?_
          refine HList.nil ?_
          refine nb ?_
          refine nt ?_
          refine HW.region ?_
          refine HList.vals (v := (.int .i64 y84)) rfl (HVal.move' rfl) ?_
          refine HList.vals (v := (.int .i64 (IntKind.i64.wrap (y84 + 1)))) rfl (HVal.add rfl rfl) ?_
          refine HList.vals (v := (.int .i64 (IntKind.i64.wrap (y84 + 1)))) rfl (HVal.assign' rfl) ?_
          refine HList.nil ?_
          refine nt ?_
          exact (hX4 _ _ _).1 h _ ⟨rfl, rfl, rfl, rfl, rfl, rfl, trivial⟩
        · have h := hF hb89
          clear hT hF
          refine HW.exit ?_
          refine te ?_
          refine te ?_
          refine be ?_
          refine nt ?_
          exact ⟨y83, ⟨rfl, rfl, rfl, rfl, rfl, trivial⟩, h⟩
      · rintro ρ H_3 ⟨y127, hI, h⟩
        obtain ⟨ρ0, rfl⟩ : ∃ ρ0, ρ = (Env.set (Env.set (Env.set (Env.set (Env.set ρ0 7 (.int .i64 y127)) 6 (.pointer (some ⟨H62.size, 0, none⟩))) 5 (.pointer (some ⟨H55.size, 0, none⟩))) 3 (.pointer (some ⟨H5.size, 0, none⟩))) 0 (.int .i64 p0)) := ⟨ρ, hI.eq⟩
        clear hI; unfold F7_3 at h
        refine HW.seq ?_
        refine HW.draw mixed [(0, some [2, 4]), (5, none), (5, none), (5, none), (5, none)] rfl (by kernel_rfl) (by kernel_rfl) ?_
        obtain ⟨x129, x130, x131, x132, x133, x134, x135, x136, x137, x138, c128, h⟩ := h
        refine HPlan.takel (v := (.agg #[(.int .i64 x129), (.int .i64 x130), (.int .i64 x131), (.int .i64 x132), (.string x133), (.bool x134), (.string x135), (.int .i64 x136), (.string x137), (Sl.v x138)])) (fun X => cells X ⟨H62.size, 0, none⟩ [(.int .i64 x129), (.int .i64 x130), (.int .i64 x131), (.int .i64 x132), (.string x133), (.bool x134), (.string x135), (.int .i64 x136), (.string x137), (Sl.v x138)] 0) rfl rfl (fun _ hX => HVal.loadN [(.int .i64 x129), (.int .i64 x130), (.int .i64 x131), (.int .i64 x132), (.string x133), (.bool x134), (.string x135), (.int .i64 x136), (.string x137), (Sl.v x138)] Tryd.isAgg41 Tryd.sizeOf41 rfl hX) c128 ?_
        obtain ⟨hB1, hB3⟩ := h
        refine HPlan.fork2 (i := 1) (j := 3) (by kernel_rfl) ?_ ?_
        · have h := hB1
          clear hB1 hB3
          refine HBr.ops' [(5, none), (5, none), (5, none)] rfl (by kernel_rfl) (by kernel_rfl) rfl rfl rfl (HOp.call' 19 [(.int .i64 1)] (cap := []) rfl rfl Tryd.call19 (walk19 h)) ?_
          rintro _ H139 ⟨r141, r142, r143, r144, r145, r146, r147, r148, r149, r150, rfl, h⟩
          obtain ⟨s151, h⟩ := h
          refine ⟨SC_of ⟨fun _ => s151, trivial⟩, ?_⟩
          obtain ⟨hB2, hB3⟩ := h
          refine HPlan.fork2 (i := 2) (j := 3) (by kernel_rfl) ?_ ?_
          · have h := hB2
            clear hB2 hB3
            refine HBr.ops' [(3, none), (4, none)] rfl (by kernel_rfl) (by kernel_rfl) rfl rfl rfl (HOp.call' 18 [(.int .i64 3), (.agg #[(.int .i64 x129), (.int .i64 x130), (.int .i64 x131), (.int .i64 x132), (.string x133), (.bool x134), (.string x135), (.int .i64 x136), (.string x137), (Sl.v x138)]), (.agg #[(.int .i64 r141), (.int .i64 r142), (.int .i64 r143), (.int .i64 r144), (.string r145), (.bool r146), (.string r147), (.int .i64 r148), (.string r149), (Sl.v r150)])] (cap := []) rfl rfl Tryd.call18 (walk18 h)) ?_
            rintro _ H152 ⟨r154, r155, r156, r157, r158, r159, r160, r161, r162, r163, rfl, h⟩
            refine ⟨SC_of ⟨fun e => absurd e (by decide), trivial⟩, ?_⟩
            refine HPlan.ops' rfl rfl (HOp.alloc Tryd.zeroValue41) ?_
            rintro _ H164 ⟨rfl, e165⟩
            replace h := h H164 e165
            refine ⟨SC_of ⟨fun e => absurd e (by decide), trivial⟩, ?_⟩
            obtain ⟨z168, h⟩ := h
            refine HPlan.opsn rfl (HOp.storeN' (l := [(.int .i64 r154), (.int .i64 r155), (.int .i64 r156), (.int .i64 r157), (.string r158), (.bool r159), (.string r160), (.int .i64 r161), (.string r162), (Sl.v r163)]) Tryd.sizeOf41 rfl rfl rfl z168) ?_
            rintro _ H166 e167
            replace h := h H166 e167
            refine ⟨SC_of ⟨fun e => absurd e (by decide), trivial⟩, ?_⟩
            refine HPlan.done ?_
            refine nt ?_
            refine HW.seq ?_
            refine HW.region ?_
            obtain ⟨x170, x171, x172, x173, x174, x175, x176, x177, x178, x179, c169, h⟩ := h
            refine HList.vals (v := (.agg #[(.int .i64 x170), (.int .i64 x171), (.int .i64 x172), (.int .i64 x173), (.string x174), (.bool x175), (.string x176), (.int .i64 x177), (.string x178), (Sl.v x179)])) rfl (HVal.loadN [(.int .i64 x170), (.int .i64 x171), (.int .i64 x172), (.int .i64 x173), (.string x174), (.bool x175), (.string x176), (.int .i64 x177), (.string x178), (Sl.v x179)] Tryd.isAgg41 Tryd.sizeOf41 rfl c169) ?_
            refine HList.vals (v := (.agg #[(Sl.v Sl.nil), (Sl.v Sl.nil), (.string (ByteArray.mk #[])), (.string (ByteArray.mk #[])), (.int .i64 0), (Sl.v Sl.nil), (Sl.v Sl.nil)])) rfl (HVal.build' (cs := [(Sl.v Sl.nil), (Sl.v Sl.nil), (.string (ByteArray.mk #[])), (.string (ByteArray.mk #[])), (.int .i64 0), (Sl.v Sl.nil), (Sl.v Sl.nil)]) Tryd.runUnderlying43 Tryd.zeroValue43 places43 (by kernel_rfl)) ?_
            refine HList.vals (v := (.int .i64 p0)) rfl (HVal.move' rfl) ?_
            refine HList.vals (v := (.int .i64 (IntKind.i64.wrap (0 - p0)))) rfl (HVal.neg rfl) ?_
            refine HList.ops' rfl (HOp.call' 13 [(.agg #[(.int .i64 x170), (.int .i64 x171), (.int .i64 x172), (.int .i64 x173), (.string x174), (.bool x175), (.string x176), (.int .i64 x177), (.string x178), (Sl.v x179)]), (.agg #[(Sl.v Sl.nil), (Sl.v Sl.nil), (.string (ByteArray.mk #[])), (.string (ByteArray.mk #[])), (.int .i64 0), (Sl.v Sl.nil), (Sl.v Sl.nil)]), (.int .i64 (IntKind.i64.wrap (0 - p0)))] (cap := []) rfl rfl Tryd.call13 (walk13 h)) ?_
            rintro _ H180 ⟨r182, rfl, h⟩
            refine HList.vals (v := (.bool r182)) rfl (HVal.move' rfl) ?_
            obtain ⟨hT, hF⟩ := h
            rcases Bool.eq_false_or_eq_true r182 with hb183 | hb184
            · have h := hT hb183
              clear hT hF
              obtain ⟨x186, x187, x188, x189, x190, x191, x192, x193, x194, x195, c185, h⟩ := h
              refine HList.gvals (v := (.agg #[(.int .i64 x186), (.int .i64 x187), (.int .i64 x188), (.int .i64 x189), (.string x190), (.bool x191), (.string x192), (.int .i64 x193), (.string x194), (Sl.v x195)])) rfl rfl rfl rfl (congrArg Value.bool hb183) (HVal.loadN [(.int .i64 x186), (.int .i64 x187), (.int .i64 x188), (.int .i64 x189), (.string x190), (.bool x191), (.string x192), (.int .i64 x193), (.string x194), (Sl.v x195)] Tryd.isAgg41 Tryd.sizeOf41 rfl c185) ?_
              refine HList.gvals (v := (.agg #[(Sl.v Sl.nil), (Sl.v Sl.nil), (.string (ByteArray.mk #[])), (.string (ByteArray.mk #[])), (.int .i64 0), (Sl.v Sl.nil), (Sl.v Sl.nil)])) rfl rfl rfl rfl (congrArg Value.bool hb183) (HVal.build' (cs := [(Sl.v Sl.nil), (Sl.v Sl.nil), (.string (ByteArray.mk #[])), (.string (ByteArray.mk #[])), (.int .i64 0), (Sl.v Sl.nil), (Sl.v Sl.nil)]) Tryd.runUnderlying43 Tryd.zeroValue43 places43 (by kernel_rfl)) ?_
              refine HList.gops rfl rfl rfl rfl (congrArg Value.bool hb183) (HOp.call' 15 [(.agg #[(.int .i64 x186), (.int .i64 x187), (.int .i64 x188), (.int .i64 x189), (.string x190), (.bool x191), (.string x192), (.int .i64 x193), (.string x194), (Sl.v x195)]), (.agg #[(Sl.v Sl.nil), (Sl.v Sl.nil), (.string (ByteArray.mk #[])), (.string (ByteArray.mk #[])), (.int .i64 0), (Sl.v Sl.nil), (Sl.v Sl.nil)]), (.int .i64 71)] (cap := []) rfl rfl Tryd.call15 (walk15 h)) ?_
              rintro _ H196 ⟨r198, rfl, h⟩
              refine HList.vals (v := (.bool r198)) rfl (HVal.pickT rfl hb183 rfl) ?_
              refine HList.vals (v := (.bool r198)) rfl (HVal.move' rfl) ?_
              obtain ⟨hT, hF⟩ := h
              rcases Bool.eq_false_or_eq_true r198 with hb199 | hb200
              · have h := hT hb199
                clear hT hF
                obtain ⟨x202, x203, x204, x205, x206, x207, x208, x209, x210, x211, c201, h⟩ := h
                refine HList.gvals (v := (.agg #[(.int .i64 x202), (.int .i64 x203), (.int .i64 x204), (.int .i64 x205), (.string x206), (.bool x207), (.string x208), (.int .i64 x209), (.string x210), (Sl.v x211)])) rfl rfl rfl rfl (congrArg Value.bool hb199) (HVal.loadN [(.int .i64 x202), (.int .i64 x203), (.int .i64 x204), (.int .i64 x205), (.string x206), (.bool x207), (.string x208), (.int .i64 x209), (.string x210), (Sl.v x211)] Tryd.isAgg41 Tryd.sizeOf41 rfl c201) ?_
                refine HList.gvals (v := (.agg #[(Sl.v Sl.nil), (Sl.v Sl.nil), (.string (ByteArray.mk #[])), (.string (ByteArray.mk #[])), (.int .i64 0), (Sl.v Sl.nil), (Sl.v Sl.nil)])) rfl rfl rfl rfl (congrArg Value.bool hb199) (HVal.build' (cs := [(Sl.v Sl.nil), (Sl.v Sl.nil), (.string (ByteArray.mk #[])), (.string (ByteArray.mk #[])), (.int .i64 0), (Sl.v Sl.nil), (Sl.v Sl.nil)]) Tryd.runUnderlying43 Tryd.zeroValue43 places43 (by kernel_rfl)) ?_
                refine HList.gvals (v := (.int .i64 y127)) rfl rfl rfl rfl (congrArg Value.bool hb199) (HVal.move' rfl) ?_
                refine HList.gops rfl rfl rfl rfl (congrArg Value.bool hb199) (HOp.call' 13 [(.agg #[(.int .i64 x202), (.int .i64 x203), (.int .i64 x204), (.int .i64 x205), (.string x206), (.bool x207), (.string x208), (.int .i64 x209), (.string x210), (Sl.v x211)]), (.agg #[(Sl.v Sl.nil), (Sl.v Sl.nil), (.string (ByteArray.mk #[])), (.string (ByteArray.mk #[])), (.int .i64 0), (Sl.v Sl.nil), (Sl.v Sl.nil)]), (.int .i64 y127)] (cap := []) rfl rfl Tryd.call13 (walk13 h)) ?_
                rintro _ H212 ⟨r214, rfl, h⟩
                refine HList.vals (v := (.bool r214)) rfl (HVal.pickT rfl hb199 rfl) ?_
                refine HList.vals (v := (.bool r214)) rfl (HVal.move' rfl) ?_
                obtain ⟨hT, hF⟩ := h
                rcases Bool.eq_false_or_eq_true r214 with hb215 | hb216
                · have h := hT hb215
                  clear hT hF
                  obtain ⟨x218, x219, x220, x221, x222, x223, x224, x225, x226, x227, c217, h⟩ := h
                  refine HList.gvals (v := (.agg #[(.int .i64 x218), (.int .i64 x219), (.int .i64 x220), (.int .i64 x221), (.string x222), (.bool x223), (.string x224), (.int .i64 x225), (.string x226), (Sl.v x227)])) rfl rfl rfl rfl (congrArg Value.bool hb215) (HVal.loadN [(.int .i64 x218), (.int .i64 x219), (.int .i64 x220), (.int .i64 x221), (.string x222), (.bool x223), (.string x224), (.int .i64 x225), (.string x226), (Sl.v x227)] Tryd.isAgg41 Tryd.sizeOf41 rfl c217) ?_
                  refine HList.gvals (v := (.agg #[(Sl.v Sl.nil), (Sl.v Sl.nil), (.string (ByteArray.mk #[])), (.string (ByteArray.mk #[])), (.int .i64 0), (Sl.v Sl.nil), (Sl.v Sl.nil)])) rfl rfl rfl rfl (congrArg Value.bool hb215) (HVal.build' (cs := [(Sl.v Sl.nil), (Sl.v Sl.nil), (.string (ByteArray.mk #[])), (.string (ByteArray.mk #[])), (.int .i64 0), (Sl.v Sl.nil), (Sl.v Sl.nil)]) Tryd.runUnderlying43 Tryd.zeroValue43 places43 (by kernel_rfl)) ?_
                  refine HList.gops rfl rfl rfl rfl (congrArg Value.bool hb215) (HOp.call' 15 [(.agg #[(.int .i64 x218), (.int .i64 x219), (.int .i64 x220), (.int .i64 x221), (.string x222), (.bool x223), (.string x224), (.int .i64 x225), (.string x226), (Sl.v x227)]), (.agg #[(Sl.v Sl.nil), (Sl.v Sl.nil), (.string (ByteArray.mk #[])), (.string (ByteArray.mk #[])), (.int .i64 0), (Sl.v Sl.nil), (Sl.v Sl.nil)]), (.int .i64 71)] (cap := []) rfl rfl Tryd.call15 (walk15 h)) ?_
                  rintro _ H228 ⟨r230, rfl, h⟩
                  refine HList.vals (v := (.bool r230)) rfl (HVal.pickT rfl hb215 rfl) ?_
                  refine HList.vals (v := (.bool r230)) rfl (HVal.assign' rfl) ?_
                  refine HList.nil ?_
                  refine nt ?_
                  refine HW.ret ?_
                  exact ⟨_, resOf1 rfl Res1.t, ⟨r230, rfl, h⟩⟩
                · have h := hF hb216
                  clear hT hF
                  refine HList.gskips rfl rfl rfl rfl (congrArg Value.bool hb216) ?_
                  refine HList.gskips rfl rfl rfl rfl (congrArg Value.bool hb216) ?_
                  refine HList.gskips rfl rfl rfl rfl (congrArg Value.bool hb216) ?_
                  refine HList.vals (v := (.bool false)) rfl (HVal.pickF rfl hb216 rfl) ?_
                  refine HList.vals (v := (.bool false)) rfl (HVal.assign' rfl) ?_
                  refine HList.nil ?_
                  refine nt ?_
                  refine HW.ret ?_
                  exact ⟨_, resOf1 rfl Res1.t, ⟨false, rfl, h⟩⟩
              · have h := hF hb200
                clear hT hF
                refine HList.gskips rfl rfl rfl rfl (congrArg Value.bool hb200) ?_
                refine HList.gskips rfl rfl rfl rfl (congrArg Value.bool hb200) ?_
                refine HList.gskips rfl rfl rfl rfl (congrArg Value.bool hb200) ?_
                refine HList.gskips rfl rfl rfl rfl (congrArg Value.bool hb200) ?_
                refine HList.vals (v := (.bool false)) rfl (HVal.pickF rfl hb200 rfl) ?_
                refine HList.vals (v := (.bool false)) rfl (HVal.move' rfl) ?_
                refine HList.gskips rfl rfl rfl rfl rfl ?_
                refine HList.gskips rfl rfl rfl rfl rfl ?_
                refine HList.gskips rfl rfl rfl rfl rfl ?_
                refine HList.vals (v := (.bool false)) rfl (HVal.pickF rfl rfl rfl) ?_
                refine HList.vals (v := (.bool false)) rfl (HVal.assign' rfl) ?_
                refine HList.nil ?_
                refine nt ?_
                refine HW.ret ?_
                exact ⟨_, resOf1 rfl Res1.t, ⟨false, rfl, h⟩⟩
            · have h := hF hb184
              clear hT hF
              refine HList.gskips rfl rfl rfl rfl (congrArg Value.bool hb184) ?_
              refine HList.gskips rfl rfl rfl rfl (congrArg Value.bool hb184) ?_
              refine HList.gskips rfl rfl rfl rfl (congrArg Value.bool hb184) ?_
              refine HList.vals (v := (.bool false)) rfl (HVal.pickF rfl hb184 rfl) ?_
              refine HList.vals (v := (.bool false)) rfl (HVal.move' rfl) ?_
              refine HList.gskips rfl rfl rfl rfl rfl ?_
              refine HList.gskips rfl rfl rfl rfl rfl ?_
              refine HList.gskips rfl rfl rfl rfl rfl ?_
              refine HList.gskips rfl rfl rfl rfl rfl ?_
              refine HList.vals (v := (.bool false)) rfl (HVal.pickF rfl rfl rfl) ?_
              refine HList.vals (v := (.bool false)) rfl (HVal.move' rfl) ?_
              refine HList.gskips rfl rfl rfl rfl rfl ?_
              refine HList.gskips rfl rfl rfl rfl rfl ?_
              refine HList.gskips rfl rfl rfl rfl rfl ?_
              refine HList.vals (v := (.bool false)) rfl (HVal.pickF rfl rfl rfl) ?_
              refine HList.vals (v := (.bool false)) rfl (HVal.assign' rfl) ?_
              refine HList.nil ?_
              refine nt ?_
              refine HW.ret ?_
              exact ⟨_, resOf1 rfl Res1.t, ⟨false, rfl, h⟩⟩
          · have h := hB3
            clear hB2 hB3
            refine HBr.ops' [(2, none), (4, none)] rfl (by kernel_rfl) (by kernel_rfl) rfl rfl rfl (HOp.alloc Tryd.zeroValue41) ?_
            rintro _ H231 ⟨rfl, e232⟩
            replace h := h H231 e232
            obtain ⟨s233, h⟩ := h
            refine ⟨SC_of ⟨fun _ => s233, trivial⟩, ?_⟩
            refine HPlan.ops' rfl rfl (HOp.call' 18 [(.int .i64 3), (.agg #[(.int .i64 x129), (.int .i64 x130), (.int .i64 x131), (.int .i64 x132), (.string x133), (.bool x134), (.string x135), (.int .i64 x136), (.string x137), (Sl.v x138)]), (.agg #[(.int .i64 r141), (.int .i64 r142), (.int .i64 r143), (.int .i64 r144), (.string r145), (.bool r146), (.string r147), (.int .i64 r148), (.string r149), (Sl.v r150)])] (cap := []) rfl rfl Tryd.call18 (walk18 h)) ?_
            rintro _ H234 ⟨r236, r237, r238, r239, r240, r241, r242, r243, r244, r245, rfl, h⟩
            refine ⟨SC_of ⟨fun e => absurd e (by decide), trivial⟩, ?_⟩
            obtain ⟨z248, h⟩ := h
            refine HPlan.opsn rfl (HOp.storeN' (l := [(.int .i64 r236), (.int .i64 r237), (.int .i64 r238), (.int .i64 r239), (.string r240), (.bool r241), (.string r242), (.int .i64 r243), (.string r244), (Sl.v r245)]) Tryd.sizeOf41 rfl rfl rfl z248) ?_
            rintro _ H246 e247
            replace h := h H246 e247
            refine ⟨SC_of ⟨fun e => absurd e (by decide), trivial⟩, ?_⟩
            refine HPlan.done ?_
            refine nt ?_
            refine HW.seq ?_
            refine HW.region ?_
            obtain ⟨x250, x251, x252, x253, x254, x255, x256, x257, x258, x259, c249, h⟩ := h
            refine HList.vals (v := (.agg #[(.int .i64 x250), (.int .i64 x251), (.int .i64 x252), (.int .i64 x253), (.string x254), (.bool x255), (.string x256), (.int .i64 x257), (.string x258), (Sl.v x259)])) rfl (HVal.loadN [(.int .i64 x250), (.int .i64 x251), (.int .i64 x252), (.int .i64 x253), (.string x254), (.bool x255), (.string x256), (.int .i64 x257), (.string x258), (Sl.v x259)] Tryd.isAgg41 Tryd.sizeOf41 rfl c249) ?_
            refine HList.vals (v := (.agg #[(Sl.v Sl.nil), (Sl.v Sl.nil), (.string (ByteArray.mk #[])), (.string (ByteArray.mk #[])), (.int .i64 0), (Sl.v Sl.nil), (Sl.v Sl.nil)])) rfl (HVal.build' (cs := [(Sl.v Sl.nil), (Sl.v Sl.nil), (.string (ByteArray.mk #[])), (.string (ByteArray.mk #[])), (.int .i64 0), (Sl.v Sl.nil), (Sl.v Sl.nil)]) Tryd.runUnderlying43 Tryd.zeroValue43 places43 (by kernel_rfl)) ?_
            refine HList.vals (v := (.int .i64 p0)) rfl (HVal.move' rfl) ?_
            refine HList.vals (v := (.int .i64 (IntKind.i64.wrap (0 - p0)))) rfl (HVal.neg rfl) ?_
            refine HList.ops' rfl (HOp.call' 13 [(.agg #[(.int .i64 x250), (.int .i64 x251), (.int .i64 x252), (.int .i64 x253), (.string x254), (.bool x255), (.string x256), (.int .i64 x257), (.string x258), (Sl.v x259)]), (.agg #[(Sl.v Sl.nil), (Sl.v Sl.nil), (.string (ByteArray.mk #[])), (.string (ByteArray.mk #[])), (.int .i64 0), (Sl.v Sl.nil), (Sl.v Sl.nil)]), (.int .i64 (IntKind.i64.wrap (0 - p0)))] (cap := []) rfl rfl Tryd.call13 (walk13 h)) ?_
            rintro _ H260 ⟨r262, rfl, h⟩
            refine HList.vals (v := (.bool r262)) rfl (HVal.move' rfl) ?_
            obtain ⟨hT, hF⟩ := h
            rcases Bool.eq_false_or_eq_true r262 with hb263 | hb264
            · have h := hT hb263
              clear hT hF
              obtain ⟨x266, x267, x268, x269, x270, x271, x272, x273, x274, x275, c265, h⟩ := h
              refine HList.gvals (v := (.agg #[(.int .i64 x266), (.int .i64 x267), (.int .i64 x268), (.int .i64 x269), (.string x270), (.bool x271), (.string x272), (.int .i64 x273), (.string x274), (Sl.v x275)])) rfl rfl rfl rfl (congrArg Value.bool hb263) (HVal.loadN [(.int .i64 x266), (.int .i64 x267), (.int .i64 x268), (.int .i64 x269), (.string x270), (.bool x271), (.string x272), (.int .i64 x273), (.string x274), (Sl.v x275)] Tryd.isAgg41 Tryd.sizeOf41 rfl c265) ?_
              refine HList.gvals (v := (.agg #[(Sl.v Sl.nil), (Sl.v Sl.nil), (.string (ByteArray.mk #[])), (.string (ByteArray.mk #[])), (.int .i64 0), (Sl.v Sl.nil), (Sl.v Sl.nil)])) rfl rfl rfl rfl (congrArg Value.bool hb263) (HVal.build' (cs := [(Sl.v Sl.nil), (Sl.v Sl.nil), (.string (ByteArray.mk #[])), (.string (ByteArray.mk #[])), (.int .i64 0), (Sl.v Sl.nil), (Sl.v Sl.nil)]) Tryd.runUnderlying43 Tryd.zeroValue43 places43 (by kernel_rfl)) ?_
              refine HList.gops rfl rfl rfl rfl (congrArg Value.bool hb263) (HOp.call' 15 [(.agg #[(.int .i64 x266), (.int .i64 x267), (.int .i64 x268), (.int .i64 x269), (.string x270), (.bool x271), (.string x272), (.int .i64 x273), (.string x274), (Sl.v x275)]), (.agg #[(Sl.v Sl.nil), (Sl.v Sl.nil), (.string (ByteArray.mk #[])), (.string (ByteArray.mk #[])), (.int .i64 0), (Sl.v Sl.nil), (Sl.v Sl.nil)]), (.int .i64 71)] (cap := []) rfl rfl Tryd.call15 (walk15 h)) ?_
              rintro _ H276 ⟨r278, rfl, h⟩
              refine HList.vals (v := (.bool r278)) rfl (HVal.pickT rfl hb263 rfl) ?_
              refine HList.vals (v := (.bool r278)) rfl (HVal.move' rfl) ?_
              obtain ⟨hT, hF⟩ := h
              rcases Bool.eq_false_or_eq_true r278 with hb279 | hb280
              · have h := hT hb279
                clear hT hF
                obtain ⟨x282, x283, x284, x285, x286, x287, x288, x289, x290, x291, c281, h⟩ := h
                refine HList.gvals (v := (.agg #[(.int .i64 x282), (.int .i64 x283), (.int .i64 x284), (.int .i64 x285), (.string x286), (.bool x287), (.string x288), (.int .i64 x289), (.string x290), (Sl.v x291)])) rfl rfl rfl rfl (congrArg Value.bool hb279) (HVal.loadN [(.int .i64 x282), (.int .i64 x283), (.int .i64 x284), (.int .i64 x285), (.string x286), (.bool x287), (.string x288), (.int .i64 x289), (.string x290), (Sl.v x291)] Tryd.isAgg41 Tryd.sizeOf41 rfl c281) ?_
                refine HList.gvals (v := (.agg #[(Sl.v Sl.nil), (Sl.v Sl.nil), (.string (ByteArray.mk #[])), (.string (ByteArray.mk #[])), (.int .i64 0), (Sl.v Sl.nil), (Sl.v Sl.nil)])) rfl rfl rfl rfl (congrArg Value.bool hb279) (HVal.build' (cs := [(Sl.v Sl.nil), (Sl.v Sl.nil), (.string (ByteArray.mk #[])), (.string (ByteArray.mk #[])), (.int .i64 0), (Sl.v Sl.nil), (Sl.v Sl.nil)]) Tryd.runUnderlying43 Tryd.zeroValue43 places43 (by kernel_rfl)) ?_
                refine HList.gvals (v := (.int .i64 y127)) rfl rfl rfl rfl (congrArg Value.bool hb279) (HVal.move' rfl) ?_
                refine HList.gops rfl rfl rfl rfl (congrArg Value.bool hb279) (HOp.call' 13 [(.agg #[(.int .i64 x282), (.int .i64 x283), (.int .i64 x284), (.int .i64 x285), (.string x286), (.bool x287), (.string x288), (.int .i64 x289), (.string x290), (Sl.v x291)]), (.agg #[(Sl.v Sl.nil), (Sl.v Sl.nil), (.string (ByteArray.mk #[])), (.string (ByteArray.mk #[])), (.int .i64 0), (Sl.v Sl.nil), (Sl.v Sl.nil)]), (.int .i64 y127)] (cap := []) rfl rfl Tryd.call13 (walk13 h)) ?_
                rintro _ H292 ⟨r294, rfl, h⟩
                refine HList.vals (v := (.bool r294)) rfl (HVal.pickT rfl hb279 rfl) ?_
                refine HList.vals (v := (.bool r294)) rfl (HVal.move' rfl) ?_
                obtain ⟨hT, hF⟩ := h
                rcases Bool.eq_false_or_eq_true r294 with hb295 | hb296
                · have h := hT hb295
                  clear hT hF
                  obtain ⟨x298, x299, x300, x301, x302, x303, x304, x305, x306, x307, c297, h⟩ := h
                  refine HList.gvals (v := (.agg #[(.int .i64 x298), (.int .i64 x299), (.int .i64 x300), (.int .i64 x301), (.string x302), (.bool x303), (.string x304), (.int .i64 x305), (.string x306), (Sl.v x307)])) rfl rfl rfl rfl (congrArg Value.bool hb295) (HVal.loadN [(.int .i64 x298), (.int .i64 x299), (.int .i64 x300), (.int .i64 x301), (.string x302), (.bool x303), (.string x304), (.int .i64 x305), (.string x306), (Sl.v x307)] Tryd.isAgg41 Tryd.sizeOf41 rfl c297) ?_
                  refine HList.gvals (v := (.agg #[(Sl.v Sl.nil), (Sl.v Sl.nil), (.string (ByteArray.mk #[])), (.string (ByteArray.mk #[])), (.int .i64 0), (Sl.v Sl.nil), (Sl.v Sl.nil)])) rfl rfl rfl rfl (congrArg Value.bool hb295) (HVal.build' (cs := [(Sl.v Sl.nil), (Sl.v Sl.nil), (.string (ByteArray.mk #[])), (.string (ByteArray.mk #[])), (.int .i64 0), (Sl.v Sl.nil), (Sl.v Sl.nil)]) Tryd.runUnderlying43 Tryd.zeroValue43 places43 (by kernel_rfl)) ?_
                  refine HList.gops rfl rfl rfl rfl (congrArg Value.bool hb295) (HOp.call' 15 [(.agg #[(.int .i64 x298), (.int .i64 x299), (.int .i64 x300), (.int .i64 x301), (.string x302), (.bool x303), (.string x304), (.int .i64 x305), (.string x306), (Sl.v x307)]), (.agg #[(Sl.v Sl.nil), (Sl.v Sl.nil), (.string (ByteArray.mk #[])), (.string (ByteArray.mk #[])), (.int .i64 0), (Sl.v Sl.nil), (Sl.v Sl.nil)]), (.int .i64 71)] (cap := []) rfl rfl Tryd.call15 (walk15 h)) ?_
                  rintro _ H308 ⟨r310, rfl, h⟩
                  refine HList.vals (v := (.bool r310)) rfl (HVal.pickT rfl hb295 rfl) ?_
                  refine HList.vals (v := (.bool r310)) rfl (HVal.assign' rfl) ?_
                  refine HList.nil ?_
                  refine nt ?_
                  refine HW.ret ?_
                  exact ⟨_, resOf1 rfl Res1.t, ⟨r310, rfl, h⟩⟩
                · have h := hF hb296
                  clear hT hF
                  refine HList.gskips rfl rfl rfl rfl (congrArg Value.bool hb296) ?_
                  refine HList.gskips rfl rfl rfl rfl (congrArg Value.bool hb296) ?_
                  refine HList.gskips rfl rfl rfl rfl (congrArg Value.bool hb296) ?_
                  refine HList.vals (v := (.bool false)) rfl (HVal.pickF rfl hb296 rfl) ?_
                  refine HList.vals (v := (.bool false)) rfl (HVal.assign' rfl) ?_
                  refine HList.nil ?_
                  refine nt ?_
                  refine HW.ret ?_
                  exact ⟨_, resOf1 rfl Res1.t, ⟨false, rfl, h⟩⟩
              · have h := hF hb280
                clear hT hF
                refine HList.gskips rfl rfl rfl rfl (congrArg Value.bool hb280) ?_
                refine HList.gskips rfl rfl rfl rfl (congrArg Value.bool hb280) ?_
                refine HList.gskips rfl rfl rfl rfl (congrArg Value.bool hb280) ?_
                refine HList.gskips rfl rfl rfl rfl (congrArg Value.bool hb280) ?_
                refine HList.vals (v := (.bool false)) rfl (HVal.pickF rfl hb280 rfl) ?_
                refine HList.vals (v := (.bool false)) rfl (HVal.move' rfl) ?_
                refine HList.gskips rfl rfl rfl rfl rfl ?_
                refine HList.gskips rfl rfl rfl rfl rfl ?_
                refine HList.gskips rfl rfl rfl rfl rfl ?_
                refine HList.vals (v := (.bool false)) rfl (HVal.pickF rfl rfl rfl) ?_
                refine HList.vals (v := (.bool false)) rfl (HVal.assign' rfl) ?_
                refine HList.nil ?_
                refine nt ?_
                refine HW.ret ?_
                exact ⟨_, resOf1 rfl Res1.t, ⟨false, rfl, h⟩⟩
            · have h := hF hb264
              clear hT hF
              refine HList.gskips rfl rfl rfl rfl (congrArg Value.bool hb264) ?_
              refine HList.gskips rfl rfl rfl rfl (congrArg Value.bool hb264) ?_
              refine HList.gskips rfl rfl rfl rfl (congrArg Value.bool hb264) ?_
              refine HList.vals (v := (.bool false)) rfl (HVal.pickF rfl hb264 rfl) ?_
              refine HList.vals (v := (.bool false)) rfl (HVal.move' rfl) ?_
              refine HList.gskips rfl rfl rfl rfl rfl ?_
              refine HList.gskips rfl rfl rfl rfl rfl ?_
              refine HList.gskips rfl rfl rfl rfl rfl ?_
              refine HList.gskips rfl rfl rfl rfl rfl ?_
              refine HList.vals (v := (.bool false)) rfl (HVal.pickF rfl rfl rfl) ?_
              refine HList.vals (v := (.bool false)) rfl (HVal.move' rfl) ?_
              refine HList.gskips rfl rfl rfl rfl rfl ?_
              refine HList.gskips rfl rfl rfl rfl rfl ?_
              refine HList.gskips rfl rfl rfl rfl rfl ?_
              refine HList.vals (v := (.bool false)) rfl (HVal.pickF rfl rfl rfl) ?_
              refine HList.vals (v := (.bool false)) rfl (HVal.assign' rfl) ?_
              refine HList.nil ?_
              refine nt ?_
              refine HW.ret ?_
              exact ⟨_, resOf1 rfl Res1.t, ⟨false, rfl, h⟩⟩
        · have h := hB3
          clear hB1 hB3
          refine HBr.ops' [(1, none), (2, none), (4, none)] rfl (by kernel_rfl) (by kernel_rfl) rfl rfl rfl (HOp.alloc Tryd.zeroValue41) ?_
          rintro _ H311 ⟨rfl, e312⟩
          replace h := h H311 e312
          obtain ⟨s313, h⟩ := h
          refine ⟨SC_of ⟨fun _ => s313, trivial⟩, ?_⟩
          refine HPlan.ops' rfl rfl (HOp.call' 19 [(.int .i64 1)] (cap := []) rfl rfl Tryd.call19 (walk19 h)) ?_
          rintro _ H314 ⟨r316, r317, r318, r319, r320, r321, r322, r323, r324, r325, rfl, h⟩
          obtain ⟨s326, h⟩ := h
          refine ⟨SC_of ⟨fun _ => s326, trivial⟩, ?_⟩
          refine HPlan.ops' rfl rfl (HOp.call' 18 [(.int .i64 3), (.agg #[(.int .i64 x129), (.int .i64 x130), (.int .i64 x131), (.int .i64 x132), (.string x133), (.bool x134), (.string x135), (.int .i64 x136), (.string x137), (Sl.v x138)]), (.agg #[(.int .i64 r316), (.int .i64 r317), (.int .i64 r318), (.int .i64 r319), (.string r320), (.bool r321), (.string r322), (.int .i64 r323), (.string r324), (Sl.v r325)])] (cap := []) rfl rfl Tryd.call18 (walk18 h)) ?_
          rintro _ H327 ⟨r329, r330, r331, r332, r333, r334, r335, r336, r337, r338, rfl, h⟩
          refine ⟨SC_of ⟨fun e => absurd e (by decide), trivial⟩, ?_⟩
          obtain ⟨z341, h⟩ := h
          refine HPlan.opsn rfl (HOp.storeN' (l := [(.int .i64 r329), (.int .i64 r330), (.int .i64 r331), (.int .i64 r332), (.string r333), (.bool r334), (.string r335), (.int .i64 r336), (.string r337), (Sl.v r338)]) Tryd.sizeOf41 rfl rfl rfl z341) ?_
          rintro _ H339 e340
          replace h := h H339 e340
          refine ⟨SC_of ⟨fun e => absurd e (by decide), trivial⟩, ?_⟩
          refine HPlan.done ?_
          refine nt ?_
          refine HW.seq ?_
          refine HW.region ?_
          obtain ⟨x343, x344, x345, x346, x347, x348, x349, x350, x351, x352, c342, h⟩ := h
          refine HList.vals (v := (.agg #[(.int .i64 x343), (.int .i64 x344), (.int .i64 x345), (.int .i64 x346), (.string x347), (.bool x348), (.string x349), (.int .i64 x350), (.string x351), (Sl.v x352)])) rfl (HVal.loadN [(.int .i64 x343), (.int .i64 x344), (.int .i64 x345), (.int .i64 x346), (.string x347), (.bool x348), (.string x349), (.int .i64 x350), (.string x351), (Sl.v x352)] Tryd.isAgg41 Tryd.sizeOf41 rfl c342) ?_
          refine HList.vals (v := (.agg #[(Sl.v Sl.nil), (Sl.v Sl.nil), (.string (ByteArray.mk #[])), (.string (ByteArray.mk #[])), (.int .i64 0), (Sl.v Sl.nil), (Sl.v Sl.nil)])) rfl (HVal.build' (cs := [(Sl.v Sl.nil), (Sl.v Sl.nil), (.string (ByteArray.mk #[])), (.string (ByteArray.mk #[])), (.int .i64 0), (Sl.v Sl.nil), (Sl.v Sl.nil)]) Tryd.runUnderlying43 Tryd.zeroValue43 places43 (by kernel_rfl)) ?_
          refine HList.vals (v := (.int .i64 p0)) rfl (HVal.move' rfl) ?_
          refine HList.vals (v := (.int .i64 (IntKind.i64.wrap (0 - p0)))) rfl (HVal.neg rfl) ?_
          refine HList.ops' rfl (HOp.call' 13 [(.agg #[(.int .i64 x343), (.int .i64 x344), (.int .i64 x345), (.int .i64 x346), (.string x347), (.bool x348), (.string x349), (.int .i64 x350), (.string x351), (Sl.v x352)]), (.agg #[(Sl.v Sl.nil), (Sl.v Sl.nil), (.string (ByteArray.mk #[])), (.string (ByteArray.mk #[])), (.int .i64 0), (Sl.v Sl.nil), (Sl.v Sl.nil)]), (.int .i64 (IntKind.i64.wrap (0 - p0)))] (cap := []) rfl rfl Tryd.call13 (walk13 h)) ?_
          rintro _ H353 ⟨r355, rfl, h⟩
          refine HList.vals (v := (.bool r355)) rfl (HVal.move' rfl) ?_
          obtain ⟨hT, hF⟩ := h
          rcases Bool.eq_false_or_eq_true r355 with hb356 | hb357
          · have h := hT hb356
            clear hT hF
            obtain ⟨x359, x360, x361, x362, x363, x364, x365, x366, x367, x368, c358, h⟩ := h
            refine HList.gvals (v := (.agg #[(.int .i64 x359), (.int .i64 x360), (.int .i64 x361), (.int .i64 x362), (.string x363), (.bool x364), (.string x365), (.int .i64 x366), (.string x367), (Sl.v x368)])) rfl rfl rfl rfl (congrArg Value.bool hb356) (HVal.loadN [(.int .i64 x359), (.int .i64 x360), (.int .i64 x361), (.int .i64 x362), (.string x363), (.bool x364), (.string x365), (.int .i64 x366), (.string x367), (Sl.v x368)] Tryd.isAgg41 Tryd.sizeOf41 rfl c358) ?_
            refine HList.gvals (v := (.agg #[(Sl.v Sl.nil), (Sl.v Sl.nil), (.string (ByteArray.mk #[])), (.string (ByteArray.mk #[])), (.int .i64 0), (Sl.v Sl.nil), (Sl.v Sl.nil)])) rfl rfl rfl rfl (congrArg Value.bool hb356) (HVal.build' (cs := [(Sl.v Sl.nil), (Sl.v Sl.nil), (.string (ByteArray.mk #[])), (.string (ByteArray.mk #[])), (.int .i64 0), (Sl.v Sl.nil), (Sl.v Sl.nil)]) Tryd.runUnderlying43 Tryd.zeroValue43 places43 (by kernel_rfl)) ?_
            refine HList.gops rfl rfl rfl rfl (congrArg Value.bool hb356) (HOp.call' 15 [(.agg #[(.int .i64 x359), (.int .i64 x360), (.int .i64 x361), (.int .i64 x362), (.string x363), (.bool x364), (.string x365), (.int .i64 x366), (.string x367), (Sl.v x368)]), (.agg #[(Sl.v Sl.nil), (Sl.v Sl.nil), (.string (ByteArray.mk #[])), (.string (ByteArray.mk #[])), (.int .i64 0), (Sl.v Sl.nil), (Sl.v Sl.nil)]), (.int .i64 71)] (cap := []) rfl rfl Tryd.call15 (walk15 h)) ?_
            rintro _ H369 ⟨r371, rfl, h⟩
            refine HList.vals (v := (.bool r371)) rfl (HVal.pickT rfl hb356 rfl) ?_
            refine HList.vals (v := (.bool r371)) rfl (HVal.move' rfl) ?_
            obtain ⟨hT, hF⟩ := h
            rcases Bool.eq_false_or_eq_true r371 with hb372 | hb373
            · have h := hT hb372
              clear hT hF
              obtain ⟨x375, x376, x377, x378, x379, x380, x381, x382, x383, x384, c374, h⟩ := h
              refine HList.gvals (v := (.agg #[(.int .i64 x375), (.int .i64 x376), (.int .i64 x377), (.int .i64 x378), (.string x379), (.bool x380), (.string x381), (.int .i64 x382), (.string x383), (Sl.v x384)])) rfl rfl rfl rfl (congrArg Value.bool hb372) (HVal.loadN [(.int .i64 x375), (.int .i64 x376), (.int .i64 x377), (.int .i64 x378), (.string x379), (.bool x380), (.string x381), (.int .i64 x382), (.string x383), (Sl.v x384)] Tryd.isAgg41 Tryd.sizeOf41 rfl c374) ?_
              refine HList.gvals (v := (.agg #[(Sl.v Sl.nil), (Sl.v Sl.nil), (.string (ByteArray.mk #[])), (.string (ByteArray.mk #[])), (.int .i64 0), (Sl.v Sl.nil), (Sl.v Sl.nil)])) rfl rfl rfl rfl (congrArg Value.bool hb372) (HVal.build' (cs := [(Sl.v Sl.nil), (Sl.v Sl.nil), (.string (ByteArray.mk #[])), (.string (ByteArray.mk #[])), (.int .i64 0), (Sl.v Sl.nil), (Sl.v Sl.nil)]) Tryd.runUnderlying43 Tryd.zeroValue43 places43 (by kernel_rfl)) ?_
              refine HList.gvals (v := (.int .i64 y127)) rfl rfl rfl rfl (congrArg Value.bool hb372) (HVal.move' rfl) ?_
              refine HList.gops rfl rfl rfl rfl (congrArg Value.bool hb372) (HOp.call' 13 [(.agg #[(.int .i64 x375), (.int .i64 x376), (.int .i64 x377), (.int .i64 x378), (.string x379), (.bool x380), (.string x381), (.int .i64 x382), (.string x383), (Sl.v x384)]), (.agg #[(Sl.v Sl.nil), (Sl.v Sl.nil), (.string (ByteArray.mk #[])), (.string (ByteArray.mk #[])), (.int .i64 0), (Sl.v Sl.nil), (Sl.v Sl.nil)]), (.int .i64 y127)] (cap := []) rfl rfl Tryd.call13 (walk13 h)) ?_
              rintro _ H385 ⟨r387, rfl, h⟩
              refine HList.vals (v := (.bool r387)) rfl (HVal.pickT rfl hb372 rfl) ?_
              refine HList.vals (v := (.bool r387)) rfl (HVal.move' rfl) ?_
              obtain ⟨hT, hF⟩ := h
              rcases Bool.eq_false_or_eq_true r387 with hb388 | hb389
              · have h := hT hb388
                clear hT hF
                obtain ⟨x391, x392, x393, x394, x395, x396, x397, x398, x399, x400, c390, h⟩ := h
                refine HList.gvals (v := (.agg #[(.int .i64 x391), (.int .i64 x392), (.int .i64 x393), (.int .i64 x394), (.string x395), (.bool x396), (.string x397), (.int .i64 x398), (.string x399), (Sl.v x400)])) rfl rfl rfl rfl (congrArg Value.bool hb388) (HVal.loadN [(.int .i64 x391), (.int .i64 x392), (.int .i64 x393), (.int .i64 x394), (.string x395), (.bool x396), (.string x397), (.int .i64 x398), (.string x399), (Sl.v x400)] Tryd.isAgg41 Tryd.sizeOf41 rfl c390) ?_
                refine HList.gvals (v := (.agg #[(Sl.v Sl.nil), (Sl.v Sl.nil), (.string (ByteArray.mk #[])), (.string (ByteArray.mk #[])), (.int .i64 0), (Sl.v Sl.nil), (Sl.v Sl.nil)])) rfl rfl rfl rfl (congrArg Value.bool hb388) (HVal.build' (cs := [(Sl.v Sl.nil), (Sl.v Sl.nil), (.string (ByteArray.mk #[])), (.string (ByteArray.mk #[])), (.int .i64 0), (Sl.v Sl.nil), (Sl.v Sl.nil)]) Tryd.runUnderlying43 Tryd.zeroValue43 places43 (by kernel_rfl)) ?_
                refine HList.gops rfl rfl rfl rfl (congrArg Value.bool hb388) (HOp.call' 15 [(.agg #[(.int .i64 x391), (.int .i64 x392), (.int .i64 x393), (.int .i64 x394), (.string x395), (.bool x396), (.string x397), (.int .i64 x398), (.string x399), (Sl.v x400)]), (.agg #[(Sl.v Sl.nil), (Sl.v Sl.nil), (.string (ByteArray.mk #[])), (.string (ByteArray.mk #[])), (.int .i64 0), (Sl.v Sl.nil), (Sl.v Sl.nil)]), (.int .i64 71)] (cap := []) rfl rfl Tryd.call15 (walk15 h)) ?_
                rintro _ H401 ⟨r403, rfl, h⟩
                refine HList.vals (v := (.bool r403)) rfl (HVal.pickT rfl hb388 rfl) ?_
                refine HList.vals (v := (.bool r403)) rfl (HVal.assign' rfl) ?_
                refine HList.nil ?_
                refine nt ?_
                refine HW.ret ?_
                exact ⟨_, resOf1 rfl Res1.t, ⟨r403, rfl, h⟩⟩
              · have h := hF hb389
                clear hT hF
                refine HList.gskips rfl rfl rfl rfl (congrArg Value.bool hb389) ?_
                refine HList.gskips rfl rfl rfl rfl (congrArg Value.bool hb389) ?_
                refine HList.gskips rfl rfl rfl rfl (congrArg Value.bool hb389) ?_
                refine HList.vals (v := (.bool false)) rfl (HVal.pickF rfl hb389 rfl) ?_
                refine HList.vals (v := (.bool false)) rfl (HVal.assign' rfl) ?_
                refine HList.nil ?_
                refine nt ?_
                refine HW.ret ?_
                exact ⟨_, resOf1 rfl Res1.t, ⟨false, rfl, h⟩⟩
            · have h := hF hb373
              clear hT hF
              refine HList.gskips rfl rfl rfl rfl (congrArg Value.bool hb373) ?_
              refine HList.gskips rfl rfl rfl rfl (congrArg Value.bool hb373) ?_
              refine HList.gskips rfl rfl rfl rfl (congrArg Value.bool hb373) ?_
              refine HList.gskips rfl rfl rfl rfl (congrArg Value.bool hb373) ?_
              refine HList.vals (v := (.bool false)) rfl (HVal.pickF rfl hb373 rfl) ?_
              refine HList.vals (v := (.bool false)) rfl (HVal.move' rfl) ?_
              refine HList.gskips rfl rfl rfl rfl rfl ?_
              refine HList.gskips rfl rfl rfl rfl rfl ?_
              refine HList.gskips rfl rfl rfl rfl rfl ?_
              refine HList.vals (v := (.bool false)) rfl (HVal.pickF rfl rfl rfl) ?_
              refine HList.vals (v := (.bool false)) rfl (HVal.assign' rfl) ?_
              refine HList.nil ?_
              refine nt ?_
              refine HW.ret ?_
              exact ⟨_, resOf1 rfl Res1.t, ⟨false, rfl, h⟩⟩
          · have h := hF hb357
            clear hT hF
            refine HList.gskips rfl rfl rfl rfl (congrArg Value.bool hb357) ?_
            refine HList.gskips rfl rfl rfl rfl (congrArg Value.bool hb357) ?_
            refine HList.gskips rfl rfl rfl rfl (congrArg Value.bool hb357) ?_
            refine HList.vals (v := (.bool false)) rfl (HVal.pickF rfl hb357 rfl) ?_
            refine HList.vals (v := (.bool false)) rfl (HVal.move' rfl) ?_
            refine HList.gskips rfl rfl rfl rfl rfl ?_
            refine HList.gskips rfl rfl rfl rfl rfl ?_
            refine HList.gskips rfl rfl rfl rfl rfl ?_
            refine HList.gskips rfl rfl rfl rfl rfl ?_
            refine HList.vals (v := (.bool false)) rfl (HVal.pickF rfl rfl rfl) ?_
            refine HList.vals (v := (.bool false)) rfl (HVal.move' rfl) ?_
            refine HList.gskips rfl rfl rfl rfl rfl ?_
            refine HList.gskips rfl rfl rfl rfl rfl ?_
            refine HList.gskips rfl rfl rfl rfl rfl ?_
            refine HList.vals (v := (.bool false)) rfl (HVal.pickF rfl rfl rfl) ?_
            refine HList.vals (v := (.bool false)) rfl (HVal.assign' rfl) ?_
            refine HList.nil ?_
            refine nt ?_
            refine HW.ret ?_
            exact ⟨_, resOf1 rfl Res1.t, ⟨false, rfl, h⟩⟩

end Go.Hw
