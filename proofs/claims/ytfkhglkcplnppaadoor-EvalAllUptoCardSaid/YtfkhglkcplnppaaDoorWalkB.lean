/- The walks of this seat, printed by a program of this session (wip/tools/gen.py): of each function what it does to the heap, and that it does so. -/
import Derived.Test.YtfkhglkcplnppaaDoorHwZ
import Derived.Test.YtfkhglkcplnppaaDoorProg
import Derived.Test.YtfkhglkcplnppaaDoorWAux
import Derived.Test.YtfkhglkcplnppaaDoorWalkA
set_option linter.unusedVariables false
set_option linter.unusedSimpArgs false
set_option maxRecDepth 100000
set_option maxHeartbeats 4000000
namespace Go.Hw
open Go Go.Proofs Tryd
def F64_7 (Q : ZQV) (y227 : Addr) (y295 : Int) (H_7 : Hp) : Prop :=
F47 y295 H_7 (fun r298 r299 r300 r301 H296 =>
 mayw H296 y227 4 0 ∧ ∀ H302, H302 = sets H296 y227 (vR r298 r299 r300 r301) 0 → (
 ∃ x305 x306 x307 x308, cells H302 y227 (vR x305 x306 x307 x308) 0 ∧ (
 Q x305 x306 x307 x308 0 H302)))
def F64_9 (Q : ZQV) (X8 : Int → ZQI) (y234 y235 : Addr) (y236 : Sl) (y237 y247 : Int) (H_9 : Hp) : Prop :=
X8 y247 (IntKind.i64.wrap (y237 + 1)) H_9
def F64_10 (Q : ZQV) (X8 : Int → ZQI) (y248 y249 : Addr) (y250 : Sl) (y251 y252 : Int) (y255 : Bool) (H_10 : Hp) : Prop :=
(y255 = true → (∃ a289, (y250).b = some a289 ∧ (0 : Int) ≤ y252 ∧ y252 < ((y250).n : Int) ∧ (
 ∃ x294, cell H_10 (Addr.add a289 (y252.toNat * 1)) = some (iv x294) ∧ (
 F64_9 Q X8 y248 y249 y250 y252 x294 H_10)))) ∧
 (y255 = false → (F64_9 Q X8 y248 y249 y250 y252 y251 H_10))
def F64_L8b (Q : ZQV) (X8 : Int → ZQI) (y230 y231 : Addr) (y232 : Sl) (y228 y229 : Int) (H_8 : Hp) : Prop :=
((decide (y229 < ((y232).n : Int))) = true → (∃ x239, cell H_8 (Addr.add y230 1) = some (iv x239) ∧ (
 (decide (x239 = 2) = true → (∃ a241, (y232).b = some a241 ∧ (0 : Int) ≤ y229 ∧ y229 < ((y232).n : Int) ∧ (
 ∃ x246, cell H_8 (Addr.add a241 (y229.toNat * 1)) = some (iv x246) ∧ (
 F64_9 Q X8 y230 y231 y232 y229 (IntKind.i64.wrap (y228 + x246)) H_8)))) ∧
 (decide (x239 = 2) = false → ((decide (y229 = 0) = true → (F64_10 Q X8 y230 y231 y232 y228 y229 true H_8)) ∧
 (decide (y229 = 0) = false → (∃ x257, cell H_8 (Addr.add y230 1) = some (iv x257) ∧ (
 (decide (x257 = 3) = true → (∃ a260, (y232).b = some a260 ∧ (0 : Int) ≤ y229 ∧ y229 < ((y232).n : Int) ∧ (
 ∃ x265, cell H_8 (Addr.add a260 (y229.toNat * 1)) = some (iv x265) ∧ (
 (decide (x265 < y228) = true → (F64_10 Q X8 y230 y231 y232 y228 y229 true H_8)) ∧
 (decide (x265 < y228) = false → (∃ x269, cell H_8 (Addr.add y230 1) = some (iv x269) ∧ (
 (decide (x269 = 4) = true → (∃ a272, (y232).b = some a272 ∧ (0 : Int) ≤ y229 ∧ y229 < ((y232).n : Int) ∧ (
 ∃ x277, cell H_8 (Addr.add a272 (y229.toNat * 1)) = some (iv x277) ∧ (
 F64_10 Q X8 y230 y231 y232 y228 y229 (decide (y228 < x277)) H_8)))) ∧
 (decide (x269 = 4) = false → (F64_10 Q X8 y230 y231 y232 y228 y229 false H_8))))))))) ∧
 (decide (x257 = 3) = false → (∃ x279, cell H_8 (Addr.add y230 1) = some (iv x279) ∧ (
 (decide (x279 = 4) = true → (∃ a282, (y232).b = some a282 ∧ (0 : Int) ≤ y229 ∧ y229 < ((y232).n : Int) ∧ (
 ∃ x287, cell H_8 (Addr.add a282 (y229.toNat * 1)) = some (iv x287) ∧ (
 F64_10 Q X8 y230 y231 y232 y228 y229 (decide (y228 < x287)) H_8)))) ∧
 (decide (x279 = 4) = false → (F64_10 Q X8 y230 y231 y232 y228 y229 false H_8))))))))))))) ∧
 ((decide (y229 < ((y232).n : Int))) = false → (F64_7 Q y231 y228 H_8))
def F64_L8 (Q : ZQV) (y230 y231 : Addr) (y232 : Sl) (y228 y229 : Int) (H_8 : Hp) : Prop :=
 ∀ X8 : Int → ZQI, (∀ (y228 y229 : Int) (H_8 : Hp), F64_L8b Q X8 y230 y231 y232 y228 y229 H_8 → X8 y228 y229 H_8) → X8 y228 y229 H_8
def F64_6 (Q : ZQV) (y204 y205 y206 : Addr) (y207 : Sl) (y212 : Bool) (H_6 : Hp) : Prop :=
(y212 = true → (∃ x215 x216 x217 x218, cells H_6 y206 (vR x215 x216 x217 x218) 0 ∧ (
 mayw H_6 y205 4 0 ∧ ∀ H219, H219 = sets H_6 y205 (vR x215 x216 x217 x218) 0 → (
 ∃ x222 x223 x224 x225, cells H219 y205 (vR x222 x223 x224 x225) 0 ∧ (
 Q x222 x223 x224 x225 110 H219))))) ∧
 (y212 = false → (F64_L8 Q y204 y205 y207 0 0 H_6))
def F64_3 (Q : ZQV) (y107 y108 y109 : Addr) (y203 : Sl) (H_3 : Hp) : Prop :=
((decide (((y203).n : Int) = 0)) = true → (∃ x211, cell H_3 (Addr.add y107 1) = some (iv x211) ∧ (
 F64_6 Q y107 y108 y109 y203 (decide ((2 : Int) < x211)) H_3))) ∧
 ((decide (((y203).n : Int) = 0)) = false → (F64_6 Q y107 y108 y109 y203 false H_3))
def F64_5 (Q : ZQV) (X4 : Sl → ZQI) (y118 y119 y120 y121 : Addr) (y122 y123 : Sl) (y124 : Int) (y149 : Addr) (y150 : Int) (H_5 : Hp) : Prop :=
(decide (y150 ≠ 0) = true → (∃ x168 x169 x170 x171, cells H_5 y121 (vR x168 x169 x170 x171) 0 ∧ (
 mayw H_5 y120 4 0 ∧ ∀ H172, H172 = sets H_5 y120 (vR x168 x169 x170 x171) 0 → (
 ∃ x175 x176 x177 x178, cells H172 y120 (vR x175 x176 x177 x178) 0 ∧ (
 Q x175 x176 x177 x178 y150 H172))))) ∧
 (decide (y150 ≠ 0) = false → (∃ x181, cell H_5 y149 = some (iv x181) ∧ (
 (decide (x181 ≠ 1) = true → (∃ x184 x185 x186 x187, cells H_5 y121 (vR x184 x185 x186 x187) 0 ∧ (
 mayw H_5 y120 4 0 ∧ ∀ H188, H188 = sets H_5 y120 (vR x184 x185 x186 x187) 0 → (
 ∃ x191 x192 x193 x194, cells H188 y120 (vR x191 x192 x193 x194) 0 ∧ (
 Q x191 x192 x193 x194 10 H188))))) ∧
 (decide (x181 ≠ 1) = false → (∃ x197, cell H_5 (Addr.add y149 1) = some (iv x197) ∧ (
 ∀ H198, H198 = Array.push H_5 (.cells #[(iv x197)] 2) → (
 AppendF H198 2 1 8 #[(iv 0)] y123 ((Sl.mk (some (bk H_5)) 1 1)).b ((Sl.mk (some (bk H_5)) 1 1)).n (fun r202 H200 =>
 X4 r202 (IntKind.i64.wrap (y124 + 1)) H200))))))))
def F64_L4b (Q : ZQV) (X4 : Sl → ZQI) (y112 y113 y114 y115 : Addr) (y116 y110 : Sl) (y111 : Int) (H_4 : Hp) : Prop :=
((decide (y111 < ((y116).n : Int))) = true → (∃ a125, (y116).b = some a125 ∧ (0 : Int) ≤ y111 ∧ y111 < ((y116).n : Int) ∧ (
 ∃ x130 x131 x132, cells H_4 (Addr.add a125 (y111.toNat * 3)) (tR x130 x131 x132) 0 ∧ (
 ∃ x134, cell H_4 (Addr.add y112 8) = some (sv x134) ∧ (
 ∃ x136, cell H_4 (Addr.add y113 6) = some (Sl.v x136) ∧ (
 (F29 x130 x131 x132 x134 x136 H_4 (fun r139 r140 r141 r142 r143 H137 =>
 ∀ H144, H144 = Array.push H137 (.cells (vR 0 0 bE false).toArray 38) → (
 mayw H144 (bk H137) 4 0 ∧ ∀ H146, H146 = sets H144 (bk H137) (vR r139 r140 r141 r142) 0 → (
 F64_5 Q X4 y112 y113 y114 y115 y116 y110 y111 (bk H137) r143 H146)))) ∧
 (∀ H151, H151 = Array.push H_4 (.cells (vR 0 0 bE false).toArray 38) → (
 cell H151 (Addr.add y113 6) = some (Sl.v x136) ∧ cell H151 (Addr.add y112 8) = some (sv x134) ∧ cells H151 (Addr.add a125 (y111.toNat * 3)) (tR x130 x131 x132) 0 ∧ (
 F29 x130 x131 x132 x134 x136 H151 (fun r158 r159 r160 r161 r162 H156 =>
 mayw H156 (bk H_4) 4 0 ∧ ∀ H163, H163 = sets H156 (bk H_4) (vR r158 r159 r160 r161) 0 → (
 F64_5 Q X4 y112 y113 y114 y115 y116 y110 y111 (bk H_4) r162 H163))))))))))) ∧
 ((decide (y111 < ((y116).n : Int))) = false → (F64_3 Q y112 y114 y115 y110 H_4))
def F64_L4 (Q : ZQV) (y112 y113 y114 y115 : Addr) (y116 y110 : Sl) (y111 : Int) (H_4 : Hp) : Prop :=
 ∀ X4 : Sl → ZQI, (∀ (y110 : Sl) (y111 : Int) (H_4 : Hp), F64_L4b Q X4 y112 y113 y114 y115 y116 y110 y111 H_4 → X4 y110 y111 H_4) → X4 y110 y111 H_4
def F64_2 (Q : ZQV) (y56 y57 y58 y59 : Addr) (y60 : Sl) (y63 : Bool) (H_2 : Hp) : Prop :=
(y63 = true → (∃ x78 x79 x80 x81, cells H_2 y59 (vR x78 x79 x80 x81) 0 ∧ (
 mayw H_2 y58 4 0 ∧ ∀ H82, H82 = sets H_2 y58 (vR x78 x79 x80 x81) 0 → (
 ∃ x85 x86 x87 x88, cells H82 y58 (vR x85 x86 x87 x88) 0 ∧ (
 Q x85 x86 x87 x88 110 H82))))) ∧
 (y63 = false → (∃ x91, cell H_2 (Addr.add y56 1) = some (iv x91) ∧ (
 (decide (x91 = 1) = true → (F47 ((y60).n : Int) H_2 (fun r95 r96 r97 r98 H93 =>
 mayw H93 y58 4 0 ∧ ∀ H99, H99 = sets H93 y58 (vR r95 r96 r97 r98) 0 → (
 ∃ x102 x103 x104 x105, cells H99 y58 (vR x102 x103 x104 x105) 0 ∧ (
 Q x102 x103 x104 x105 0 H99))))) ∧
 (decide (x91 = 1) = false → (F64_L4 Q y56 y57 y58 y59 y60 Sl.nil 0 H_2)))))
def F64_1 (Q : ZQV) (y9 y10 y11 y12 : Addr) (y17 : Bool) (H_1 : Hp) : Prop :=
(y17 = true → (∃ x30 x31 x32 x33, cells H_1 y12 (vR x30 x31 x32 x33) 0 ∧ (
 mayw H_1 y11 4 0 ∧ ∀ H34, H34 = sets H_1 y11 (vR x30 x31 x32 x33) 0 → (
 ∃ x37 x38 x39 x40, cells H34 y11 (vR x37 x38 x39 x40) 0 ∧ (
 Q x37 x38 x39 x40 60 H34))))) ∧
 (y17 = false → (∃ x43 x44 x45 x46 x47 x48 x49, cells H_1 y10 (xR x43 x44 x45 x46 x47 x48 x49) 0 ∧ (
 ∃ x51, cell H_1 (Addr.add y9 6) = some (sv x51) ∧ (
 F75 x43 x44 x45 x46 x47 x48 x49 x51 H_1 (fun r54 r55 H52 =>
 ((!r55) = true → (F64_2 Q y9 y10 y11 y12 r54 true H52)) ∧
 ((!r55) = false → (∃ x65, cell H52 (Addr.add y9 7) = some (iv x65) ∧ (
 (decide (x65 = 7) = true → (∃ x69, cell H52 (Addr.add y9 6) = some (sv x69) ∧ (
 ∃ x71, cell H52 (Addr.add y10 2) = some (sv x71) ∧ (
 ((!(seq x69 x71)) = true → (F64_2 Q y9 y10 y11 y12 r54 true H52)) ∧
 ((!(seq x69 x71)) = false → (∃ x75, cell H52 (Addr.add y10 2) = some (sv x75) ∧ (
 F64_2 Q y9 y10 y11 y12 r54 (seq x75 bE) H52))))))) ∧
 (decide (x65 = 7) = false → (F64_2 Q y9 y10 y11 y12 r54 false H52))))))))))
def F64 (p0_0 p0_1 p0_2 p0_3 : Int) (p0_4 : ByteArray) (p0_5 : Bool) (p0_6 : ByteArray) (p0_7 : Int) (p0_8 : ByteArray) (p0_9 p1_0 p1_1 : Sl) (p1_2 p1_3 : ByteArray) (p1_4 : Int) (p1_5 p1_6 : Sl) (H : Hp) (Q : ZQV) : Prop :=
∀ H1, H1 = Array.push H (.cells (eR p0_0 p0_1 p0_2 p0_3 p0_4 p0_5 p0_6 p0_7 p0_8 p0_9).toArray 41) → (
 ∀ H3, H3 = Array.push H1 (.cells (xR p1_0 p1_1 p1_2 p1_3 p1_4 p1_5 p1_6).toArray 43) → (
 ∀ H5, H5 = Array.push H3 (.cells (vR 0 0 bE false).toArray 38) → (
 ∀ H7, H7 = Array.push H5 (.cells (vR 0 0 bE false).toArray 38) → (
 ∃ x14, cell H7 (Addr.add (bk H) 1) = some (iv x14) ∧ (
 (decide (x14 < 1) = true → (F64_1 Q (bk H) (bk H1) (bk H3) (bk H5) true H7)) ∧
 (decide (x14 < 1) = false → (∃ x19, cell H7 (Addr.add (bk H) 1) = some (iv x19) ∧ (
 ((decide ((4 : Int) < x19)) = true → (F64_1 Q (bk H) (bk H1) (bk H3) (bk H5) true H7)) ∧
 ((decide ((4 : Int) < x19)) = false → (∃ x23, cell H7 (Addr.add (bk H) 7) = some (iv x23) ∧ (
 (decide (x23 ≠ 6) = true → (∃ x27, cell H7 (Addr.add (bk H) 7) = some (iv x27) ∧ (
 F64_1 Q (bk H) (bk H1) (bk H3) (bk H5) (decide (x27 ≠ 7)) H7))) ∧
 (decide (x23 ≠ 6) = false → (F64_1 Q (bk H) (bk H1) (bk H3) (bk H5) false H7)))))))))))))
theorem walk64 {w0 : World} {p0_0 p0_1 p0_2 p0_3 : Int} {p0_4 : ByteArray} {p0_5 : Bool} {p0_6 : ByteArray} {p0_7 : Int} {p0_8 : ByteArray} {p0_9 p1_0 p1_1 : Sl} {p1_2 p1_3 : ByteArray} {p1_4 : Int} {p1_5 p1_6 : Sl} {H : Hp} {Q : ZQV} (h : F64 p0_0 p0_1 p0_2 p0_3 p0_4 p0_5 p0_6 p0_7 p0_8 p0_9 p1_0 p1_1 p1_2 p1_3 p1_4 p1_5 p1_6 H Q) :
  Good prog w0 64 #[(.agg (eR p0_0 p0_1 p0_2 p0_3 p0_4 p0_5 p0_6 p0_7 p0_8 p0_9).toArray), (.agg (xR p1_0 p1_1 p1_2 p1_3 p1_4 p1_5 p1_6).toArray)] H (fun v H => ∃ r0 r1 r2 r3 r4, v = (.tuple #[(.agg (vR r0 r1 r2 r3).toArray), (iv r4)]) ∧ Q r0 r1 r2 r3 r4 H) := by
 unfold F64 at h
 refine Good.enter' (fn := f64) func64 rfl rfl rfl (ws (wr_ (ho rfl (ob (v := .agg (eR p0_0 p0_1 p0_2 p0_3 p0_4 p0_5 p0_6 p0_7 p0_8 p0_9).toArray) rfl) ?_)))
 rintro _ H1 ⟨rfl, e2⟩
 replace h := h H1 e2
 refine ho rfl (ob (v := .agg (xR p1_0 p1_1 p1_2 p1_3 p1_4 p1_5 p1_6).toArray) rfl) ?_
 rintro _ H3 ⟨rfl, e4⟩
 replace h := h H3 e4
 refine ho rfl (HOp.alloc zeroValue38) ?_
 rintro _ H5 ⟨rfl, e6⟩
 replace h := h H5 e6
 refine hv (v := iv 0) rfl (av rfl) (hn (nt (ws (wr_ (ho rfl (HOp.alloc zeroValue38) ?_)))))
 rintro _ H7 ⟨rfl, e8⟩
 replace h := h H7 e8
 refine hn (nt (ws (wc (fun ρ H_1 => ∃ y17, Env.Is ρ [(2, (pp (bk H))), (3, (pp (bk H1))), (4, (pp (bk H3))), (6, (pp (bk H5))), (32, (bv y17))] ∧ F64_1 Q (bk H) (bk H1) (bk H3) (bk H5) y17 H_1) ?_ ?_)))
 ·refine wr_ (hv (v := pp (Addr.add (bk H) 1)) rfl (fa runUnderlying41 rfl rfl sizeOf3 rfl) ?_)
  obtain ⟨x14, c13, h⟩ := h
  refine hv (v := iv x14) rfl (l1 isAgg3 rfl c13) (hv (v := bv (decide (x14 < 1))) rfl (HVal.lss rfl rfl) (hv (v := bv (decide (x14 < 1))) rfl (mv rfl) ?_))
  obtain ⟨hT, hF⟩ := h
  rcases Bool.eq_false_or_eq_true (decide (x14 < 1)) with hb15 | hb16
  ·have h := hT hb15
   refine hs_ rfl rfl rfl rfl (cB hb15) (hs_ rfl rfl rfl rfl (cB hb15) (hs_ rfl rfl rfl rfl (cB hb15) (hv (v := bv true) rfl (pt_ rfl hb15 rfl) ?_)))
   refine hv (v := bv true) rfl (mv rfl) (hs_ rfl rfl rfl rfl rfl (hs_ rfl rfl rfl rfl rfl (hs_ rfl rfl rfl rfl rfl ?_)))
   refine hs_ rfl rfl rfl rfl rfl (HList.uskips rfl rfl rfl rfl rfl (HList.uskips rfl rfl rfl rfl rfl (HList.uskips rfl rfl rfl rfl rfl (hs_ rfl rfl rfl rfl rfl ?_))))
   refine hv (v := bv true) rfl (pt_ rfl rfl rfl) (hn (nt ?_))
   exact ⟨true, (isp rfl), h⟩
  have h := hF hb16
  refine hg (v := pp (Addr.add (bk H) 1)) rfl rfl rfl rfl (cB hb16) (fa runUnderlying41 rfl rfl sizeOf3 rfl) ?_
  obtain ⟨x19, c18, h⟩ := h
  refine hg (v := iv x19) rfl rfl rfl rfl (cB hb16) (l1 isAgg3 rfl c18) (hg (v := bv (decide ((4 : Int) < x19))) rfl rfl rfl rfl (cB hb16) (HVal.gtr rfl rfl) ?_)
  refine hv (v := bv (decide ((4 : Int) < x19))) rfl (pf_ rfl hb16 rfl) (hv (v := bv (decide ((4 : Int) < x19))) rfl (mv rfl) ?_)
  obtain ⟨hT, hF⟩ := h
  rcases Bool.eq_false_or_eq_true (decide ((4 : Int) < x19)) with hb20 | hb21
  ·have h := hT hb20
   refine hs_ rfl rfl rfl rfl (cB hb20) (hs_ rfl rfl rfl rfl (cB hb20) (hs_ rfl rfl rfl rfl (cB hb20) (hs_ rfl rfl rfl rfl (cB hb20) ?_)))
   refine HList.uskips rfl rfl rfl rfl rfl (HList.uskips rfl rfl rfl rfl rfl (HList.uskips rfl rfl rfl rfl rfl (hs_ rfl rfl rfl rfl (cB hb20) (hv (v := bv true) rfl (pt_ rfl hb20 rfl) ?_))))
   refine hn (nt ?_)
   exact ⟨true, (isp rfl), h⟩
  have h := hF hb21
  refine hg (v := pp (Addr.add (bk H) 7)) rfl rfl rfl rfl (cB hb21) (fa runUnderlying41 rfl rfl sizeOf3 rfl) ?_
  obtain ⟨x23, c22, h⟩ := h
  refine hg (v := iv x23) rfl rfl rfl rfl (cB hb21) (l1 isAgg3 rfl c22) (hg (v := bv (decide (x23 ≠ 6))) rfl rfl rfl rfl (cB hb21) (HVal.neqI rfl rfl) ?_)
  refine hg (v := bv (decide (x23 ≠ 6))) rfl rfl rfl rfl (cB hb21) (mv rfl) ?_
  obtain ⟨hT, hF⟩ := h
  rcases Bool.eq_false_or_eq_true (decide (x23 ≠ 6)) with hb24 | hb25
  ·have h := hT hb24
   refine hg (v := pp (Addr.add (bk H) 7)) rfl rfl rfl rfl (cB hb24) (fa runUnderlying41 rfl rfl sizeOf3 rfl) ?_
   obtain ⟨x27, c26, h⟩ := h
   refine hg (v := iv x27) rfl rfl rfl rfl (cB hb24) (l1 isAgg3 rfl c26) (hg (v := bv (decide (x27 ≠ 7))) rfl rfl rfl rfl (cB hb24) (HVal.neqI rfl rfl) ?_)
   refine hg (v := bv (decide (x27 ≠ 7))) rfl rfl rfl rfl (cB hb21) (pt_ rfl hb24 rfl) (hv (v := bv (decide (x27 ≠ 7))) rfl (pf_ rfl hb21 rfl) ?_)
   refine hn (nt ?_)
   exact ⟨(decide (x27 ≠ 7)), (isp rfl), h⟩
  have h := hF hb25
  refine hs_ rfl rfl rfl rfl (cB hb25) (hs_ rfl rfl rfl rfl (cB hb25) (hs_ rfl rfl rfl rfl (cB hb25) (hg (v := bv false) rfl rfl rfl rfl (cB hb21) (pf_ rfl hb25 rfl) ?_)))
  refine hv (v := bv false) rfl (pf_ rfl hb21 rfl) (hn (nt ?_))
  exact ⟨false, (isp rfl), h⟩
 rintro ρ H_1 ⟨y17, hI, h⟩
 obtain ⟨ρ0, rfl⟩ := hI.ex
 clear hI; unfold F64_1 at h
 obtain ⟨hT, hF⟩ := h
 refine wk y17 rfl (fun hb28 => ?_) (fun hb28 => ?_)
 ·have h := hT hb28
  refine ws (wr_ ?_)
  obtain ⟨x30, x31, x32, x33, c29, h⟩ := h
  refine hv (v := .agg (vR x30 x31 x32 x33).toArray) rfl (ln (vR x30 x31 x32 x33) isAgg38 sizeOf38 rfl c29) ?_
  obtain ⟨z36, h⟩ := h
  refine hq (HOp.storeN' (l := (vR x30 x31 x32 x33)) sizeOf38 rfl rfl rfl z36) ?_
  rintro _ H34 e35
  replace h := h H34 e35
  refine hv (v := iv 60) rfl (av rfl) (hn (nt (HW.ret (tr ?_))))
  obtain ⟨x37, x38, x39, x40, c41, h⟩ := h
  exact ⟨_, resOf2 rfl (Res1.n (vR x37 x38 x39 x40) isAgg38 sizeOf38 rfl c41) Res1.t, ⟨x37, x38, x39, x40, 60, rfl, h⟩⟩
 have h := hF hb28
 refine wp_ (nt (ws (wr_ ?_)))
 obtain ⟨x43, x44, x45, x46, x47, x48, x49, c42, h⟩ := h
 refine hv (v := .agg (xR x43 x44 x45 x46 x47 x48 x49).toArray) rfl (ln (xR x43 x44 x45 x46 x47 x48 x49) isAgg43 sizeOf43 rfl c42) ?_
 refine hv (v := pp (Addr.add (bk H) 6)) rfl (fa runUnderlying41 rfl rfl sizeOf9 rfl) ?_
 obtain ⟨x51, c50, h⟩ := h
 refine hv (v := sv x51) rfl (l1 isAgg9 rfl c50) (ho rfl (HOp.call' 75 [(.agg (xR x43 x44 x45 x46 x47 x48 x49).toArray), (sv x51)] (cap := []) rfl rfl call75 (walk75 h)) ?_)
 rintro _ H52 ⟨r54, r55, rfl, h⟩
 refine hv (v := .tuple #[(Sl.v r54), (bv r55)]) rfl (mv rfl) (hv (v := Sl.v r54) rfl (HVal.extract rfl rfl) (hv (v := bv r55) rfl (HVal.extract rfl rfl) ?_))
 refine hv (v := Sl.v r54) rfl (av rfl) (hv (v := bv r55) rfl (av rfl) (hn (nt (ws (wc (fun ρ H_2 => ∃ y63, Env.Is ρ [(2, (pp (bk H))), (3, (pp (bk H1))), (4, (pp (bk H3))), (6, (pp (bk H5))), (7, (Sl.v r54)), (59, (bv y63))] ∧ F64_2 Q (bk H) (bk H1) (bk H3) (bk H5) r54 y63 H_2) ?_ ?_)))))
 ·refine wr_ (hv (v := bv r55) rfl (mv rfl) (hv (v := bv (!r55)) rfl (HVal.not rfl) (hv (v := bv (!r55)) rfl (mv rfl) ?_)))
  obtain ⟨hT, hF⟩ := h
  rcases Bool.eq_false_or_eq_true (!r55) with hb61 | hb62
  ·have h := hT hb61
   refine hs_ rfl rfl rfl rfl (cB hb61) (hs_ rfl rfl rfl rfl (cB hb61) (hs_ rfl rfl rfl rfl (cB hb61) (hs_ rfl rfl rfl rfl (cB hb61) ?_)))
   refine HList.uskips rfl rfl rfl rfl rfl (HList.uskips rfl rfl rfl rfl rfl (HList.uskips rfl rfl rfl rfl rfl (HList.uskips rfl rfl rfl rfl rfl (HList.uskips rfl rfl rfl rfl rfl ?_))))
   refine HList.uskips rfl rfl rfl rfl rfl (HList.uskips rfl rfl rfl rfl rfl (HList.uskips rfl rfl rfl rfl rfl (HList.uskips rfl rfl rfl rfl rfl (HList.uskips rfl rfl rfl rfl rfl ?_))))
   refine hs_ rfl rfl rfl rfl (cB hb61) (hv (v := bv true) rfl (pt_ rfl hb61 rfl) (hn (nt ?_)))
   exact ⟨true, (isp rfl), h⟩
  have h := hF hb62
  refine hg (v := pp (Addr.add (bk H) 7)) rfl rfl rfl rfl (cB hb62) (fa runUnderlying41 rfl rfl sizeOf3 rfl) ?_
  obtain ⟨x65, c64, h⟩ := h
  refine hg (v := iv x65) rfl rfl rfl rfl (cB hb62) (l1 isAgg3 rfl c64) (hg (v := bv (decide (x65 = 7))) rfl rfl rfl rfl (cB hb62) (HVal.eqlI rfl rfl) ?_)
  refine hg (v := bv (decide (x65 = 7))) rfl rfl rfl rfl (cB hb62) (mv rfl) ?_
  obtain ⟨hT, hF⟩ := h
  rcases Bool.eq_false_or_eq_true (decide (x65 = 7)) with hb66 | hb67
  ·have h := hT hb66
   refine hg (v := pp (Addr.add (bk H) 6)) rfl rfl rfl rfl (cB hb66) (fa runUnderlying41 rfl rfl sizeOf9 rfl) ?_
   obtain ⟨x69, c68, h⟩ := h
   refine hg (v := sv x69) rfl rfl rfl rfl (cB hb66) (l1 isAgg9 rfl c68) (hg (v := pp (Addr.add (bk H1) 2)) rfl rfl rfl rfl (cB hb66) (fa runUnderlying43 rfl rfl sizeOf9 rfl) ?_)
   obtain ⟨x71, c70, h⟩ := h
   refine hg (v := sv x71) rfl rfl rfl rfl (cB hb66) (l1 isAgg9 rfl c70) (hg (v := bv (!(seq x69 x71))) rfl rfl rfl rfl (cB hb66) (HVal.neqS rfl rfl) ?_)
   refine hg (v := bv (!(seq x69 x71))) rfl rfl rfl rfl (cB hb66) (mv rfl) ?_
   obtain ⟨hT, hF⟩ := h
   rcases Bool.eq_false_or_eq_true (!(seq x69 x71)) with hb72 | hb73
   ·have h := hT hb72
    refine hs_ rfl rfl rfl rfl (cB hb72) (hs_ rfl rfl rfl rfl (cB hb72) (hs_ rfl rfl rfl rfl (cB hb72) (hg (v := bv true) rfl rfl rfl rfl (cB hb66) (pt_ rfl hb72 rfl) ?_)))
    refine hg (v := bv true) rfl rfl rfl rfl (cB hb62) (pt_ rfl hb66 rfl) (hv (v := bv true) rfl (pf_ rfl hb62 rfl) (hn (nt ?_)))
    exact ⟨true, (isp rfl), h⟩
   have h := hF hb73
   refine hg (v := pp (Addr.add (bk H1) 2)) rfl rfl rfl rfl (cB hb73) (fa runUnderlying43 rfl rfl sizeOf9 rfl) ?_
   obtain ⟨x75, c74, h⟩ := h
   refine hg (v := sv x75) rfl rfl rfl rfl (cB hb73) (l1 isAgg9 rfl c74) (hg (v := bv (seq x75 bE)) rfl rfl rfl rfl (cB hb73) (HVal.eqlS rfl rfl) ?_)
   refine hg (v := bv (seq x75 bE)) rfl rfl rfl rfl (cB hb66) (pf_ rfl hb73 rfl) (hg (v := bv (seq x75 bE)) rfl rfl rfl rfl (cB hb62) (pt_ rfl hb66 rfl) ?_)
   refine hv (v := bv (seq x75 bE)) rfl (pf_ rfl hb62 rfl) (hn (nt ?_))
   exact ⟨(seq x75 bE), (isp rfl), h⟩
  have h := hF hb67
  refine hs_ rfl rfl rfl rfl (cB hb67) (hs_ rfl rfl rfl rfl (cB hb67) (hs_ rfl rfl rfl rfl (cB hb67) (hs_ rfl rfl rfl rfl (cB hb67) ?_)))
  refine hs_ rfl rfl rfl rfl (cB hb67) (hs_ rfl rfl rfl rfl (cB hb67) (HList.uskips rfl rfl rfl rfl rfl (HList.uskips rfl rfl rfl rfl rfl ?_)))
  refine HList.uskips rfl rfl rfl rfl rfl (hs_ rfl rfl rfl rfl (cB hb67) (hg (v := bv false) rfl rfl rfl rfl (cB hb62) (pf_ rfl hb67 rfl) ?_))
  refine hv (v := bv false) rfl (pf_ rfl hb62 rfl) (hn (nt ?_))
  exact ⟨false, (isp rfl), h⟩
 rintro ρ H_2 ⟨y63, hI, h⟩
 obtain ⟨ρ0, rfl⟩ := hI.ex
 clear hI; unfold F64_2 at h
 obtain ⟨hT, hF⟩ := h
 refine wk y63 rfl (fun hb76 => ?_) (fun hb76 => ?_)
 ·have h := hT hb76
  refine ws (wr_ ?_)
  obtain ⟨x78, x79, x80, x81, c77, h⟩ := h
  refine hv (v := .agg (vR x78 x79 x80 x81).toArray) rfl (ln (vR x78 x79 x80 x81) isAgg38 sizeOf38 rfl c77) ?_
  obtain ⟨z84, h⟩ := h
  refine hq (HOp.storeN' (l := (vR x78 x79 x80 x81)) sizeOf38 rfl rfl rfl z84) ?_
  rintro _ H82 e83
  replace h := h H82 e83
  refine hv (v := iv 110) rfl (av rfl) (hn (nt (HW.ret (tr ?_))))
  obtain ⟨x85, x86, x87, x88, c89, h⟩ := h
  exact ⟨_, resOf2 rfl (Res1.n (vR x85 x86 x87 x88) isAgg38 sizeOf38 rfl c89) Res1.t, ⟨x85, x86, x87, x88, 110, rfl, h⟩⟩
 have h := hF hb76
 refine wp_ (nt (ws (ws (wr_ (hv (v := pp (Addr.add (bk H) 1)) rfl (fa runUnderlying41 rfl rfl sizeOf3 rfl) ?_)))))
 obtain ⟨x91, c90, h⟩ := h
 refine hv (v := iv x91) rfl (l1 isAgg3 rfl c90) (hv (v := bv (decide (x91 = 1))) rfl (HVal.eqlI rfl rfl) (hn (nt ?_)))
 obtain ⟨hT, hF⟩ := h
 refine wk (decide (x91 = 1)) rfl (fun hb92 => ?_) (fun hb92 => ?_)
 ·have h := hT hb92
  refine ws (wr_ (hv (v := Sl.v r54) rfl (mv rfl) (hv (v := iv ((r54).n : Int)) rfl (HVal.len runUnderlying49 rfl) ?_)))
  refine ho rfl (HOp.call' 47 [(iv ((r54).n : Int))] (cap := []) rfl rfl call47 (walk47 h)) ?_
  rintro _ H93 ⟨r95, r96, r97, r98, rfl, h⟩
  obtain ⟨z101, h⟩ := h
  refine hq (HOp.storeN' (l := (vR r95 r96 r97 r98)) sizeOf38 rfl rfl rfl z101) ?_
  rintro _ H99 e100
  replace h := h H99 e100
  refine hv (v := iv 0) rfl (av rfl) (hn (nt (HW.ret (tr ?_))))
  obtain ⟨x102, x103, x104, x105, c106, h⟩ := h
  exact ⟨_, resOf2 rfl (Res1.n (vR x102 x103 x104 x105) isAgg38 sizeOf38 rfl c106) Res1.t, ⟨x102, x103, x104, x105, 0, rfl, h⟩⟩
 have h := hF hb92
 refine wp_ (nt (ws (wr_ (hv (v := sN) rfl (av rfl) (hn (nt (wc (fun ρ H_3 => ∃ y203, Env.Is ρ [(2, (pp (bk H))), (4, (pp (bk H3))), (6, (pp (bk H5))), (9, (Sl.v y203))] ∧ F64_3 Q (bk H) (bk H3) (bk H5) y203 H_3) ?_ ?_)))))))
 ·refine ws (wr_ (hv (v := iv 0) rfl (av rfl) (hn (nt (wb (HW.loop' (fun L4 hL4 => ?_)))))))
  obtain ⟨X4, hX4⟩ : ∃ X4 : Sl → ZQI, ∀ (y110 : Sl) (y111 : Int) (H_4 : Hp), X4 y110 y111 H_4 ↔ ∀ ρ, Env.Is ρ [(2, (pp (bk H))), (3, (pp (bk H1))), (4, (pp (bk H3))), (6, (pp (bk H5))), (7, (Sl.v r54)), (9, (Sl.v y110)), (10, (iv y111))] → L4 ρ H_4 := ⟨_, fun _ _ _ => Iff.rfl⟩
  refine (hX4 _ _ _).1 (h X4 ?_) _ ?_
  rotate_left
  ·exact (isp rfl)
  clear h
  intro y110 y111 H_4 h
  refine (hX4 _ _ _).2 fun ρ hI => ?_
  obtain ⟨ρ0, rfl⟩ := hI.ex
  clear hI; unfold F64_L4b at h; refine hL4 _ _ ?_
  refine ws (ws (wr_ (hv (v := iv y111) rfl (mv rfl) (hv (v := Sl.v r54) rfl (mv rfl) (hv (v := iv ((r54).n : Int)) rfl (HVal.len runUnderlying49 rfl) ?_)))))
  refine hv (v := bv (decide (y111 < ((r54).n : Int)))) rfl (HVal.lss rfl rfl) (hn (nt ?_))
  obtain ⟨hT, hF⟩ := h
  refine wk (decide (y111 < ((r54).n : Int))) rfl (fun hb117 => ?_) (fun hb117 => ?_)
  ·have h := hT hb117
   refine wp_ (nt (ws (wb (wc (fun ρ H_5 => ∃ y149 y150, Env.Is ρ [(2, (pp (bk H))), (3, (pp (bk H1))), (4, (pp (bk H3))), (6, (pp (bk H5))), (7, (Sl.v r54)), (9, (Sl.v y110)), (10, (iv y111)), (11, (pp y149)), (12, (iv y150))] ∧ F64_5 Q X4 (bk H) (bk H1) (bk H3) (bk H5) r54 y110 y111 y149 y150 H_5) ?_ ?_))))
   ·refine HW.draw mixed [(0, some []), (1, some []), (2, some []), (3, some [8, 13]), (4, some []), (5, some [8, 13]), (6, some []), (7, some [8, 13]), (15, none), (15, none), (15, none), (15, none), (15, none), (15, none), (15, none)] rfl (by kernel_rfl) (by kernel_rfl) ?_
    refine pv (v := Sl.v r54) rfl rfl (fun _ => mv rfl) (pv (v := iv y111) rfl rfl (fun _ => mv rfl) ?_)
    obtain ⟨a125, e126, b127, b128, h⟩ := h
    refine pv (v := pp (Addr.add a125 (y111.toNat * 3))) rfl rfl (fun _ => ia runUnderlying49 sizeOf36 (Sl.v_some rfl e126) rfl b127 b128) ?_
    obtain ⟨x130, x131, x132, c129, h⟩ := h
    refine pl (v := .agg (tR x130 x131 x132).toArray) (fun X => cells X (Addr.add a125 (y111.toNat * 3)) (tR x130 x131 x132) 0) rfl rfl (fun _ hX => ln (tR x130 x131 x132) isAgg36 sizeOf36 rfl hX) c129 ?_
    refine pv (v := pp (Addr.add (bk H) 8)) rfl rfl (fun _ => fa runUnderlying41 rfl rfl sizeOf9 rfl) ?_
    obtain ⟨x134, c133, h⟩ := h
    refine pl (v := sv x134) (fun X => cell X (Addr.add (bk H) 8) = some (sv x134)) rfl rfl (fun _ hX => l1 isAgg9 rfl hX) c133 (pv (v := pp (Addr.add (bk H1) 6)) rfl rfl (fun _ => fa runUnderlying43 rfl rfl sizeOf30 rfl) ?_)
    obtain ⟨x136, c135, h⟩ := h
    refine pl (v := Sl.v x136) (fun X => cell X (Addr.add (bk H1) 6) = some (Sl.v x136)) rfl rfl (fun _ hX => l1 isAgg30 rfl hX) c135 ?_
    obtain ⟨hB8, hB12⟩ := h
    refine HPlan.fork2 (i := 8) (j := 12) (by kernel_rfl) ?_ ?_
    ·have h := hB8
     clear hB8 hB12
     refine HBr.ops' [(9, some []), (10, some []), (11, some []), (12, none), (13, none), (14, some [])] rfl (by kernel_rfl) (by kernel_rfl) rfl rfl rfl (HOp.call' 29 [(.agg (tR x130 x131 x132).toArray), (sv x134), (Sl.v x136)] (cap := []) rfl rfl call29 (walk29 h)) ?_
     rintro _ H137 ⟨r139, r140, r141, r142, r143, rfl, h⟩
     refine ⟨SC_of ⟨nofun, nofun, nofun, trivial⟩, ?_⟩
     refine pv (v := .tuple #[(.agg (vR r139 r140 r141 r142).toArray), (iv r143)]) rfl rfl (fun _ => mv rfl) (pv (v := .agg (vR r139 r140 r141 r142).toArray) rfl rfl (fun _ => HVal.extract rfl rfl) ?_)
     refine pv (v := iv r143) rfl rfl (fun _ => HVal.extract rfl rfl) (po rfl rfl (HOp.alloc zeroValue38) ?_)
     rintro _ H144 ⟨rfl, e145⟩
     replace h := h H144 e145
     refine ⟨SC_of ⟨nofun, nofun, nofun, trivial⟩, ?_⟩
     obtain ⟨z148, h⟩ := h
     refine pn rfl (HOp.storeN' (l := (vR r139 r140 r141 r142)) sizeOf38 rfl rfl rfl z148) ?_
     rintro _ H146 e147
     replace h := h H146 e147
     refine ⟨SC_of ⟨nofun, nofun, nofun, trivial⟩, ?_⟩
     refine pv (v := iv r143) rfl rfl (fun _ => av rfl) (HPlan.done (nt ?_))
     exact ⟨(bk H137), r143, (isp rfl), h⟩
    have h := hB12
    clear hB8 hB12
    refine HBr.ops' [(8, none), (9, some []), (10, some []), (11, some []), (13, none), (14, some [])] rfl (by kernel_rfl) (by kernel_rfl) rfl rfl rfl (HOp.alloc zeroValue38) ?_
    rintro _ H151 ⟨rfl, e152⟩
    replace h := h H151 e152
    obtain ⟨s153, s154, s155, h⟩ := h
    refine ⟨SC_of ⟨fun _ => s153, fun _ => s154, fun _ => s155, trivial⟩, ?_⟩
    refine po rfl rfl (HOp.call' 29 [(.agg (tR x130 x131 x132).toArray), (sv x134), (Sl.v x136)] (cap := []) rfl rfl call29 (walk29 h)) ?_
    rintro _ H156 ⟨r158, r159, r160, r161, r162, rfl, h⟩
    refine ⟨SC_of ⟨nofun, nofun, nofun, trivial⟩, ?_⟩
    refine pv (v := .tuple #[(.agg (vR r158 r159 r160 r161).toArray), (iv r162)]) rfl rfl (fun _ => mv rfl) (pv (v := .agg (vR r158 r159 r160 r161).toArray) rfl rfl (fun _ => HVal.extract rfl rfl) ?_)
    refine pv (v := iv r162) rfl rfl (fun _ => HVal.extract rfl rfl) ?_
    obtain ⟨z165, h⟩ := h
    refine pn rfl (HOp.storeN' (l := (vR r158 r159 r160 r161)) sizeOf38 rfl rfl rfl z165) ?_
    rintro _ H163 e164
    replace h := h H163 e164
    refine ⟨SC_of ⟨nofun, nofun, nofun, trivial⟩, ?_⟩
    refine pv (v := iv r162) rfl rfl (fun _ => av rfl) (HPlan.done (nt ?_))
    exact ⟨(bk H_4), r162, (isp rfl), h⟩
   rintro ρ H_5 ⟨y149, y150, hI, h⟩
   obtain ⟨ρ0, rfl⟩ := hI.ex
   clear hI; unfold F64_5 at h
   refine ws (ws (wr_ (hv (v := iv y150) rfl (mv rfl) (hv (v := bv (decide (y150 ≠ 0))) rfl (HVal.neqI rfl rfl) ?_))))
   refine hn (nt ?_)
   obtain ⟨hT, hF⟩ := h
   refine wk (decide (y150 ≠ 0)) rfl (fun hb166 => ?_) (fun hb166 => ?_)
   ·have h := hT hb166
    refine ws (wr_ ?_)
    obtain ⟨x168, x169, x170, x171, c167, h⟩ := h
    refine hv (v := .agg (vR x168 x169 x170 x171).toArray) rfl (ln (vR x168 x169 x170 x171) isAgg38 sizeOf38 rfl c167) (hv (v := iv y150) rfl (mv rfl) ?_)
    obtain ⟨z174, h⟩ := h
    refine hq (HOp.storeN' (l := (vR x168 x169 x170 x171)) sizeOf38 rfl rfl rfl z174) ?_
    rintro _ H172 e173
    replace h := h H172 e173
    refine hv (v := iv y150) rfl (av rfl) (hn (nt (HW.ret (tr (br (tr (tr (br (tr ?_)))))))))
    obtain ⟨x175, x176, x177, x178, c179, h⟩ := h
    exact ⟨_, resOf2 rfl (Res1.n (vR x175 x176 x177 x178) isAgg38 sizeOf38 rfl c179) Res1.t, ⟨x175, x176, x177, x178, y150, rfl, h⟩⟩
   have h := hF hb166
   refine wp_ (nt (ws (ws (wr_ (hv (v := pp y149) rfl (HVal.fieldAddr0 runUnderlying38 rfl rfl sizeOf3 rfl) ?_)))))
   obtain ⟨x181, c180, h⟩ := h
   refine hv (v := iv x181) rfl (l1 isAgg3 rfl c180) (hv (v := bv (decide (x181 ≠ 1))) rfl (HVal.neqI rfl rfl) (hn (nt ?_)))
   obtain ⟨hT, hF⟩ := h
   refine wk (decide (x181 ≠ 1)) rfl (fun hb182 => ?_) (fun hb182 => ?_)
   ·have h := hT hb182
    refine ws (wr_ ?_)
    obtain ⟨x184, x185, x186, x187, c183, h⟩ := h
    refine hv (v := .agg (vR x184 x185 x186 x187).toArray) rfl (ln (vR x184 x185 x186 x187) isAgg38 sizeOf38 rfl c183) ?_
    obtain ⟨z190, h⟩ := h
    refine hq (HOp.storeN' (l := (vR x184 x185 x186 x187)) sizeOf38 rfl rfl rfl z190) ?_
    rintro _ H188 e189
    replace h := h H188 e189
    refine hv (v := iv 10) rfl (av rfl) (hn (nt (HW.ret (tr (br (tr (tr (br (tr ?_)))))))))
    obtain ⟨x191, x192, x193, x194, c195, h⟩ := h
    exact ⟨_, resOf2 rfl (Res1.n (vR x191 x192 x193 x194) isAgg38 sizeOf38 rfl c195) Res1.t, ⟨x191, x192, x193, x194, 10, rfl, h⟩⟩
   have h := hF hb182
   refine wp_ (nt (wr_ (hv (v := Sl.v y110) rfl (mv rfl) (hv (v := pp (Addr.add y149 1)) rfl (fa runUnderlying38 rfl rfl sizeOf2 rfl) ?_))))
   obtain ⟨x197, c196, h⟩ := h
   refine hv (v := iv x197) rfl (l1 isAgg2 rfl c196) (ho rfl (HOp.buildSlice' (zs := [(iv 0)]) (cs := [(iv x197)]) runUnderlying47 sizeOf2 zeroValue2 (by decide) (by kernel_rfl) rfl (by decide)) ?_)
   rintro _ H198 ⟨rfl, e199⟩
   replace h := h H198 e199
   refine ho rfl (HOp.append (k := 1) (b := 8) runUnderlying47 runUnderlying47 typeInfo2 rfl rfl zeroValue2 rfl rfl h) ?_
   rintro _ H200 ⟨r202, rfl, h⟩
   refine hv (v := Sl.v r202) rfl (av rfl) (hn (nb (nt (wr_ (hv (v := iv y111) rfl (mv rfl) (hv (v := iv (IntKind.i64.wrap (y111 + 1))) rfl (HVal.add rfl rfl) ?_))))))
   refine hv (v := iv (IntKind.i64.wrap (y111 + 1))) rfl (av rfl) (hn (nt ?_))
   exact (hX4 _ _ _).1 h _ (isp rfl)
  have h := hF hb117
  refine we (te (te (be (nt ?_))))
  exact ⟨y110, (isp rfl), h⟩
 rintro ρ H_3 ⟨y203, hI, h⟩
 obtain ⟨ρ0, rfl⟩ := hI.ex
 clear hI; unfold F64_3 at h
 refine ws (wc (fun ρ H_6 => ∃ y212, Env.Is ρ [(2, (pp (bk H))), (4, (pp (bk H3))), (6, (pp (bk H5))), (9, (Sl.v y203)), (105, (bv y212))] ∧ F64_6 Q (bk H) (bk H3) (bk H5) y203 y212 H_6) ?_ ?_)
 ·refine wr_ (hv (v := Sl.v y203) rfl (mv rfl) (hv (v := iv ((y203).n : Int)) rfl (HVal.len runUnderlying47 rfl) (hv (v := bv (decide (((y203).n : Int) = 0))) rfl (HVal.eqlI rfl rfl) ?_)))
  refine hv (v := bv (decide (((y203).n : Int) = 0))) rfl (mv rfl) ?_
  obtain ⟨hT, hF⟩ := h
  rcases Bool.eq_false_or_eq_true (decide (((y203).n : Int) = 0)) with hb208 | hb209
  ·have h := hT hb208
   refine hg (v := pp (Addr.add (bk H) 1)) rfl rfl rfl rfl (cB hb208) (fa runUnderlying41 rfl rfl sizeOf3 rfl) ?_
   obtain ⟨x211, c210, h⟩ := h
   refine hg (v := iv x211) rfl rfl rfl rfl (cB hb208) (l1 isAgg3 rfl c210) (hg (v := bv (decide ((2 : Int) < x211))) rfl rfl rfl rfl (cB hb208) (HVal.gtr rfl rfl) ?_)
   refine hv (v := bv (decide ((2 : Int) < x211))) rfl (pt_ rfl hb208 rfl) (hn (nt ?_))
   exact ⟨(decide ((2 : Int) < x211)), (isp rfl), h⟩
  have h := hF hb209
  refine hs_ rfl rfl rfl rfl (cB hb209) (hs_ rfl rfl rfl rfl (cB hb209) (hs_ rfl rfl rfl rfl (cB hb209) (hv (v := bv false) rfl (pf_ rfl hb209 rfl) ?_)))
  refine hn (nt ?_)
  exact ⟨false, (isp rfl), h⟩
 rintro ρ H_6 ⟨y212, hI, h⟩
 obtain ⟨ρ0, rfl⟩ := hI.ex
 clear hI; unfold F64_6 at h
 obtain ⟨hT, hF⟩ := h
 refine wk y212 rfl (fun hb213 => ?_) (fun hb213 => ?_)
 ·have h := hT hb213
  refine ws (wr_ ?_)
  obtain ⟨x215, x216, x217, x218, c214, h⟩ := h
  refine hv (v := .agg (vR x215 x216 x217 x218).toArray) rfl (ln (vR x215 x216 x217 x218) isAgg38 sizeOf38 rfl c214) ?_
  obtain ⟨z221, h⟩ := h
  refine hq (HOp.storeN' (l := (vR x215 x216 x217 x218)) sizeOf38 rfl rfl rfl z221) ?_
  rintro _ H219 e220
  replace h := h H219 e220
  refine hv (v := iv 110) rfl (av rfl) (hn (nt (HW.ret (tr ?_))))
  obtain ⟨x222, x223, x224, x225, c226, h⟩ := h
  exact ⟨_, resOf2 rfl (Res1.n (vR x222 x223 x224 x225) isAgg38 sizeOf38 rfl c226) Res1.t, ⟨x222, x223, x224, x225, 110, rfl, h⟩⟩
 have h := hF hb213
 refine wp_ (nt (ws (wr_ (hv (v := iv 0) rfl (av rfl) (hn (nt (wc (fun ρ H_7 => ∃ y295, Env.Is ρ [(4, (pp (bk H3))), (13, (iv y295))] ∧ F64_7 Q (bk H3) y295 H_7) ?_ ?_)))))))
 ·refine ws (wr_ (hv (v := iv 0) rfl (av rfl) (hn (nt (wb (HW.loop' (fun L8 hL8 => ?_)))))))
  obtain ⟨X8, hX8⟩ : ∃ X8 : Int → ZQI, ∀ (y228 y229 : Int) (H_8 : Hp), X8 y228 y229 H_8 ↔ ∀ ρ, Env.Is ρ [(2, (pp (bk H))), (4, (pp (bk H3))), (9, (Sl.v y203)), (13, (iv y228)), (14, (iv y229))] → L8 ρ H_8 := ⟨_, fun _ _ _ => Iff.rfl⟩
  refine (hX8 _ _ _).1 (h X8 ?_) _ ?_
  rotate_left
  ·exact (isp rfl)
  clear h
  intro y228 y229 H_8 h
  refine (hX8 _ _ _).2 fun ρ hI => ?_
  obtain ⟨ρ0, rfl⟩ := hI.ex
  clear hI; unfold F64_L8b at h; refine hL8 _ _ ?_
  refine ws (ws (wr_ (hv (v := iv y229) rfl (mv rfl) (hv (v := Sl.v y203) rfl (mv rfl) (hv (v := iv ((y203).n : Int)) rfl (HVal.len runUnderlying47 rfl) ?_)))))
  refine hv (v := bv (decide (y229 < ((y203).n : Int)))) rfl (HVal.lss rfl rfl) (hn (nt ?_))
  obtain ⟨hT, hF⟩ := h
  refine wk (decide (y229 < ((y203).n : Int))) rfl (fun hb233 => ?_) (fun hb233 => ?_)
  ·have h := hT hb233
   refine wp_ (nt (wc (fun ρ H_9 => ∃ y247, Env.Is ρ [(2, (pp (bk H))), (4, (pp (bk H3))), (9, (Sl.v y203)), (14, (iv y229)), (13, (iv y247))] ∧ F64_9 Q X8 (bk H) (bk H3) y203 y229 y247 H_9) ?_ ?_))
   ·refine wb (wb (ws (wr_ (hv (v := pp (Addr.add (bk H) 1)) rfl (fa runUnderlying41 rfl rfl sizeOf3 rfl) ?_))))
    obtain ⟨x239, c238, h⟩ := h
    refine hv (v := iv x239) rfl (l1 isAgg3 rfl c238) (hv (v := bv (decide (x239 = 2))) rfl (HVal.eqlI rfl rfl) (hv (v := bv (decide (x239 = 2))) rfl (av rfl) ?_))
    refine hn (nt ?_)
    obtain ⟨hT, hF⟩ := h
    refine wk (decide (x239 = 2)) rfl (fun hb240 => ?_) (fun hb240 => ?_)
    ·have h := hT hb240
     refine wr_ (hv (v := iv y228) rfl (mv rfl) (hv (v := Sl.v y203) rfl (mv rfl) (hv (v := iv y229) rfl (mv rfl) ?_)))
     obtain ⟨a241, e242, b243, b244, h⟩ := h
     refine hv (v := pp (Addr.add a241 (y229.toNat * 1))) rfl (ia runUnderlying47 sizeOf2 (Sl.v_some rfl e242) rfl b243 b244) ?_
     obtain ⟨x246, c245, h⟩ := h
     refine hv (v := iv x246) rfl (l1 isAgg2 rfl c245) (hv (v := iv (IntKind.i64.wrap (y228 + x246))) rfl (HVal.add rfl rfl) ?_)
     refine hv (v := iv (IntKind.i64.wrap (y228 + x246))) rfl (av rfl) (hn (nb (nb (nt ?_))))
     exact ⟨(IntKind.i64.wrap (y228 + x246)), (isp rfl), h⟩
    have h := hF hb240
    refine wc (fun ρ H_10 => ∃ y255, Env.Is ρ [(2, (pp (bk H))), (4, (pp (bk H3))), (9, (Sl.v y203)), (13, (iv y228)), (14, (iv y229)), (123, (bv y255))] ∧ F64_10 Q X8 (bk H) (bk H3) y203 y228 y229 y255 H_10) ?_ ?_
    ·refine wr_ (hv (v := iv y229) rfl (mv rfl) (hv (v := bv (decide (y229 = 0))) rfl (HVal.eqlI rfl rfl) (hv (v := bv (decide (y229 = 0))) rfl (mv rfl) ?_)))
     obtain ⟨hT, hF⟩ := h
     rcases Bool.eq_false_or_eq_true (decide (y229 = 0)) with hb253 | hb254
     ·have h := hT hb253
      refine hs_ rfl rfl rfl rfl (cB hb253) (hs_ rfl rfl rfl rfl (cB hb253) (hs_ rfl rfl rfl rfl (cB hb253) (hs_ rfl rfl rfl rfl (cB hb253) ?_)))
      refine HList.uskips rfl rfl rfl rfl rfl (HList.uskips rfl rfl rfl rfl rfl (HList.uskips rfl rfl rfl rfl rfl (HList.uskips rfl rfl rfl rfl rfl (HList.uskips rfl rfl rfl rfl rfl ?_))))
      refine HList.uskips rfl rfl rfl rfl rfl (hs_ rfl rfl rfl rfl (cB hb253) (hv (v := bv true) rfl (pt_ rfl hb253 rfl) (hv (v := bv true) rfl (mv rfl) ?_)))
      refine hs_ rfl rfl rfl rfl rfl (hs_ rfl rfl rfl rfl rfl (hs_ rfl rfl rfl rfl rfl (hs_ rfl rfl rfl rfl rfl (HList.uskips rfl rfl rfl rfl rfl ?_))))
      refine HList.uskips rfl rfl rfl rfl rfl (HList.uskips rfl rfl rfl rfl rfl (HList.uskips rfl rfl rfl rfl rfl (HList.uskips rfl rfl rfl rfl rfl (HList.uskips rfl rfl rfl rfl rfl ?_))))
      refine hs_ rfl rfl rfl rfl rfl (hv (v := bv true) rfl (pt_ rfl rfl rfl) (hv (v := bv true) rfl (av rfl) ?_))
      refine hn (nt ?_)
      exact ⟨true, (isp rfl), h⟩
     have h := hF hb254
     refine hg (v := pp (Addr.add (bk H) 1)) rfl rfl rfl rfl (cB hb254) (fa runUnderlying41 rfl rfl sizeOf3 rfl) ?_
     obtain ⟨x257, c256, h⟩ := h
     refine hg (v := iv x257) rfl rfl rfl rfl (cB hb254) (l1 isAgg3 rfl c256) (hg (v := bv (decide (x257 = 3))) rfl rfl rfl rfl (cB hb254) (HVal.eqlI rfl rfl) ?_)
     refine hg (v := bv (decide (x257 = 3))) rfl rfl rfl rfl (cB hb254) (mv rfl) ?_
     obtain ⟨hT, hF⟩ := h
     rcases Bool.eq_false_or_eq_true (decide (x257 = 3)) with hb258 | hb259
     ·have h := hT hb258
      refine hg (v := Sl.v y203) rfl rfl rfl rfl (cB hb258) (mv rfl) (hg (v := iv y229) rfl rfl rfl rfl (cB hb258) (mv rfl) ?_)
      obtain ⟨a260, e261, b262, b263, h⟩ := h
      refine hg (v := pp (Addr.add a260 (y229.toNat * 1))) rfl rfl rfl rfl (cB hb258) (ia runUnderlying47 sizeOf2 (Sl.v_some rfl e261) rfl b262 b263) ?_
      obtain ⟨x265, c264, h⟩ := h
      refine hg (v := iv x265) rfl rfl rfl rfl (cB hb258) (l1 isAgg2 rfl c264) (hg (v := iv y228) rfl rfl rfl rfl (cB hb258) (mv rfl) ?_)
      refine hg (v := bv (decide (x265 < y228))) rfl rfl rfl rfl (cB hb258) (HVal.lss rfl rfl) (hg (v := bv (decide (x265 < y228))) rfl rfl rfl rfl (cB hb254) (pt_ rfl hb258 rfl) ?_)
      refine hv (v := bv (decide (x265 < y228))) rfl (pf_ rfl hb254 rfl) (hv (v := bv (decide (x265 < y228))) rfl (mv rfl) ?_)
      obtain ⟨hT, hF⟩ := h
      rcases Bool.eq_false_or_eq_true (decide (x265 < y228)) with hb266 | hb267
      ·have h := hT hb266
       refine hs_ rfl rfl rfl rfl (cB hb266) (hs_ rfl rfl rfl rfl (cB hb266) (hs_ rfl rfl rfl rfl (cB hb266) (hs_ rfl rfl rfl rfl (cB hb266) ?_)))
       refine HList.uskips rfl rfl rfl rfl rfl (HList.uskips rfl rfl rfl rfl rfl (HList.uskips rfl rfl rfl rfl rfl (HList.uskips rfl rfl rfl rfl rfl (HList.uskips rfl rfl rfl rfl rfl ?_))))
       refine HList.uskips rfl rfl rfl rfl rfl (hs_ rfl rfl rfl rfl (cB hb266) (hv (v := bv true) rfl (pt_ rfl hb266 rfl) (hv (v := bv true) rfl (av rfl) ?_)))
       refine hn (nt ?_)
       exact ⟨true, (isp rfl), h⟩
      have h := hF hb267
      refine hg (v := pp (Addr.add (bk H) 1)) rfl rfl rfl rfl (cB hb267) (fa runUnderlying41 rfl rfl sizeOf3 rfl) ?_
      obtain ⟨x269, c268, h⟩ := h
      refine hg (v := iv x269) rfl rfl rfl rfl (cB hb267) (l1 isAgg3 rfl c268) (hg (v := bv (decide (x269 = 4))) rfl rfl rfl rfl (cB hb267) (HVal.eqlI rfl rfl) ?_)
      refine hg (v := bv (decide (x269 = 4))) rfl rfl rfl rfl (cB hb267) (mv rfl) ?_
      obtain ⟨hT, hF⟩ := h
      rcases Bool.eq_false_or_eq_true (decide (x269 = 4)) with hb270 | hb271
      ·have h := hT hb270
       refine hg (v := Sl.v y203) rfl rfl rfl rfl (cB hb270) (mv rfl) (hg (v := iv y229) rfl rfl rfl rfl (cB hb270) (mv rfl) ?_)
       obtain ⟨a272, e273, b274, b275, h⟩ := h
       refine hg (v := pp (Addr.add a272 (y229.toNat * 1))) rfl rfl rfl rfl (cB hb270) (ia runUnderlying47 sizeOf2 (Sl.v_some rfl e273) rfl b274 b275) ?_
       obtain ⟨x277, c276, h⟩ := h
       refine hg (v := iv x277) rfl rfl rfl rfl (cB hb270) (l1 isAgg2 rfl c276) (hg (v := iv y228) rfl rfl rfl rfl (cB hb270) (mv rfl) ?_)
       refine hg (v := bv (decide (y228 < x277))) rfl rfl rfl rfl (cB hb270) (HVal.gtr rfl rfl) (hg (v := bv (decide (y228 < x277))) rfl rfl rfl rfl (cB hb267) (pt_ rfl hb270 rfl) ?_)
       refine hv (v := bv (decide (y228 < x277))) rfl (pf_ rfl hb267 rfl) (hv (v := bv (decide (y228 < x277))) rfl (av rfl) ?_)
       refine hn (nt ?_)
       exact ⟨(decide (y228 < x277)), (isp rfl), h⟩
      have h := hF hb271
      refine hs_ rfl rfl rfl rfl (cB hb271) (hs_ rfl rfl rfl rfl (cB hb271) (hs_ rfl rfl rfl rfl (cB hb271) (hs_ rfl rfl rfl rfl (cB hb271) ?_)))
      refine hs_ rfl rfl rfl rfl (cB hb271) (hs_ rfl rfl rfl rfl (cB hb271) (hg (v := bv false) rfl rfl rfl rfl (cB hb267) (pf_ rfl hb271 rfl) ?_))
      refine hv (v := bv false) rfl (pf_ rfl hb267 rfl) (hv (v := bv false) rfl (av rfl) (hn (nt ?_)))
      exact ⟨false, (isp rfl), h⟩
     have h := hF hb259
     refine hs_ rfl rfl rfl rfl (cB hb259) (hs_ rfl rfl rfl rfl (cB hb259) (hs_ rfl rfl rfl rfl (cB hb259) (hs_ rfl rfl rfl rfl (cB hb259) ?_)))
     refine hs_ rfl rfl rfl rfl (cB hb259) (hs_ rfl rfl rfl rfl (cB hb259) (hg (v := bv false) rfl rfl rfl rfl (cB hb254) (pf_ rfl hb259 rfl) ?_))
     refine hv (v := bv false) rfl (pf_ rfl hb254 rfl) (hv (v := bv false) rfl (mv rfl) (hg (v := pp (Addr.add (bk H) 1)) rfl rfl rfl rfl rfl (fa runUnderlying41 rfl rfl sizeOf3 rfl) ?_))
     obtain ⟨x279, c278, h⟩ := h
     refine hg (v := iv x279) rfl rfl rfl rfl rfl (l1 isAgg3 rfl c278) (hg (v := bv (decide (x279 = 4))) rfl rfl rfl rfl rfl (HVal.eqlI rfl rfl) ?_)
     refine hg (v := bv (decide (x279 = 4))) rfl rfl rfl rfl rfl (mv rfl) ?_
     obtain ⟨hT, hF⟩ := h
     rcases Bool.eq_false_or_eq_true (decide (x279 = 4)) with hb280 | hb281
     ·have h := hT hb280
      refine hg (v := Sl.v y203) rfl rfl rfl rfl (cB hb280) (mv rfl) (hg (v := iv y229) rfl rfl rfl rfl (cB hb280) (mv rfl) ?_)
      obtain ⟨a282, e283, b284, b285, h⟩ := h
      refine hg (v := pp (Addr.add a282 (y229.toNat * 1))) rfl rfl rfl rfl (cB hb280) (ia runUnderlying47 sizeOf2 (Sl.v_some rfl e283) rfl b284 b285) ?_
      obtain ⟨x287, c286, h⟩ := h
      refine hg (v := iv x287) rfl rfl rfl rfl (cB hb280) (l1 isAgg2 rfl c286) (hg (v := iv y228) rfl rfl rfl rfl (cB hb280) (mv rfl) ?_)
      refine hg (v := bv (decide (y228 < x287))) rfl rfl rfl rfl (cB hb280) (HVal.gtr rfl rfl) (hg (v := bv (decide (y228 < x287))) rfl rfl rfl rfl rfl (pt_ rfl hb280 rfl) ?_)
      refine hv (v := bv (decide (y228 < x287))) rfl (pf_ rfl rfl rfl) (hv (v := bv (decide (y228 < x287))) rfl (av rfl) ?_)
      refine hn (nt ?_)
      exact ⟨(decide (y228 < x287)), (isp rfl), h⟩
     have h := hF hb281
     refine hs_ rfl rfl rfl rfl (cB hb281) (hs_ rfl rfl rfl rfl (cB hb281) (hs_ rfl rfl rfl rfl (cB hb281) (hs_ rfl rfl rfl rfl (cB hb281) ?_)))
     refine hs_ rfl rfl rfl rfl (cB hb281) (hs_ rfl rfl rfl rfl (cB hb281) (hg (v := bv false) rfl rfl rfl rfl rfl (pf_ rfl hb281 rfl) ?_))
     refine hv (v := bv false) rfl (pf_ rfl rfl rfl) (hv (v := bv false) rfl (av rfl) (hn (nt ?_)))
     exact ⟨false, (isp rfl), h⟩
    rintro ρ H_10 ⟨y255, hI, h⟩
    obtain ⟨ρ0, rfl⟩ := hI.ex
    clear hI; unfold F64_10 at h
    obtain ⟨hT, hF⟩ := h
    refine wk y255 rfl (fun hb288 => ?_) (fun hb288 => ?_)
    ·have h := hT hb288
     refine wr_ (hv (v := Sl.v y203) rfl (mv rfl) (hv (v := iv y229) rfl (mv rfl) ?_))
     obtain ⟨a289, e290, b291, b292, h⟩ := h
     refine hv (v := pp (Addr.add a289 (y229.toNat * 1))) rfl (ia runUnderlying47 sizeOf2 (Sl.v_some rfl e290) rfl b291 b292) ?_
     obtain ⟨x294, c293, h⟩ := h
     refine hv (v := iv x294) rfl (l1 isAgg2 rfl c293) (hv (v := iv x294) rfl (av rfl) (hn (nb (nb (nt ?_)))))
     exact ⟨x294, (isp rfl), h⟩
    have h := hF hb288
    refine wp_ (nb (nb (nt ?_)))
    exact ⟨y228, (isp rfl), h⟩
   rintro ρ H_9 ⟨y247, hI, h⟩
   obtain ⟨ρ0, rfl⟩ := hI.ex
   clear hI; unfold F64_9 at h
   refine wr_ (hv (v := iv y229) rfl (mv rfl) (hv (v := iv (IntKind.i64.wrap (y229 + 1))) rfl (HVal.add rfl rfl) (hv (v := iv (IntKind.i64.wrap (y229 + 1))) rfl (av rfl) ?_)))
   refine hn (nt ?_)
   exact (hX8 _ _ _).1 h _ (isp rfl)
  have h := hF hb233
  refine we (te (te (be (nt ?_))))
  exact ⟨y228, (isp rfl), h⟩
 rintro ρ H_7 ⟨y295, hI, h⟩
 obtain ⟨ρ0, rfl⟩ := hI.ex
 clear hI; unfold F64_7 at h
 refine ws (wr_ (hv (v := iv y295) rfl (mv rfl) (ho rfl (HOp.call' 47 [(iv y295)] (cap := []) rfl rfl call47 (walk47 h)) ?_)))
 rintro _ H296 ⟨r298, r299, r300, r301, rfl, h⟩
 obtain ⟨z304, h⟩ := h
 refine hq (HOp.storeN' (l := (vR r298 r299 r300 r301)) sizeOf38 rfl rfl rfl z304) ?_
 rintro _ H302 e303
 replace h := h H302 e303
 refine hv (v := iv 0) rfl (av rfl) (hn (nt (HW.ret ?_)))
 obtain ⟨x305, x306, x307, x308, c309, h⟩ := h
 exact ⟨_, resOf2 rfl (Res1.n (vR x305 x306 x307 x308) isAgg38 sizeOf38 rfl c309) Res1.t, ⟨x305, x306, x307, x308, 0, rfl, h⟩⟩

def F52 (p0 : Bool) (H : Hp) (Q : Int → Int → ByteArray → ZQB) : Prop :=
∀ H1, H1 = Array.push H (.cells (vR 0 0 bE false).toArray 38) → (
 mayw H1 (bk H) 4 0 ∧ ∀ H3, H3 = sets H1 (bk H) (vR 3 0 bE p0) 0 → (
 ∃ x6 x7 x8 x9, cells H3 (bk H) (vR x6 x7 x8 x9) 0 ∧ (
 Q x6 x7 x8 x9 H3)))
theorem walk52 {w0 : World} {p0 : Bool} {H : Hp} {Q : Int → Int → ByteArray → ZQB} (h : F52 p0 H Q) :
  Good prog w0 52 #[(bv p0)] H (fun v H => ∃ r0 r1 r2 r3, v = (.agg (vR r0 r1 r2 r3).toArray) ∧ Q r0 r1 r2 r3 H) := by
 unfold F52 at h
 refine Good.enter' (fn := f52) func52 rfl rfl rfl (ws (wr_ (ho rfl (HOp.alloc zeroValue38) ?_)))
 rintro _ H1 ⟨rfl, e2⟩
 replace h := h H1 e2
 refine hn (nt (ws (wr_ (hv (v := bv p0) rfl (mv rfl) (hv (v := .agg (vR 3 0 bE p0).toArray) rfl (HVal.build' (cs := (vR 3 0 bE p0)) runUnderlying38 zeroValue38 places38 rfl) ?_)))))
 obtain ⟨z5, h⟩ := h
 refine hq (HOp.storeN' (l := (vR 3 0 bE p0)) sizeOf38 rfl rfl rfl z5) ?_
 rintro _ H3 e4
 replace h := h H3 e4
 refine hn (nt (HW.ret ?_))
 obtain ⟨x6, x7, x8, x9, c10, h⟩ := h
 exact ⟨_, resOf1 rfl (Res1.n (vR x6 x7 x8 x9) isAgg38 sizeOf38 rfl c10), ⟨x6, x7, x8, x9, rfl, h⟩⟩

def F65_3 (Q : ZQV) (y45 y46 : Addr) (y51 : Bool) (H_3 : Hp) : Prop :=
(y51 = true → (∃ x54, cell H_3 (Addr.add y45 3) = some (bv x54) ∧ (
 F52 (!x54) H_3 (fun r57 r58 r59 r60 H55 =>
 mayw H55 y46 4 0 ∧ ∀ H61, H61 = sets H55 y46 (vR r57 r58 r59 r60) 0 → (
 ∃ x64 x65 x66 x67, cells H61 y46 (vR x64 x65 x66 x67) 0 ∧ (
 Q x64 x65 x66 x67 0 H61)))))) ∧
 (y51 = false → (mayw H_3 y46 4 0 ∧ ∀ H69, H69 = sets H_3 y46 (vR 0 0 bE false) 0 → (
 ∃ x72 x73 x74 x75, cells H69 y46 (vR x72 x73 x74 x75) 0 ∧ (
 Q x72 x73 x74 x75 10 H69))))
def F65_2 (Q : ZQV) (y20 : Int) (y21 y22 : Addr) (y27 : Bool) (H_2 : Hp) : Prop :=
(y27 = true → (∃ x30, cell H_2 (Addr.add y21 1) = some (iv x30) ∧ (
 F47 (IntKind.i64.wrap (0 - x30)) H_2 (fun r33 r34 r35 r36 H31 =>
 mayw H31 y22 4 0 ∧ ∀ H37, H37 = sets H31 y22 (vR r33 r34 r35 r36) 0 → (
 ∃ x40 x41 x42 x43, cells H37 y22 (vR x40 x41 x42 x43) 0 ∧ (
 Q x40 x41 x42 x43 0 H37)))))) ∧
 (y27 = false → ((decide (y20 = 2) = true → (∃ x50, cell H_2 y21 = some (iv x50) ∧ (
 F65_3 Q y21 y22 (decide (x50 = 3)) H_2))) ∧
 (decide (y20 = 2) = false → (F65_3 Q y21 y22 false H_2))))
def F65_1 (Q : ZQV) (y5 : Int) (y6 y7 : Addr) (y10 : Bool) (H_1 : Hp) : Prop :=
(y10 = true → (mayw H_1 y7 4 0 ∧ ∀ H12, H12 = sets H_1 y7 (vR 0 0 bE false) 0 → (
 ∃ x15 x16 x17 x18, cells H12 y7 (vR x15 x16 x17 x18) 0 ∧ (
 Q x15 x16 x17 x18 11 H12)))) ∧
 (y10 = false → ((decide (y5 = 1) = true → (∃ x26, cell H_1 y6 = some (iv x26) ∧ (
 F65_2 Q y5 y6 y7 (decide (x26 = 1)) H_1))) ∧
 (decide (y5 = 1) = false → (F65_2 Q y5 y6 y7 false H_1))))
def F65 (p0 p1_0 p1_1 : Int) (p1_2 : ByteArray) (p1_3 : Bool) (H : Hp) (Q : ZQV) : Prop :=
∀ H1, H1 = Array.push H (.cells (vR p1_0 p1_1 p1_2 p1_3).toArray 38) → (
 ∀ H3, H3 = Array.push H1 (.cells (vR 0 0 bE false).toArray 38) → (
 (decide (p0 ≠ 1) = true → (F65_1 Q p0 (bk H) (bk H1) (decide (p0 ≠ 2)) H3)) ∧
 (decide (p0 ≠ 1) = false → (F65_1 Q p0 (bk H) (bk H1) false H3))))
theorem walk65 {w0 : World} {p0 p1_0 p1_1 : Int} {p1_2 : ByteArray} {p1_3 : Bool} {H : Hp} {Q : ZQV} (h : F65 p0 p1_0 p1_1 p1_2 p1_3 H Q) :
  Good prog w0 65 #[(iv p0), (.agg (vR p1_0 p1_1 p1_2 p1_3).toArray)] H (fun v H => ∃ r0 r1 r2 r3 r4, v = (.tuple #[(.agg (vR r0 r1 r2 r3).toArray), (iv r4)]) ∧ Q r0 r1 r2 r3 r4 H) := by
 unfold F65 at h
 refine Good.enter' (fn := f65) func65 rfl rfl rfl (ws (wr_ (ho rfl (ob (v := .agg (vR p1_0 p1_1 p1_2 p1_3).toArray) rfl) ?_)))
 rintro _ H1 ⟨rfl, e2⟩
 replace h := h H1 e2
 refine ho rfl (HOp.alloc zeroValue38) ?_
 rintro _ H3 ⟨rfl, e4⟩
 replace h := h H3 e4
 refine hv (v := iv 0) rfl (av rfl) (hn (nt (ws (wb (wc (fun ρ H_1 => ∃ y10, Env.Is ρ [(0, (iv p0)), (3, (pp (bk H))), (4, (pp (bk H1))), (6, (bv y10))] ∧ F65_1 Q p0 (bk H) (bk H1) y10 H_1) ?_ ?_)))))
 ·refine wr_ (hv (v := iv p0) rfl (mv rfl) (hv (v := bv (decide (p0 ≠ 1))) rfl (HVal.neqI rfl rfl) (hv (v := bv (decide (p0 ≠ 1))) rfl (mv rfl) ?_)))
  obtain ⟨hT, hF⟩ := h
  rcases Bool.eq_false_or_eq_true (decide (p0 ≠ 1)) with hb8 | hb9
  ·have h := hT hb8
   refine hg (v := iv p0) rfl rfl rfl rfl (cB hb8) (mv rfl) (hg (v := bv (decide (p0 ≠ 2))) rfl rfl rfl rfl (cB hb8) (HVal.neqI rfl rfl) ?_)
   refine hv (v := bv (decide (p0 ≠ 2))) rfl (pt_ rfl hb8 rfl) (hv (v := bv (decide (p0 ≠ 2))) rfl (av rfl) (hn (nt ?_)))
   exact ⟨(decide (p0 ≠ 2)), (isp rfl), h⟩
  have h := hF hb9
  refine hs_ rfl rfl rfl rfl (cB hb9) (hs_ rfl rfl rfl rfl (cB hb9) (hv (v := bv false) rfl (pf_ rfl hb9 rfl) (hv (v := bv false) rfl (av rfl) ?_)))
  refine hn (nt ?_)
  exact ⟨false, (isp rfl), h⟩
 rintro ρ H_1 ⟨y10, hI, h⟩
 obtain ⟨ρ0, rfl⟩ := hI.ex
 clear hI; unfold F65_1 at h
 obtain ⟨hT, hF⟩ := h
 refine wk y10 rfl (fun hb11 => ?_) (fun hb11 => ?_)
 ·have h := hT hb11
  refine ws (wr_ (hv (v := .agg (vR 0 0 bE false).toArray) rfl (HVal.build' (cs := (vR 0 0 bE false)) runUnderlying38 zeroValue38 places38 rfl) ?_))
  obtain ⟨z14, h⟩ := h
  refine hq (HOp.storeN' (l := (vR 0 0 bE false)) sizeOf38 rfl rfl rfl z14) ?_
  rintro _ H12 e13
  replace h := h H12 e13
  refine hv (v := iv 11) rfl (av rfl) (hn (nt (HW.ret (br (tr ?_)))))
  obtain ⟨x15, x16, x17, x18, c19, h⟩ := h
  exact ⟨_, resOf2 rfl (Res1.n (vR x15 x16 x17 x18) isAgg38 sizeOf38 rfl c19) Res1.t, ⟨x15, x16, x17, x18, 11, rfl, h⟩⟩
 have h := hF hb11
 refine wc (fun ρ H_2 => ∃ y27, Env.Is ρ [(0, (iv p0)), (3, (pp (bk H))), (4, (pp (bk H1))), (14, (bv y27))] ∧ F65_2 Q p0 (bk H) (bk H1) y27 H_2) ?_ ?_
 ·refine wr_ (hv (v := iv p0) rfl (mv rfl) (hv (v := bv (decide (p0 = 1))) rfl (HVal.eqlI rfl rfl) (hv (v := bv (decide (p0 = 1))) rfl (mv rfl) ?_)))
  obtain ⟨hT, hF⟩ := h
  rcases Bool.eq_false_or_eq_true (decide (p0 = 1)) with hb23 | hb24
  ·have h := hT hb23
   refine hg (v := pp (bk H)) rfl rfl rfl rfl (cB hb23) (HVal.fieldAddr0 runUnderlying38 rfl rfl sizeOf3 rfl) ?_
   obtain ⟨x26, c25, h⟩ := h
   refine hg (v := iv x26) rfl rfl rfl rfl (cB hb23) (l1 isAgg3 rfl c25) (hg (v := bv (decide (x26 = 1))) rfl rfl rfl rfl (cB hb23) (HVal.eqlI rfl rfl) ?_)
   refine hv (v := bv (decide (x26 = 1))) rfl (pt_ rfl hb23 rfl) (hv (v := bv (decide (x26 = 1))) rfl (av rfl) (hn (nt ?_)))
   exact ⟨(decide (x26 = 1)), (isp rfl), h⟩
  have h := hF hb24
  refine hs_ rfl rfl rfl rfl (cB hb24) (hs_ rfl rfl rfl rfl (cB hb24) (hs_ rfl rfl rfl rfl (cB hb24) (hv (v := bv false) rfl (pf_ rfl hb24 rfl) ?_)))
  refine hv (v := bv false) rfl (av rfl) (hn (nt ?_))
  exact ⟨false, (isp rfl), h⟩
 rintro ρ H_2 ⟨y27, hI, h⟩
 obtain ⟨ρ0, rfl⟩ := hI.ex
 clear hI; unfold F65_2 at h
 obtain ⟨hT, hF⟩ := h
 refine wk y27 rfl (fun hb28 => ?_) (fun hb28 => ?_)
 ·have h := hT hb28
  refine ws (wr_ (hv (v := pp (Addr.add (bk H) 1)) rfl (fa runUnderlying38 rfl rfl sizeOf2 rfl) ?_))
  obtain ⟨x30, c29, h⟩ := h
  refine hv (v := iv x30) rfl (l1 isAgg2 rfl c29) (hv (v := iv (IntKind.i64.wrap (0 - x30))) rfl (HVal.neg rfl) (ho rfl (HOp.call' 47 [(iv (IntKind.i64.wrap (0 - x30)))] (cap := []) rfl rfl call47 (walk47 h)) ?_))
  rintro _ H31 ⟨r33, r34, r35, r36, rfl, h⟩
  obtain ⟨z39, h⟩ := h
  refine hq (HOp.storeN' (l := (vR r33 r34 r35 r36)) sizeOf38 rfl rfl rfl z39) ?_
  rintro _ H37 e38
  replace h := h H37 e38
  refine hv (v := iv 0) rfl (av rfl) (hn (nt (HW.ret (br (tr ?_)))))
  obtain ⟨x40, x41, x42, x43, c44, h⟩ := h
  exact ⟨_, resOf2 rfl (Res1.n (vR x40 x41 x42 x43) isAgg38 sizeOf38 rfl c44) Res1.t, ⟨x40, x41, x42, x43, 0, rfl, h⟩⟩
 have h := hF hb28
 refine wc (fun ρ H_3 => ∃ y51, Env.Is ρ [(3, (pp (bk H))), (4, (pp (bk H1))), (26, (bv y51))] ∧ F65_3 Q (bk H) (bk H1) y51 H_3) ?_ ?_
 ·refine wr_ (hv (v := iv p0) rfl (mv rfl) (hv (v := bv (decide (p0 = 2))) rfl (HVal.eqlI rfl rfl) (hv (v := bv (decide (p0 = 2))) rfl (mv rfl) ?_)))
  obtain ⟨hT, hF⟩ := h
  rcases Bool.eq_false_or_eq_true (decide (p0 = 2)) with hb47 | hb48
  ·have h := hT hb47
   refine hg (v := pp (bk H)) rfl rfl rfl rfl (cB hb47) (HVal.fieldAddr0 runUnderlying38 rfl rfl sizeOf3 rfl) ?_
   obtain ⟨x50, c49, h⟩ := h
   refine hg (v := iv x50) rfl rfl rfl rfl (cB hb47) (l1 isAgg3 rfl c49) (hg (v := bv (decide (x50 = 3))) rfl rfl rfl rfl (cB hb47) (HVal.eqlI rfl rfl) ?_)
   refine hv (v := bv (decide (x50 = 3))) rfl (pt_ rfl hb47 rfl) (hv (v := bv (decide (x50 = 3))) rfl (av rfl) (hn (nt ?_)))
   exact ⟨(decide (x50 = 3)), (isp rfl), h⟩
  have h := hF hb48
  refine hs_ rfl rfl rfl rfl (cB hb48) (hs_ rfl rfl rfl rfl (cB hb48) (hs_ rfl rfl rfl rfl (cB hb48) (hv (v := bv false) rfl (pf_ rfl hb48 rfl) ?_)))
  refine hv (v := bv false) rfl (av rfl) (hn (nt ?_))
  exact ⟨false, (isp rfl), h⟩
 rintro ρ H_3 ⟨y51, hI, h⟩
 obtain ⟨ρ0, rfl⟩ := hI.ex
 clear hI; unfold F65_3 at h
 obtain ⟨hT, hF⟩ := h
 refine wk y51 rfl (fun hb52 => ?_) (fun hb52 => ?_)
 ·have h := hT hb52
  refine ws (wr_ (hv (v := pp (Addr.add (bk H) 3)) rfl (fa runUnderlying38 rfl rfl sizeOf4 rfl) ?_))
  obtain ⟨x54, c53, h⟩ := h
  refine hv (v := bv x54) rfl (l1 isAgg4 rfl c53) (hv (v := bv (!x54)) rfl (HVal.not rfl) (ho rfl (HOp.call' 52 [(bv (!x54))] (cap := []) rfl rfl call52 (walk52 h)) ?_))
  rintro _ H55 ⟨r57, r58, r59, r60, rfl, h⟩
  obtain ⟨z63, h⟩ := h
  refine hq (HOp.storeN' (l := (vR r57 r58 r59 r60)) sizeOf38 rfl rfl rfl z63) ?_
  rintro _ H61 e62
  replace h := h H61 e62
  refine hv (v := iv 0) rfl (av rfl) (hn (nt (HW.ret (br (tr ?_)))))
  obtain ⟨x64, x65, x66, x67, c68, h⟩ := h
  exact ⟨_, resOf2 rfl (Res1.n (vR x64 x65 x66 x67) isAgg38 sizeOf38 rfl c68) Res1.t, ⟨x64, x65, x66, x67, 0, rfl, h⟩⟩
 have h := hF hb52
 refine wp_ (nb (nt (ws (wr_ (hv (v := .agg (vR 0 0 bE false).toArray) rfl (HVal.build' (cs := (vR 0 0 bE false)) runUnderlying38 zeroValue38 places38 rfl) ?_)))))
 obtain ⟨z71, h⟩ := h
 refine hq (HOp.storeN' (l := (vR 0 0 bE false)) sizeOf38 rfl rfl rfl z71) ?_
 rintro _ H69 e70
 replace h := h H69 e70
 refine hv (v := iv 10) rfl (av rfl) (hn (nt (HW.ret ?_)))
 obtain ⟨x72, x73, x74, x75, c76, h⟩ := h
 exact ⟨_, resOf2 rfl (Res1.n (vR x72 x73 x74 x75) isAgg38 sizeOf38 rfl c76) Res1.t, ⟨x72, x73, x74, x75, 10, rfl, h⟩⟩

def F76 (p0_0 p0_1 : Int) (p0_2 : ByteArray) (p0_3 : Bool) (p1_0 p1_1 : Int) (p1_2 : ByteArray) (p1_3 : Bool) (H : Hp) (Q : ZQB) : Prop :=
∀ H1, H1 = Array.push H (.cells (vR p0_0 p0_1 p0_2 p0_3).toArray 38) → (
 ∀ H3, H3 = Array.push H1 (.cells (vR p1_0 p1_1 p1_2 p1_3).toArray 38) → (
 ∃ x6, cell H3 (Addr.add (bk H) 1) = some (iv x6) ∧ (
 ∃ x8, cell H3 (Addr.add (bk H1) 1) = some (iv x8) ∧ (
 (decide (x6 < x8) = true → (Q true H3)) ∧
 (decide (x6 < x8) = false → (∃ x12, cell H3 (Addr.add (bk H) 2) = some (sv x12) ∧ (
 ∃ x14, cell H3 (Addr.add (bk H1) 2) = some (sv x14) ∧ (
 Q (slt x12 x14) H3))))))))
theorem walk76 {w0 : World} {p0_0 p0_1 : Int} {p0_2 : ByteArray} {p0_3 : Bool} {p1_0 p1_1 : Int} {p1_2 : ByteArray} {p1_3 : Bool} {H : Hp} {Q : ZQB} (h : F76 p0_0 p0_1 p0_2 p0_3 p1_0 p1_1 p1_2 p1_3 H Q) :
  Good prog w0 76 #[(.agg (vR p0_0 p0_1 p0_2 p0_3).toArray), (.agg (vR p1_0 p1_1 p1_2 p1_3).toArray)] H (fun v H => ∃ r0, v = (bv r0) ∧ Q r0 H) := by
 unfold F76 at h
 refine Good.enter' (fn := f76) func76 rfl rfl rfl (ws (wr_ (ho rfl (ob (v := .agg (vR p0_0 p0_1 p0_2 p0_3).toArray) rfl) ?_)))
 rintro _ H1 ⟨rfl, e2⟩
 replace h := h H1 e2
 refine ho rfl (ob (v := .agg (vR p1_0 p1_1 p1_2 p1_3).toArray) rfl) ?_
 rintro _ H3 ⟨rfl, e4⟩
 replace h := h H3 e4
 refine hv (v := bv false) rfl (av rfl) (hn (nt (ws (wr_ (hv (v := pp (Addr.add (bk H) 1)) rfl (fa runUnderlying38 rfl rfl sizeOf2 rfl) ?_)))))
 obtain ⟨x6, c5, h⟩ := h
 refine hv (v := iv x6) rfl (l1 isAgg2 rfl c5) (hv (v := pp (Addr.add (bk H1) 1)) rfl (fa runUnderlying38 rfl rfl sizeOf2 rfl) ?_)
 obtain ⟨x8, c7, h⟩ := h
 refine hv (v := iv x8) rfl (l1 isAgg2 rfl c7) (hv (v := bv (decide (x6 < x8))) rfl (HVal.lss rfl rfl) (hv (v := bv (decide (x6 < x8))) rfl (mv rfl) ?_))
 obtain ⟨hT, hF⟩ := h
 rcases Bool.eq_false_or_eq_true (decide (x6 < x8)) with hb9 | hb10
 ·have h := hT hb9
  refine hs_ rfl rfl rfl rfl (cB hb9) (hs_ rfl rfl rfl rfl (cB hb9) (hs_ rfl rfl rfl rfl (cB hb9) (hs_ rfl rfl rfl rfl (cB hb9) ?_)))
  refine hs_ rfl rfl rfl rfl (cB hb9) (hv (v := bv true) rfl (pt_ rfl hb9 rfl) (hv (v := bv true) rfl (av rfl) ?_))
  refine hn (nt (HW.ret ?_))
  exact ⟨_, resOf1 rfl Res1.t, ⟨true, rfl, h⟩⟩
 have h := hF hb10
 refine hg (v := pp (Addr.add (bk H) 2)) rfl rfl rfl rfl (cB hb10) (fa runUnderlying38 rfl rfl sizeOf9 rfl) ?_
 obtain ⟨x12, c11, h⟩ := h
 refine hg (v := sv x12) rfl rfl rfl rfl (cB hb10) (l1 isAgg9 rfl c11) (hg (v := pp (Addr.add (bk H1) 2)) rfl rfl rfl rfl (cB hb10) (fa runUnderlying38 rfl rfl sizeOf9 rfl) ?_)
 obtain ⟨x14, c13, h⟩ := h
 refine hg (v := sv x14) rfl rfl rfl rfl (cB hb10) (l1 isAgg9 rfl c13) (hg (v := bv (slt x12 x14)) rfl rfl rfl rfl (cB hb10) (HVal.lssS rfl rfl) ?_)
 refine hv (v := bv (slt x12 x14)) rfl (pf_ rfl hb10 rfl) (hv (v := bv (slt x12 x14)) rfl (av rfl) (hn (nt (HW.ret ?_))))
 exact ⟨_, resOf1 rfl Res1.t, ⟨(slt x12 x14), rfl, h⟩⟩

def F66_2 (Q : ZQV) (y23 : Int) (y24 y25 y26 : Addr) (y33 : Bool) (H_2 : Hp) : Prop :=
(y33 = true → (mayw H_2 y26 4 0 ∧ ∀ H81, H81 = sets H_2 y26 (vR 0 0 bE false) 0 → (
 ∃ x84 x85 x86 x87, cells H81 y26 (vR x84 x85 x86 x87) 0 ∧ (
 Q x84 x85 x86 x87 10 H81)))) ∧
 (y33 = false → ((decide (y23 = 3) = true → (∃ x91, cell H_2 (Addr.add y24 1) = some (iv x91) ∧ (
 ∃ x93, cell H_2 (Addr.add y25 1) = some (iv x93) ∧ (
 F47 (IntKind.i64.wrap (x91 + x93)) H_2 (fun r96 r97 r98 r99 H94 =>
 mayw H94 y26 4 0 ∧ ∀ H100, H100 = sets H94 y26 (vR r96 r97 r98 r99) 0 → (
 ∃ x103 x104 x105 x106, cells H100 y26 (vR x103 x104 x105 x106) 0 ∧ (
 Q x103 x104 x105 x106 0 H100))))))) ∧
 (decide (y23 = 3) = false → ((decide (y23 = 4) = true → (∃ x110, cell H_2 (Addr.add y24 1) = some (iv x110) ∧ (
 ∃ x112, cell H_2 (Addr.add y25 1) = some (iv x112) ∧ (
 F47 (IntKind.i64.wrap (x110 - x112)) H_2 (fun r115 r116 r117 r118 H113 =>
 mayw H113 y26 4 0 ∧ ∀ H119, H119 = sets H113 y26 (vR r115 r116 r117 r118) 0 → (
 ∃ x122 x123 x124 x125, cells H119 y26 (vR x122 x123 x124 x125) 0 ∧ (
 Q x122 x123 x124 x125 0 H119))))))) ∧
 (decide (y23 = 4) = false → ((decide (y23 = 5) = true → (∃ x129, cell H_2 (Addr.add y24 1) = some (iv x129) ∧ (
 ∃ x131, cell H_2 (Addr.add y25 1) = some (iv x131) ∧ (
 F47 (IntKind.i64.wrap (x129 * x131)) H_2 (fun r134 r135 r136 r137 H132 =>
 mayw H132 y26 4 0 ∧ ∀ H138, H138 = sets H132 y26 (vR r134 r135 r136 r137) 0 → (
 ∃ x141 x142 x143 x144, cells H138 y26 (vR x141 x142 x143 x144) 0 ∧ (
 Q x141 x142 x143 x144 0 H138))))))) ∧
 (decide (y23 = 5) = false → ((decide (y23 = 6) = true → (∃ x148 x149 x150 x151, cells H_2 y24 (vR x148 x149 x150 x151) 0 ∧ (
 ∃ x153 x154 x155 x156, cells H_2 y25 (vR x153 x154 x155 x156) 0 ∧ (
 F52 (decide (x148 = x153) && (decide (x149 = x154) && (seq x150 x155 && (x151 == x156)))) H_2 (fun r159 r160 r161 r162 H157 =>
 mayw H157 y26 4 0 ∧ ∀ H163, H163 = sets H157 y26 (vR r159 r160 r161 r162) 0 → (
 ∃ x166 x167 x168 x169, cells H163 y26 (vR x166 x167 x168 x169) 0 ∧ (
 Q x166 x167 x168 x169 0 H163))))))) ∧
 (decide (y23 = 6) = false → ((decide (y23 = 7) = true → (∃ x173 x174 x175 x176, cells H_2 y24 (vR x173 x174 x175 x176) 0 ∧ (
 ∃ x178 x179 x180 x181, cells H_2 y25 (vR x178 x179 x180 x181) 0 ∧ (
 F52 (!(decide (x173 = x178) && (decide (x174 = x179) && (seq x175 x180 && (x176 == x181))))) H_2 (fun r184 r185 r186 r187 H182 =>
 mayw H182 y26 4 0 ∧ ∀ H188, H188 = sets H182 y26 (vR r184 r185 r186 r187) 0 → (
 ∃ x191 x192 x193 x194, cells H188 y26 (vR x191 x192 x193 x194) 0 ∧ (
 Q x191 x192 x193 x194 0 H188))))))) ∧
 (decide (y23 = 7) = false → ((decide (y23 = 8) = true → (∃ x198 x199 x200 x201, cells H_2 y24 (vR x198 x199 x200 x201) 0 ∧ (
 ∃ x203 x204 x205 x206, cells H_2 y25 (vR x203 x204 x205 x206) 0 ∧ (
 F76 x198 x199 x200 x201 x203 x204 x205 x206 H_2 (fun r209 H207 =>
 F52 r209 H207 (fun r212 r213 r214 r215 H210 =>
 mayw H210 y26 4 0 ∧ ∀ H216, H216 = sets H210 y26 (vR r212 r213 r214 r215) 0 → (
 ∃ x219 x220 x221 x222, cells H216 y26 (vR x219 x220 x221 x222) 0 ∧ (
 Q x219 x220 x221 x222 0 H216)))))))) ∧
 (decide (y23 = 8) = false → ((decide (y23 = 9) = true → (∃ x226 x227 x228 x229, cells H_2 y25 (vR x226 x227 x228 x229) 0 ∧ (
 ∃ x231 x232 x233 x234, cells H_2 y24 (vR x231 x232 x233 x234) 0 ∧ (
 F76 x226 x227 x228 x229 x231 x232 x233 x234 H_2 (fun r237 H235 =>
 F52 (!r237) H235 (fun r240 r241 r242 r243 H238 =>
 mayw H238 y26 4 0 ∧ ∀ H244, H244 = sets H238 y26 (vR r240 r241 r242 r243) 0 → (
 ∃ x247 x248 x249 x250, cells H244 y26 (vR x247 x248 x249 x250) 0 ∧ (
 Q x247 x248 x249 x250 0 H244)))))))) ∧
 (decide (y23 = 9) = false → ((decide (y23 = 10) = true → (∃ x254 x255 x256 x257, cells H_2 y25 (vR x254 x255 x256 x257) 0 ∧ (
 ∃ x259 x260 x261 x262, cells H_2 y24 (vR x259 x260 x261 x262) 0 ∧ (
 F76 x254 x255 x256 x257 x259 x260 x261 x262 H_2 (fun r265 H263 =>
 F52 r265 H263 (fun r268 r269 r270 r271 H266 =>
 mayw H266 y26 4 0 ∧ ∀ H272, H272 = sets H266 y26 (vR r268 r269 r270 r271) 0 → (
 ∃ x275 x276 x277 x278, cells H272 y26 (vR x275 x276 x277 x278) 0 ∧ (
 Q x275 x276 x277 x278 0 H272)))))))) ∧
 (decide (y23 = 10) = false → ((decide (y23 = 11) = true → (∃ x282 x283 x284 x285, cells H_2 y24 (vR x282 x283 x284 x285) 0 ∧ (
 ∃ x287 x288 x289 x290, cells H_2 y25 (vR x287 x288 x289 x290) 0 ∧ (
 F76 x282 x283 x284 x285 x287 x288 x289 x290 H_2 (fun r293 H291 =>
 F52 (!r293) H291 (fun r296 r297 r298 r299 H294 =>
 mayw H294 y26 4 0 ∧ ∀ H300, H300 = sets H294 y26 (vR r296 r297 r298 r299) 0 → (
 ∃ x303 x304 x305 x306, cells H300 y26 (vR x303 x304 x305 x306) 0 ∧ (
 Q x303 x304 x305 x306 0 H300)))))))) ∧
 (decide (y23 = 11) = false → ((decide (y23 = 12) = true → (∃ x310, cell H_2 (Addr.add y24 3) = some (bv x310) ∧ (
 (x310 = true → (∃ x314, cell H_2 (Addr.add y25 3) = some (bv x314) ∧ (
 F52 x314 H_2 (fun r317 r318 r319 r320 H315 =>
 mayw H315 y26 4 0 ∧ ∀ H321, H321 = sets H315 y26 (vR r317 r318 r319 r320) 0 → (
 ∃ x324 x325 x326 x327, cells H321 y26 (vR x324 x325 x326 x327) 0 ∧ (
 Q x324 x325 x326 x327 0 H321)))))) ∧
 (x310 = false → (F52 false H_2 (fun r331 r332 r333 r334 H329 =>
 mayw H329 y26 4 0 ∧ ∀ H335, H335 = sets H329 y26 (vR r331 r332 r333 r334) 0 → (
 ∃ x338 x339 x340 x341, cells H335 y26 (vR x338 x339 x340 x341) 0 ∧ (
 Q x338 x339 x340 x341 0 H335)))))))) ∧
 (decide (y23 = 12) = false → (∃ x344, cell H_2 (Addr.add y24 3) = some (bv x344) ∧ (
 (x344 = true → (F52 true H_2 (fun r349 r350 r351 r352 H347 =>
 mayw H347 y26 4 0 ∧ ∀ H353, H353 = sets H347 y26 (vR r349 r350 r351 r352) 0 → (
 ∃ x356 x357 x358 x359, cells H353 y26 (vR x356 x357 x358 x359) 0 ∧ (
 Q x356 x357 x358 x359 0 H353))))) ∧
 (x344 = false → (∃ x362, cell H_2 (Addr.add y25 3) = some (bv x362) ∧ (
 F52 x362 H_2 (fun r365 r366 r367 r368 H363 =>
 mayw H363 y26 4 0 ∧ ∀ H369, H369 = sets H363 y26 (vR r365 r366 r367 r368) 0 → (
 ∃ x372 x373 x374 x375, cells H369 y26 (vR x372 x373 x374 x375) 0 ∧ (
 Q x372 x373 x374 x375 0 H369)))))))))))))))))))))))))))))
def F66_1 (Q : ZQV) (y7 : Int) (y8 y9 y10 : Addr) (y13 : Bool) (H_1 : Hp) : Prop :=
(y13 = true → (mayw H_1 y10 4 0 ∧ ∀ H15, H15 = sets H_1 y10 (vR 0 0 bE false) 0 → (
 ∃ x18 x19 x20 x21, cells H15 y10 (vR x18 x19 x20 x21) 0 ∧ (
 Q x18 x19 x20 x21 11 H15)))) ∧
 (y13 = false → (∃ x28, cell H_1 y8 = some (iv x28) ∧ (
 ∃ x30, cell H_1 y9 = some (iv x30) ∧ (
 (decide (x28 ≠ x30) = true → (F66_2 Q y7 y8 y9 y10 true H_1)) ∧
 (decide (x28 ≠ x30) = false → ((decide (y7 ≤ 5) = true → (∃ x37, cell H_1 y8 = some (iv x37) ∧ (
 (decide (x37 ≠ 1) = true → (F66_2 Q y7 y8 y9 y10 true H_1)) ∧
 (decide (x37 ≠ 1) = false → (((decide ((8 : Int) ≤ y7)) = true → ((decide (y7 ≤ 11) = true → (∃ x45, cell H_1 y8 = some (iv x45) ∧ (
 (decide (x45 = 3) = true → (F66_2 Q y7 y8 y9 y10 true H_1)) ∧
 (decide (x45 = 3) = false → (((decide ((12 : Int) ≤ y7)) = true → (∃ x51, cell H_1 y8 = some (iv x51) ∧ (
 F66_2 Q y7 y8 y9 y10 (decide (x51 ≠ 3)) H_1))) ∧
 ((decide ((12 : Int) ≤ y7)) = false → (F66_2 Q y7 y8 y9 y10 false H_1))))))) ∧
 (decide (y7 ≤ 11) = false → (((decide ((12 : Int) ≤ y7)) = true → (∃ x55, cell H_1 y8 = some (iv x55) ∧ (
 F66_2 Q y7 y8 y9 y10 (decide (x55 ≠ 3)) H_1))) ∧
 ((decide ((12 : Int) ≤ y7)) = false → (F66_2 Q y7 y8 y9 y10 false H_1)))))) ∧
 ((decide ((8 : Int) ≤ y7)) = false → (((decide ((12 : Int) ≤ y7)) = true → (∃ x59, cell H_1 y8 = some (iv x59) ∧ (
 F66_2 Q y7 y8 y9 y10 (decide (x59 ≠ 3)) H_1))) ∧
 ((decide ((12 : Int) ≤ y7)) = false → (F66_2 Q y7 y8 y9 y10 false H_1))))))))) ∧
 (decide (y7 ≤ 5) = false → (((decide ((8 : Int) ≤ y7)) = true → ((decide (y7 ≤ 11) = true → (∃ x65, cell H_1 y8 = some (iv x65) ∧ (
 (decide (x65 = 3) = true → (F66_2 Q y7 y8 y9 y10 true H_1)) ∧
 (decide (x65 = 3) = false → (((decide ((12 : Int) ≤ y7)) = true → (∃ x71, cell H_1 y8 = some (iv x71) ∧ (
 F66_2 Q y7 y8 y9 y10 (decide (x71 ≠ 3)) H_1))) ∧
 ((decide ((12 : Int) ≤ y7)) = false → (F66_2 Q y7 y8 y9 y10 false H_1))))))) ∧
 (decide (y7 ≤ 11) = false → (((decide ((12 : Int) ≤ y7)) = true → (∃ x75, cell H_1 y8 = some (iv x75) ∧ (
 F66_2 Q y7 y8 y9 y10 (decide (x75 ≠ 3)) H_1))) ∧
 ((decide ((12 : Int) ≤ y7)) = false → (F66_2 Q y7 y8 y9 y10 false H_1)))))) ∧
 ((decide ((8 : Int) ≤ y7)) = false → (((decide ((12 : Int) ≤ y7)) = true → (∃ x79, cell H_1 y8 = some (iv x79) ∧ (
 F66_2 Q y7 y8 y9 y10 (decide (x79 ≠ 3)) H_1))) ∧
 ((decide ((12 : Int) ≤ y7)) = false → (F66_2 Q y7 y8 y9 y10 false H_1))))))))))))
def F66 (p0 p1_0 p1_1 : Int) (p1_2 : ByteArray) (p1_3 : Bool) (p2_0 p2_1 : Int) (p2_2 : ByteArray) (p2_3 : Bool) (H : Hp) (Q : ZQV) : Prop :=
∀ H1, H1 = Array.push H (.cells (vR p1_0 p1_1 p1_2 p1_3).toArray 38) → (
 ∀ H3, H3 = Array.push H1 (.cells (vR p2_0 p2_1 p2_2 p2_3).toArray 38) → (
 ∀ H5, H5 = Array.push H3 (.cells (vR 0 0 bE false).toArray 38) → (
 (decide (p0 < 3) = true → (F66_1 Q p0 (bk H) (bk H1) (bk H3) true H5)) ∧
 (decide (p0 < 3) = false → (F66_1 Q p0 (bk H) (bk H1) (bk H3) (decide ((13 : Int) < p0)) H5)))))
theorem walk66 {w0 : World} {p0 p1_0 p1_1 : Int} {p1_2 : ByteArray} {p1_3 : Bool} {p2_0 p2_1 : Int} {p2_2 : ByteArray} {p2_3 : Bool} {H : Hp} {Q : ZQV} (h : F66 p0 p1_0 p1_1 p1_2 p1_3 p2_0 p2_1 p2_2 p2_3 H Q) :
  Good prog w0 66 #[(iv p0), (.agg (vR p1_0 p1_1 p1_2 p1_3).toArray), (.agg (vR p2_0 p2_1 p2_2 p2_3).toArray)] H (fun v H => ∃ r0 r1 r2 r3 r4, v = (.tuple #[(.agg (vR r0 r1 r2 r3).toArray), (iv r4)]) ∧ Q r0 r1 r2 r3 r4 H) := by
 unfold F66 at h
 refine Good.enter' (fn := f66) func66 rfl rfl rfl (ws (wr_ (ho rfl (ob (v := .agg (vR p1_0 p1_1 p1_2 p1_3).toArray) rfl) ?_)))
 rintro _ H1 ⟨rfl, e2⟩
 replace h := h H1 e2
 refine ho rfl (ob (v := .agg (vR p2_0 p2_1 p2_2 p2_3).toArray) rfl) ?_
 rintro _ H3 ⟨rfl, e4⟩
 replace h := h H3 e4
 refine ho rfl (HOp.alloc zeroValue38) ?_
 rintro _ H5 ⟨rfl, e6⟩
 replace h := h H5 e6
 refine hv (v := iv 0) rfl (av rfl) (hn (nt (ws (wc (fun ρ H_1 => ∃ y13, Env.Is ρ [(0, (iv p0)), (4, (pp (bk H))), (5, (pp (bk H1))), (6, (pp (bk H3))), (13, (bv y13))] ∧ F66_1 Q p0 (bk H) (bk H1) (bk H3) y13 H_1) ?_ ?_))))
 ·refine wr_ (hv (v := iv p0) rfl (mv rfl) (hv (v := bv (decide (p0 < 3))) rfl (HVal.lss rfl rfl) (hv (v := bv (decide (p0 < 3))) rfl (mv rfl) ?_)))
  obtain ⟨hT, hF⟩ := h
  rcases Bool.eq_false_or_eq_true (decide (p0 < 3)) with hb11 | hb12
  ·have h := hT hb11
   refine hs_ rfl rfl rfl rfl (cB hb11) (hs_ rfl rfl rfl rfl (cB hb11) (hv (v := bv true) rfl (pt_ rfl hb11 rfl) (hn (nt ?_))))
   exact ⟨true, (isp rfl), h⟩
  have h := hF hb12
  refine hg (v := iv p0) rfl rfl rfl rfl (cB hb12) (mv rfl) (hg (v := bv (decide ((13 : Int) < p0))) rfl rfl rfl rfl (cB hb12) (HVal.gtr rfl rfl) ?_)
  refine hv (v := bv (decide ((13 : Int) < p0))) rfl (pf_ rfl hb12 rfl) (hn (nt ?_))
  exact ⟨(decide ((13 : Int) < p0)), (isp rfl), h⟩
 rintro ρ H_1 ⟨y13, hI, h⟩
 obtain ⟨ρ0, rfl⟩ := hI.ex
 clear hI; unfold F66_1 at h
 obtain ⟨hT, hF⟩ := h
 refine wk y13 rfl (fun hb14 => ?_) (fun hb14 => ?_)
 ·have h := hT hb14
  refine ws (wr_ (hv (v := .agg (vR 0 0 bE false).toArray) rfl (HVal.build' (cs := (vR 0 0 bE false)) runUnderlying38 zeroValue38 places38 rfl) ?_))
  obtain ⟨z17, h⟩ := h
  refine hq (HOp.storeN' (l := (vR 0 0 bE false)) sizeOf38 rfl rfl rfl z17) ?_
  rintro _ H15 e16
  replace h := h H15 e16
  refine hv (v := iv 11) rfl (av rfl) (hn (nt (HW.ret (tr ?_))))
  obtain ⟨x18, x19, x20, x21, c22, h⟩ := h
  exact ⟨_, resOf2 rfl (Res1.n (vR x18 x19 x20 x21) isAgg38 sizeOf38 rfl c22) Res1.t, ⟨x18, x19, x20, x21, 11, rfl, h⟩⟩
 have h := hF hb14
 refine wp_ (nt (ws (wc (fun ρ H_2 => ∃ y33, Env.Is ρ [(0, (iv p0)), (4, (pp (bk H))), (5, (pp (bk H1))), (6, (pp (bk H3))), (50, (bv y33))] ∧ F66_2 Q p0 (bk H) (bk H1) (bk H3) y33 H_2) ?_ ?_)))
 ·refine wr_ (hv (v := pp (bk H)) rfl (HVal.fieldAddr0 runUnderlying38 rfl rfl sizeOf3 rfl) ?_)
  obtain ⟨x28, c27, h⟩ := h
  refine hv (v := iv x28) rfl (l1 isAgg3 rfl c27) (hv (v := pp (bk H1)) rfl (HVal.fieldAddr0 runUnderlying38 rfl rfl sizeOf3 rfl) ?_)
  obtain ⟨x30, c29, h⟩ := h
  refine hv (v := iv x30) rfl (l1 isAgg3 rfl c29) (hv (v := bv (decide (x28 ≠ x30))) rfl (HVal.neqI rfl rfl) (hv (v := bv (decide (x28 ≠ x30))) rfl (mv rfl) ?_))
  obtain ⟨hT, hF⟩ := h
  rcases Bool.eq_false_or_eq_true (decide (x28 ≠ x30)) with hb31 | hb32
  ·have h := hT hb31
   refine hs_ rfl rfl rfl rfl (cB hb31) (hs_ rfl rfl rfl rfl (cB hb31) (hs_ rfl rfl rfl rfl (cB hb31) (HList.uskips rfl rfl rfl rfl rfl ?_)))
   refine HList.uskips rfl rfl rfl rfl rfl (HList.uskips rfl rfl rfl rfl rfl (hs_ rfl rfl rfl rfl (cB hb31) (hv (v := bv true) rfl (pt_ rfl hb31 rfl) ?_)))
   refine hv (v := bv true) rfl (mv rfl) (hs_ rfl rfl rfl rfl rfl (hs_ rfl rfl rfl rfl rfl (hs_ rfl rfl rfl rfl rfl ?_)))
   refine HList.uskips rfl rfl rfl rfl rfl (HList.uskips rfl rfl rfl rfl rfl (hs_ rfl rfl rfl rfl rfl (hs_ rfl rfl rfl rfl rfl (HList.uskips rfl rfl rfl rfl rfl ?_))))
   refine HList.uskips rfl rfl rfl rfl rfl (HList.uskips rfl rfl rfl rfl rfl (hs_ rfl rfl rfl rfl rfl (hv (v := bv true) rfl (pt_ rfl rfl rfl) ?_)))
   refine hv (v := bv true) rfl (mv rfl) (hs_ rfl rfl rfl rfl rfl (hs_ rfl rfl rfl rfl rfl (hs_ rfl rfl rfl rfl rfl ?_)))
   refine HList.uskips rfl rfl rfl rfl rfl (HList.uskips rfl rfl rfl rfl rfl (HList.uskips rfl rfl rfl rfl rfl (hs_ rfl rfl rfl rfl rfl (hv (v := bv true) rfl (pt_ rfl rfl rfl) ?_))))
   refine hn (nt ?_)
   exact ⟨true, (isp rfl), h⟩
  have h := hF hb32
  refine hg (v := iv p0) rfl rfl rfl rfl (cB hb32) (mv rfl) (hg (v := bv (decide (p0 ≤ 5))) rfl rfl rfl rfl (cB hb32) (HVal.leq rfl rfl) ?_)
  refine hg (v := bv (decide (p0 ≤ 5))) rfl rfl rfl rfl (cB hb32) (mv rfl) ?_
  obtain ⟨hT, hF⟩ := h
  rcases Bool.eq_false_or_eq_true (decide (p0 ≤ 5)) with hb34 | hb35
  ·have h := hT hb34
   refine hg (v := pp (bk H)) rfl rfl rfl rfl (cB hb34) (HVal.fieldAddr0 runUnderlying38 rfl rfl sizeOf3 rfl) ?_
   obtain ⟨x37, c36, h⟩ := h
   refine hg (v := iv x37) rfl rfl rfl rfl (cB hb34) (l1 isAgg3 rfl c36) (hg (v := bv (decide (x37 ≠ 1))) rfl rfl rfl rfl (cB hb34) (HVal.neqI rfl rfl) ?_)
   refine hg (v := bv (decide (x37 ≠ 1))) rfl rfl rfl rfl (cB hb32) (pt_ rfl hb34 rfl) (hv (v := bv (decide (x37 ≠ 1))) rfl (pf_ rfl hb32 rfl) ?_)
   refine hv (v := bv (decide (x37 ≠ 1))) rfl (mv rfl) ?_
   obtain ⟨hT, hF⟩ := h
   rcases Bool.eq_false_or_eq_true (decide (x37 ≠ 1)) with hb38 | hb39
   ·have h := hT hb38
    refine hs_ rfl rfl rfl rfl (cB hb38) (hs_ rfl rfl rfl rfl (cB hb38) (hs_ rfl rfl rfl rfl (cB hb38) (HList.uskips rfl rfl rfl rfl rfl ?_)))
    refine HList.uskips rfl rfl rfl rfl rfl (hs_ rfl rfl rfl rfl (cB hb38) (hs_ rfl rfl rfl rfl (cB hb38) (HList.uskips rfl rfl rfl rfl rfl ?_)))
    refine HList.uskips rfl rfl rfl rfl rfl (HList.uskips rfl rfl rfl rfl rfl (hs_ rfl rfl rfl rfl (cB hb38) (hv (v := bv true) rfl (pt_ rfl hb38 rfl) ?_)))
    refine hv (v := bv true) rfl (mv rfl) (hs_ rfl rfl rfl rfl rfl (hs_ rfl rfl rfl rfl rfl (hs_ rfl rfl rfl rfl rfl ?_)))
    refine HList.uskips rfl rfl rfl rfl rfl (HList.uskips rfl rfl rfl rfl rfl (HList.uskips rfl rfl rfl rfl rfl (hs_ rfl rfl rfl rfl rfl (hv (v := bv true) rfl (pt_ rfl rfl rfl) ?_))))
    refine hn (nt ?_)
    exact ⟨true, (isp rfl), h⟩
   have h := hF hb39
   refine hg (v := iv p0) rfl rfl rfl rfl (cB hb39) (mv rfl) (hg (v := bv (decide ((8 : Int) ≤ p0))) rfl rfl rfl rfl (cB hb39) (HVal.geq rfl rfl) ?_)
   refine hg (v := bv (decide ((8 : Int) ≤ p0))) rfl rfl rfl rfl (cB hb39) (mv rfl) ?_
   obtain ⟨hT, hF⟩ := h
   rcases Bool.eq_false_or_eq_true (decide ((8 : Int) ≤ p0)) with hb40 | hb41
   ·have h := hT hb40
    refine hg (v := iv p0) rfl rfl rfl rfl (cB hb40) (mv rfl) (hg (v := bv (decide (p0 ≤ 11))) rfl rfl rfl rfl (cB hb40) (HVal.leq rfl rfl) ?_)
    refine hg (v := bv (decide (p0 ≤ 11))) rfl rfl rfl rfl (cB hb39) (pt_ rfl hb40 rfl) (hg (v := bv (decide (p0 ≤ 11))) rfl rfl rfl rfl (cB hb39) (mv rfl) ?_)
    obtain ⟨hT, hF⟩ := h
    rcases Bool.eq_false_or_eq_true (decide (p0 ≤ 11)) with hb42 | hb43
    ·have h := hT hb42
     refine hg (v := pp (bk H)) rfl rfl rfl rfl (cB hb42) (HVal.fieldAddr0 runUnderlying38 rfl rfl sizeOf3 rfl) ?_
     obtain ⟨x45, c44, h⟩ := h
     refine hg (v := iv x45) rfl rfl rfl rfl (cB hb42) (l1 isAgg3 rfl c44) (hg (v := bv (decide (x45 = 3))) rfl rfl rfl rfl (cB hb42) (HVal.eqlI rfl rfl) ?_)
     refine hg (v := bv (decide (x45 = 3))) rfl rfl rfl rfl (cB hb39) (pt_ rfl hb42 rfl) (hv (v := bv (decide (x45 = 3))) rfl (pf_ rfl hb39 rfl) ?_)
     refine hv (v := bv (decide (x45 = 3))) rfl (mv rfl) ?_
     obtain ⟨hT, hF⟩ := h
     rcases Bool.eq_false_or_eq_true (decide (x45 = 3)) with hb46 | hb47
     ·have h := hT hb46
      refine hs_ rfl rfl rfl rfl (cB hb46) (hs_ rfl rfl rfl rfl (cB hb46) (hs_ rfl rfl rfl rfl (cB hb46) (HList.uskips rfl rfl rfl rfl rfl ?_)))
      refine HList.uskips rfl rfl rfl rfl rfl (HList.uskips rfl rfl rfl rfl rfl (hs_ rfl rfl rfl rfl (cB hb46) (hv (v := bv true) rfl (pt_ rfl hb46 rfl) ?_)))
      refine hn (nt ?_)
      exact ⟨true, (isp rfl), h⟩
     have h := hF hb47
     refine hg (v := iv p0) rfl rfl rfl rfl (cB hb47) (mv rfl) (hg (v := bv (decide ((12 : Int) ≤ p0))) rfl rfl rfl rfl (cB hb47) (HVal.geq rfl rfl) ?_)
     refine hg (v := bv (decide ((12 : Int) ≤ p0))) rfl rfl rfl rfl (cB hb47) (mv rfl) ?_
     obtain ⟨hT, hF⟩ := h
     rcases Bool.eq_false_or_eq_true (decide ((12 : Int) ≤ p0)) with hb48 | hb49
     ·have h := hT hb48
      refine hg (v := pp (bk H)) rfl rfl rfl rfl (cB hb48) (HVal.fieldAddr0 runUnderlying38 rfl rfl sizeOf3 rfl) ?_
      obtain ⟨x51, c50, h⟩ := h
      refine hg (v := iv x51) rfl rfl rfl rfl (cB hb48) (l1 isAgg3 rfl c50) (hg (v := bv (decide (x51 ≠ 3))) rfl rfl rfl rfl (cB hb48) (HVal.neqI rfl rfl) ?_)
      refine hg (v := bv (decide (x51 ≠ 3))) rfl rfl rfl rfl (cB hb47) (pt_ rfl hb48 rfl) (hv (v := bv (decide (x51 ≠ 3))) rfl (pf_ rfl hb47 rfl) ?_)
      refine hn (nt ?_)
      exact ⟨(decide (x51 ≠ 3)), (isp rfl), h⟩
     have h := hF hb49
     refine hs_ rfl rfl rfl rfl (cB hb49) (hs_ rfl rfl rfl rfl (cB hb49) (hs_ rfl rfl rfl rfl (cB hb49) (hg (v := bv false) rfl rfl rfl rfl (cB hb47) (pf_ rfl hb49 rfl) ?_)))
     refine hv (v := bv false) rfl (pf_ rfl hb47 rfl) (hn (nt ?_))
     exact ⟨false, (isp rfl), h⟩
    have h := hF hb43
    refine hs_ rfl rfl rfl rfl (cB hb43) (hs_ rfl rfl rfl rfl (cB hb43) (hs_ rfl rfl rfl rfl (cB hb43) (hg (v := bv false) rfl rfl rfl rfl (cB hb39) (pf_ rfl hb43 rfl) ?_)))
    refine hv (v := bv false) rfl (pf_ rfl hb39 rfl) (hv (v := bv false) rfl (mv rfl) (hg (v := iv p0) rfl rfl rfl rfl rfl (mv rfl) ?_))
    refine hg (v := bv (decide ((12 : Int) ≤ p0))) rfl rfl rfl rfl rfl (HVal.geq rfl rfl) (hg (v := bv (decide ((12 : Int) ≤ p0))) rfl rfl rfl rfl rfl (mv rfl) ?_)
    obtain ⟨hT, hF⟩ := h
    rcases Bool.eq_false_or_eq_true (decide ((12 : Int) ≤ p0)) with hb52 | hb53
    ·have h := hT hb52
     refine hg (v := pp (bk H)) rfl rfl rfl rfl (cB hb52) (HVal.fieldAddr0 runUnderlying38 rfl rfl sizeOf3 rfl) ?_
     obtain ⟨x55, c54, h⟩ := h
     refine hg (v := iv x55) rfl rfl rfl rfl (cB hb52) (l1 isAgg3 rfl c54) (hg (v := bv (decide (x55 ≠ 3))) rfl rfl rfl rfl (cB hb52) (HVal.neqI rfl rfl) ?_)
     refine hg (v := bv (decide (x55 ≠ 3))) rfl rfl rfl rfl rfl (pt_ rfl hb52 rfl) (hv (v := bv (decide (x55 ≠ 3))) rfl (pf_ rfl rfl rfl) ?_)
     refine hn (nt ?_)
     exact ⟨(decide (x55 ≠ 3)), (isp rfl), h⟩
    have h := hF hb53
    refine hs_ rfl rfl rfl rfl (cB hb53) (hs_ rfl rfl rfl rfl (cB hb53) (hs_ rfl rfl rfl rfl (cB hb53) (hg (v := bv false) rfl rfl rfl rfl rfl (pf_ rfl hb53 rfl) ?_)))
    refine hv (v := bv false) rfl (pf_ rfl rfl rfl) (hn (nt ?_))
    exact ⟨false, (isp rfl), h⟩
   have h := hF hb41
   refine hs_ rfl rfl rfl rfl (cB hb41) (hs_ rfl rfl rfl rfl (cB hb41) (hg (v := bv false) rfl rfl rfl rfl (cB hb39) (pf_ rfl hb41 rfl) ?_))
   refine hg (v := bv false) rfl rfl rfl rfl (cB hb39) (mv rfl) (hs_ rfl rfl rfl rfl rfl (hs_ rfl rfl rfl rfl rfl (hs_ rfl rfl rfl rfl rfl ?_)))
   refine hg (v := bv false) rfl rfl rfl rfl (cB hb39) (pf_ rfl rfl rfl) (hv (v := bv false) rfl (pf_ rfl hb39 rfl) (hv (v := bv false) rfl (mv rfl) ?_))
   refine hg (v := iv p0) rfl rfl rfl rfl rfl (mv rfl) (hg (v := bv (decide ((12 : Int) ≤ p0))) rfl rfl rfl rfl rfl (HVal.geq rfl rfl) ?_)
   refine hg (v := bv (decide ((12 : Int) ≤ p0))) rfl rfl rfl rfl rfl (mv rfl) ?_
   obtain ⟨hT, hF⟩ := h
   rcases Bool.eq_false_or_eq_true (decide ((12 : Int) ≤ p0)) with hb56 | hb57
   ·have h := hT hb56
    refine hg (v := pp (bk H)) rfl rfl rfl rfl (cB hb56) (HVal.fieldAddr0 runUnderlying38 rfl rfl sizeOf3 rfl) ?_
    obtain ⟨x59, c58, h⟩ := h
    refine hg (v := iv x59) rfl rfl rfl rfl (cB hb56) (l1 isAgg3 rfl c58) (hg (v := bv (decide (x59 ≠ 3))) rfl rfl rfl rfl (cB hb56) (HVal.neqI rfl rfl) ?_)
    refine hg (v := bv (decide (x59 ≠ 3))) rfl rfl rfl rfl rfl (pt_ rfl hb56 rfl) (hv (v := bv (decide (x59 ≠ 3))) rfl (pf_ rfl rfl rfl) ?_)
    refine hn (nt ?_)
    exact ⟨(decide (x59 ≠ 3)), (isp rfl), h⟩
   have h := hF hb57
   refine hs_ rfl rfl rfl rfl (cB hb57) (hs_ rfl rfl rfl rfl (cB hb57) (hs_ rfl rfl rfl rfl (cB hb57) (hg (v := bv false) rfl rfl rfl rfl rfl (pf_ rfl hb57 rfl) ?_)))
   refine hv (v := bv false) rfl (pf_ rfl rfl rfl) (hn (nt ?_))
   exact ⟨false, (isp rfl), h⟩
  have h := hF hb35
  refine hs_ rfl rfl rfl rfl (cB hb35) (hs_ rfl rfl rfl rfl (cB hb35) (hs_ rfl rfl rfl rfl (cB hb35) (hg (v := bv false) rfl rfl rfl rfl (cB hb32) (pf_ rfl hb35 rfl) ?_)))
  refine hv (v := bv false) rfl (pf_ rfl hb32 rfl) (hv (v := bv false) rfl (mv rfl) (hg (v := iv p0) rfl rfl rfl rfl rfl (mv rfl) ?_))
  refine hg (v := bv (decide ((8 : Int) ≤ p0))) rfl rfl rfl rfl rfl (HVal.geq rfl rfl) (hg (v := bv (decide ((8 : Int) ≤ p0))) rfl rfl rfl rfl rfl (mv rfl) ?_)
  obtain ⟨hT, hF⟩ := h
  rcases Bool.eq_false_or_eq_true (decide ((8 : Int) ≤ p0)) with hb60 | hb61
  ·have h := hT hb60
   refine hg (v := iv p0) rfl rfl rfl rfl (cB hb60) (mv rfl) (hg (v := bv (decide (p0 ≤ 11))) rfl rfl rfl rfl (cB hb60) (HVal.leq rfl rfl) ?_)
   refine hg (v := bv (decide (p0 ≤ 11))) rfl rfl rfl rfl rfl (pt_ rfl hb60 rfl) (hg (v := bv (decide (p0 ≤ 11))) rfl rfl rfl rfl rfl (mv rfl) ?_)
   obtain ⟨hT, hF⟩ := h
   rcases Bool.eq_false_or_eq_true (decide (p0 ≤ 11)) with hb62 | hb63
   ·have h := hT hb62
    refine hg (v := pp (bk H)) rfl rfl rfl rfl (cB hb62) (HVal.fieldAddr0 runUnderlying38 rfl rfl sizeOf3 rfl) ?_
    obtain ⟨x65, c64, h⟩ := h
    refine hg (v := iv x65) rfl rfl rfl rfl (cB hb62) (l1 isAgg3 rfl c64) (hg (v := bv (decide (x65 = 3))) rfl rfl rfl rfl (cB hb62) (HVal.eqlI rfl rfl) ?_)
    refine hg (v := bv (decide (x65 = 3))) rfl rfl rfl rfl rfl (pt_ rfl hb62 rfl) (hv (v := bv (decide (x65 = 3))) rfl (pf_ rfl rfl rfl) ?_)
    refine hv (v := bv (decide (x65 = 3))) rfl (mv rfl) ?_
    obtain ⟨hT, hF⟩ := h
    rcases Bool.eq_false_or_eq_true (decide (x65 = 3)) with hb66 | hb67
    ·have h := hT hb66
     refine hs_ rfl rfl rfl rfl (cB hb66) (hs_ rfl rfl rfl rfl (cB hb66) (hs_ rfl rfl rfl rfl (cB hb66) (HList.uskips rfl rfl rfl rfl rfl ?_)))
     refine HList.uskips rfl rfl rfl rfl rfl (HList.uskips rfl rfl rfl rfl rfl (hs_ rfl rfl rfl rfl (cB hb66) (hv (v := bv true) rfl (pt_ rfl hb66 rfl) ?_)))
     refine hn (nt ?_)
     exact ⟨true, (isp rfl), h⟩
    have h := hF hb67
    refine hg (v := iv p0) rfl rfl rfl rfl (cB hb67) (mv rfl) (hg (v := bv (decide ((12 : Int) ≤ p0))) rfl rfl rfl rfl (cB hb67) (HVal.geq rfl rfl) ?_)
    refine hg (v := bv (decide ((12 : Int) ≤ p0))) rfl rfl rfl rfl (cB hb67) (mv rfl) ?_
    obtain ⟨hT, hF⟩ := h
    rcases Bool.eq_false_or_eq_true (decide ((12 : Int) ≤ p0)) with hb68 | hb69
    ·have h := hT hb68
     refine hg (v := pp (bk H)) rfl rfl rfl rfl (cB hb68) (HVal.fieldAddr0 runUnderlying38 rfl rfl sizeOf3 rfl) ?_
     obtain ⟨x71, c70, h⟩ := h
     refine hg (v := iv x71) rfl rfl rfl rfl (cB hb68) (l1 isAgg3 rfl c70) (hg (v := bv (decide (x71 ≠ 3))) rfl rfl rfl rfl (cB hb68) (HVal.neqI rfl rfl) ?_)
     refine hg (v := bv (decide (x71 ≠ 3))) rfl rfl rfl rfl (cB hb67) (pt_ rfl hb68 rfl) (hv (v := bv (decide (x71 ≠ 3))) rfl (pf_ rfl hb67 rfl) ?_)
     refine hn (nt ?_)
     exact ⟨(decide (x71 ≠ 3)), (isp rfl), h⟩
    have h := hF hb69
    refine hs_ rfl rfl rfl rfl (cB hb69) (hs_ rfl rfl rfl rfl (cB hb69) (hs_ rfl rfl rfl rfl (cB hb69) (hg (v := bv false) rfl rfl rfl rfl (cB hb67) (pf_ rfl hb69 rfl) ?_)))
    refine hv (v := bv false) rfl (pf_ rfl hb67 rfl) (hn (nt ?_))
    exact ⟨false, (isp rfl), h⟩
   have h := hF hb63
   refine hs_ rfl rfl rfl rfl (cB hb63) (hs_ rfl rfl rfl rfl (cB hb63) (hs_ rfl rfl rfl rfl (cB hb63) (hg (v := bv false) rfl rfl rfl rfl rfl (pf_ rfl hb63 rfl) ?_)))
   refine hv (v := bv false) rfl (pf_ rfl rfl rfl) (hv (v := bv false) rfl (mv rfl) (hg (v := iv p0) rfl rfl rfl rfl rfl (mv rfl) ?_))
   refine hg (v := bv (decide ((12 : Int) ≤ p0))) rfl rfl rfl rfl rfl (HVal.geq rfl rfl) (hg (v := bv (decide ((12 : Int) ≤ p0))) rfl rfl rfl rfl rfl (mv rfl) ?_)
   obtain ⟨hT, hF⟩ := h
   rcases Bool.eq_false_or_eq_true (decide ((12 : Int) ≤ p0)) with hb72 | hb73
   ·have h := hT hb72
    refine hg (v := pp (bk H)) rfl rfl rfl rfl (cB hb72) (HVal.fieldAddr0 runUnderlying38 rfl rfl sizeOf3 rfl) ?_
    obtain ⟨x75, c74, h⟩ := h
    refine hg (v := iv x75) rfl rfl rfl rfl (cB hb72) (l1 isAgg3 rfl c74) (hg (v := bv (decide (x75 ≠ 3))) rfl rfl rfl rfl (cB hb72) (HVal.neqI rfl rfl) ?_)
    refine hg (v := bv (decide (x75 ≠ 3))) rfl rfl rfl rfl rfl (pt_ rfl hb72 rfl) (hv (v := bv (decide (x75 ≠ 3))) rfl (pf_ rfl rfl rfl) ?_)
    refine hn (nt ?_)
    exact ⟨(decide (x75 ≠ 3)), (isp rfl), h⟩
   have h := hF hb73
   refine hs_ rfl rfl rfl rfl (cB hb73) (hs_ rfl rfl rfl rfl (cB hb73) (hs_ rfl rfl rfl rfl (cB hb73) (hg (v := bv false) rfl rfl rfl rfl rfl (pf_ rfl hb73 rfl) ?_)))
   refine hv (v := bv false) rfl (pf_ rfl rfl rfl) (hn (nt ?_))
   exact ⟨false, (isp rfl), h⟩
  have h := hF hb61
  refine hs_ rfl rfl rfl rfl (cB hb61) (hs_ rfl rfl rfl rfl (cB hb61) (hg (v := bv false) rfl rfl rfl rfl rfl (pf_ rfl hb61 rfl) ?_))
  refine hg (v := bv false) rfl rfl rfl rfl rfl (mv rfl) (hs_ rfl rfl rfl rfl rfl (hs_ rfl rfl rfl rfl rfl (hs_ rfl rfl rfl rfl rfl ?_)))
  refine hg (v := bv false) rfl rfl rfl rfl rfl (pf_ rfl rfl rfl) (hv (v := bv false) rfl (pf_ rfl rfl rfl) (hv (v := bv false) rfl (mv rfl) ?_))
  refine hg (v := iv p0) rfl rfl rfl rfl rfl (mv rfl) (hg (v := bv (decide ((12 : Int) ≤ p0))) rfl rfl rfl rfl rfl (HVal.geq rfl rfl) ?_)
  refine hg (v := bv (decide ((12 : Int) ≤ p0))) rfl rfl rfl rfl rfl (mv rfl) ?_
  obtain ⟨hT, hF⟩ := h
  rcases Bool.eq_false_or_eq_true (decide ((12 : Int) ≤ p0)) with hb76 | hb77
  ·have h := hT hb76
   refine hg (v := pp (bk H)) rfl rfl rfl rfl (cB hb76) (HVal.fieldAddr0 runUnderlying38 rfl rfl sizeOf3 rfl) ?_
   obtain ⟨x79, c78, h⟩ := h
   refine hg (v := iv x79) rfl rfl rfl rfl (cB hb76) (l1 isAgg3 rfl c78) (hg (v := bv (decide (x79 ≠ 3))) rfl rfl rfl rfl (cB hb76) (HVal.neqI rfl rfl) ?_)
   refine hg (v := bv (decide (x79 ≠ 3))) rfl rfl rfl rfl rfl (pt_ rfl hb76 rfl) (hv (v := bv (decide (x79 ≠ 3))) rfl (pf_ rfl rfl rfl) ?_)
   refine hn (nt ?_)
   exact ⟨(decide (x79 ≠ 3)), (isp rfl), h⟩
  have h := hF hb77
  refine hs_ rfl rfl rfl rfl (cB hb77) (hs_ rfl rfl rfl rfl (cB hb77) (hs_ rfl rfl rfl rfl (cB hb77) (hg (v := bv false) rfl rfl rfl rfl rfl (pf_ rfl hb77 rfl) ?_)))
  refine hv (v := bv false) rfl (pf_ rfl rfl rfl) (hn (nt ?_))
  exact ⟨false, (isp rfl), h⟩
 rintro ρ H_2 ⟨y33, hI, h⟩
 obtain ⟨ρ0, rfl⟩ := hI.ex
 clear hI; unfold F66_2 at h
 obtain ⟨hT, hF⟩ := h
 refine wk y33 rfl (fun hb80 => ?_) (fun hb80 => ?_)
 ·have h := hT hb80
  refine ws (wr_ (hv (v := .agg (vR 0 0 bE false).toArray) rfl (HVal.build' (cs := (vR 0 0 bE false)) runUnderlying38 zeroValue38 places38 rfl) ?_))
  obtain ⟨z83, h⟩ := h
  refine hq (HOp.storeN' (l := (vR 0 0 bE false)) sizeOf38 rfl rfl rfl z83) ?_
  rintro _ H81 e82
  replace h := h H81 e82
  refine hv (v := iv 10) rfl (av rfl) (hn (nt (HW.ret (tr ?_))))
  obtain ⟨x84, x85, x86, x87, c88, h⟩ := h
  exact ⟨_, resOf2 rfl (Res1.n (vR x84 x85 x86 x87) isAgg38 sizeOf38 rfl c88) Res1.t, ⟨x84, x85, x86, x87, 10, rfl, h⟩⟩
 have h := hF hb80
 refine wp_ (nt (ws (ws (wr_ (hv (v := iv p0) rfl (mv rfl) (hn (nt (wb (ws (wr_ (hv (v := bv (decide (p0 = 3))) rfl (HVal.eqlI rfl rfl) ?_)))))))))))
 refine hv (v := bv (decide (p0 = 3))) rfl (av rfl) (hn (nt ?_))
 obtain ⟨hT, hF⟩ := h
 refine wk (decide (p0 = 3)) rfl (fun hb89 => ?_) (fun hb89 => ?_)
 ·have h := hT hb89
  refine ws (wr_ (hv (v := pp (Addr.add (bk H) 1)) rfl (fa runUnderlying38 rfl rfl sizeOf2 rfl) ?_))
  obtain ⟨x91, c90, h⟩ := h
  refine hv (v := iv x91) rfl (l1 isAgg2 rfl c90) (hv (v := pp (Addr.add (bk H1) 1)) rfl (fa runUnderlying38 rfl rfl sizeOf2 rfl) ?_)
  obtain ⟨x93, c92, h⟩ := h
  refine hv (v := iv x93) rfl (l1 isAgg2 rfl c92) (hv (v := iv (IntKind.i64.wrap (x91 + x93))) rfl (HVal.add rfl rfl) (ho rfl (HOp.call' 47 [(iv (IntKind.i64.wrap (x91 + x93)))] (cap := []) rfl rfl call47 (walk47 h)) ?_))
  rintro _ H94 ⟨r96, r97, r98, r99, rfl, h⟩
  obtain ⟨z102, h⟩ := h
  refine hq (HOp.storeN' (l := (vR r96 r97 r98 r99)) sizeOf38 rfl rfl rfl z102) ?_
  rintro _ H100 e101
  replace h := h H100 e101
  refine hv (v := iv 0) rfl (av rfl) (hn (nt (HW.ret (br (tr ?_)))))
  obtain ⟨x103, x104, x105, x106, c107, h⟩ := h
  exact ⟨_, resOf2 rfl (Res1.n (vR x103 x104 x105 x106) isAgg38 sizeOf38 rfl c107) Res1.t, ⟨x103, x104, x105, x106, 0, rfl, h⟩⟩
 have h := hF hb89
 refine ws (wr_ (hv (v := bv (decide (p0 = 4))) rfl (HVal.eqlI rfl rfl) (hv (v := bv (decide (p0 = 4))) rfl (av rfl) ?_)))
 refine hn (nt ?_)
 obtain ⟨hT, hF⟩ := h
 refine wk (decide (p0 = 4)) rfl (fun hb108 => ?_) (fun hb108 => ?_)
 ·have h := hT hb108
  refine ws (wr_ (hv (v := pp (Addr.add (bk H) 1)) rfl (fa runUnderlying38 rfl rfl sizeOf2 rfl) ?_))
  obtain ⟨x110, c109, h⟩ := h
  refine hv (v := iv x110) rfl (l1 isAgg2 rfl c109) (hv (v := pp (Addr.add (bk H1) 1)) rfl (fa runUnderlying38 rfl rfl sizeOf2 rfl) ?_)
  obtain ⟨x112, c111, h⟩ := h
  refine hv (v := iv x112) rfl (l1 isAgg2 rfl c111) (hv (v := iv (IntKind.i64.wrap (x110 - x112))) rfl (HVal.sub rfl rfl) (ho rfl (HOp.call' 47 [(iv (IntKind.i64.wrap (x110 - x112)))] (cap := []) rfl rfl call47 (walk47 h)) ?_))
  rintro _ H113 ⟨r115, r116, r117, r118, rfl, h⟩
  obtain ⟨z121, h⟩ := h
  refine hq (HOp.storeN' (l := (vR r115 r116 r117 r118)) sizeOf38 rfl rfl rfl z121) ?_
  rintro _ H119 e120
  replace h := h H119 e120
  refine hv (v := iv 0) rfl (av rfl) (hn (nt (HW.ret (br (tr ?_)))))
  obtain ⟨x122, x123, x124, x125, c126, h⟩ := h
  exact ⟨_, resOf2 rfl (Res1.n (vR x122 x123 x124 x125) isAgg38 sizeOf38 rfl c126) Res1.t, ⟨x122, x123, x124, x125, 0, rfl, h⟩⟩
 have h := hF hb108
 refine ws (wr_ (hv (v := bv (decide (p0 = 5))) rfl (HVal.eqlI rfl rfl) (hv (v := bv (decide (p0 = 5))) rfl (av rfl) ?_)))
 refine hn (nt ?_)
 obtain ⟨hT, hF⟩ := h
 refine wk (decide (p0 = 5)) rfl (fun hb127 => ?_) (fun hb127 => ?_)
 ·have h := hT hb127
  refine ws (wr_ (hv (v := pp (Addr.add (bk H) 1)) rfl (fa runUnderlying38 rfl rfl sizeOf2 rfl) ?_))
  obtain ⟨x129, c128, h⟩ := h
  refine hv (v := iv x129) rfl (l1 isAgg2 rfl c128) (hv (v := pp (Addr.add (bk H1) 1)) rfl (fa runUnderlying38 rfl rfl sizeOf2 rfl) ?_)
  obtain ⟨x131, c130, h⟩ := h
  refine hv (v := iv x131) rfl (l1 isAgg2 rfl c130) (hv (v := iv (IntKind.i64.wrap (x129 * x131))) rfl (HVal.mul rfl rfl) (ho rfl (HOp.call' 47 [(iv (IntKind.i64.wrap (x129 * x131)))] (cap := []) rfl rfl call47 (walk47 h)) ?_))
  rintro _ H132 ⟨r134, r135, r136, r137, rfl, h⟩
  obtain ⟨z140, h⟩ := h
  refine hq (HOp.storeN' (l := (vR r134 r135 r136 r137)) sizeOf38 rfl rfl rfl z140) ?_
  rintro _ H138 e139
  replace h := h H138 e139
  refine hv (v := iv 0) rfl (av rfl) (hn (nt (HW.ret (br (tr ?_)))))
  obtain ⟨x141, x142, x143, x144, c145, h⟩ := h
  exact ⟨_, resOf2 rfl (Res1.n (vR x141 x142 x143 x144) isAgg38 sizeOf38 rfl c145) Res1.t, ⟨x141, x142, x143, x144, 0, rfl, h⟩⟩
 have h := hF hb127
 refine ws (wr_ (hv (v := bv (decide (p0 = 6))) rfl (HVal.eqlI rfl rfl) (hv (v := bv (decide (p0 = 6))) rfl (av rfl) ?_)))
 refine hn (nt ?_)
 obtain ⟨hT, hF⟩ := h
 refine wk (decide (p0 = 6)) rfl (fun hb146 => ?_) (fun hb146 => ?_)
 ·have h := hT hb146
  refine ws (wr_ ?_)
  obtain ⟨x148, x149, x150, x151, c147, h⟩ := h
  refine hv (v := .agg (vR x148 x149 x150 x151).toArray) rfl (ln (vR x148 x149 x150 x151) isAgg38 sizeOf38 rfl c147) ?_
  obtain ⟨x153, x154, x155, x156, c152, h⟩ := h
  refine hv (v := .agg (vR x153 x154 x155 x156).toArray) rfl (ln (vR x153 x154 x155 x156) isAgg38 sizeOf38 rfl c152) (hv (v := bv (decide (x148 = x153) && (decide (x149 = x154) && (seq x150 x155 && (x151 == x156))))) rfl (eqs38_eql rfl rfl) ?_)
  refine ho rfl (HOp.call' 52 [(bv (decide (x148 = x153) && (decide (x149 = x154) && (seq x150 x155 && (x151 == x156)))))] (cap := []) rfl rfl call52 (walk52 h)) ?_
  rintro _ H157 ⟨r159, r160, r161, r162, rfl, h⟩
  obtain ⟨z165, h⟩ := h
  refine hq (HOp.storeN' (l := (vR r159 r160 r161 r162)) sizeOf38 rfl rfl rfl z165) ?_
  rintro _ H163 e164
  replace h := h H163 e164
  refine hv (v := iv 0) rfl (av rfl) (hn (nt (HW.ret (br (tr ?_)))))
  obtain ⟨x166, x167, x168, x169, c170, h⟩ := h
  exact ⟨_, resOf2 rfl (Res1.n (vR x166 x167 x168 x169) isAgg38 sizeOf38 rfl c170) Res1.t, ⟨x166, x167, x168, x169, 0, rfl, h⟩⟩
 have h := hF hb146
 refine ws (wr_ (hv (v := bv (decide (p0 = 7))) rfl (HVal.eqlI rfl rfl) (hv (v := bv (decide (p0 = 7))) rfl (av rfl) ?_)))
 refine hn (nt ?_)
 obtain ⟨hT, hF⟩ := h
 refine wk (decide (p0 = 7)) rfl (fun hb171 => ?_) (fun hb171 => ?_)
 ·have h := hT hb171
  refine ws (wr_ ?_)
  obtain ⟨x173, x174, x175, x176, c172, h⟩ := h
  refine hv (v := .agg (vR x173 x174 x175 x176).toArray) rfl (ln (vR x173 x174 x175 x176) isAgg38 sizeOf38 rfl c172) ?_
  obtain ⟨x178, x179, x180, x181, c177, h⟩ := h
  refine hv (v := .agg (vR x178 x179 x180 x181).toArray) rfl (ln (vR x178 x179 x180 x181) isAgg38 sizeOf38 rfl c177) (hv (v := bv (!(decide (x173 = x178) && (decide (x174 = x179) && (seq x175 x180 && (x176 == x181)))))) rfl (eqs38_neq rfl rfl) ?_)
  refine ho rfl (HOp.call' 52 [(bv (!(decide (x173 = x178) && (decide (x174 = x179) && (seq x175 x180 && (x176 == x181))))))] (cap := []) rfl rfl call52 (walk52 h)) ?_
  rintro _ H182 ⟨r184, r185, r186, r187, rfl, h⟩
  obtain ⟨z190, h⟩ := h
  refine hq (HOp.storeN' (l := (vR r184 r185 r186 r187)) sizeOf38 rfl rfl rfl z190) ?_
  rintro _ H188 e189
  replace h := h H188 e189
  refine hv (v := iv 0) rfl (av rfl) (hn (nt (HW.ret (br (tr ?_)))))
  obtain ⟨x191, x192, x193, x194, c195, h⟩ := h
  exact ⟨_, resOf2 rfl (Res1.n (vR x191 x192 x193 x194) isAgg38 sizeOf38 rfl c195) Res1.t, ⟨x191, x192, x193, x194, 0, rfl, h⟩⟩
 have h := hF hb171
 refine ws (wr_ (hv (v := bv (decide (p0 = 8))) rfl (HVal.eqlI rfl rfl) (hv (v := bv (decide (p0 = 8))) rfl (av rfl) ?_)))
 refine hn (nt ?_)
 obtain ⟨hT, hF⟩ := h
 refine wk (decide (p0 = 8)) rfl (fun hb196 => ?_) (fun hb196 => ?_)
 ·have h := hT hb196
  refine ws (wr_ ?_)
  obtain ⟨x198, x199, x200, x201, c197, h⟩ := h
  refine hv (v := .agg (vR x198 x199 x200 x201).toArray) rfl (ln (vR x198 x199 x200 x201) isAgg38 sizeOf38 rfl c197) ?_
  obtain ⟨x203, x204, x205, x206, c202, h⟩ := h
  refine hv (v := .agg (vR x203 x204 x205 x206).toArray) rfl (ln (vR x203 x204 x205 x206) isAgg38 sizeOf38 rfl c202) (ho rfl (HOp.call' 76 [(.agg (vR x198 x199 x200 x201).toArray), (.agg (vR x203 x204 x205 x206).toArray)] (cap := []) rfl rfl call76 (walk76 h)) ?_)
  rintro _ H207 ⟨r209, rfl, h⟩
  refine ho rfl (HOp.call' 52 [(bv r209)] (cap := []) rfl rfl call52 (walk52 h)) ?_
  rintro _ H210 ⟨r212, r213, r214, r215, rfl, h⟩
  obtain ⟨z218, h⟩ := h
  refine hq (HOp.storeN' (l := (vR r212 r213 r214 r215)) sizeOf38 rfl rfl rfl z218) ?_
  rintro _ H216 e217
  replace h := h H216 e217
  refine hv (v := iv 0) rfl (av rfl) (hn (nt (HW.ret (br (tr ?_)))))
  obtain ⟨x219, x220, x221, x222, c223, h⟩ := h
  exact ⟨_, resOf2 rfl (Res1.n (vR x219 x220 x221 x222) isAgg38 sizeOf38 rfl c223) Res1.t, ⟨x219, x220, x221, x222, 0, rfl, h⟩⟩
 have h := hF hb196
 refine ws (wr_ (hv (v := bv (decide (p0 = 9))) rfl (HVal.eqlI rfl rfl) (hv (v := bv (decide (p0 = 9))) rfl (av rfl) ?_)))
 refine hn (nt ?_)
 obtain ⟨hT, hF⟩ := h
 refine wk (decide (p0 = 9)) rfl (fun hb224 => ?_) (fun hb224 => ?_)
 ·have h := hT hb224
  refine ws (wr_ ?_)
  obtain ⟨x226, x227, x228, x229, c225, h⟩ := h
  refine hv (v := .agg (vR x226 x227 x228 x229).toArray) rfl (ln (vR x226 x227 x228 x229) isAgg38 sizeOf38 rfl c225) ?_
  obtain ⟨x231, x232, x233, x234, c230, h⟩ := h
  refine hv (v := .agg (vR x231 x232 x233 x234).toArray) rfl (ln (vR x231 x232 x233 x234) isAgg38 sizeOf38 rfl c230) (ho rfl (HOp.call' 76 [(.agg (vR x226 x227 x228 x229).toArray), (.agg (vR x231 x232 x233 x234).toArray)] (cap := []) rfl rfl call76 (walk76 h)) ?_)
  rintro _ H235 ⟨r237, rfl, h⟩
  refine hv (v := bv (!r237)) rfl (HVal.not rfl) (ho rfl (HOp.call' 52 [(bv (!r237))] (cap := []) rfl rfl call52 (walk52 h)) ?_)
  rintro _ H238 ⟨r240, r241, r242, r243, rfl, h⟩
  obtain ⟨z246, h⟩ := h
  refine hq (HOp.storeN' (l := (vR r240 r241 r242 r243)) sizeOf38 rfl rfl rfl z246) ?_
  rintro _ H244 e245
  replace h := h H244 e245
  refine hv (v := iv 0) rfl (av rfl) (hn (nt (HW.ret (br (tr ?_)))))
  obtain ⟨x247, x248, x249, x250, c251, h⟩ := h
  exact ⟨_, resOf2 rfl (Res1.n (vR x247 x248 x249 x250) isAgg38 sizeOf38 rfl c251) Res1.t, ⟨x247, x248, x249, x250, 0, rfl, h⟩⟩
 have h := hF hb224
 refine ws (wr_ (hv (v := bv (decide (p0 = 10))) rfl (HVal.eqlI rfl rfl) (hv (v := bv (decide (p0 = 10))) rfl (av rfl) ?_)))
 refine hn (nt ?_)
 obtain ⟨hT, hF⟩ := h
 refine wk (decide (p0 = 10)) rfl (fun hb252 => ?_) (fun hb252 => ?_)
 ·have h := hT hb252
  refine ws (wr_ ?_)
  obtain ⟨x254, x255, x256, x257, c253, h⟩ := h
  refine hv (v := .agg (vR x254 x255 x256 x257).toArray) rfl (ln (vR x254 x255 x256 x257) isAgg38 sizeOf38 rfl c253) ?_
  obtain ⟨x259, x260, x261, x262, c258, h⟩ := h
  refine hv (v := .agg (vR x259 x260 x261 x262).toArray) rfl (ln (vR x259 x260 x261 x262) isAgg38 sizeOf38 rfl c258) (ho rfl (HOp.call' 76 [(.agg (vR x254 x255 x256 x257).toArray), (.agg (vR x259 x260 x261 x262).toArray)] (cap := []) rfl rfl call76 (walk76 h)) ?_)
  rintro _ H263 ⟨r265, rfl, h⟩
  refine ho rfl (HOp.call' 52 [(bv r265)] (cap := []) rfl rfl call52 (walk52 h)) ?_
  rintro _ H266 ⟨r268, r269, r270, r271, rfl, h⟩
  obtain ⟨z274, h⟩ := h
  refine hq (HOp.storeN' (l := (vR r268 r269 r270 r271)) sizeOf38 rfl rfl rfl z274) ?_
  rintro _ H272 e273
  replace h := h H272 e273
  refine hv (v := iv 0) rfl (av rfl) (hn (nt (HW.ret (br (tr ?_)))))
  obtain ⟨x275, x276, x277, x278, c279, h⟩ := h
  exact ⟨_, resOf2 rfl (Res1.n (vR x275 x276 x277 x278) isAgg38 sizeOf38 rfl c279) Res1.t, ⟨x275, x276, x277, x278, 0, rfl, h⟩⟩
 have h := hF hb252
 refine ws (wr_ (hv (v := bv (decide (p0 = 11))) rfl (HVal.eqlI rfl rfl) (hv (v := bv (decide (p0 = 11))) rfl (av rfl) ?_)))
 refine hn (nt ?_)
 obtain ⟨hT, hF⟩ := h
 refine wk (decide (p0 = 11)) rfl (fun hb280 => ?_) (fun hb280 => ?_)
 ·have h := hT hb280
  refine ws (wr_ ?_)
  obtain ⟨x282, x283, x284, x285, c281, h⟩ := h
  refine hv (v := .agg (vR x282 x283 x284 x285).toArray) rfl (ln (vR x282 x283 x284 x285) isAgg38 sizeOf38 rfl c281) ?_
  obtain ⟨x287, x288, x289, x290, c286, h⟩ := h
  refine hv (v := .agg (vR x287 x288 x289 x290).toArray) rfl (ln (vR x287 x288 x289 x290) isAgg38 sizeOf38 rfl c286) (ho rfl (HOp.call' 76 [(.agg (vR x282 x283 x284 x285).toArray), (.agg (vR x287 x288 x289 x290).toArray)] (cap := []) rfl rfl call76 (walk76 h)) ?_)
  rintro _ H291 ⟨r293, rfl, h⟩
  refine hv (v := bv (!r293)) rfl (HVal.not rfl) (ho rfl (HOp.call' 52 [(bv (!r293))] (cap := []) rfl rfl call52 (walk52 h)) ?_)
  rintro _ H294 ⟨r296, r297, r298, r299, rfl, h⟩
  obtain ⟨z302, h⟩ := h
  refine hq (HOp.storeN' (l := (vR r296 r297 r298 r299)) sizeOf38 rfl rfl rfl z302) ?_
  rintro _ H300 e301
  replace h := h H300 e301
  refine hv (v := iv 0) rfl (av rfl) (hn (nt (HW.ret (br (tr ?_)))))
  obtain ⟨x303, x304, x305, x306, c307, h⟩ := h
  exact ⟨_, resOf2 rfl (Res1.n (vR x303 x304 x305 x306) isAgg38 sizeOf38 rfl c307) Res1.t, ⟨x303, x304, x305, x306, 0, rfl, h⟩⟩
 have h := hF hb280
 refine ws (wr_ (hv (v := bv (decide (p0 = 12))) rfl (HVal.eqlI rfl rfl) (hv (v := bv (decide (p0 = 12))) rfl (av rfl) ?_)))
 refine hn (nt ?_)
 obtain ⟨hT, hF⟩ := h
 refine wk (decide (p0 = 12)) rfl (fun hb308 => ?_) (fun hb308 => ?_)
 ·have h := hT hb308
  refine ws (wr_ (hv (v := pp (Addr.add (bk H) 3)) rfl (fa runUnderlying38 rfl rfl sizeOf4 rfl) ?_))
  obtain ⟨x310, c309, h⟩ := h
  refine hv (v := bv x310) rfl (l1 isAgg4 rfl c309) (hv (v := bv x310) rfl (mv rfl) ?_)
  obtain ⟨hT, hF⟩ := h
  rcases Bool.eq_false_or_eq_true x310 with hb311 | hb312
  ·have h := hT hb311
   refine hg (v := pp (Addr.add (bk H1) 3)) rfl rfl rfl rfl (cB hb311) (fa runUnderlying38 rfl rfl sizeOf4 rfl) ?_
   obtain ⟨x314, c313, h⟩ := h
   refine hg (v := bv x314) rfl rfl rfl rfl (cB hb311) (l1 isAgg4 rfl c313) (hv (v := bv x314) rfl (pt_ rfl hb311 rfl) ?_)
   refine ho rfl (HOp.call' 52 [(bv x314)] (cap := []) rfl rfl call52 (walk52 h)) ?_
   rintro _ H315 ⟨r317, r318, r319, r320, rfl, h⟩
   obtain ⟨z323, h⟩ := h
   refine hq (HOp.storeN' (l := (vR r317 r318 r319 r320)) sizeOf38 rfl rfl rfl z323) ?_
   rintro _ H321 e322
   replace h := h H321 e322
   refine hv (v := iv 0) rfl (av rfl) (hn (nt (HW.ret (br (tr ?_)))))
   obtain ⟨x324, x325, x326, x327, c328, h⟩ := h
   exact ⟨_, resOf2 rfl (Res1.n (vR x324 x325 x326 x327) isAgg38 sizeOf38 rfl c328) Res1.t, ⟨x324, x325, x326, x327, 0, rfl, h⟩⟩
  have h := hF hb312
  refine hs_ rfl rfl rfl rfl (cB hb312) (hs_ rfl rfl rfl rfl (cB hb312) (hv (v := bv false) rfl (pf_ rfl hb312 rfl) (ho rfl (HOp.call' 52 [(bv false)] (cap := []) rfl rfl call52 (walk52 h)) ?_)))
  rintro _ H329 ⟨r331, r332, r333, r334, rfl, h⟩
  obtain ⟨z337, h⟩ := h
  refine hq (HOp.storeN' (l := (vR r331 r332 r333 r334)) sizeOf38 rfl rfl rfl z337) ?_
  rintro _ H335 e336
  replace h := h H335 e336
  refine hv (v := iv 0) rfl (av rfl) (hn (nt (HW.ret (br (tr ?_)))))
  obtain ⟨x338, x339, x340, x341, c342, h⟩ := h
  exact ⟨_, resOf2 rfl (Res1.n (vR x338 x339 x340 x341) isAgg38 sizeOf38 rfl c342) Res1.t, ⟨x338, x339, x340, x341, 0, rfl, h⟩⟩
 have h := hF hb308
 refine wp_ (nb (nt (ws (wr_ (hv (v := pp (Addr.add (bk H) 3)) rfl (fa runUnderlying38 rfl rfl sizeOf4 rfl) ?_)))))
 obtain ⟨x344, c343, h⟩ := h
 refine hv (v := bv x344) rfl (l1 isAgg4 rfl c343) (hv (v := bv x344) rfl (mv rfl) ?_)
 obtain ⟨hT, hF⟩ := h
 rcases Bool.eq_false_or_eq_true x344 with hb345 | hb346
 ·have h := hT hb345
  refine hs_ rfl rfl rfl rfl (cB hb345) (hs_ rfl rfl rfl rfl (cB hb345) (hv (v := bv true) rfl (pt_ rfl hb345 rfl) (ho rfl (HOp.call' 52 [(bv true)] (cap := []) rfl rfl call52 (walk52 h)) ?_)))
  rintro _ H347 ⟨r349, r350, r351, r352, rfl, h⟩
  obtain ⟨z355, h⟩ := h
  refine hq (HOp.storeN' (l := (vR r349 r350 r351 r352)) sizeOf38 rfl rfl rfl z355) ?_
  rintro _ H353 e354
  replace h := h H353 e354
  refine hv (v := iv 0) rfl (av rfl) (hn (nt (HW.ret ?_)))
  obtain ⟨x356, x357, x358, x359, c360, h⟩ := h
  exact ⟨_, resOf2 rfl (Res1.n (vR x356 x357 x358 x359) isAgg38 sizeOf38 rfl c360) Res1.t, ⟨x356, x357, x358, x359, 0, rfl, h⟩⟩
 have h := hF hb346
 refine hg (v := pp (Addr.add (bk H1) 3)) rfl rfl rfl rfl (cB hb346) (fa runUnderlying38 rfl rfl sizeOf4 rfl) ?_
 obtain ⟨x362, c361, h⟩ := h
 refine hg (v := bv x362) rfl rfl rfl rfl (cB hb346) (l1 isAgg4 rfl c361) (hv (v := bv x362) rfl (pf_ rfl hb346 rfl) ?_)
 refine ho rfl (HOp.call' 52 [(bv x362)] (cap := []) rfl rfl call52 (walk52 h)) ?_
 rintro _ H363 ⟨r365, r366, r367, r368, rfl, h⟩
 obtain ⟨z371, h⟩ := h
 refine hq (HOp.storeN' (l := (vR r365 r366 r367 r368)) sizeOf38 rfl rfl rfl z371) ?_
 rintro _ H369 e370
 replace h := h H369 e370
 refine hv (v := iv 0) rfl (av rfl) (hn (nt (HW.ret ?_)))
 obtain ⟨x372, x373, x374, x375, c376, h⟩ := h
 exact ⟨_, resOf2 rfl (Res1.n (vR x372 x373 x374 x375) isAgg38 sizeOf38 rfl c376) Res1.t, ⟨x372, x373, x374, x375, 0, rfl, h⟩⟩

def F51_3 (X : Int → Int → Int → Int → ByteArray → Bool → ByteArray → Int → ByteArray → Sl → Sl → Sl → ByteArray → ByteArray → Int → Sl → Sl → Hp → (ZQV) → Prop) (Q : ZQV) (y233 y234 y235 : Addr) (y275 : Int) (y276 : Addr) (H_3 : Hp) : Prop :=
(decide (y275 ≠ 0) = true → (mayw H_3 y234 4 0 ∧ ∀ H294, H294 = sets H_3 y234 (vR 0 0 bE false) 0 → (
 ∃ x297 x298 x299 x300, cells H294 y234 (vR x297 x298 x299 x300) 0 ∧ (
 Q x297 x298 x299 x300 y275 H294)))) ∧
 (decide (y275 ≠ 0) = false → (∃ x303, cell H_3 (Addr.add y233 1) = some (iv x303) ∧ (
 ∃ x305 x306 x307 x308, cells H_3 y235 (vR x305 x306 x307 x308) 0 ∧ (
 ∃ x310 x311 x312 x313, cells H_3 y276 (vR x310 x311 x312 x313) 0 ∧ (
 F66 x303 x305 x306 x307 x308 x310 x311 x312 x313 H_3 (fun r316 r317 r318 r319 r320 H314 =>
 mayw H314 y234 4 0 ∧ ∀ H321, H321 = sets H314 y234 (vR r316 r317 r318 r319) 0 → (
 ∃ x324 x325 x326 x327, cells H321 y234 (vR x324 x325 x326 x327) 0 ∧ (
 Q x324 x325 x326 x327 r320 H321))))))))
def F51_2 (X : Int → Int → Int → Int → ByteArray → Bool → ByteArray → Int → ByteArray → Sl → Sl → Sl → ByteArray → ByteArray → Int → Sl → Sl → Hp → (ZQV) → Prop) (Q : ZQV) (y139 y140 y141 y181 : Addr) (y182 : Int) (H_2 : Hp) : Prop :=
(decide (y182 ≠ 0) = true → (mayw H_2 y141 4 0 ∧ ∀ H200, H200 = sets H_2 y141 (vR 0 0 bE false) 0 → (
 ∃ x203 x204 x205 x206, cells H200 y141 (vR x203 x204 x205 x206) 0 ∧ (
 Q x203 x204 x205 x206 y182 H200)))) ∧
 (decide (y182 ≠ 0) = false → (∃ x209, cell H_2 y139 = some (iv x209) ∧ (
 (decide (x209 = 4) = true → (∃ x212, cell H_2 (Addr.add y139 1) = some (iv x212) ∧ (
 ∃ x214 x215 x216 x217, cells H_2 y181 (vR x214 x215 x216 x217) 0 ∧ (
 F65 x212 x214 x215 x216 x217 H_2 (fun r220 r221 r222 r223 r224 H218 =>
 mayw H218 y141 4 0 ∧ ∀ H225, H225 = sets H218 y141 (vR r220 r221 r222 r223) 0 → (
 ∃ x228 x229 x230 x231, cells H225 y141 (vR x228 x229 x230 x231) 0 ∧ (
 Q x228 x229 x230 x231 r224 H225))))))) ∧
 (decide (x209 = 4) = false → (∃ x237, cell H_2 (Addr.add y139 9) = some (Sl.v x237) ∧ (
 ∃ a238, (x237).b = some a238 ∧ (0 : Int) ≤ 1 ∧ (1 : Int) < ((x237).n : Int) ∧ (
 ∃ x243 x244 x245 x246 x247 x248 x249 x250 x251 x252, cells H_2 (Addr.add a238 ((1 : Int).toNat * 10)) (eR x243 x244 x245 x246 x247 x248 x249 x250 x251 x252) 0 ∧ (
 ∃ x254 x255 x256 x257 x258 x259 x260, cells H_2 y140 (xR x254 x255 x256 x257 x258 x259 x260) 0 ∧ (
 (X x243 x244 x245 x246 x247 x248 x249 x250 x251 x252 x254 x255 x256 x257 x258 x259 x260 H_2 (fun r263 r264 r265 r266 r267 H261 =>
 cell H261 (Addr.add y139 9) = some (Sl.v x237) ∧ (
 ∀ H269, H269 = Array.push H261 (.cells (vR 0 0 bE false).toArray 38) → (
 cell H269 (Addr.add y139 9) = some (Sl.v x237) ∧ (
 mayw H269 (bk H261) 4 0 ∧ ∀ H272, H272 = sets H269 (bk H261) (vR r263 r264 r265 r266) 0 → (
 F51_3 X Q y139 y141 y181 r267 (bk H261) H272)))))) ∧
 (∀ H277, H277 = Array.push H_2 (.cells (vR 0 0 bE false).toArray 38) → (
 cells H277 y140 (xR x254 x255 x256 x257 x258 x259 x260) 0 ∧ cells H277 (Addr.add a238 ((1 : Int).toNat * 10)) (eR x243 x244 x245 x246 x247 x248 x249 x250 x251 x252) 0 ∧ cell H277 (Addr.add y139 9) = some (Sl.v x237) ∧ (
 X x243 x244 x245 x246 x247 x248 x249 x250 x251 x252 x254 x255 x256 x257 x258 x259 x260 H277 (fun r284 r285 r286 r287 r288 H282 =>
 cell H282 (Addr.add y139 9) = some (Sl.v x237) ∧ (
 mayw H282 (bk H_2) 4 0 ∧ ∀ H290, H290 = sets H282 (bk H_2) (vR r284 r285 r286 r287) 0 → (
 F51_3 X Q y139 y141 y181 r288 (bk H_2) H290)))))))))))))))
def F51_1 (X : Int → Int → Int → Int → ByteArray → Bool → ByteArray → Int → ByteArray → Sl → Sl → Sl → ByteArray → ByteArray → Int → Sl → Sl → Hp → (ZQV) → Prop) (Q : ZQV) (y110 y111 y112 : Addr) (y121 : Bool) (H_1 : Hp) : Prop :=
(y121 = true → (mayw H_1 y112 4 0 ∧ ∀ H131, H131 = sets H_1 y112 (vR 0 0 bE false) 0 → (
 ∃ x134 x135 x136 x137, cells H131 y112 (vR x134 x135 x136 x137) 0 ∧ (
 Q x134 x135 x136 x137 60 H131)))) ∧
 (y121 = false → (∃ x143, cell H_1 (Addr.add y110 9) = some (Sl.v x143) ∧ (
 ∃ a144, (x143).b = some a144 ∧ (0 : Int) ≤ 0 ∧ (0 : Int) < ((x143).n : Int) ∧ (
 ∃ x149 x150 x151 x152 x153 x154 x155 x156 x157 x158, cells H_1 (Addr.add a144 ((0 : Int).toNat * 10)) (eR x149 x150 x151 x152 x153 x154 x155 x156 x157 x158) 0 ∧ (
 ∃ x160 x161 x162 x163 x164 x165 x166, cells H_1 y111 (xR x160 x161 x162 x163 x164 x165 x166) 0 ∧ (
 (X x149 x150 x151 x152 x153 x154 x155 x156 x157 x158 x160 x161 x162 x163 x164 x165 x166 H_1 (fun r169 r170 r171 r172 r173 H167 =>
 cell H167 (Addr.add y110 9) = some (Sl.v x143) ∧ (
 ∀ H175, H175 = Array.push H167 (.cells (vR 0 0 bE false).toArray 38) → (
 cell H175 (Addr.add y110 9) = some (Sl.v x143) ∧ (
 mayw H175 (bk H167) 4 0 ∧ ∀ H178, H178 = sets H175 (bk H167) (vR r169 r170 r171 r172) 0 → (
 F51_2 X Q y110 y111 y112 (bk H167) r173 H178)))))) ∧
 (∀ H183, H183 = Array.push H_1 (.cells (vR 0 0 bE false).toArray 38) → (
 cells H183 y111 (xR x160 x161 x162 x163 x164 x165 x166) 0 ∧ cells H183 (Addr.add a144 ((0 : Int).toNat * 10)) (eR x149 x150 x151 x152 x153 x154 x155 x156 x157 x158) 0 ∧ cell H183 (Addr.add y110 9) = some (Sl.v x143) ∧ (
 X x149 x150 x151 x152 x153 x154 x155 x156 x157 x158 x160 x161 x162 x163 x164 x165 x166 H183 (fun r190 r191 r192 r193 r194 H188 =>
 cell H188 (Addr.add y110 9) = some (Sl.v x143) ∧ (
 mayw H188 (bk H_1) 4 0 ∧ ∀ H196, H196 = sets H188 (bk H_1) (vR r190 r191 r192 r193) 0 → (
 F51_2 X Q y110 y111 y112 (bk H_1) r194 H196))))))))))))
def F51b (X : Int → Int → Int → Int → ByteArray → Bool → ByteArray → Int → ByteArray → Sl → Sl → Sl → ByteArray → ByteArray → Int → Sl → Sl → Hp → (ZQV) → Prop) (p0_0 p0_1 p0_2 p0_3 : Int) (p0_4 : ByteArray) (p0_5 : Bool) (p0_6 : ByteArray) (p0_7 : Int) (p0_8 : ByteArray) (p0_9 p1_0 p1_1 : Sl) (p1_2 p1_3 : ByteArray) (p1_4 : Int) (p1_5 p1_6 : Sl) (H : Hp) (Q : ZQV) : Prop :=
∀ H1, H1 = Array.push H (.cells (eR p0_0 p0_1 p0_2 p0_3 p0_4 p0_5 p0_6 p0_7 p0_8 p0_9).toArray 41) → (
 ∀ H3, H3 = Array.push H1 (.cells (xR p1_0 p1_1 p1_2 p1_3 p1_4 p1_5 p1_6).toArray 43) → (
 ∀ H5, H5 = Array.push H3 (.cells (vR 0 0 bE false).toArray 38) → (
 ∃ x8, cell H5 (bk H) = some (iv x8) ∧ (
 (decide (x8 = 1) = true → (∃ x11 x12 x13 x14, cells H5 (Addr.add (bk H) 2) (vR x11 x12 x13 x14) 0 ∧ (
 F48 x11 x12 x13 x14 H5 (fun r17 H15 =>
 ((!r17) = true → (mayw H15 (bk H3) 4 0 ∧ ∀ H19, H19 = sets H15 (bk H3) (vR 0 0 bE false) 0 → (
 ∃ x22 x23 x24 x25, cells H19 (bk H3) (vR x22 x23 x24 x25) 0 ∧ (
 Q x22 x23 x24 x25 12 H19)))) ∧
 ((!r17) = false → (∃ x28 x29 x30 x31, cells H15 (Addr.add (bk H) 2) (vR x28 x29 x30 x31) 0 ∧ (
 mayw H15 (bk H3) 4 0 ∧ ∀ H32, H32 = sets H15 (bk H3) (vR x28 x29 x30 x31) 0 → (
 ∃ x35 x36 x37 x38, cells H32 (bk H3) (vR x35 x36 x37 x38) 0 ∧ (
 Q x35 x36 x37 x38 0 H32))))))))) ∧
 (decide (x8 = 1) = false → ((decide (x8 = 2) = true → (∃ x42 x43 x44 x45 x46 x47 x48 x49 x50 x51, cells H5 (bk H) (eR x42 x43 x44 x45 x46 x47 x48 x49 x50 x51) 0 ∧ (
 ∃ x53 x54 x55 x56 x57 x58 x59, cells H5 (bk H1) (xR x53 x54 x55 x56 x57 x58 x59) 0 ∧ (
 F63 x42 x43 x44 x45 x46 x47 x48 x49 x50 x51 x53 x54 x55 x56 x57 x58 x59 H5 (fun r62 r63 r64 r65 r66 H60 =>
 mayw H60 (bk H3) 4 0 ∧ ∀ H67, H67 = sets H60 (bk H3) (vR r62 r63 r64 r65) 0 → (
 ∃ x70 x71 x72 x73, cells H67 (bk H3) (vR x70 x71 x72 x73) 0 ∧ (
 Q x70 x71 x72 x73 r66 H67))))))) ∧
 (decide (x8 = 2) = false → ((decide (x8 = 3) = true → (∃ x77 x78 x79 x80 x81 x82 x83 x84 x85 x86, cells H5 (bk H) (eR x77 x78 x79 x80 x81 x82 x83 x84 x85 x86) 0 ∧ (
 ∃ x88 x89 x90 x91 x92 x93 x94, cells H5 (bk H1) (xR x88 x89 x90 x91 x92 x93 x94) 0 ∧ (
 F64 x77 x78 x79 x80 x81 x82 x83 x84 x85 x86 x88 x89 x90 x91 x92 x93 x94 H5 (fun r97 r98 r99 r100 r101 H95 =>
 mayw H95 (bk H3) 4 0 ∧ ∀ H102, H102 = sets H95 (bk H3) (vR r97 r98 r99 r100) 0 → (
 ∃ x105 x106 x107 x108, cells H102 (bk H3) (vR x105 x106 x107 x108) 0 ∧ (
 Q x105 x106 x107 x108 r101 H102))))))) ∧
 (decide (x8 = 3) = false → (∃ x114, cell H5 (bk H) = some (iv x114) ∧ (
 (decide (x114 ≠ 4) = true → (∃ x118, cell H5 (bk H) = some (iv x118) ∧ (
 (decide (x118 ≠ 5) = true → (F51_1 X Q (bk H) (bk H1) (bk H3) true H5)) ∧
 (decide (x118 ≠ 5) = false → (∃ x123, cell H5 (Addr.add (bk H) 9) = some (Sl.v x123) ∧ (
 ∃ x125, cell H5 (bk H) = some (iv x125) ∧ (
 F51_1 X Q (bk H) (bk H1) (bk H3) (decide (((x123).n : Int) ≠ (IntKind.i64.wrap (x125 - 3)))) H5))))))) ∧
 (decide (x114 ≠ 4) = false → (∃ x127, cell H5 (Addr.add (bk H) 9) = some (Sl.v x127) ∧ (
 ∃ x129, cell H5 (bk H) = some (iv x129) ∧ (
 F51_1 X Q (bk H) (bk H1) (bk H3) (decide (((x127).n : Int) ≠ (IntKind.i64.wrap (x129 - 3)))) H5)))))))))))))))
def F51 (p0_0 p0_1 p0_2 p0_3 : Int) (p0_4 : ByteArray) (p0_5 : Bool) (p0_6 : ByteArray) (p0_7 : Int) (p0_8 : ByteArray) (p0_9 p1_0 p1_1 : Sl) (p1_2 p1_3 : ByteArray) (p1_4 : Int) (p1_5 p1_6 : Sl) (H : Hp) (Q : ZQV) : Prop :=
 ∀ X : Int → Int → Int → Int → ByteArray → Bool → ByteArray → Int → ByteArray → Sl → Sl → Sl → ByteArray → ByteArray → Int → Sl → Sl → Hp → (ZQV) → Prop, (∀ (p0_0 p0_1 p0_2 p0_3 : Int) (p0_4 : ByteArray) (p0_5 : Bool) (p0_6 : ByteArray) (p0_7 : Int) (p0_8 : ByteArray) (p0_9 p1_0 p1_1 : Sl) (p1_2 p1_3 : ByteArray) (p1_4 : Int) (p1_5 p1_6 : Sl) (H : Hp) (Q : ZQV), F51b X p0_0 p0_1 p0_2 p0_3 p0_4 p0_5 p0_6 p0_7 p0_8 p0_9 p1_0 p1_1 p1_2 p1_3 p1_4 p1_5 p1_6 H Q → X p0_0 p0_1 p0_2 p0_3 p0_4 p0_5 p0_6 p0_7 p0_8 p0_9 p1_0 p1_1 p1_2 p1_3 p1_4 p1_5 p1_6 H Q) → X p0_0 p0_1 p0_2 p0_3 p0_4 p0_5 p0_6 p0_7 p0_8 p0_9 p1_0 p1_1 p1_2 p1_3 p1_4 p1_5 p1_6 H Q
theorem walk51 {w0 : World} {p0_0 p0_1 p0_2 p0_3 : Int} {p0_4 : ByteArray} {p0_5 : Bool} {p0_6 : ByteArray} {p0_7 : Int} {p0_8 : ByteArray} {p0_9 p1_0 p1_1 : Sl} {p1_2 p1_3 : ByteArray} {p1_4 : Int} {p1_5 p1_6 : Sl} {H : Hp} {Q : ZQV} (h : F51 p0_0 p0_1 p0_2 p0_3 p0_4 p0_5 p0_6 p0_7 p0_8 p0_9 p1_0 p1_1 p1_2 p1_3 p1_4 p1_5 p1_6 H Q) :
  Good prog w0 51 #[(.agg (eR p0_0 p0_1 p0_2 p0_3 p0_4 p0_5 p0_6 p0_7 p0_8 p0_9).toArray), (.agg (xR p1_0 p1_1 p1_2 p1_3 p1_4 p1_5 p1_6).toArray)] H (fun v H => ∃ r0 r1 r2 r3 r4, v = (.tuple #[(.agg (vR r0 r1 r2 r3).toArray), (iv r4)]) ∧ Q r0 r1 r2 r3 r4 H) := by
 obtain ⟨X, hX⟩ : ∃ X : Int → Int → Int → Int → ByteArray → Bool → ByteArray → Int → ByteArray → Sl → Sl → Sl → ByteArray → ByteArray → Int → Sl → Sl → Hp → (ZQV) → Prop, ∀ (p0_0 p0_1 p0_2 p0_3 : Int) (p0_4 : ByteArray) (p0_5 : Bool) (p0_6 : ByteArray) (p0_7 : Int) (p0_8 : ByteArray) (p0_9 p1_0 p1_1 : Sl) (p1_2 p1_3 : ByteArray) (p1_4 : Int) (p1_5 p1_6 : Sl) (H : Hp) (Q : ZQV), X p0_0 p0_1 p0_2 p0_3 p0_4 p0_5 p0_6 p0_7 p0_8 p0_9 p1_0 p1_1 p1_2 p1_3 p1_4 p1_5 p1_6 H Q ↔ Good prog w0 51 #[(.agg (eR p0_0 p0_1 p0_2 p0_3 p0_4 p0_5 p0_6 p0_7 p0_8 p0_9).toArray), (.agg (xR p1_0 p1_1 p1_2 p1_3 p1_4 p1_5 p1_6).toArray)] H (fun v H => ∃ r0 r1 r2 r3 r4, v = (.tuple #[(.agg (vR r0 r1 r2 r3).toArray), (iv r4)]) ∧ Q r0 r1 r2 r3 r4 H) := ⟨_, fun _ _ _ _ _ _ _ _ _ _ _ _ _ _ _ _ _ _ _ => Iff.rfl⟩
 refine (hX _ _ _ _ _ _ _ _ _ _ _ _ _ _ _ _ _ _ _).1 (h X ?_)
 clear h
 intro p0_0 p0_1 p0_2 p0_3 p0_4 p0_5 p0_6 p0_7 p0_8 p0_9 p1_0 p1_1 p1_2 p1_3 p1_4 p1_5 p1_6 H Q h
 refine (hX _ _ _ _ _ _ _ _ _ _ _ _ _ _ _ _ _ _ _).2 ?_
 unfold F51b at h
 refine Good.enter' (fn := f51) func51 rfl rfl rfl (ws (wr_ (ho rfl (ob (v := .agg (eR p0_0 p0_1 p0_2 p0_3 p0_4 p0_5 p0_6 p0_7 p0_8 p0_9).toArray) rfl) ?_)))
 rintro _ H1 ⟨rfl, e2⟩
 replace h := h H1 e2
 refine ho rfl (ob (v := .agg (xR p1_0 p1_1 p1_2 p1_3 p1_4 p1_5 p1_6).toArray) rfl) ?_
 rintro _ H3 ⟨rfl, e4⟩
 replace h := h H3 e4
 refine ho rfl (HOp.alloc zeroValue38) ?_
 rintro _ H5 ⟨rfl, e6⟩
 replace h := h H5 e6
 refine hv (v := iv 0) rfl (av rfl) (hn (nt (ws (ws (wr_ (hv (v := pp (bk H)) rfl (HVal.fieldAddr0 runUnderlying41 rfl rfl sizeOf3 rfl) ?_))))))
 obtain ⟨x8, c7, h⟩ := h
 refine hv (v := iv x8) rfl (l1 isAgg3 rfl c7) (hn (nt (wb (ws (wr_ (hv (v := bv (decide (x8 = 1))) rfl (HVal.eqlI rfl rfl) ?_))))))
 refine hv (v := bv (decide (x8 = 1))) rfl (av rfl) (hn (nt ?_))
 obtain ⟨hT, hF⟩ := h
 refine wk (decide (x8 = 1)) rfl (fun hb9 => ?_) (fun hb9 => ?_)
 ·have h := hT hb9
  refine ws (ws (wr_ (hv (v := pp (Addr.add (bk H) 2)) rfl (fa runUnderlying41 rfl rfl sizeOf38 rfl) ?_)))
  obtain ⟨x11, x12, x13, x14, c10, h⟩ := h
  refine hv (v := .agg (vR x11 x12 x13 x14).toArray) rfl (ln (vR x11 x12 x13 x14) isAgg38 sizeOf38 rfl c10) (ho rfl (HOp.call' 48 [(.agg (vR x11 x12 x13 x14).toArray)] (cap := []) rfl rfl call48 (walk48 h)) ?_)
  rintro _ H15 ⟨r17, rfl, h⟩
  refine hv (v := bv (!r17)) rfl (HVal.not rfl) (hn (nt ?_))
  obtain ⟨hT, hF⟩ := h
  refine wk (!r17) rfl (fun hb18 => ?_) (fun hb18 => ?_)
  ·have h := hT hb18
   refine ws (wr_ (hv (v := .agg (vR 0 0 bE false).toArray) rfl (HVal.build' (cs := (vR 0 0 bE false)) runUnderlying38 zeroValue38 places38 rfl) ?_))
   obtain ⟨z21, h⟩ := h
   refine hq (HOp.storeN' (l := (vR 0 0 bE false)) sizeOf38 rfl rfl rfl z21) ?_
   rintro _ H19 e20
   replace h := h H19 e20
   refine hv (v := iv 12) rfl (av rfl) (hn (nt (HW.ret (tr (br (tr ?_))))))
   obtain ⟨x22, x23, x24, x25, c26, h⟩ := h
   exact ⟨_, resOf2 rfl (Res1.n (vR x22 x23 x24 x25) isAgg38 sizeOf38 rfl c26) Res1.t, ⟨x22, x23, x24, x25, 12, rfl, h⟩⟩
  have h := hF hb18
  refine wp_ (nt (ws (wr_ (hv (v := pp (Addr.add (bk H) 2)) rfl (fa runUnderlying41 rfl rfl sizeOf38 rfl) ?_))))
  obtain ⟨x28, x29, x30, x31, c27, h⟩ := h
  refine hv (v := .agg (vR x28 x29 x30 x31).toArray) rfl (ln (vR x28 x29 x30 x31) isAgg38 sizeOf38 rfl c27) ?_
  obtain ⟨z34, h⟩ := h
  refine hq (HOp.storeN' (l := (vR x28 x29 x30 x31)) sizeOf38 rfl rfl rfl z34) ?_
  rintro _ H32 e33
  replace h := h H32 e33
  refine hv (v := iv 0) rfl (av rfl) (hn (nt (HW.ret (br (tr ?_)))))
  obtain ⟨x35, x36, x37, x38, c39, h⟩ := h
  exact ⟨_, resOf2 rfl (Res1.n (vR x35 x36 x37 x38) isAgg38 sizeOf38 rfl c39) Res1.t, ⟨x35, x36, x37, x38, 0, rfl, h⟩⟩
 have h := hF hb9
 refine ws (wr_ (hv (v := bv (decide (x8 = 2))) rfl (HVal.eqlI rfl rfl) (hv (v := bv (decide (x8 = 2))) rfl (av rfl) ?_)))
 refine hn (nt ?_)
 obtain ⟨hT, hF⟩ := h
 refine wk (decide (x8 = 2)) rfl (fun hb40 => ?_) (fun hb40 => ?_)
 ·have h := hT hb40
  refine ws (wr_ ?_)
  obtain ⟨x42, x43, x44, x45, x46, x47, x48, x49, x50, x51, c41, h⟩ := h
  refine hv (v := .agg (eR x42 x43 x44 x45 x46 x47 x48 x49 x50 x51).toArray) rfl (ln (eR x42 x43 x44 x45 x46 x47 x48 x49 x50 x51) isAgg41 sizeOf41 rfl c41) ?_
  obtain ⟨x53, x54, x55, x56, x57, x58, x59, c52, h⟩ := h
  refine hv (v := .agg (xR x53 x54 x55 x56 x57 x58 x59).toArray) rfl (ln (xR x53 x54 x55 x56 x57 x58 x59) isAgg43 sizeOf43 rfl c52) ?_
  refine ho rfl (HOp.call' 63 [(.agg (eR x42 x43 x44 x45 x46 x47 x48 x49 x50 x51).toArray), (.agg (xR x53 x54 x55 x56 x57 x58 x59).toArray)] (cap := []) rfl rfl call63 (walk63 h)) ?_
  rintro _ H60 ⟨r62, r63, r64, r65, r66, rfl, h⟩
  refine hv (v := .agg (vR r62 r63 r64 r65).toArray) rfl (HVal.extract rfl rfl) (hv (v := iv r66) rfl (HVal.extract rfl rfl) ?_)
  obtain ⟨z69, h⟩ := h
  refine hq (HOp.storeN' (l := (vR r62 r63 r64 r65)) sizeOf38 rfl rfl rfl z69) ?_
  rintro _ H67 e68
  replace h := h H67 e68
  refine hv (v := iv r66) rfl (av rfl) (hn (nt (HW.ret (br (tr ?_)))))
  obtain ⟨x70, x71, x72, x73, c74, h⟩ := h
  exact ⟨_, resOf2 rfl (Res1.n (vR x70 x71 x72 x73) isAgg38 sizeOf38 rfl c74) Res1.t, ⟨x70, x71, x72, x73, r66, rfl, h⟩⟩
 have h := hF hb40
 refine ws (wr_ (hv (v := bv (decide (x8 = 3))) rfl (HVal.eqlI rfl rfl) (hv (v := bv (decide (x8 = 3))) rfl (av rfl) ?_)))
 refine hn (nt ?_)
 obtain ⟨hT, hF⟩ := h
 refine wk (decide (x8 = 3)) rfl (fun hb75 => ?_) (fun hb75 => ?_)
 ·have h := hT hb75
  refine ws (wr_ ?_)
  obtain ⟨x77, x78, x79, x80, x81, x82, x83, x84, x85, x86, c76, h⟩ := h
  refine hv (v := .agg (eR x77 x78 x79 x80 x81 x82 x83 x84 x85 x86).toArray) rfl (ln (eR x77 x78 x79 x80 x81 x82 x83 x84 x85 x86) isAgg41 sizeOf41 rfl c76) ?_
  obtain ⟨x88, x89, x90, x91, x92, x93, x94, c87, h⟩ := h
  refine hv (v := .agg (xR x88 x89 x90 x91 x92 x93 x94).toArray) rfl (ln (xR x88 x89 x90 x91 x92 x93 x94) isAgg43 sizeOf43 rfl c87) ?_
  refine ho rfl (HOp.call' 64 [(.agg (eR x77 x78 x79 x80 x81 x82 x83 x84 x85 x86).toArray), (.agg (xR x88 x89 x90 x91 x92 x93 x94).toArray)] (cap := []) rfl rfl call64 (walk64 h)) ?_
  rintro _ H95 ⟨r97, r98, r99, r100, r101, rfl, h⟩
  refine hv (v := .agg (vR r97 r98 r99 r100).toArray) rfl (HVal.extract rfl rfl) (hv (v := iv r101) rfl (HVal.extract rfl rfl) ?_)
  obtain ⟨z104, h⟩ := h
  refine hq (HOp.storeN' (l := (vR r97 r98 r99 r100)) sizeOf38 rfl rfl rfl z104) ?_
  rintro _ H102 e103
  replace h := h H102 e103
  refine hv (v := iv r101) rfl (av rfl) (hn (nt (HW.ret (br (tr ?_)))))
  obtain ⟨x105, x106, x107, x108, c109, h⟩ := h
  exact ⟨_, resOf2 rfl (Res1.n (vR x105 x106 x107 x108) isAgg38 sizeOf38 rfl c109) Res1.t, ⟨x105, x106, x107, x108, r101, rfl, h⟩⟩
 have h := hF hb75
 refine wp_ (nb (nt (ws (wc (fun ρ H_1 => ∃ y121, Env.Is ρ [(2, (pp (bk H))), (3, (pp (bk H1))), (4, (pp (bk H3))), (50, (bv y121))] ∧ F51_1 X Q (bk H) (bk H1) (bk H3) y121 H_1) ?_ ?_))))
 ·refine wr_ (hv (v := pp (bk H)) rfl (HVal.fieldAddr0 runUnderlying41 rfl rfl sizeOf3 rfl) ?_)
  obtain ⟨x114, c113, h⟩ := h
  refine hv (v := iv x114) rfl (l1 isAgg3 rfl c113) (hv (v := bv (decide (x114 ≠ 4))) rfl (HVal.neqI rfl rfl) (hv (v := bv (decide (x114 ≠ 4))) rfl (mv rfl) ?_))
  obtain ⟨hT, hF⟩ := h
  rcases Bool.eq_false_or_eq_true (decide (x114 ≠ 4)) with hb115 | hb116
  ·have h := hT hb115
   refine hg (v := pp (bk H)) rfl rfl rfl rfl (cB hb115) (HVal.fieldAddr0 runUnderlying41 rfl rfl sizeOf3 rfl) ?_
   obtain ⟨x118, c117, h⟩ := h
   refine hg (v := iv x118) rfl rfl rfl rfl (cB hb115) (l1 isAgg3 rfl c117) (hg (v := bv (decide (x118 ≠ 5))) rfl rfl rfl rfl (cB hb115) (HVal.neqI rfl rfl) ?_)
   refine hv (v := bv (decide (x118 ≠ 5))) rfl (pt_ rfl hb115 rfl) (hv (v := bv (decide (x118 ≠ 5))) rfl (mv rfl) ?_)
   obtain ⟨hT, hF⟩ := h
   rcases Bool.eq_false_or_eq_true (decide (x118 ≠ 5)) with hb119 | hb120
   ·have h := hT hb119
    refine hs_ rfl rfl rfl rfl (cB hb119) (hs_ rfl rfl rfl rfl (cB hb119) (hs_ rfl rfl rfl rfl (cB hb119) (hs_ rfl rfl rfl rfl (cB hb119) ?_)))
    refine hs_ rfl rfl rfl rfl (cB hb119) (hs_ rfl rfl rfl rfl (cB hb119) (hs_ rfl rfl rfl rfl (cB hb119) (hv (v := bv true) rfl (pt_ rfl hb119 rfl) ?_)))
    refine hn (nt ?_)
    exact ⟨true, (isp rfl), h⟩
   have h := hF hb120
   refine hg (v := pp (Addr.add (bk H) 9)) rfl rfl rfl rfl (cB hb120) (fa runUnderlying41 rfl rfl sizeOf39 rfl) ?_
   obtain ⟨x123, c122, h⟩ := h
   refine hg (v := Sl.v x123) rfl rfl rfl rfl (cB hb120) (l1 isAgg39 rfl c122) (hg (v := iv ((x123).n : Int)) rfl rfl rfl rfl (cB hb120) (HVal.len runUnderlying39 rfl) ?_)
   refine hg (v := pp (bk H)) rfl rfl rfl rfl (cB hb120) (HVal.fieldAddr0 runUnderlying41 rfl rfl sizeOf3 rfl) ?_
   obtain ⟨x125, c124, h⟩ := h
   refine hg (v := iv x125) rfl rfl rfl rfl (cB hb120) (l1 isAgg3 rfl c124) (hg (v := iv (IntKind.i64.wrap (x125 - 3))) rfl rfl rfl rfl (cB hb120) (HVal.sub rfl rfl) ?_)
   refine hg (v := bv (decide (((x123).n : Int) ≠ (IntKind.i64.wrap (x125 - 3))))) rfl rfl rfl rfl (cB hb120) (HVal.neqI rfl rfl) (hv (v := bv (decide (((x123).n : Int) ≠ (IntKind.i64.wrap (x125 - 3))))) rfl (pf_ rfl hb120 rfl) ?_)
   refine hn (nt ?_)
   exact ⟨(decide (((x123).n : Int) ≠ (IntKind.i64.wrap (x125 - 3)))), (isp rfl), h⟩
  have h := hF hb116
  refine hs_ rfl rfl rfl rfl (cB hb116) (hs_ rfl rfl rfl rfl (cB hb116) (hs_ rfl rfl rfl rfl (cB hb116) (hv (v := bv false) rfl (pf_ rfl hb116 rfl) ?_)))
  refine hv (v := bv false) rfl (mv rfl) (hg (v := pp (Addr.add (bk H) 9)) rfl rfl rfl rfl rfl (fa runUnderlying41 rfl rfl sizeOf39 rfl) ?_)
  obtain ⟨x127, c126, h⟩ := h
  refine hg (v := Sl.v x127) rfl rfl rfl rfl rfl (l1 isAgg39 rfl c126) (hg (v := iv ((x127).n : Int)) rfl rfl rfl rfl rfl (HVal.len runUnderlying39 rfl) ?_)
  refine hg (v := pp (bk H)) rfl rfl rfl rfl rfl (HVal.fieldAddr0 runUnderlying41 rfl rfl sizeOf3 rfl) ?_
  obtain ⟨x129, c128, h⟩ := h
  refine hg (v := iv x129) rfl rfl rfl rfl rfl (l1 isAgg3 rfl c128) (hg (v := iv (IntKind.i64.wrap (x129 - 3))) rfl rfl rfl rfl rfl (HVal.sub rfl rfl) ?_)
  refine hg (v := bv (decide (((x127).n : Int) ≠ (IntKind.i64.wrap (x129 - 3))))) rfl rfl rfl rfl rfl (HVal.neqI rfl rfl) (hv (v := bv (decide (((x127).n : Int) ≠ (IntKind.i64.wrap (x129 - 3))))) rfl (pf_ rfl rfl rfl) ?_)
  refine hn (nt ?_)
  exact ⟨(decide (((x127).n : Int) ≠ (IntKind.i64.wrap (x129 - 3)))), (isp rfl), h⟩
 rintro ρ H_1 ⟨y121, hI, h⟩
 obtain ⟨ρ0, rfl⟩ := hI.ex
 clear hI; unfold F51_1 at h
 obtain ⟨hT, hF⟩ := h
 refine wk y121 rfl (fun hb130 => ?_) (fun hb130 => ?_)
 ·have h := hT hb130
  refine ws (wr_ (hv (v := .agg (vR 0 0 bE false).toArray) rfl (HVal.build' (cs := (vR 0 0 bE false)) runUnderlying38 zeroValue38 places38 rfl) ?_))
  obtain ⟨z133, h⟩ := h
  refine hq (HOp.storeN' (l := (vR 0 0 bE false)) sizeOf38 rfl rfl rfl z133) ?_
  rintro _ H131 e132
  replace h := h H131 e132
  refine hv (v := iv 60) rfl (av rfl) (hn (nt (HW.ret (tr ?_))))
  obtain ⟨x134, x135, x136, x137, c138, h⟩ := h
  exact ⟨_, resOf2 rfl (Res1.n (vR x134 x135 x136 x137) isAgg38 sizeOf38 rfl c138) Res1.t, ⟨x134, x135, x136, x137, 60, rfl, h⟩⟩
 have h := hF hb130
 refine wp_ (nt (wc (fun ρ H_2 => ∃ y181 y182, Env.Is ρ [(2, (pp (bk H))), (3, (pp (bk H1))), (4, (pp (bk H3))), (6, (pp y181)), (7, (iv y182))] ∧ F51_2 X Q (bk H) (bk H1) (bk H3) y181 y182 H_2) ?_ ?_))
 ·refine HW.draw mixed [(0, some []), (1, some [10]), (2, some []), (3, some [5, 10]), (4, some [5, 10]), (12, none), (12, none), (12, none), (12, none), (12, none), (12, none), (12, none)] rfl (by kernel_rfl) (by kernel_rfl) ?_
  refine pv (v := pp (Addr.add (bk H) 9)) rfl rfl (fun _ => fa runUnderlying41 rfl rfl sizeOf39 rfl) ?_
  obtain ⟨x143, c142, h⟩ := h
  refine pl (v := Sl.v x143) (fun X => cell X (Addr.add (bk H) 9) = some (Sl.v x143)) rfl rfl (fun _ hX => l1 isAgg39 rfl hX) c142 ?_
  obtain ⟨a144, e145, b146, b147, h⟩ := h
  refine pv (v := pp (Addr.add a144 ((0 : Int).toNat * 10))) rfl rfl (fun _ => ia runUnderlying39 sizeOf41 (Sl.v_some rfl e145) rfl b146 b147) ?_
  obtain ⟨x149, x150, x151, x152, x153, x154, x155, x156, x157, x158, c148, h⟩ := h
  refine pl (v := .agg (eR x149 x150 x151 x152 x153 x154 x155 x156 x157 x158).toArray) (fun X => cells X (Addr.add a144 ((0 : Int).toNat * 10)) (eR x149 x150 x151 x152 x153 x154 x155 x156 x157 x158) 0) rfl rfl (fun _ hX => ln (eR x149 x150 x151 x152 x153 x154 x155 x156 x157 x158) isAgg41 sizeOf41 rfl hX) c148 ?_
  obtain ⟨x160, x161, x162, x163, x164, x165, x166, c159, h⟩ := h
  refine pl (v := .agg (xR x160 x161 x162 x163 x164 x165 x166).toArray) (fun X => cells X (bk H1) (xR x160 x161 x162 x163 x164 x165 x166) 0) rfl rfl (fun _ hX => ln (xR x160 x161 x162 x163 x164 x165 x166) isAgg43 sizeOf43 rfl hX) c159 ?_
  obtain ⟨hB5, hB9⟩ := h
  refine HPlan.fork2 (i := 5) (j := 9) (by kernel_rfl) ?_ ?_
  ·have h := hB5
   clear hB5 hB9
   refine HBr.ops' [(6, some []), (7, some []), (8, some []), (9, none), (10, none), (11, some [])] rfl (by kernel_rfl) (by kernel_rfl) rfl rfl rfl (HOp.call' 51 [(.agg (eR x149 x150 x151 x152 x153 x154 x155 x156 x157 x158).toArray), (.agg (xR x160 x161 x162 x163 x164 x165 x166).toArray)] (cap := []) rfl rfl call51 ((hX _ _ _ _ _ _ _ _ _ _ _ _ _ _ _ _ _ _ _).1 h)) ?_
   rintro _ H167 ⟨r169, r170, r171, r172, r173, rfl, h⟩
   obtain ⟨s174, h⟩ := h
   refine ⟨SC_of ⟨nofun, nofun, fun _ => s174, trivial⟩, ?_⟩
   refine pv (v := .tuple #[(.agg (vR r169 r170 r171 r172).toArray), (iv r173)]) rfl rfl (fun _ => mv rfl) (pv (v := .agg (vR r169 r170 r171 r172).toArray) rfl rfl (fun _ => HVal.extract rfl rfl) ?_)
   refine pv (v := iv r173) rfl rfl (fun _ => HVal.extract rfl rfl) (po rfl rfl (HOp.alloc zeroValue38) ?_)
   rintro _ H175 ⟨rfl, e176⟩
   replace h := h H175 e176
   obtain ⟨s177, h⟩ := h
   refine ⟨SC_of ⟨nofun, nofun, fun _ => s177, trivial⟩, ?_⟩
   obtain ⟨z180, h⟩ := h
   refine pn rfl (HOp.storeN' (l := (vR r169 r170 r171 r172)) sizeOf38 rfl rfl rfl z180) ?_
   rintro _ H178 e179
   replace h := h H178 e179
   refine ⟨SC_of ⟨nofun, nofun, nofun, trivial⟩, ?_⟩
   refine pv (v := iv r173) rfl rfl (fun _ => av rfl) (HPlan.done (nt ?_))
   exact ⟨(bk H167), r173, (isp rfl), h⟩
  have h := hB9
  clear hB5 hB9
  refine HBr.ops' [(5, none), (6, some []), (7, some []), (8, some []), (10, none), (11, some [])] rfl (by kernel_rfl) (by kernel_rfl) rfl rfl rfl (HOp.alloc zeroValue38) ?_
  rintro _ H183 ⟨rfl, e184⟩
  replace h := h H183 e184
  obtain ⟨s185, s186, s187, h⟩ := h
  refine ⟨SC_of ⟨fun _ => s185, fun _ => s186, fun _ => s187, trivial⟩, ?_⟩
  refine po rfl rfl (HOp.call' 51 [(.agg (eR x149 x150 x151 x152 x153 x154 x155 x156 x157 x158).toArray), (.agg (xR x160 x161 x162 x163 x164 x165 x166).toArray)] (cap := []) rfl rfl call51 ((hX _ _ _ _ _ _ _ _ _ _ _ _ _ _ _ _ _ _ _).1 h)) ?_
  rintro _ H188 ⟨r190, r191, r192, r193, r194, rfl, h⟩
  obtain ⟨s195, h⟩ := h
  refine ⟨SC_of ⟨nofun, nofun, fun _ => s195, trivial⟩, ?_⟩
  refine pv (v := .tuple #[(.agg (vR r190 r191 r192 r193).toArray), (iv r194)]) rfl rfl (fun _ => mv rfl) (pv (v := .agg (vR r190 r191 r192 r193).toArray) rfl rfl (fun _ => HVal.extract rfl rfl) ?_)
  refine pv (v := iv r194) rfl rfl (fun _ => HVal.extract rfl rfl) ?_
  obtain ⟨z198, h⟩ := h
  refine pn rfl (HOp.storeN' (l := (vR r190 r191 r192 r193)) sizeOf38 rfl rfl rfl z198) ?_
  rintro _ H196 e197
  replace h := h H196 e197
  refine ⟨SC_of ⟨nofun, nofun, nofun, trivial⟩, ?_⟩
  refine pv (v := iv r194) rfl rfl (fun _ => av rfl) (HPlan.done (nt ?_))
  exact ⟨(bk H_1), r194, (isp rfl), h⟩
 rintro ρ H_2 ⟨y181, y182, hI, h⟩
 obtain ⟨ρ0, rfl⟩ := hI.ex
 clear hI; unfold F51_2 at h
 refine ws (ws (wr_ (hv (v := iv y182) rfl (mv rfl) (hv (v := bv (decide (y182 ≠ 0))) rfl (HVal.neqI rfl rfl) (hn (nt ?_))))))
 obtain ⟨hT, hF⟩ := h
 refine wk (decide (y182 ≠ 0)) rfl (fun hb199 => ?_) (fun hb199 => ?_)
 ·have h := hT hb199
  refine ws (wr_ (hv (v := .agg (vR 0 0 bE false).toArray) rfl (HVal.build' (cs := (vR 0 0 bE false)) runUnderlying38 zeroValue38 places38 rfl) ?_))
  refine hv (v := iv y182) rfl (mv rfl) ?_
  obtain ⟨z202, h⟩ := h
  refine hq (HOp.storeN' (l := (vR 0 0 bE false)) sizeOf38 rfl rfl rfl z202) ?_
  rintro _ H200 e201
  replace h := h H200 e201
  refine hv (v := iv y182) rfl (av rfl) (hn (nt (HW.ret (tr ?_))))
  obtain ⟨x203, x204, x205, x206, c207, h⟩ := h
  exact ⟨_, resOf2 rfl (Res1.n (vR x203 x204 x205 x206) isAgg38 sizeOf38 rfl c207) Res1.t, ⟨x203, x204, x205, x206, y182, rfl, h⟩⟩
 have h := hF hb199
 refine wp_ (nt (ws (ws (wr_ (hv (v := pp (bk H)) rfl (HVal.fieldAddr0 runUnderlying41 rfl rfl sizeOf3 rfl) ?_)))))
 obtain ⟨x209, c208, h⟩ := h
 refine hv (v := iv x209) rfl (l1 isAgg3 rfl c208) (hv (v := bv (decide (x209 = 4))) rfl (HVal.eqlI rfl rfl) (hn (nt ?_)))
 obtain ⟨hT, hF⟩ := h
 refine wk (decide (x209 = 4)) rfl (fun hb210 => ?_) (fun hb210 => ?_)
 ·have h := hT hb210
  refine ws (wr_ (hv (v := pp (Addr.add (bk H) 1)) rfl (fa runUnderlying41 rfl rfl sizeOf3 rfl) ?_))
  obtain ⟨x212, c211, h⟩ := h
  refine hv (v := iv x212) rfl (l1 isAgg3 rfl c211) ?_
  obtain ⟨x214, x215, x216, x217, c213, h⟩ := h
  refine hv (v := .agg (vR x214 x215 x216 x217).toArray) rfl (ln (vR x214 x215 x216 x217) isAgg38 sizeOf38 rfl c213) (ho rfl (HOp.call' 65 [(iv x212), (.agg (vR x214 x215 x216 x217).toArray)] (cap := []) rfl rfl call65 (walk65 h)) ?_)
  rintro _ H218 ⟨r220, r221, r222, r223, r224, rfl, h⟩
  refine hv (v := .agg (vR r220 r221 r222 r223).toArray) rfl (HVal.extract rfl rfl) (hv (v := iv r224) rfl (HVal.extract rfl rfl) ?_)
  obtain ⟨z227, h⟩ := h
  refine hq (HOp.storeN' (l := (vR r220 r221 r222 r223)) sizeOf38 rfl rfl rfl z227) ?_
  rintro _ H225 e226
  replace h := h H225 e226
  refine hv (v := iv r224) rfl (av rfl) (hn (nt (HW.ret (tr ?_))))
  obtain ⟨x228, x229, x230, x231, c232, h⟩ := h
  exact ⟨_, resOf2 rfl (Res1.n (vR x228 x229 x230 x231) isAgg38 sizeOf38 rfl c232) Res1.t, ⟨x228, x229, x230, x231, r224, rfl, h⟩⟩
 have h := hF hb210
 refine wp_ (nt (wc (fun ρ H_3 => ∃ y275 y276, Env.Is ρ [(2, (pp (bk H))), (4, (pp (bk H3))), (6, (pp y181)), (7, (iv y275)), (8, (pp y276))] ∧ F51_3 X Q (bk H) (bk H3) y181 y275 y276 H_3) ?_ ?_))
 ·refine HW.draw mixed [(0, some []), (1, some [10]), (2, some []), (3, some [5, 10]), (4, some [5, 10]), (12, none), (12, none), (12, none), (12, none), (12, none), (12, none), (12, none)] rfl (by kernel_rfl) (by kernel_rfl) ?_
  refine pv (v := pp (Addr.add (bk H) 9)) rfl rfl (fun _ => fa runUnderlying41 rfl rfl sizeOf39 rfl) ?_
  obtain ⟨x237, c236, h⟩ := h
  refine pl (v := Sl.v x237) (fun X => cell X (Addr.add (bk H) 9) = some (Sl.v x237)) rfl rfl (fun _ hX => l1 isAgg39 rfl hX) c236 ?_
  obtain ⟨a238, e239, b240, b241, h⟩ := h
  refine pv (v := pp (Addr.add a238 ((1 : Int).toNat * 10))) rfl rfl (fun _ => ia runUnderlying39 sizeOf41 (Sl.v_some rfl e239) rfl b240 b241) ?_
  obtain ⟨x243, x244, x245, x246, x247, x248, x249, x250, x251, x252, c242, h⟩ := h
  refine pl (v := .agg (eR x243 x244 x245 x246 x247 x248 x249 x250 x251 x252).toArray) (fun X => cells X (Addr.add a238 ((1 : Int).toNat * 10)) (eR x243 x244 x245 x246 x247 x248 x249 x250 x251 x252) 0) rfl rfl (fun _ hX => ln (eR x243 x244 x245 x246 x247 x248 x249 x250 x251 x252) isAgg41 sizeOf41 rfl hX) c242 ?_
  obtain ⟨x254, x255, x256, x257, x258, x259, x260, c253, h⟩ := h
  refine pl (v := .agg (xR x254 x255 x256 x257 x258 x259 x260).toArray) (fun X => cells X (bk H1) (xR x254 x255 x256 x257 x258 x259 x260) 0) rfl rfl (fun _ hX => ln (xR x254 x255 x256 x257 x258 x259 x260) isAgg43 sizeOf43 rfl hX) c253 ?_
  obtain ⟨hB5, hB9⟩ := h
  refine HPlan.fork2 (i := 5) (j := 9) (by kernel_rfl) ?_ ?_
  ·have h := hB5
   clear hB5 hB9
   refine HBr.ops' [(6, some []), (7, some []), (8, some []), (9, none), (10, none), (11, some [])] rfl (by kernel_rfl) (by kernel_rfl) rfl rfl rfl (HOp.call' 51 [(.agg (eR x243 x244 x245 x246 x247 x248 x249 x250 x251 x252).toArray), (.agg (xR x254 x255 x256 x257 x258 x259 x260).toArray)] (cap := []) rfl rfl call51 ((hX _ _ _ _ _ _ _ _ _ _ _ _ _ _ _ _ _ _ _).1 h)) ?_
   rintro _ H261 ⟨r263, r264, r265, r266, r267, rfl, h⟩
   obtain ⟨s268, h⟩ := h
   refine ⟨SC_of ⟨nofun, nofun, fun _ => s268, trivial⟩, ?_⟩
   refine pv (v := .tuple #[(.agg (vR r263 r264 r265 r266).toArray), (iv r267)]) rfl rfl (fun _ => mv rfl) (pv (v := .agg (vR r263 r264 r265 r266).toArray) rfl rfl (fun _ => HVal.extract rfl rfl) ?_)
   refine pv (v := iv r267) rfl rfl (fun _ => HVal.extract rfl rfl) (po rfl rfl (HOp.alloc zeroValue38) ?_)
   rintro _ H269 ⟨rfl, e270⟩
   replace h := h H269 e270
   obtain ⟨s271, h⟩ := h
   refine ⟨SC_of ⟨nofun, nofun, fun _ => s271, trivial⟩, ?_⟩
   obtain ⟨z274, h⟩ := h
   refine pn rfl (HOp.storeN' (l := (vR r263 r264 r265 r266)) sizeOf38 rfl rfl rfl z274) ?_
   rintro _ H272 e273
   replace h := h H272 e273
   refine ⟨SC_of ⟨nofun, nofun, nofun, trivial⟩, ?_⟩
   refine pv (v := iv r267) rfl rfl (fun _ => av rfl) (HPlan.done (nt ?_))
   exact ⟨r267, (bk H261), (isp rfl), h⟩
  have h := hB9
  clear hB5 hB9
  refine HBr.ops' [(5, none), (6, some []), (7, some []), (8, some []), (10, none), (11, some [])] rfl (by kernel_rfl) (by kernel_rfl) rfl rfl rfl (HOp.alloc zeroValue38) ?_
  rintro _ H277 ⟨rfl, e278⟩
  replace h := h H277 e278
  obtain ⟨s279, s280, s281, h⟩ := h
  refine ⟨SC_of ⟨fun _ => s279, fun _ => s280, fun _ => s281, trivial⟩, ?_⟩
  refine po rfl rfl (HOp.call' 51 [(.agg (eR x243 x244 x245 x246 x247 x248 x249 x250 x251 x252).toArray), (.agg (xR x254 x255 x256 x257 x258 x259 x260).toArray)] (cap := []) rfl rfl call51 ((hX _ _ _ _ _ _ _ _ _ _ _ _ _ _ _ _ _ _ _).1 h)) ?_
  rintro _ H282 ⟨r284, r285, r286, r287, r288, rfl, h⟩
  obtain ⟨s289, h⟩ := h
  refine ⟨SC_of ⟨nofun, nofun, fun _ => s289, trivial⟩, ?_⟩
  refine pv (v := .tuple #[(.agg (vR r284 r285 r286 r287).toArray), (iv r288)]) rfl rfl (fun _ => mv rfl) (pv (v := .agg (vR r284 r285 r286 r287).toArray) rfl rfl (fun _ => HVal.extract rfl rfl) ?_)
  refine pv (v := iv r288) rfl rfl (fun _ => HVal.extract rfl rfl) ?_
  obtain ⟨z292, h⟩ := h
  refine pn rfl (HOp.storeN' (l := (vR r284 r285 r286 r287)) sizeOf38 rfl rfl rfl z292) ?_
  rintro _ H290 e291
  replace h := h H290 e291
  refine ⟨SC_of ⟨nofun, nofun, nofun, trivial⟩, ?_⟩
  refine pv (v := iv r288) rfl rfl (fun _ => av rfl) (HPlan.done (nt ?_))
  exact ⟨r288, (bk H_2), (isp rfl), h⟩
 rintro ρ H_3 ⟨y275, y276, hI, h⟩
 obtain ⟨ρ0, rfl⟩ := hI.ex
 clear hI; unfold F51_3 at h
 refine ws (ws (wr_ (hv (v := iv y275) rfl (mv rfl) (hv (v := bv (decide (y275 ≠ 0))) rfl (HVal.neqI rfl rfl) (hn (nt ?_))))))
 obtain ⟨hT, hF⟩ := h
 refine wk (decide (y275 ≠ 0)) rfl (fun hb293 => ?_) (fun hb293 => ?_)
 ·have h := hT hb293
  refine ws (wr_ (hv (v := .agg (vR 0 0 bE false).toArray) rfl (HVal.build' (cs := (vR 0 0 bE false)) runUnderlying38 zeroValue38 places38 rfl) ?_))
  refine hv (v := iv y275) rfl (mv rfl) ?_
  obtain ⟨z296, h⟩ := h
  refine hq (HOp.storeN' (l := (vR 0 0 bE false)) sizeOf38 rfl rfl rfl z296) ?_
  rintro _ H294 e295
  replace h := h H294 e295
  refine hv (v := iv y275) rfl (av rfl) (hn (nt (HW.ret (tr ?_))))
  obtain ⟨x297, x298, x299, x300, c301, h⟩ := h
  exact ⟨_, resOf2 rfl (Res1.n (vR x297 x298 x299 x300) isAgg38 sizeOf38 rfl c301) Res1.t, ⟨x297, x298, x299, x300, y275, rfl, h⟩⟩
 have h := hF hb293
 refine wp_ (nt (ws (wr_ (hv (v := pp (Addr.add (bk H) 1)) rfl (fa runUnderlying41 rfl rfl sizeOf3 rfl) ?_))))
 obtain ⟨x303, c302, h⟩ := h
 refine hv (v := iv x303) rfl (l1 isAgg3 rfl c302) ?_
 obtain ⟨x305, x306, x307, x308, c304, h⟩ := h
 refine hv (v := .agg (vR x305 x306 x307 x308).toArray) rfl (ln (vR x305 x306 x307 x308) isAgg38 sizeOf38 rfl c304) ?_
 obtain ⟨x310, x311, x312, x313, c309, h⟩ := h
 refine hv (v := .agg (vR x310 x311 x312 x313).toArray) rfl (ln (vR x310 x311 x312 x313) isAgg38 sizeOf38 rfl c309) (ho rfl (HOp.call' 66 [(iv x303), (.agg (vR x305 x306 x307 x308).toArray), (.agg (vR x310 x311 x312 x313).toArray)] (cap := []) rfl rfl call66 (walk66 h)) ?_)
 rintro _ H314 ⟨r316, r317, r318, r319, r320, rfl, h⟩
 refine hv (v := .agg (vR r316 r317 r318 r319).toArray) rfl (HVal.extract rfl rfl) (hv (v := iv r320) rfl (HVal.extract rfl rfl) ?_)
 obtain ⟨z323, h⟩ := h
 refine hq (HOp.storeN' (l := (vR r316 r317 r318 r319)) sizeOf38 rfl rfl rfl z323) ?_
 rintro _ H321 e322
 replace h := h H321 e322
 refine hv (v := iv r320) rfl (av rfl) (hn (nt (HW.ret ?_)))
 obtain ⟨x324, x325, x326, x327, c328, h⟩ := h
 exact ⟨_, resOf2 rfl (Res1.n (vR x324 x325 x326 x327) isAgg38 sizeOf38 rfl c328) Res1.t, ⟨x324, x325, x326, x327, r320, rfl, h⟩⟩

def F32_1 (Q : ZQV) (y22 y23 y24 : Addr) (y27 : Bool) (H_1 : Hp) : Prop :=
(y27 = true → (mayw H_1 y24 4 0 ∧ ∀ H29, H29 = sets H_1 y24 (vR 0 0 bE false) 0 → (
 ∃ x32 x33 x34 x35, cells H29 y24 (vR x32 x33 x34 x35) 0 ∧ (
 Q x32 x33 x34 x35 71 H29)))) ∧
 (y27 = false → (∃ x38 x39 x40 x41 x42 x43 x44 x45 x46 x47, cells H_1 y22 (eR x38 x39 x40 x41 x42 x43 x44 x45 x46 x47) 0 ∧ (
 ∃ x49 x50 x51 x52 x53 x54 x55, cells H_1 y23 (xR x49 x50 x51 x52 x53 x54 x55) 0 ∧ (
 F51 x38 x39 x40 x41 x42 x43 x44 x45 x46 x47 x49 x50 x51 x52 x53 x54 x55 H_1 (fun r58 r59 r60 r61 r62 H56 =>
 mayw H56 y24 4 0 ∧ ∀ H63, H63 = sets H56 y24 (vR r58 r59 r60 r61) 0 → (
 ∃ x66 x67 x68 x69, cells H63 y24 (vR x66 x67 x68 x69) 0 ∧ (
 Q x66 x67 x68 x69 r62 H63)))))))
def F32 (p0_0 p0_1 p0_2 p0_3 : Int) (p0_4 : ByteArray) (p0_5 : Bool) (p0_6 : ByteArray) (p0_7 : Int) (p0_8 : ByteArray) (p0_9 p1_0 p1_1 : Sl) (p1_2 p1_3 : ByteArray) (p1_4 : Int) (p1_5 p1_6 : Sl) (H : Hp) (Q : ZQV) : Prop :=
∀ H1, H1 = Array.push H (.cells (eR p0_0 p0_1 p0_2 p0_3 p0_4 p0_5 p0_6 p0_7 p0_8 p0_9).toArray 41) → (
 ∀ H3, H3 = Array.push H1 (.cells (xR p1_0 p1_1 p1_2 p1_3 p1_4 p1_5 p1_6).toArray 43) → (
 ∀ H5, H5 = Array.push H3 (.cells (vR 0 0 bE false).toArray 38) → (
 ∃ x8 x9 x10 x11 x12 x13 x14 x15 x16 x17, cells H5 (bk H) (eR x8 x9 x10 x11 x12 x13 x14 x15 x16 x17) 0 ∧ (
 F50 x8 x9 x10 x11 x12 x13 x14 x15 x16 x17 H5 (fun r20 r21 H18 =>
 ((decide ((256 : Int) < r20)) = true → (F32_1 Q (bk H) (bk H1) (bk H3) true H18)) ∧
 ((decide ((256 : Int) < r20)) = false → (F32_1 Q (bk H) (bk H1) (bk H3) (decide ((32 : Int) < r21)) H18)))))))
theorem walk32 {w0 : World} {p0_0 p0_1 p0_2 p0_3 : Int} {p0_4 : ByteArray} {p0_5 : Bool} {p0_6 : ByteArray} {p0_7 : Int} {p0_8 : ByteArray} {p0_9 p1_0 p1_1 : Sl} {p1_2 p1_3 : ByteArray} {p1_4 : Int} {p1_5 p1_6 : Sl} {H : Hp} {Q : ZQV} (h : F32 p0_0 p0_1 p0_2 p0_3 p0_4 p0_5 p0_6 p0_7 p0_8 p0_9 p1_0 p1_1 p1_2 p1_3 p1_4 p1_5 p1_6 H Q) :
  Good prog w0 32 #[(.agg (eR p0_0 p0_1 p0_2 p0_3 p0_4 p0_5 p0_6 p0_7 p0_8 p0_9).toArray), (.agg (xR p1_0 p1_1 p1_2 p1_3 p1_4 p1_5 p1_6).toArray)] H (fun v H => ∃ r0 r1 r2 r3 r4, v = (.tuple #[(.agg (vR r0 r1 r2 r3).toArray), (iv r4)]) ∧ Q r0 r1 r2 r3 r4 H) := by
 unfold F32 at h
 refine Good.enter' (fn := f32) func32 rfl rfl rfl (ws (wr_ (ho rfl (ob (v := .agg (eR p0_0 p0_1 p0_2 p0_3 p0_4 p0_5 p0_6 p0_7 p0_8 p0_9).toArray) rfl) ?_)))
 rintro _ H1 ⟨rfl, e2⟩
 replace h := h H1 e2
 refine ho rfl (ob (v := .agg (xR p1_0 p1_1 p1_2 p1_3 p1_4 p1_5 p1_6).toArray) rfl) ?_
 rintro _ H3 ⟨rfl, e4⟩
 replace h := h H3 e4
 refine ho rfl (HOp.alloc zeroValue38) ?_
 rintro _ H5 ⟨rfl, e6⟩
 replace h := h H5 e6
 refine hv (v := iv 0) rfl (av rfl) (hn (nt (ws (wr_ ?_))))
 obtain ⟨x8, x9, x10, x11, x12, x13, x14, x15, x16, x17, c7, h⟩ := h
 refine hv (v := .agg (eR x8 x9 x10 x11 x12 x13 x14 x15 x16 x17).toArray) rfl (ln (eR x8 x9 x10 x11 x12 x13 x14 x15 x16 x17) isAgg41 sizeOf41 rfl c7) ?_
 refine ho rfl (HOp.call' 50 [(.agg (eR x8 x9 x10 x11 x12 x13 x14 x15 x16 x17).toArray)] (cap := []) rfl rfl call50 (walk50 h)) ?_
 rintro _ H18 ⟨r20, r21, rfl, h⟩
 refine hv (v := .tuple #[(iv r20), (iv r21)]) rfl (mv rfl) (hv (v := iv r20) rfl (HVal.extract rfl rfl) (hv (v := iv r21) rfl (HVal.extract rfl rfl) ?_))
 refine hv (v := iv r20) rfl (av rfl) (hv (v := iv r21) rfl (av rfl) (hn (nt (ws (wc (fun ρ H_1 => ∃ y27, Env.Is ρ [(2, (pp (bk H))), (3, (pp (bk H1))), (4, (pp (bk H3))), (18, (bv y27))] ∧ F32_1 Q (bk H) (bk H1) (bk H3) y27 H_1) ?_ ?_)))))
 ·refine wr_ (hv (v := iv r20) rfl (mv rfl) (hv (v := bv (decide ((256 : Int) < r20))) rfl (HVal.gtr rfl rfl) (hv (v := bv (decide ((256 : Int) < r20))) rfl (mv rfl) ?_)))
  obtain ⟨hT, hF⟩ := h
  rcases Bool.eq_false_or_eq_true (decide ((256 : Int) < r20)) with hb25 | hb26
  ·have h := hT hb25
   refine hs_ rfl rfl rfl rfl (cB hb25) (hs_ rfl rfl rfl rfl (cB hb25) (hv (v := bv true) rfl (pt_ rfl hb25 rfl) (hn (nt ?_))))
   exact ⟨true, (isp rfl), h⟩
  have h := hF hb26
  refine hg (v := iv r21) rfl rfl rfl rfl (cB hb26) (mv rfl) (hg (v := bv (decide ((32 : Int) < r21))) rfl rfl rfl rfl (cB hb26) (HVal.gtr rfl rfl) ?_)
  refine hv (v := bv (decide ((32 : Int) < r21))) rfl (pf_ rfl hb26 rfl) (hn (nt ?_))
  exact ⟨(decide ((32 : Int) < r21)), (isp rfl), h⟩
 rintro ρ H_1 ⟨y27, hI, h⟩
 obtain ⟨ρ0, rfl⟩ := hI.ex
 clear hI; unfold F32_1 at h
 obtain ⟨hT, hF⟩ := h
 refine wk y27 rfl (fun hb28 => ?_) (fun hb28 => ?_)
 ·have h := hT hb28
  refine ws (wr_ (hv (v := .agg (vR 0 0 bE false).toArray) rfl (HVal.build' (cs := (vR 0 0 bE false)) runUnderlying38 zeroValue38 places38 rfl) ?_))
  obtain ⟨z31, h⟩ := h
  refine hq (HOp.storeN' (l := (vR 0 0 bE false)) sizeOf38 rfl rfl rfl z31) ?_
  rintro _ H29 e30
  replace h := h H29 e30
  refine hv (v := iv 71) rfl (av rfl) (hn (nt (HW.ret (tr ?_))))
  obtain ⟨x32, x33, x34, x35, c36, h⟩ := h
  exact ⟨_, resOf2 rfl (Res1.n (vR x32 x33 x34 x35) isAgg38 sizeOf38 rfl c36) Res1.t, ⟨x32, x33, x34, x35, 71, rfl, h⟩⟩
 have h := hF hb28
 refine wp_ (nt (ws (wr_ ?_)))
 obtain ⟨x38, x39, x40, x41, x42, x43, x44, x45, x46, x47, c37, h⟩ := h
 refine hv (v := .agg (eR x38 x39 x40 x41 x42 x43 x44 x45 x46 x47).toArray) rfl (ln (eR x38 x39 x40 x41 x42 x43 x44 x45 x46 x47) isAgg41 sizeOf41 rfl c37) ?_
 obtain ⟨x49, x50, x51, x52, x53, x54, x55, c48, h⟩ := h
 refine hv (v := .agg (xR x49 x50 x51 x52 x53 x54 x55).toArray) rfl (ln (xR x49 x50 x51 x52 x53 x54 x55) isAgg43 sizeOf43 rfl c48) ?_
 refine ho rfl (HOp.call' 51 [(.agg (eR x38 x39 x40 x41 x42 x43 x44 x45 x46 x47).toArray), (.agg (xR x49 x50 x51 x52 x53 x54 x55).toArray)] (cap := []) rfl rfl call51 (walk51 h)) ?_
 rintro _ H56 ⟨r58, r59, r60, r61, r62, rfl, h⟩
 refine hv (v := .agg (vR r58 r59 r60 r61).toArray) rfl (HVal.extract rfl rfl) (hv (v := iv r62) rfl (HVal.extract rfl rfl) ?_)
 obtain ⟨z65, h⟩ := h
 refine hq (HOp.storeN' (l := (vR r58 r59 r60 r61)) sizeOf38 rfl rfl rfl z65) ?_
 rintro _ H63 e64
 replace h := h H63 e64
 refine hv (v := iv r62) rfl (av rfl) (hn (nt (HW.ret ?_)))
 obtain ⟨x66, x67, x68, x69, c70, h⟩ := h
 exact ⟨_, resOf2 rfl (Res1.n (vR x66 x67 x68 x69) isAgg38 sizeOf38 rfl c70) Res1.t, ⟨x66, x67, x68, x69, r62, rfl, h⟩⟩

def F34_3 (Q : ZQB) (X1 : ZQI) (y61 : Sl) (y62 : Addr) (y63 : Int) (y66 : Bool) (H_3 : Hp) : Prop :=
(y66 = true → (Q false H_3)) ∧
 (y66 = false → (X1 (IntKind.i64.wrap (y63 + 1)) H_3))
def F34_2 (Q : ZQB) (X1 : ZQI) (y7 : Sl) (y8 : Addr) (y9 : Int) (y45 : Addr) (y46 : Int) (H_2 : Hp) : Prop :=
(decide (y46 ≠ 0) = true → (F34_3 Q X1 y7 y8 y9 true H_2)) ∧
 (decide (y46 ≠ 0) = false → (∃ x68 x69 x70 x71, cells H_2 y45 (vR x68 x69 x70 x71) 0 ∧ (
 F52 true H_2 (fun r74 r75 r76 r77 H72 =>
 cells H72 y45 (vR x68 x69 x70 x71) 0 ∧ (
 F34_3 Q X1 y7 y8 y9 (!(decide (x68 = r74) && (decide (x69 = r75) && (seq x70 r76 && (x71 == r77))))) H72)))))
def F34_L1b (Q : ZQB) (X1 : ZQI) (y4 : Sl) (y5 : Addr) (y3 : Int) (H_1 : Hp) : Prop :=
((decide (y3 < ((y4).n : Int))) = true → (∃ a10, (y4).b = some a10 ∧ (0 : Int) ≤ y3 ∧ y3 < ((y4).n : Int) ∧ (
 ∃ x15 x16 x17 x18 x19 x20 x21 x22 x23 x24, cells H_1 (Addr.add a10 (y3.toNat * 10)) (eR x15 x16 x17 x18 x19 x20 x21 x22 x23 x24) 0 ∧ (
 ∃ x26 x27 x28 x29 x30 x31 x32, cells H_1 y5 (xR x26 x27 x28 x29 x30 x31 x32) 0 ∧ (
 (F32 x15 x16 x17 x18 x19 x20 x21 x22 x23 x24 x26 x27 x28 x29 x30 x31 x32 H_1 (fun r35 r36 r37 r38 r39 H33 =>
 ∀ H40, H40 = Array.push H33 (.cells (vR 0 0 bE false).toArray 38) → (
 mayw H40 (bk H33) 4 0 ∧ ∀ H42, H42 = sets H40 (bk H33) (vR r35 r36 r37 r38) 0 → (
 F34_2 Q X1 y4 y5 y3 (bk H33) r39 H42)))) ∧
 (∀ H47, H47 = Array.push H_1 (.cells (vR 0 0 bE false).toArray 38) → (
 cells H47 y5 (xR x26 x27 x28 x29 x30 x31 x32) 0 ∧ cells H47 (Addr.add a10 (y3.toNat * 10)) (eR x15 x16 x17 x18 x19 x20 x21 x22 x23 x24) 0 ∧ (
 F32 x15 x16 x17 x18 x19 x20 x21 x22 x23 x24 x26 x27 x28 x29 x30 x31 x32 H47 (fun r53 r54 r55 r56 r57 H51 =>
 mayw H51 (bk H_1) 4 0 ∧ ∀ H58, H58 = sets H51 (bk H_1) (vR r53 r54 r55 r56) 0 → (
 F34_2 Q X1 y4 y5 y3 (bk H_1) r57 H58)))))))))) ∧
 ((decide (y3 < ((y4).n : Int))) = false → (Q true H_1))
def F34_L1 (Q : ZQB) (y4 : Sl) (y5 : Addr) (y3 : Int) (H_1 : Hp) : Prop :=
 ∀ X1 : ZQI, (∀ (y3 : Int) (H_1 : Hp), F34_L1b Q X1 y4 y5 y3 H_1 → X1 y3 H_1) → X1 y3 H_1
def F34 (p0 p1_0 p1_1 : Sl) (p1_2 p1_3 : ByteArray) (p1_4 : Int) (p1_5 p1_6 : Sl) (H : Hp) (Q : ZQB) : Prop :=
∀ H1, H1 = Array.push H (.cells (xR p1_0 p1_1 p1_2 p1_3 p1_4 p1_5 p1_6).toArray 43) → (
 F34_L1 Q p0 (bk H) 0 H1)
theorem walk34 {w0 : World} {p0 p1_0 p1_1 : Sl} {p1_2 p1_3 : ByteArray} {p1_4 : Int} {p1_5 p1_6 : Sl} {H : Hp} {Q : ZQB} (h : F34 p0 p1_0 p1_1 p1_2 p1_3 p1_4 p1_5 p1_6 H Q) :
  Good prog w0 34 #[(Sl.v p0), (.agg (xR p1_0 p1_1 p1_2 p1_3 p1_4 p1_5 p1_6).toArray)] H (fun v H => ∃ r0, v = (bv r0) ∧ Q r0 H) := by
 unfold F34 at h
 refine Good.enter' (fn := f34) func34 rfl rfl rfl (ws (wr_ (ho rfl (ob (v := .agg (xR p1_0 p1_1 p1_2 p1_3 p1_4 p1_5 p1_6).toArray) rfl) ?_)))
 rintro _ H1 ⟨rfl, e2⟩
 replace h := h H1 e2
 refine hv (v := bv false) rfl (av rfl) (hn (nt (ws (ws (wr_ (hv (v := iv 0) rfl (av rfl) (hn (nt ?_))))))))
 refine wb (HW.loop' (fun L1 hL1 => ?_))
 obtain ⟨X1, hX1⟩ : ∃ X1 : ZQI, ∀ (y3 : Int) (H_1 : Hp), X1 y3 H_1 ↔ ∀ ρ, Env.Is ρ [(0, (Sl.v p0)), (3, (pp (bk H))), (5, (iv y3))] → L1 ρ H_1 := ⟨_, fun _ _ => Iff.rfl⟩
 refine (hX1 _ _).1 (h X1 ?_) _ ?_
 rotate_left
 ·exact (isp rfl)
 clear h
 intro y3 H_1 h
 refine (hX1 _ _).2 fun ρ hI => ?_
 obtain ⟨ρ0, rfl⟩ := hI.ex
 clear hI; unfold F34_L1b at h; refine hL1 _ _ ?_
 refine ws (ws (wr_ (hv (v := iv y3) rfl (mv rfl) (hv (v := Sl.v p0) rfl (mv rfl) (hv (v := iv ((p0).n : Int)) rfl (HVal.len runUnderlying39 rfl) ?_)))))
 refine hv (v := bv (decide (y3 < ((p0).n : Int)))) rfl (HVal.lss rfl rfl) (hn (nt ?_))
 obtain ⟨hT, hF⟩ := h
 refine wk (decide (y3 < ((p0).n : Int))) rfl (fun hb6 => ?_) (fun hb6 => ?_)
 ·have h := hT hb6
  refine wp_ (nt (ws (wb (wc (fun ρ H_2 => ∃ y45 y46, Env.Is ρ [(0, (Sl.v p0)), (3, (pp (bk H))), (5, (iv y3)), (6, (pp y45)), (7, (iv y46))] ∧ F34_2 Q X1 p0 (bk H) y3 y45 y46 H_2) ?_ ?_))))
  ·refine HW.draw mixed [(0, some []), (1, some []), (2, some []), (3, some [5, 10]), (4, some [5, 10]), (12, none), (12, none), (12, none), (12, none), (12, none), (12, none), (12, none)] rfl (by kernel_rfl) (by kernel_rfl) ?_
   refine pv (v := Sl.v p0) rfl rfl (fun _ => mv rfl) (pv (v := iv y3) rfl rfl (fun _ => mv rfl) ?_)
   obtain ⟨a10, e11, b12, b13, h⟩ := h
   refine pv (v := pp (Addr.add a10 (y3.toNat * 10))) rfl rfl (fun _ => ia runUnderlying39 sizeOf41 (Sl.v_some rfl e11) rfl b12 b13) ?_
   obtain ⟨x15, x16, x17, x18, x19, x20, x21, x22, x23, x24, c14, h⟩ := h
   refine pl (v := .agg (eR x15 x16 x17 x18 x19 x20 x21 x22 x23 x24).toArray) (fun X => cells X (Addr.add a10 (y3.toNat * 10)) (eR x15 x16 x17 x18 x19 x20 x21 x22 x23 x24) 0) rfl rfl (fun _ hX => ln (eR x15 x16 x17 x18 x19 x20 x21 x22 x23 x24) isAgg41 sizeOf41 rfl hX) c14 ?_
   obtain ⟨x26, x27, x28, x29, x30, x31, x32, c25, h⟩ := h
   refine pl (v := .agg (xR x26 x27 x28 x29 x30 x31 x32).toArray) (fun X => cells X (bk H) (xR x26 x27 x28 x29 x30 x31 x32) 0) rfl rfl (fun _ hX => ln (xR x26 x27 x28 x29 x30 x31 x32) isAgg43 sizeOf43 rfl hX) c25 ?_
   obtain ⟨hB5, hB9⟩ := h
   refine HPlan.fork2 (i := 5) (j := 9) (by kernel_rfl) ?_ ?_
   ·have h := hB5
    clear hB5 hB9
    refine HBr.ops' [(6, some []), (7, some []), (8, some []), (9, none), (10, none), (11, some [])] rfl (by kernel_rfl) (by kernel_rfl) rfl rfl rfl (HOp.call' 32 [(.agg (eR x15 x16 x17 x18 x19 x20 x21 x22 x23 x24).toArray), (.agg (xR x26 x27 x28 x29 x30 x31 x32).toArray)] (cap := []) rfl rfl call32 (walk32 h)) ?_
    rintro _ H33 ⟨r35, r36, r37, r38, r39, rfl, h⟩
    refine ⟨SC_of ⟨nofun, nofun, trivial⟩, ?_⟩
    refine pv (v := .tuple #[(.agg (vR r35 r36 r37 r38).toArray), (iv r39)]) rfl rfl (fun _ => mv rfl) (pv (v := .agg (vR r35 r36 r37 r38).toArray) rfl rfl (fun _ => HVal.extract rfl rfl) ?_)
    refine pv (v := iv r39) rfl rfl (fun _ => HVal.extract rfl rfl) (po rfl rfl (HOp.alloc zeroValue38) ?_)
    rintro _ H40 ⟨rfl, e41⟩
    replace h := h H40 e41
    refine ⟨SC_of ⟨nofun, nofun, trivial⟩, ?_⟩
    obtain ⟨z44, h⟩ := h
    refine pn rfl (HOp.storeN' (l := (vR r35 r36 r37 r38)) sizeOf38 rfl rfl rfl z44) ?_
    rintro _ H42 e43
    replace h := h H42 e43
    refine ⟨SC_of ⟨nofun, nofun, trivial⟩, ?_⟩
    refine pv (v := iv r39) rfl rfl (fun _ => av rfl) (HPlan.done (nt ?_))
    exact ⟨(bk H33), r39, (isp rfl), h⟩
   have h := hB9
   clear hB5 hB9
   refine HBr.ops' [(5, none), (6, some []), (7, some []), (8, some []), (10, none), (11, some [])] rfl (by kernel_rfl) (by kernel_rfl) rfl rfl rfl (HOp.alloc zeroValue38) ?_
   rintro _ H47 ⟨rfl, e48⟩
   replace h := h H47 e48
   obtain ⟨s49, s50, h⟩ := h
   refine ⟨SC_of ⟨fun _ => s49, fun _ => s50, trivial⟩, ?_⟩
   refine po rfl rfl (HOp.call' 32 [(.agg (eR x15 x16 x17 x18 x19 x20 x21 x22 x23 x24).toArray), (.agg (xR x26 x27 x28 x29 x30 x31 x32).toArray)] (cap := []) rfl rfl call32 (walk32 h)) ?_
   rintro _ H51 ⟨r53, r54, r55, r56, r57, rfl, h⟩
   refine ⟨SC_of ⟨nofun, nofun, trivial⟩, ?_⟩
   refine pv (v := .tuple #[(.agg (vR r53 r54 r55 r56).toArray), (iv r57)]) rfl rfl (fun _ => mv rfl) (pv (v := .agg (vR r53 r54 r55 r56).toArray) rfl rfl (fun _ => HVal.extract rfl rfl) ?_)
   refine pv (v := iv r57) rfl rfl (fun _ => HVal.extract rfl rfl) ?_
   obtain ⟨z60, h⟩ := h
   refine pn rfl (HOp.storeN' (l := (vR r53 r54 r55 r56)) sizeOf38 rfl rfl rfl z60) ?_
   rintro _ H58 e59
   replace h := h H58 e59
   refine ⟨SC_of ⟨nofun, nofun, trivial⟩, ?_⟩
   refine pv (v := iv r57) rfl rfl (fun _ => av rfl) (HPlan.done (nt ?_))
   exact ⟨(bk H_1), r57, (isp rfl), h⟩
  rintro ρ H_2 ⟨y45, y46, hI, h⟩
  obtain ⟨ρ0, rfl⟩ := hI.ex
  clear hI; unfold F34_2 at h
  refine wc (fun ρ H_3 => ∃ y66, Env.Is ρ [(0, (Sl.v p0)), (3, (pp (bk H))), (5, (iv y3)), (29, (bv y66))] ∧ F34_3 Q X1 p0 (bk H) y3 y66 H_3) ?_ ?_
  ·refine HW.draw mixed [(0, some []), (1, some []), (2, some []), (3, some []), (4, none), (5, some []), (6, some [])] rfl (by kernel_rfl) (by kernel_rfl) (pv (v := iv y46) rfl rfl (fun _ => mv rfl) ?_)
   refine pv (v := bv (decide (y46 ≠ 0))) rfl rfl (fun _ => HVal.neqI rfl rfl) (pv (v := bv (decide (y46 ≠ 0))) rfl rfl (fun _ => mv rfl) ?_)
   obtain ⟨hT, hF⟩ := h
   rcases Bool.eq_false_or_eq_true (decide (y46 ≠ 0)) with hb64 | hb65
   ·have h := hT hb64
    refine pg rfl rfl rfl rfl (cB hb64) (HPlan.opgskip rfl rfl rfl rfl (cB hb64) (pg rfl rfl rfl rfl (cB hb64) (pv (v := bv true) rfl rfl (fun _ => pt_ rfl hb64 rfl) ?_)))
    refine HPlan.done (nt ?_)
    exact ⟨true, (isp rfl), h⟩
   have h := hF hb65
   obtain ⟨x68, x69, x70, x71, c67, h⟩ := h
   refine HPlan.gtakel (v := .agg (vR x68 x69 x70 x71).toArray) (fun X => cells X y45 (vR x68 x69 x70 x71) 0) rfl rfl rfl rfl rfl (cB hb65) (fun _ hX => ln (vR x68 x69 x70 x71) isAgg38 sizeOf38 rfl hX) c67 ?_
   refine HPlan.gops rfl rfl rfl rfl rfl (cB hb65) (HOp.call' 52 [(bv true)] (cap := []) rfl rfl call52 (walk52 h)) ?_
   rintro _ H72 ⟨r74, r75, r76, r77, rfl, h⟩
   obtain ⟨s78, h⟩ := h
   refine ⟨SC_of ⟨fun _ => s78, trivial⟩, ?_⟩
   refine HPlan.gtakev (v := bv (!(decide (x68 = r74) && (decide (x69 = r75) && (seq x70 r76 && (x71 == r77)))))) rfl rfl rfl rfl rfl (cB hb65) (fun _ => eqs38_neq rfl rfl) ?_
   refine pv (v := bv (!(decide (x68 = r74) && (decide (x69 = r75) && (seq x70 r76 && (x71 == r77)))))) rfl rfl (fun _ => pf_ rfl hb65 rfl) ?_
   refine HPlan.done (nt ?_)
   exact ⟨(!(decide (x68 = r74) && (decide (x69 = r75) && (seq x70 r76 && (x71 == r77))))), (isp rfl), h⟩
  rintro ρ H_3 ⟨y66, hI, h⟩
  obtain ⟨ρ0, rfl⟩ := hI.ex
  clear hI; unfold F34_3 at h
  obtain ⟨hT, hF⟩ := h
  refine wk y66 rfl (fun hb79 => ?_) (fun hb79 => ?_)
  ·have h := hT hb79
   refine ws (wr_ (hv (v := bv false) rfl (av rfl) (hn (nt (HW.ret (br (tr (tr (br (tr ?_))))))))))
   exact ⟨_, resOf1 rfl Res1.t, ⟨false, rfl, h⟩⟩
  have h := hF hb79
  refine wp_ (nb (nt (wr_ (hv (v := iv y3) rfl (mv rfl) (hv (v := iv (IntKind.i64.wrap (y3 + 1))) rfl (HVal.add rfl rfl) ?_)))))
  refine hv (v := iv (IntKind.i64.wrap (y3 + 1))) rfl (av rfl) (hn (nt ?_))
  exact (hX1 _ _).1 h _ (isp rfl)
 have h := hF hb6
 refine we (te (te (be (nt (ws (wr_ (hv (v := bv true) rfl (av rfl) (hn (nt (HW.ret ?_))))))))))
 exact ⟨_, resOf1 rfl Res1.t, ⟨true, rfl, h⟩⟩

def F41_3 (Q : Sl → Hp → Prop) (y69 : (Option Addr)) (y70 y71 : Int) (y72 : Sl) (H_3 : Hp) : Prop :=
∃ a86, y69 = some a86 ∧ (
 ∃ x89, cell H_3 (Addr.add a86 1) = some (Sl.v x89) ∧ (
 ∃ a90, (x89).b = some a90 ∧ (0 : Int) ≤ y70 ∧ y70 < ((x89).n : Int) ∧ (
 (cell H_3 (Addr.add a90 (y70.toNat * 1))).isSome = true ∧ frz H_3 (Addr.add a90 (y70.toNat * 1)) = false ∧ ∀ H94, H94 = setc H_3 (Addr.add a90 (y70.toNat * 1)) (Sl.v y72) → (
 (0 : Int) ≤ y71 ∧ 0 ≤ y71.toNat ∧ y71.toNat ≤ (y72).c ∧ (y72).c ≤ (y72).c ∧ (
 Q (Sl.cut y72 4 0 y71.toNat ((y72).c)) H94)))))
def F41_L4b (Q : Sl → Hp → Prop) (X4 : ZQI) (y74 : (Option Addr)) (y75 y76 : Int) (y77 : Sl) (y73 : Int) (H_4 : Hp) : Prop :=
((decide (y73 < ((y77).n : Int))) = true → (∃ a79, (y77).b = some a79 ∧ (0 : Int) ≤ y73 ∧ y73 < ((y77).n : Int) ∧ (
 mayw H_4 (Addr.add a79 (y73.toNat * 4)) 4 0 ∧ ∀ H83, H83 = sets H_4 (Addr.add a79 (y73.toNat * 4)) (vR (IntKind.i64.wrap (77 + y73)) 0 bE false) 0 → (
 X4 (IntKind.i64.wrap (y73 + 1)) H83)))) ∧
 ((decide (y73 < ((y77).n : Int))) = false → (F41_3 Q y74 y75 y76 y77 H_4))
def F41_L4 (Q : Sl → Hp → Prop) (y74 : (Option Addr)) (y75 y76 : Int) (y77 : Sl) (y73 : Int) (H_4 : Hp) : Prop :=
 ∀ X4 : ZQI, (∀ (y73 : Int) (H_4 : Hp), F41_L4b Q X4 y74 y75 y76 y77 y73 H_4 → X4 y73 H_4) → X4 y73 H_4
def F41_2 (Q : Sl → Hp → Prop) (y48 : (Option Addr)) (y49 : Sl) (y50 y51 : Int) (y53 : Sl) (H_2 : Hp) : Prop :=
0 ≤ (0 : Int).toNat ∧ (0 : Int).toNat ≤ (y53).c ∧ (y53).c ≤ (y53).c ∧ (
 AppendF H_2 38 4 40 (vR 0 0 bE false).toArray (Sl.cut y53 4 0 ((0 : Int).toNat) ((y53).c)) (y49).b (y49).n (fun r59 H57 =>
 ∀ H60, H60 = Array.push H57 (.cells (vR 0 0 bE false).toArray 38) → (
 AppendF H60 38 4 40 (vR 0 0 bE false).toArray r59 ((Sl.mk (some (bk H57)) 1 1)).b ((Sl.mk (some (bk H57)) 1 1)).n (fun r64 H62 =>
 (0 : Int) ≤ ((r64).c : Int) ∧ 0 ≤ ((r64).c : Int).toNat ∧ ((r64).c : Int).toNat ≤ (r64).c ∧ (r64).c ≤ (r64).c ∧ (
 F41_L4 Q y48 y50 y51 (Sl.cut r64 4 0 (((r64).c : Int).toNat) ((r64).c)) y51 H62)))))
def F41_1 (Q : Sl → Hp → Prop) (y15 : (Option Addr)) (y16 : Sl) (y17 : Int) (H_1 : Hp) : Prop :=
∃ a38, y15 = some a38 ∧ (
 ∃ x41, cell H_1 (Addr.add a38 1) = some (Sl.v x41) ∧ (
 ∃ a42, (x41).b = some a42 ∧ (0 : Int) ≤ y17 ∧ y17 < ((x41).n : Int) ∧ (
 ∃ x47, cell H_1 (Addr.add a42 (y17.toNat * 1)) = some (Sl.v x47) ∧ (
 ((decide ((IntKind.i64.wrap (((y16).n : Int) + 70000)) < ((x47).c : Int))) = true → (F41_2 Q y15 y16 y17 ((y16).n : Int) Sl.nil H_1)) ∧
 ((decide ((IntKind.i64.wrap (((y16).n : Int) + 70000)) < ((x47).c : Int))) = false → (F41_2 Q y15 y16 y17 ((y16).n : Int) x47 H_1))))))
def F41 (p0 : (Option Addr)) (p1 : Sl) (H : Hp) (Q : Sl → Hp → Prop) : Prop :=
∃ a1, p0 = some a1 ∧ (
 ∃ x4, cell H (Addr.add a1 8) = some (iv x4) ∧ (
 ∃ a5, p0 = some a5 ∧ (
 ∃ x8, cell H (Addr.add a5 8) = some (iv x8) ∧ (
 ∃ a9, p0 = some a9 ∧ (
 (cell H (Addr.add a9 8)).isSome = true ∧ frz H (Addr.add a9 8) = false ∧ ∀ H11, H11 = setc H (Addr.add a9 8) (iv (IntKind.i64.wrap (x8 + 1))) → (
 ∃ a18, p0 = some a18 ∧ (
 ∃ x21, cell H11 (Addr.add a18 1) = some (Sl.v x21) ∧ (
 ((decide (x4 = ((x21).n : Int))) = true → (∃ a23, p0 = some a23 ∧ (
 ∃ x26, cell H11 (Addr.add a23 1) = some (Sl.v x26) ∧ (
 ∀ H27, H27 = Array.push H11 (.cells #[sN] 34) → (
 AppendF H27 34 1 24 #[sN] x26 ((Sl.mk (some (bk H11)) 1 1)).b ((Sl.mk (some (bk H11)) 1 1)).n (fun r31 H29 =>
 ∃ a32, p0 = some a32 ∧ (
 (cell H29 (Addr.add a32 1)).isSome = true ∧ frz H29 (Addr.add a32 1) = false ∧ ∀ H34, H34 = setc H29 (Addr.add a32 1) (Sl.v r31) → (
 F41_1 Q p0 p1 x4 H34)))))))) ∧
 ((decide (x4 = ((x21).n : Int))) = false → (F41_1 Q p0 p1 x4 H11))))))))))
theorem walk41 {w0 : World} {p0 : (Option Addr)} {p1 : Sl} {H : Hp} {Q : Sl → Hp → Prop} (h : F41 p0 p1 H Q) :
  Good prog w0 41 #[(.pointer p0), (Sl.v p1)] H (fun v H => ∃ r0, v = (Sl.v r0) ∧ Q r0 H) := by
 unfold F41 at h
 refine Good.enter' (fn := f41) func41 rfl rfl rfl (ws (wr_ (hv (v := sN) rfl (av rfl) (hn (nt (ws (wr_ ?_)))))))
 refine hv (v := .pointer p0) rfl (mv rfl) ?_
 obtain ⟨a1, e2, h⟩ := h
 refine hv (v := pp a1) rfl (HVal.nilCheck (congrArg Value.pointer e2)) (hv (v := pp (Addr.add a1 8)) rfl (fa runUnderlying32 rfl rfl sizeOf3 rfl) ?_)
 obtain ⟨x4, c3, h⟩ := h
 refine hv (v := iv x4) rfl (l1 isAgg3 rfl c3) (hv (v := iv x4) rfl (av rfl) (hn (nt (ws (wr_ ?_)))))
 refine hv (v := .pointer p0) rfl (mv rfl) ?_
 obtain ⟨a5, e6, h⟩ := h
 refine hv (v := pp a5) rfl (HVal.nilCheck (congrArg Value.pointer e6)) (hv (v := pp (Addr.add a5 8)) rfl (fa runUnderlying32 rfl rfl sizeOf3 rfl) ?_)
 obtain ⟨x8, c7, h⟩ := h
 refine hv (v := iv x8) rfl (l1 isAgg3 rfl c7) (hv (v := iv (IntKind.i64.wrap (x8 + 1))) rfl (HVal.add rfl rfl) ?_)
 obtain ⟨a9, e10, h⟩ := h
 refine hv (v := pp a9) rfl (HVal.nilCheck (congrArg Value.pointer e10)) (hv (v := pp (Addr.add a9 8)) rfl (fa runUnderlying32 rfl rfl sizeOf3 rfl) ?_)
 obtain ⟨z13, z14, h⟩ := h
 refine hq (HOp.store1 sizeOf3 rfl rfl rfl z13 z14) ?_
 rintro _ H11 e12
 replace h := h H11 e12
 refine hn (nt (wc (fun ρ H_1 => Env.Is ρ [(0, (.pointer p0)), (1, (Sl.v p1)), (5, (iv x4))] ∧ F41_1 Q p0 p1 x4 H_1) ?_ ?_))
 ·refine ws (wr_ (hv (v := iv x4) rfl (mv rfl) (hv (v := .pointer p0) rfl (mv rfl) ?_)))
  obtain ⟨a18, e19, h⟩ := h
  refine hv (v := pp a18) rfl (HVal.nilCheck (congrArg Value.pointer e19)) (hv (v := pp (Addr.add a18 1)) rfl (fa runUnderlying32 rfl rfl sizeOf26 rfl) ?_)
  obtain ⟨x21, c20, h⟩ := h
  refine hv (v := Sl.v x21) rfl (l1 isAgg26 rfl c20) (hv (v := iv ((x21).n : Int)) rfl (HVal.len runUnderlying26 rfl) (hv (v := bv (decide (x4 = ((x21).n : Int)))) rfl (HVal.eqlI rfl rfl) ?_))
  refine hn (nt ?_)
  obtain ⟨hT, hF⟩ := h
  refine wk (decide (x4 = ((x21).n : Int))) rfl (fun hb22 => ?_) (fun hb22 => ?_)
  ·have h := hT hb22
   refine wr_ (hv (v := .pointer p0) rfl (mv rfl) (hv (v := .pointer p0) rfl (mv rfl) ?_))
   obtain ⟨a23, e24, h⟩ := h
   refine hv (v := pp a23) rfl (HVal.nilCheck (congrArg Value.pointer e24)) (hv (v := pp (Addr.add a23 1)) rfl (fa runUnderlying32 rfl rfl sizeOf26 rfl) ?_)
   obtain ⟨x26, c25, h⟩ := h
   refine hv (v := Sl.v x26) rfl (l1 isAgg26 rfl c25) (ho rfl (HOp.buildSlice' (zs := [sN]) (cs := [sN]) runUnderlying26 sizeOf34 zeroValue34 (by decide) (by kernel_rfl) rfl (by decide)) ?_)
   rintro _ H27 ⟨rfl, e28⟩
   replace h := h H27 e28
   refine ho rfl (HOp.append (k := 1) (b := 24) runUnderlying26 runUnderlying26 typeInfo34 rfl rfl zeroValue34 rfl rfl h) ?_
   rintro _ H29 ⟨r31, rfl, h⟩
   obtain ⟨a32, e33, h⟩ := h
   refine hv (v := pp a32) rfl (HVal.nilCheck (congrArg Value.pointer e33)) (hv (v := pp (Addr.add a32 1)) rfl (fa runUnderlying32 rfl rfl sizeOf26 rfl) ?_)
   obtain ⟨z36, z37, h⟩ := h
   refine hq (HOp.store1 sizeOf26 rfl rfl rfl z36 z37) ?_
   rintro _ H34 e35
   replace h := h H34 e35
   refine hn (nt ?_)
   exact ⟨(isp rfl), h⟩
  have h := hF hb22
  refine wp_ (nt ?_)
  exact ⟨(isp rfl), h⟩
 rintro ρ H_1 ⟨hI, h⟩
 obtain ⟨ρ0, rfl⟩ := hI.ex
 clear hI; unfold F41_1 at h
 refine ws (wr_ (hv (v := Sl.v p1) rfl (mv rfl) (hv (v := iv ((p1).n : Int)) rfl (HVal.len runUnderlying34 rfl) ?_)))
 refine hv (v := iv ((p1).n : Int)) rfl (av rfl) (hn (nt (ws (wr_ (hv (v := .pointer p0) rfl (mv rfl) ?_)))))
 obtain ⟨a38, e39, h⟩ := h
 refine hv (v := pp a38) rfl (HVal.nilCheck (congrArg Value.pointer e39)) (hv (v := pp (Addr.add a38 1)) rfl (fa runUnderlying32 rfl rfl sizeOf26 rfl) ?_)
 obtain ⟨x41, c40, h⟩ := h
 refine hv (v := Sl.v x41) rfl (l1 isAgg26 rfl c40) (hv (v := iv x4) rfl (mv rfl) ?_)
 obtain ⟨a42, e43, b44, b45, h⟩ := h
 refine hv (v := pp (Addr.add a42 (x4.toNat * 1))) rfl (ia runUnderlying26 sizeOf34 (Sl.v_some rfl e43) rfl b44 b45) ?_
 obtain ⟨x47, c46, h⟩ := h
 refine hv (v := Sl.v x47) rfl (l1 isAgg34 rfl c46) (hv (v := Sl.v x47) rfl (av rfl) (hn (nt (wc (fun ρ H_2 => ∃ y53, Env.Is ρ [(0, (.pointer p0)), (1, (Sl.v p1)), (5, (iv x4)), (6, (iv ((p1).n : Int))), (7, (Sl.v y53))] ∧ F41_2 Q p0 p1 x4 ((p1).n : Int) y53 H_2) ?_ ?_))))
 ·refine ws (wr_ (hv (v := Sl.v x47) rfl (mv rfl) (hv (v := iv ((x47).c : Int)) rfl (HVal.cap runUnderlying34 rfl) ?_)))
  refine hv (v := iv ((p1).n : Int)) rfl (mv rfl) (hv (v := iv (IntKind.i64.wrap (((p1).n : Int) + 70000))) rfl (HVal.add rfl rfl) ?_)
  refine hv (v := bv (decide ((IntKind.i64.wrap (((p1).n : Int) + 70000)) < ((x47).c : Int)))) rfl (HVal.gtr rfl rfl) (hn (nt ?_))
  obtain ⟨hT, hF⟩ := h
  refine wk (decide ((IntKind.i64.wrap (((p1).n : Int) + 70000)) < ((x47).c : Int))) rfl (fun hb52 => ?_) (fun hb52 => ?_)
  ·have h := hT hb52
   refine wr_ (hv (v := sN) rfl (av rfl) (hn (nt ?_)))
   exact ⟨Sl.nil, (isp rfl), h⟩
  have h := hF hb52
  refine wp_ (nt ?_)
  exact ⟨x47, (isp rfl), h⟩
 rintro ρ H_2 ⟨y53, hI, h⟩
 obtain ⟨ρ0, rfl⟩ := hI.ex
 clear hI; unfold F41_2 at h
 refine ws (wr_ (hv (v := Sl.v y53) rfl (mv rfl) ?_))
 obtain ⟨z54, z55, z56, h⟩ := h
 refine hv (v := Sl.v (Sl.cut y53 4 0 ((0 : Int).toNat) ((y53).c))) rfl (HVal.slice _ _ _ runUnderlying34 sizeOf38 rfl rfl ⟨_, _, rfl, by decide, rfl⟩ rfl (by decide) z54 z55 z56) ?_
 refine hv (v := Sl.v p1) rfl (mv rfl) (ho rfl (HOp.append (k := 4) (b := 40) runUnderlying34 runUnderlying34 typeInfo38 rfl rfl zeroValue38 rfl rfl h) ?_)
 rintro _ H57 ⟨r59, rfl, h⟩
 refine hv (v := Sl.v r59) rfl (av rfl) (hn (nt (ws (wr_ (hv (v := Sl.v r59) rfl (mv rfl) (hv (v := .agg (vR 0 0 bE false).toArray) rfl (HVal.build' (cs := (vR 0 0 bE false)) runUnderlying38 zeroValue38 places38 rfl) ?_))))))
 refine ho rfl (HOp.buildSlice' (zs := (vR 0 0 bE false)) (cs := (vR 0 0 bE false)) runUnderlying34 sizeOf38 zeroValue38 (by decide) (by kernel_rfl) rfl (by decide)) ?_
 rintro _ H60 ⟨rfl, e61⟩
 replace h := h H60 e61
 refine ho rfl (HOp.append (k := 4) (b := 40) runUnderlying34 runUnderlying34 typeInfo38 rfl rfl zeroValue38 rfl rfl h) ?_
 rintro _ H62 ⟨r64, rfl, h⟩
 refine hv (v := Sl.v r64) rfl (av rfl) (hn (nt (ws (wr_ (hv (v := Sl.v r64) rfl (mv rfl) (hv (v := Sl.v r64) rfl (mv rfl) ?_))))))
 refine hv (v := iv ((r64).c : Int)) rfl (HVal.cap runUnderlying34 rfl) ?_
 obtain ⟨z65, z66, z67, z68, h⟩ := h
 refine hv (v := Sl.v (Sl.cut r64 4 0 (((r64).c : Int).toNat) ((r64).c))) rfl (HVal.slice _ _ _ runUnderlying34 sizeOf38 rfl rfl ⟨_, _, rfl, z65, rfl⟩ rfl (by decide) z66 z67 z68) ?_
 refine hv (v := Sl.v (Sl.cut r64 4 0 (((r64).c : Int).toNat) ((r64).c))) rfl (av rfl) (hn (nt (wc (fun ρ H_3 => Env.Is ρ [(0, (.pointer p0)), (5, (iv x4)), (6, (iv ((p1).n : Int))), (7, (Sl.v (Sl.cut r64 4 0 (((r64).c : Int).toNat) ((r64).c))))] ∧ F41_3 Q p0 x4 ((p1).n : Int) (Sl.cut r64 4 0 (((r64).c : Int).toNat) ((r64).c)) H_3) ?_ ?_)))
 ·refine ws (wr_ (hv (v := iv ((p1).n : Int)) rfl (mv rfl) (hv (v := iv ((p1).n : Int)) rfl (av rfl) (hn (nt ?_)))))
  refine wb (HW.loop' (fun L4 hL4 => ?_))
  obtain ⟨X4, hX4⟩ : ∃ X4 : ZQI, ∀ (y73 : Int) (H_4 : Hp), X4 y73 H_4 ↔ ∀ ρ, Env.Is ρ [(0, (.pointer p0)), (5, (iv x4)), (6, (iv ((p1).n : Int))), (7, (Sl.v (Sl.cut r64 4 0 (((r64).c : Int).toNat) ((r64).c)))), (8, (iv y73))] → L4 ρ H_4 := ⟨_, fun _ _ => Iff.rfl⟩
  refine (hX4 _ _).1 (h X4 ?_) _ ?_
  rotate_left
  ·exact (isp rfl)
  clear h
  intro y73 H_4 h
  refine (hX4 _ _).2 fun ρ hI => ?_
  obtain ⟨ρ0, rfl⟩ := hI.ex
  clear hI; unfold F41_L4b at h; refine hL4 _ _ ?_
  refine ws (ws (wr_ (hv (v := iv y73) rfl (mv rfl) (hv (v := Sl.v (Sl.cut r64 4 0 (((r64).c : Int).toNat) ((r64).c))) rfl (mv rfl) ?_))))
  refine hv (v := iv (((Sl.cut r64 4 0 (((r64).c : Int).toNat) ((r64).c))).n : Int)) rfl (HVal.len runUnderlying34 rfl) (hv (v := bv (decide (y73 < (((Sl.cut r64 4 0 (((r64).c : Int).toNat) ((r64).c))).n : Int)))) rfl (HVal.lss rfl rfl) ?_)
  refine hn (nt ?_)
  obtain ⟨hT, hF⟩ := h
  refine wk (decide (y73 < (((Sl.cut r64 4 0 (((r64).c : Int).toNat) ((r64).c))).n : Int))) rfl (fun hb78 => ?_) (fun hb78 => ?_)
  ·have h := hT hb78
   refine wp_ (nt (ws (wb (wr_ (hv (v := Sl.v (Sl.cut r64 4 0 (((r64).c : Int).toNat) ((r64).c))) rfl (mv rfl) (hv (v := iv y73) rfl (mv rfl) ?_))))))
   refine hv (v := iv y73) rfl (mv rfl) (hv (v := iv (IntKind.i64.wrap (77 + y73))) rfl (HVal.add rfl rfl) (hv (v := .agg (vR (IntKind.i64.wrap (77 + y73)) 0 bE false).toArray) rfl (HVal.build' (cs := (vR (IntKind.i64.wrap (77 + y73)) 0 bE false)) runUnderlying38 zeroValue38 places38 rfl) ?_))
   obtain ⟨a79, e80, b81, b82, h⟩ := h
   refine hv (v := pp (Addr.add a79 (y73.toNat * 4))) rfl (ia runUnderlying34 sizeOf38 (Sl.v_some rfl e80) rfl b81 b82) ?_
   obtain ⟨z85, h⟩ := h
   refine hq (HOp.storeN' (l := (vR (IntKind.i64.wrap (77 + y73)) 0 bE false)) sizeOf38 rfl rfl rfl z85) ?_
   rintro _ H83 e84
   replace h := h H83 e84
   refine hn (nb (nt (wr_ (hv (v := iv y73) rfl (mv rfl) (hv (v := iv (IntKind.i64.wrap (y73 + 1))) rfl (HVal.add rfl rfl) ?_)))))
   refine hv (v := iv (IntKind.i64.wrap (y73 + 1))) rfl (av rfl) (hn (nt ?_))
   exact (hX4 _ _).1 h _ (isp rfl)
  have h := hF hb78
  refine we (te (te (be (nt ?_))))
  exact ⟨(isp rfl), h⟩
 rintro ρ H_3 ⟨hI, h⟩
 obtain ⟨ρ0, rfl⟩ := hI.ex
 clear hI; unfold F41_3 at h
 refine ws (wr_ (hv (v := .pointer p0) rfl (mv rfl) ?_))
 obtain ⟨a86, e87, h⟩ := h
 refine hv (v := pp a86) rfl (HVal.nilCheck (congrArg Value.pointer e87)) (hv (v := pp (Addr.add a86 1)) rfl (fa runUnderlying32 rfl rfl sizeOf26 rfl) ?_)
 obtain ⟨x89, c88, h⟩ := h
 refine hv (v := Sl.v x89) rfl (l1 isAgg26 rfl c88) (hv (v := iv x4) rfl (mv rfl) (hv (v := Sl.v (Sl.cut r64 4 0 (((r64).c : Int).toNat) ((r64).c))) rfl (mv rfl) ?_))
 obtain ⟨a90, e91, b92, b93, h⟩ := h
 refine hv (v := pp (Addr.add a90 (x4.toNat * 1))) rfl (ia runUnderlying26 sizeOf34 (Sl.v_some rfl e91) rfl b92 b93) ?_
 obtain ⟨z96, z97, h⟩ := h
 refine hq (HOp.store1 sizeOf34 rfl rfl rfl z96 z97) ?_
 rintro _ H94 e95
 replace h := h H94 e95
 refine hn (nt (ws (wr_ (hv (v := Sl.v (Sl.cut r64 4 0 (((r64).c : Int).toNat) ((r64).c))) rfl (mv rfl) (hv (v := iv ((p1).n : Int)) rfl (mv rfl) ?_)))))
 obtain ⟨z98, z99, z100, z101, h⟩ := h
 refine hv (v := Sl.v (Sl.cut (Sl.cut r64 4 0 (((r64).c : Int).toNat) ((r64).c)) 4 0 ((p1).n : Int).toNat (((Sl.cut r64 4 0 (((r64).c : Int).toNat) ((r64).c))).c))) rfl (HVal.slice _ _ _ runUnderlying34 sizeOf38 rfl rfl ⟨_, _, rfl, z98, rfl⟩ rfl (by decide) z99 z100 z101) ?_
 refine hv (v := Sl.v (Sl.cut (Sl.cut r64 4 0 (((r64).c : Int).toNat) ((r64).c)) 4 0 ((p1).n : Int).toNat (((Sl.cut r64 4 0 (((r64).c : Int).toNat) ((r64).c))).c))) rfl (av rfl) ?_
 refine hn (nt (HW.ret ?_))
 exact ⟨_, resOf1 rfl Res1.t, ⟨(Sl.cut (Sl.cut r64 4 0 (((r64).c : Int).toNat) ((r64).c)) 4 0 ((p1).n : Int).toNat (((Sl.cut r64 4 0 (((r64).c : Int).toNat) ((r64).c))).c)), rfl, h⟩⟩

def F27 (p0 : (Option Addr)) (p1_0 : ByteArray) (p1_1 : Int) (p1_2 : Sl) (H : Hp) (Q : ByteArray → Int → Sl → Hp → Prop) : Prop :=
∀ H1, H1 = Array.push H (.cells (tR p1_0 p1_1 p1_2).toArray 36) → (
 ∀ H3, H3 = Array.push H1 (.cells (tR bE 0 Sl.nil).toArray 36) → (
 ∃ x6, cell H3 (Addr.add (bk H) 2) = some (Sl.v x6) ∧ (
 F41 p0 x6 H3 (fun r9 H7 =>
 (cell H7 (Addr.add (bk H) 2)).isSome = true ∧ frz H7 (Addr.add (bk H) 2) = false ∧ ∀ H10, H10 = setc H7 (Addr.add (bk H) 2) (Sl.v r9) → (
 ∃ x15 x16 x17, cells H10 (bk H) (tR x15 x16 x17) 0 ∧ (
 mayw H10 (bk H1) 3 0 ∧ ∀ H18, H18 = sets H10 (bk H1) (tR x15 x16 x17) 0 → (
 ∃ x21 x22 x23, cells H18 (bk H1) (tR x21 x22 x23) 0 ∧ (
 Q x21 x22 x23 H18))))))))
theorem walk27 {w0 : World} {p0 : (Option Addr)} {p1_0 : ByteArray} {p1_1 : Int} {p1_2 : Sl} {H : Hp} {Q : ByteArray → Int → Sl → Hp → Prop} (h : F27 p0 p1_0 p1_1 p1_2 H Q) :
  Good prog w0 27 #[(.pointer p0), (.agg (tR p1_0 p1_1 p1_2).toArray)] H (fun v H => ∃ r0 r1 r2, v = (.agg (tR r0 r1 r2).toArray) ∧ Q r0 r1 r2 H) := by
 unfold F27 at h
 refine Good.enter' (fn := f27) func27 rfl rfl rfl (ws (wr_ (ho rfl (ob (v := .agg (tR p1_0 p1_1 p1_2).toArray) rfl) ?_)))
 rintro _ H1 ⟨rfl, e2⟩
 replace h := h H1 e2
 refine ho rfl (HOp.alloc zeroValue36) ?_
 rintro _ H3 ⟨rfl, e4⟩
 replace h := h H3 e4
 refine hn (nt (ws (wr_ (hv (v := .pointer p0) rfl (mv rfl) (hv (v := pp (Addr.add (bk H) 2)) rfl (fa runUnderlying36 rfl rfl sizeOf34 rfl) ?_)))))
 obtain ⟨x6, c5, h⟩ := h
 refine hv (v := Sl.v x6) rfl (l1 isAgg34 rfl c5) (ho rfl (HOp.call' 41 [(.pointer p0), (Sl.v x6)] (cap := []) rfl rfl call41 (walk41 h)) ?_)
 rintro _ H7 ⟨r9, rfl, h⟩
 refine hv (v := pp (Addr.add (bk H) 2)) rfl (fa runUnderlying36 rfl rfl sizeOf34 rfl) ?_
 obtain ⟨z12, z13, h⟩ := h
 refine hq (HOp.store1 sizeOf34 rfl rfl rfl z12 z13) ?_
 rintro _ H10 e11
 replace h := h H10 e11
 refine hn (nt (ws (wr_ ?_)))
 obtain ⟨x15, x16, x17, c14, h⟩ := h
 refine hv (v := .agg (tR x15 x16 x17).toArray) rfl (ln (tR x15 x16 x17) isAgg36 sizeOf36 rfl c14) ?_
 obtain ⟨z20, h⟩ := h
 refine hq (HOp.storeN' (l := (tR x15 x16 x17)) sizeOf36 rfl rfl rfl z20) ?_
 rintro _ H18 e19
 replace h := h H18 e19
 refine hn (nt (HW.ret ?_))
 obtain ⟨x21, x22, x23, c24, h⟩ := h
 exact ⟨_, resOf1 rfl (Res1.n (tR x21 x22 x23) isAgg36 sizeOf36 rfl c24), ⟨x21, x22, x23, rfl, h⟩⟩

def F39_3 (Q : Sl → Hp → Prop) (y69 : (Option Addr)) (y70 y71 : Int) (y72 : Sl) (H_3 : Hp) : Prop :=
∃ a123, y69 = some a123 ∧ (
 ∃ x126, cell H_3 (Addr.add a123 2) = some (Sl.v x126) ∧ (
 ∃ a127, (x126).b = some a127 ∧ (0 : Int) ≤ y70 ∧ y70 < ((x126).n : Int) ∧ (
 (cell H_3 (Addr.add a127 (y70.toNat * 1))).isSome = true ∧ frz H_3 (Addr.add a127 (y70.toNat * 1)) = false ∧ ∀ H131, H131 = setc H_3 (Addr.add a127 (y70.toNat * 1)) (Sl.v y72) → (
 (0 : Int) ≤ y71 ∧ 0 ≤ y71.toNat ∧ y71.toNat ≤ (y72).c ∧ (y72).c ≤ (y72).c ∧ (
 Q (Sl.cut y72 3 0 y71.toNat ((y72).c)) H131)))))
def F39_5 (Q : Sl → Hp → Prop) (X4 : ZQI) (y80 : (Option Addr)) (y81 : Sl) (y82 y83 : Int) (y84 : Sl) (y85 : Int) (H_5 : Hp) : Prop :=
X4 (IntKind.i64.wrap (y85 + 1)) H_5
def F39_L4b (Q : Sl → Hp → Prop) (X4 : ZQI) (y74 : (Option Addr)) (y75 : Sl) (y76 y77 : Int) (y78 : Sl) (y73 : Int) (H_4 : Hp) : Prop :=
((decide (y73 < ((y78).n : Int))) = true → ((decide (y77 ≤ y73) = true → (∃ a87, (y78).b = some a87 ∧ (0 : Int) ≤ y73 ∧ y73 < ((y78).n : Int) ∧ (
 mayw H_4 (Addr.add a87 (y73.toNat * 3)) 3 0 ∧ ∀ H91, H91 = sets H_4 (Addr.add a87 (y73.toNat * 3)) (tR S_mark 0 Sl.nil) 0 → (
 F39_5 Q X4 y74 y75 y76 y77 y78 y73 H91)))) ∧
 (decide (y77 ≤ y73) = false → (∃ a94, (y75).b = some a94 ∧ (0 : Int) ≤ y73 ∧ y73 < ((y75).n : Int) ∧ (
 ∃ x99 x100 x101, cells H_4 (Addr.add a94 (y73.toNat * 3)) (tR x99 x100 x101) 0 ∧ (
 F27 y74 x99 x100 x101 H_4 (fun r104 r105 r106 H102 =>
 ∀ H107, H107 = Array.push H102 (.cells (tR bE 0 Sl.nil).toArray 36) → (
 mayw H107 (bk H102) 3 0 ∧ ∀ H109, H109 = sets H107 (bk H102) (tR r104 r105 r106) 0 → (
 ∃ x113 x114 x115, cells H109 (bk H102) (tR x113 x114 x115) 0 ∧ (
 ∃ a116, (y78).b = some a116 ∧ (0 : Int) ≤ y73 ∧ y73 < ((y78).n : Int) ∧ (
 mayw H109 (Addr.add a116 (y73.toNat * 3)) 3 0 ∧ ∀ H120, H120 = sets H109 (Addr.add a116 (y73.toNat * 3)) (tR x113 x114 x115) 0 → (
 F39_5 Q X4 y74 y75 y76 y77 y78 y73 H120)))))))))))) ∧
 ((decide (y73 < ((y78).n : Int))) = false → (F39_3 Q y74 y76 y77 y78 H_4))
def F39_L4 (Q : Sl → Hp → Prop) (y74 : (Option Addr)) (y75 : Sl) (y76 y77 : Int) (y78 : Sl) (y73 : Int) (H_4 : Hp) : Prop :=
 ∀ X4 : ZQI, (∀ (y73 : Int) (H_4 : Hp), F39_L4b Q X4 y74 y75 y76 y77 y78 y73 H_4 → X4 y73 H_4) → X4 y73 H_4
def F39_2 (Q : Sl → Hp → Prop) (y48 : (Option Addr)) (y49 : Sl) (y50 y51 : Int) (y53 : Sl) (H_2 : Hp) : Prop :=
0 ≤ (0 : Int).toNat ∧ (0 : Int).toNat ≤ (y53).c ∧ (y53).c ≤ (y53).c ∧ (
 AppendF H_2 36 3 48 (tR bE 0 Sl.nil).toArray (Sl.cut y53 3 0 ((0 : Int).toNat) ((y53).c)) (y49).b (y49).n (fun r59 H57 =>
 ∀ H60, H60 = Array.push H57 (.cells (tR bE 0 Sl.nil).toArray 36) → (
 AppendF H60 36 3 48 (tR bE 0 Sl.nil).toArray r59 ((Sl.mk (some (bk H57)) 1 1)).b ((Sl.mk (some (bk H57)) 1 1)).n (fun r64 H62 =>
 (0 : Int) ≤ ((r64).c : Int) ∧ 0 ≤ ((r64).c : Int).toNat ∧ ((r64).c : Int).toNat ≤ (r64).c ∧ (r64).c ≤ (r64).c ∧ (
 F39_L4 Q y48 y49 y50 y51 (Sl.cut r64 3 0 (((r64).c : Int).toNat) ((r64).c)) 0 H62)))))
def F39_1 (Q : Sl → Hp → Prop) (y15 : (Option Addr)) (y16 : Sl) (y17 : Int) (H_1 : Hp) : Prop :=
∃ a38, y15 = some a38 ∧ (
 ∃ x41, cell H_1 (Addr.add a38 2) = some (Sl.v x41) ∧ (
 ∃ a42, (x41).b = some a42 ∧ (0 : Int) ≤ y17 ∧ y17 < ((x41).n : Int) ∧ (
 ∃ x47, cell H_1 (Addr.add a42 (y17.toNat * 1)) = some (Sl.v x47) ∧ (
 ((decide ((IntKind.i64.wrap (((y16).n : Int) + 70000)) < ((x47).c : Int))) = true → (F39_2 Q y15 y16 y17 ((y16).n : Int) Sl.nil H_1)) ∧
 ((decide ((IntKind.i64.wrap (((y16).n : Int) + 70000)) < ((x47).c : Int))) = false → (F39_2 Q y15 y16 y17 ((y16).n : Int) x47 H_1))))))
def F39 (p0 : (Option Addr)) (p1 : Sl) (H : Hp) (Q : Sl → Hp → Prop) : Prop :=
∃ a1, p0 = some a1 ∧ (
 ∃ x4, cell H (Addr.add a1 9) = some (iv x4) ∧ (
 ∃ a5, p0 = some a5 ∧ (
 ∃ x8, cell H (Addr.add a5 9) = some (iv x8) ∧ (
 ∃ a9, p0 = some a9 ∧ (
 (cell H (Addr.add a9 9)).isSome = true ∧ frz H (Addr.add a9 9) = false ∧ ∀ H11, H11 = setc H (Addr.add a9 9) (iv (IntKind.i64.wrap (x8 + 1))) → (
 ∃ a18, p0 = some a18 ∧ (
 ∃ x21, cell H11 (Addr.add a18 2) = some (Sl.v x21) ∧ (
 ((decide (x4 = ((x21).n : Int))) = true → (∃ a23, p0 = some a23 ∧ (
 ∃ x26, cell H11 (Addr.add a23 2) = some (Sl.v x26) ∧ (
 ∀ H27, H27 = Array.push H11 (.cells #[sN] 49) → (
 AppendF H27 49 1 24 #[sN] x26 ((Sl.mk (some (bk H11)) 1 1)).b ((Sl.mk (some (bk H11)) 1 1)).n (fun r31 H29 =>
 ∃ a32, p0 = some a32 ∧ (
 (cell H29 (Addr.add a32 2)).isSome = true ∧ frz H29 (Addr.add a32 2) = false ∧ ∀ H34, H34 = setc H29 (Addr.add a32 2) (Sl.v r31) → (
 F39_1 Q p0 p1 x4 H34)))))))) ∧
 ((decide (x4 = ((x21).n : Int))) = false → (F39_1 Q p0 p1 x4 H11))))))))))
theorem walk39 {w0 : World} {p0 : (Option Addr)} {p1 : Sl} {H : Hp} {Q : Sl → Hp → Prop} (h : F39 p0 p1 H Q) :
  Good prog w0 39 #[(.pointer p0), (Sl.v p1)] H (fun v H => ∃ r0, v = (Sl.v r0) ∧ Q r0 H) := by
 unfold F39 at h
 refine Good.enter' (fn := f39) func39 rfl rfl rfl (ws (wr_ (hv (v := sN) rfl (av rfl) (hn (nt (ws (wr_ ?_)))))))
 refine hv (v := .pointer p0) rfl (mv rfl) ?_
 obtain ⟨a1, e2, h⟩ := h
 refine hv (v := pp a1) rfl (HVal.nilCheck (congrArg Value.pointer e2)) (hv (v := pp (Addr.add a1 9)) rfl (fa runUnderlying32 rfl rfl sizeOf3 rfl) ?_)
 obtain ⟨x4, c3, h⟩ := h
 refine hv (v := iv x4) rfl (l1 isAgg3 rfl c3) (hv (v := iv x4) rfl (av rfl) (hn (nt (ws (wr_ ?_)))))
 refine hv (v := .pointer p0) rfl (mv rfl) ?_
 obtain ⟨a5, e6, h⟩ := h
 refine hv (v := pp a5) rfl (HVal.nilCheck (congrArg Value.pointer e6)) (hv (v := pp (Addr.add a5 9)) rfl (fa runUnderlying32 rfl rfl sizeOf3 rfl) ?_)
 obtain ⟨x8, c7, h⟩ := h
 refine hv (v := iv x8) rfl (l1 isAgg3 rfl c7) (hv (v := iv (IntKind.i64.wrap (x8 + 1))) rfl (HVal.add rfl rfl) ?_)
 obtain ⟨a9, e10, h⟩ := h
 refine hv (v := pp a9) rfl (HVal.nilCheck (congrArg Value.pointer e10)) (hv (v := pp (Addr.add a9 9)) rfl (fa runUnderlying32 rfl rfl sizeOf3 rfl) ?_)
 obtain ⟨z13, z14, h⟩ := h
 refine hq (HOp.store1 sizeOf3 rfl rfl rfl z13 z14) ?_
 rintro _ H11 e12
 replace h := h H11 e12
 refine hn (nt (wc (fun ρ H_1 => Env.Is ρ [(0, (.pointer p0)), (1, (Sl.v p1)), (5, (iv x4))] ∧ F39_1 Q p0 p1 x4 H_1) ?_ ?_))
 ·refine ws (wr_ (hv (v := iv x4) rfl (mv rfl) (hv (v := .pointer p0) rfl (mv rfl) ?_)))
  obtain ⟨a18, e19, h⟩ := h
  refine hv (v := pp a18) rfl (HVal.nilCheck (congrArg Value.pointer e19)) (hv (v := pp (Addr.add a18 2)) rfl (fa runUnderlying32 rfl rfl sizeOf27 rfl) ?_)
  obtain ⟨x21, c20, h⟩ := h
  refine hv (v := Sl.v x21) rfl (l1 isAgg27 rfl c20) (hv (v := iv ((x21).n : Int)) rfl (HVal.len runUnderlying27 rfl) (hv (v := bv (decide (x4 = ((x21).n : Int)))) rfl (HVal.eqlI rfl rfl) ?_))
  refine hn (nt ?_)
  obtain ⟨hT, hF⟩ := h
  refine wk (decide (x4 = ((x21).n : Int))) rfl (fun hb22 => ?_) (fun hb22 => ?_)
  ·have h := hT hb22
   refine wr_ (hv (v := .pointer p0) rfl (mv rfl) (hv (v := .pointer p0) rfl (mv rfl) ?_))
   obtain ⟨a23, e24, h⟩ := h
   refine hv (v := pp a23) rfl (HVal.nilCheck (congrArg Value.pointer e24)) (hv (v := pp (Addr.add a23 2)) rfl (fa runUnderlying32 rfl rfl sizeOf27 rfl) ?_)
   obtain ⟨x26, c25, h⟩ := h
   refine hv (v := Sl.v x26) rfl (l1 isAgg27 rfl c25) (ho rfl (HOp.buildSlice' (zs := [sN]) (cs := [sN]) runUnderlying27 sizeOf49 zeroValue49 (by decide) (by kernel_rfl) rfl (by decide)) ?_)
   rintro _ H27 ⟨rfl, e28⟩
   replace h := h H27 e28
   refine ho rfl (HOp.append (k := 1) (b := 24) runUnderlying27 runUnderlying27 typeInfo49 rfl rfl zeroValue49 rfl rfl h) ?_
   rintro _ H29 ⟨r31, rfl, h⟩
   obtain ⟨a32, e33, h⟩ := h
   refine hv (v := pp a32) rfl (HVal.nilCheck (congrArg Value.pointer e33)) (hv (v := pp (Addr.add a32 2)) rfl (fa runUnderlying32 rfl rfl sizeOf27 rfl) ?_)
   obtain ⟨z36, z37, h⟩ := h
   refine hq (HOp.store1 sizeOf27 rfl rfl rfl z36 z37) ?_
   rintro _ H34 e35
   replace h := h H34 e35
   refine hn (nt ?_)
   exact ⟨(isp rfl), h⟩
  have h := hF hb22
  refine wp_ (nt ?_)
  exact ⟨(isp rfl), h⟩
 rintro ρ H_1 ⟨hI, h⟩
 obtain ⟨ρ0, rfl⟩ := hI.ex
 clear hI; unfold F39_1 at h
 refine ws (wr_ (hv (v := Sl.v p1) rfl (mv rfl) (hv (v := iv ((p1).n : Int)) rfl (HVal.len runUnderlying49 rfl) ?_)))
 refine hv (v := iv ((p1).n : Int)) rfl (av rfl) (hn (nt (ws (wr_ (hv (v := .pointer p0) rfl (mv rfl) ?_)))))
 obtain ⟨a38, e39, h⟩ := h
 refine hv (v := pp a38) rfl (HVal.nilCheck (congrArg Value.pointer e39)) (hv (v := pp (Addr.add a38 2)) rfl (fa runUnderlying32 rfl rfl sizeOf27 rfl) ?_)
 obtain ⟨x41, c40, h⟩ := h
 refine hv (v := Sl.v x41) rfl (l1 isAgg27 rfl c40) (hv (v := iv x4) rfl (mv rfl) ?_)
 obtain ⟨a42, e43, b44, b45, h⟩ := h
 refine hv (v := pp (Addr.add a42 (x4.toNat * 1))) rfl (ia runUnderlying27 sizeOf49 (Sl.v_some rfl e43) rfl b44 b45) ?_
 obtain ⟨x47, c46, h⟩ := h
 refine hv (v := Sl.v x47) rfl (l1 isAgg49 rfl c46) (hv (v := Sl.v x47) rfl (av rfl) (hn (nt (wc (fun ρ H_2 => ∃ y53, Env.Is ρ [(0, (.pointer p0)), (1, (Sl.v p1)), (5, (iv x4)), (6, (iv ((p1).n : Int))), (7, (Sl.v y53))] ∧ F39_2 Q p0 p1 x4 ((p1).n : Int) y53 H_2) ?_ ?_))))
 ·refine ws (wr_ (hv (v := Sl.v x47) rfl (mv rfl) (hv (v := iv ((x47).c : Int)) rfl (HVal.cap runUnderlying49 rfl) ?_)))
  refine hv (v := iv ((p1).n : Int)) rfl (mv rfl) (hv (v := iv (IntKind.i64.wrap (((p1).n : Int) + 70000))) rfl (HVal.add rfl rfl) ?_)
  refine hv (v := bv (decide ((IntKind.i64.wrap (((p1).n : Int) + 70000)) < ((x47).c : Int)))) rfl (HVal.gtr rfl rfl) (hn (nt ?_))
  obtain ⟨hT, hF⟩ := h
  refine wk (decide ((IntKind.i64.wrap (((p1).n : Int) + 70000)) < ((x47).c : Int))) rfl (fun hb52 => ?_) (fun hb52 => ?_)
  ·have h := hT hb52
   refine wr_ (hv (v := sN) rfl (av rfl) (hn (nt ?_)))
   exact ⟨Sl.nil, (isp rfl), h⟩
  have h := hF hb52
  refine wp_ (nt ?_)
  exact ⟨x47, (isp rfl), h⟩
 rintro ρ H_2 ⟨y53, hI, h⟩
 obtain ⟨ρ0, rfl⟩ := hI.ex
 clear hI; unfold F39_2 at h
 refine ws (wr_ (hv (v := Sl.v y53) rfl (mv rfl) ?_))
 obtain ⟨z54, z55, z56, h⟩ := h
 refine hv (v := Sl.v (Sl.cut y53 3 0 ((0 : Int).toNat) ((y53).c))) rfl (HVal.slice _ _ _ runUnderlying49 sizeOf36 rfl rfl ⟨_, _, rfl, by decide, rfl⟩ rfl (by decide) z54 z55 z56) ?_
 refine hv (v := Sl.v p1) rfl (mv rfl) (ho rfl (HOp.append (k := 3) (b := 48) runUnderlying49 runUnderlying49 typeInfo36 rfl rfl zeroValue36 rfl rfl h) ?_)
 rintro _ H57 ⟨r59, rfl, h⟩
 refine hv (v := Sl.v r59) rfl (av rfl) (hn (nt (ws (wr_ (hv (v := Sl.v r59) rfl (mv rfl) (hv (v := .agg (tR bE 0 Sl.nil).toArray) rfl (HVal.build' (cs := (tR bE 0 Sl.nil)) runUnderlying36 zeroValue36 places36 rfl) ?_))))))
 refine ho rfl (HOp.buildSlice' (zs := (tR bE 0 Sl.nil)) (cs := (tR bE 0 Sl.nil)) runUnderlying49 sizeOf36 zeroValue36 (by decide) (by kernel_rfl) rfl (by decide)) ?_
 rintro _ H60 ⟨rfl, e61⟩
 replace h := h H60 e61
 refine ho rfl (HOp.append (k := 3) (b := 48) runUnderlying49 runUnderlying49 typeInfo36 rfl rfl zeroValue36 rfl rfl h) ?_
 rintro _ H62 ⟨r64, rfl, h⟩
 refine hv (v := Sl.v r64) rfl (av rfl) (hn (nt (ws (wr_ (hv (v := Sl.v r64) rfl (mv rfl) (hv (v := Sl.v r64) rfl (mv rfl) ?_))))))
 refine hv (v := iv ((r64).c : Int)) rfl (HVal.cap runUnderlying49 rfl) ?_
 obtain ⟨z65, z66, z67, z68, h⟩ := h
 refine hv (v := Sl.v (Sl.cut r64 3 0 (((r64).c : Int).toNat) ((r64).c))) rfl (HVal.slice _ _ _ runUnderlying49 sizeOf36 rfl rfl ⟨_, _, rfl, z65, rfl⟩ rfl (by decide) z66 z67 z68) ?_
 refine hv (v := Sl.v (Sl.cut r64 3 0 (((r64).c : Int).toNat) ((r64).c))) rfl (av rfl) (hn (nt (wc (fun ρ H_3 => Env.Is ρ [(0, (.pointer p0)), (5, (iv x4)), (6, (iv ((p1).n : Int))), (7, (Sl.v (Sl.cut r64 3 0 (((r64).c : Int).toNat) ((r64).c))))] ∧ F39_3 Q p0 x4 ((p1).n : Int) (Sl.cut r64 3 0 (((r64).c : Int).toNat) ((r64).c)) H_3) ?_ ?_)))
 ·refine ws (wr_ (hv (v := iv 0) rfl (av rfl) (hn (nt (wb (HW.loop' (fun L4 hL4 => ?_)))))))
  obtain ⟨X4, hX4⟩ : ∃ X4 : ZQI, ∀ (y73 : Int) (H_4 : Hp), X4 y73 H_4 ↔ ∀ ρ, Env.Is ρ [(0, (.pointer p0)), (1, (Sl.v p1)), (5, (iv x4)), (6, (iv ((p1).n : Int))), (7, (Sl.v (Sl.cut r64 3 0 (((r64).c : Int).toNat) ((r64).c)))), (8, (iv y73))] → L4 ρ H_4 := ⟨_, fun _ _ => Iff.rfl⟩
  refine (hX4 _ _).1 (h X4 ?_) _ ?_
  rotate_left
  ·exact (isp rfl)
  clear h
  intro y73 H_4 h
  refine (hX4 _ _).2 fun ρ hI => ?_
  obtain ⟨ρ0, rfl⟩ := hI.ex
  clear hI; unfold F39_L4b at h; refine hL4 _ _ ?_
  refine ws (ws (wr_ (hv (v := iv y73) rfl (mv rfl) (hv (v := Sl.v (Sl.cut r64 3 0 (((r64).c : Int).toNat) ((r64).c))) rfl (mv rfl) ?_))))
  refine hv (v := iv (((Sl.cut r64 3 0 (((r64).c : Int).toNat) ((r64).c))).n : Int)) rfl (HVal.len runUnderlying49 rfl) (hv (v := bv (decide (y73 < (((Sl.cut r64 3 0 (((r64).c : Int).toNat) ((r64).c))).n : Int)))) rfl (HVal.lss rfl rfl) ?_)
  refine hn (nt ?_)
  obtain ⟨hT, hF⟩ := h
  refine wk (decide (y73 < (((Sl.cut r64 3 0 (((r64).c : Int).toNat) ((r64).c))).n : Int))) rfl (fun hb79 => ?_) (fun hb79 => ?_)
  ·have h := hT hb79
   refine wp_ (nt (wc (fun ρ H_5 => Env.Is ρ [(0, (.pointer p0)), (1, (Sl.v p1)), (5, (iv x4)), (6, (iv ((p1).n : Int))), (7, (Sl.v (Sl.cut r64 3 0 (((r64).c : Int).toNat) ((r64).c)))), (8, (iv y73))] ∧ F39_5 Q X4 p0 p1 x4 ((p1).n : Int) (Sl.cut r64 3 0 (((r64).c : Int).toNat) ((r64).c)) y73 H_5) ?_ ?_))
   ·refine wb (ws (ws (wr_ (hv (v := iv y73) rfl (mv rfl) (hv (v := iv ((p1).n : Int)) rfl (mv rfl) ?_)))))
    refine hv (v := bv (decide (((p1).n : Int) ≤ y73))) rfl (HVal.geq rfl rfl) (hn (nt ?_))
    obtain ⟨hT, hF⟩ := h
    refine wk (decide (((p1).n : Int) ≤ y73)) rfl (fun hb86 => ?_) (fun hb86 => ?_)
    ·have h := hT hb86
     refine ws (wr_ (hv (v := Sl.v (Sl.cut r64 3 0 (((r64).c : Int).toNat) ((r64).c))) rfl (mv rfl) (hv (v := iv y73) rfl (mv rfl) ?_)))
     refine hv (v := .agg (tR S_mark 0 Sl.nil).toArray) rfl (HVal.build' (cs := (tR S_mark 0 Sl.nil)) runUnderlying36 zeroValue36 places36 rfl) ?_
     obtain ⟨a87, e88, b89, b90, h⟩ := h
     refine hv (v := pp (Addr.add a87 (y73.toNat * 3))) rfl (ia runUnderlying49 sizeOf36 (Sl.v_some rfl e88) rfl b89 b90) ?_
     obtain ⟨z93, h⟩ := h
     refine hq (HOp.storeN' (l := (tR S_mark 0 Sl.nil)) sizeOf36 rfl rfl rfl z93) ?_
     rintro _ H91 e92
     replace h := h H91 e92
     refine hn (nt (we (te (be (nt ?_)))))
     exact ⟨(isp rfl), h⟩
    have h := hF hb86
    refine wp_ (nt (ws (wr_ (hv (v := .pointer p0) rfl (mv rfl) (hv (v := Sl.v p1) rfl (mv rfl) (hv (v := iv y73) rfl (mv rfl) ?_))))))
    obtain ⟨a94, e95, b96, b97, h⟩ := h
    refine hv (v := pp (Addr.add a94 (y73.toNat * 3))) rfl (ia runUnderlying49 sizeOf36 (Sl.v_some rfl e95) rfl b96 b97) ?_
    obtain ⟨x99, x100, x101, c98, h⟩ := h
    refine hv (v := .agg (tR x99 x100 x101).toArray) rfl (ln (tR x99 x100 x101) isAgg36 sizeOf36 rfl c98) (ho rfl (HOp.call' 27 [(.pointer p0), (.agg (tR x99 x100 x101).toArray)] (cap := []) rfl rfl call27 (walk27 h)) ?_)
    rintro _ H102 ⟨r104, r105, r106, rfl, h⟩
    refine ho rfl (HOp.alloc zeroValue36) ?_
    rintro _ H107 ⟨rfl, e108⟩
    replace h := h H107 e108
    obtain ⟨z111, h⟩ := h
    refine hq (HOp.storeN' (l := (tR r104 r105 r106)) sizeOf36 rfl rfl rfl z111) ?_
    rintro _ H109 e110
    replace h := h H109 e110
    refine hn (nt (wr_ (hv (v := Sl.v (Sl.cut r64 3 0 (((r64).c : Int).toNat) ((r64).c))) rfl (mv rfl) (hv (v := iv y73) rfl (mv rfl) ?_))))
    obtain ⟨x113, x114, x115, c112, h⟩ := h
    refine hv (v := .agg (tR x113 x114 x115).toArray) rfl (ln (tR x113 x114 x115) isAgg36 sizeOf36 rfl c112) ?_
    obtain ⟨a116, e117, b118, b119, h⟩ := h
    refine hv (v := pp (Addr.add a116 (y73.toNat * 3))) rfl (ia runUnderlying49 sizeOf36 (Sl.v_some rfl e117) rfl b118 b119) ?_
    obtain ⟨z122, h⟩ := h
    refine hq (HOp.storeN' (l := (tR x113 x114 x115)) sizeOf36 rfl rfl rfl z122) ?_
    rintro _ H120 e121
    replace h := h H120 e121
    refine hn (nb (nt ?_))
    exact ⟨(isp rfl), h⟩
   rintro ρ H_5 ⟨hI, h⟩
   obtain ⟨ρ0, rfl⟩ := hI.ex
   clear hI; unfold F39_5 at h
   refine wr_ (hv (v := iv y73) rfl (mv rfl) (hv (v := iv (IntKind.i64.wrap (y73 + 1))) rfl (HVal.add rfl rfl) (hv (v := iv (IntKind.i64.wrap (y73 + 1))) rfl (av rfl) ?_)))
   refine hn (nt ?_)
   exact (hX4 _ _).1 h _ (isp rfl)
  have h := hF hb79
  refine we (te (te (be (nt ?_))))
  exact ⟨(isp rfl), h⟩
 rintro ρ H_3 ⟨hI, h⟩
 obtain ⟨ρ0, rfl⟩ := hI.ex
 clear hI; unfold F39_3 at h
 refine ws (wr_ (hv (v := .pointer p0) rfl (mv rfl) ?_))
 obtain ⟨a123, e124, h⟩ := h
 refine hv (v := pp a123) rfl (HVal.nilCheck (congrArg Value.pointer e124)) (hv (v := pp (Addr.add a123 2)) rfl (fa runUnderlying32 rfl rfl sizeOf27 rfl) ?_)
 obtain ⟨x126, c125, h⟩ := h
 refine hv (v := Sl.v x126) rfl (l1 isAgg27 rfl c125) (hv (v := iv x4) rfl (mv rfl) (hv (v := Sl.v (Sl.cut r64 3 0 (((r64).c : Int).toNat) ((r64).c))) rfl (mv rfl) ?_))
 obtain ⟨a127, e128, b129, b130, h⟩ := h
 refine hv (v := pp (Addr.add a127 (x4.toNat * 1))) rfl (ia runUnderlying27 sizeOf49 (Sl.v_some rfl e128) rfl b129 b130) ?_
 obtain ⟨z133, z134, h⟩ := h
 refine hq (HOp.store1 sizeOf49 rfl rfl rfl z133 z134) ?_
 rintro _ H131 e132
 replace h := h H131 e132
 refine hn (nt (ws (wr_ (hv (v := Sl.v (Sl.cut r64 3 0 (((r64).c : Int).toNat) ((r64).c))) rfl (mv rfl) (hv (v := iv ((p1).n : Int)) rfl (mv rfl) ?_)))))
 obtain ⟨z135, z136, z137, z138, h⟩ := h
 refine hv (v := Sl.v (Sl.cut (Sl.cut r64 3 0 (((r64).c : Int).toNat) ((r64).c)) 3 0 ((p1).n : Int).toNat (((Sl.cut r64 3 0 (((r64).c : Int).toNat) ((r64).c))).c))) rfl (HVal.slice _ _ _ runUnderlying49 sizeOf36 rfl rfl ⟨_, _, rfl, z135, rfl⟩ rfl (by decide) z136 z137 z138) ?_
 refine hv (v := Sl.v (Sl.cut (Sl.cut r64 3 0 (((r64).c : Int).toNat) ((r64).c)) 3 0 ((p1).n : Int).toNat (((Sl.cut r64 3 0 (((r64).c : Int).toNat) ((r64).c))).c))) rfl (av rfl) ?_
 refine hn (nt (HW.ret ?_))
 exact ⟨_, resOf1 rfl Res1.t, ⟨(Sl.cut (Sl.cut r64 3 0 (((r64).c : Int).toNat) ((r64).c)) 3 0 ((p1).n : Int).toNat (((Sl.cut r64 3 0 (((r64).c : Int).toNat) ((r64).c))).c)), rfl, h⟩⟩

def F40_3 (Q : Sl → Hp → Prop) (y37 : (Option Addr)) (y38 : Int) (y39 : Sl) (H_3 : Hp) : Prop :=
∃ a178, y37 = some a178 ∧ (
 (cell H_3 (Addr.add a178 6)).isSome = true ∧ frz H_3 (Addr.add a178 6) = false ∧ ∀ H180, H180 = setc H_3 (Addr.add a178 6) (Sl.v y39) → (
 (0 : Int) ≤ y38 ∧ 0 ≤ y38.toNat ∧ y38.toNat ≤ (y39).c ∧ (y39).c ≤ (y39).c ∧ (
 Q (Sl.cut y39 2 0 y38.toNat ((y39).c)) H180)))
def F40_6 (Q : Sl → Hp → Prop) (X4 : ZQI) (y119 : (Option Addr)) (y120 : Sl) (y121 : Int) (y122 : Sl) (y123 y124 : Int) (y125 : Sl) (H_6 : Hp) : Prop :=
∃ a148, y119 = some a148 ∧ (
 ∃ x151, cell H_6 (Addr.add a148 3) = some (Sl.v x151) ∧ (
 ∃ a152, (x151).b = some a152 ∧ (0 : Int) ≤ y124 ∧ y124 < ((x151).n : Int) ∧ (
 (cell H_6 (Addr.add a152 (y124.toNat * 1))).isSome = true ∧ frz H_6 (Addr.add a152 (y124.toNat * 1)) = false ∧ ∀ H156, H156 = setc H_6 (Addr.add a152 (y124.toNat * 1)) (Sl.v y125) → (
 ∃ a160, (y120).b = some a160 ∧ (0 : Int) ≤ y123 ∧ y123 < ((y120).n : Int) ∧ (
 ∃ x165, cell H156 (Addr.add (Addr.add a160 (y123.toNat * 2)) 1) = some (Sl.v x165) ∧ (
 (0 : Int) ≤ ((x165).n : Int) ∧ 0 ≤ ((x165).n : Int).toNat ∧ ((x165).n : Int).toNat ≤ (y125).c ∧ (y125).c ≤ (y125).c ∧ (
 ∃ a170, (y122).b = some a170 ∧ (0 : Int) ≤ y123 ∧ y123 < ((y122).n : Int) ∧ (
 (cell H156 (Addr.add (Addr.add a170 (y123.toNat * 2)) 1)).isSome = true ∧ frz H156 (Addr.add (Addr.add a170 (y123.toNat * 2)) 1) = false ∧ ∀ H174, H174 = setc H156 (Addr.add (Addr.add a170 (y123.toNat * 2)) 1) (Sl.v (Sl.cut y125 2 0 (((x165).n : Int).toNat) ((y125).c))) → (
 X4 (IntKind.i64.wrap (y123 + 1)) H174)))))))))
def F40_L7b (Q : Sl → Hp → Prop) (X4 X7 : ZQI) (y133 : (Option Addr)) (y134 : Sl) (y135 : Int) (y136 : Sl) (y137 y138 : Int) (y139 : Sl) (y132 : Int) (H_7 : Hp) : Prop :=
((decide (y132 < ((y139).n : Int))) = true → (∃ a141, (y139).b = some a141 ∧ (0 : Int) ≤ y132 ∧ y132 < ((y139).n : Int) ∧ (
 mayw H_7 (Addr.add a141 (y132.toNat * 2)) 2 0 ∧ ∀ H145, H145 = sets H_7 (Addr.add a141 (y132.toNat * 2)) [(sv bE), (iv (IntKind.i64.wrap (77 + y132)))] 0 → (
 X7 (IntKind.i64.wrap (y132 + 1)) H145)))) ∧
 ((decide (y132 < ((y139).n : Int))) = false → (F40_6 Q X4 y133 y134 y135 y136 y137 y138 y139 H_7))
def F40_L7 (Q : Sl → Hp → Prop) (X4 : ZQI) (y133 : (Option Addr)) (y134 : Sl) (y135 : Int) (y136 : Sl) (y137 y138 : Int) (y139 : Sl) (y132 : Int) (H_7 : Hp) : Prop :=
 ∀ X7 : ZQI, (∀ (y132 : Int) (H_7 : Hp), F40_L7b Q X4 X7 y133 y134 y135 y136 y137 y138 y139 y132 H_7 → X7 y132 H_7) → X7 y132 H_7
def F40_5 (Q : Sl → Hp → Prop) (X4 : ZQI) (y60 : (Option Addr)) (y61 : Sl) (y62 : Int) (y63 : Sl) (y64 y65 : Int) (H_5 : Hp) : Prop :=
∃ a86, y60 = some a86 ∧ (
 ∃ x89, cell H_5 (Addr.add a86 3) = some (Sl.v x89) ∧ (
 ∃ a90, (x89).b = some a90 ∧ (0 : Int) ≤ y65 ∧ y65 < ((x89).n : Int) ∧ (
 ∃ x95, cell H_5 (Addr.add a90 (y65.toNat * 1)) = some (Sl.v x95) ∧ (
 0 ≤ (0 : Int).toNat ∧ (0 : Int).toNat ≤ (x95).c ∧ (x95).c ≤ (x95).c ∧ (
 ∃ a99, (y61).b = some a99 ∧ (0 : Int) ≤ y64 ∧ y64 < ((y61).n : Int) ∧ (
 ∃ x104, cell H_5 (Addr.add (Addr.add a99 (y64.toNat * 2)) 1) = some (Sl.v x104) ∧ (
 AppendF H_5 83 2 24 #[(sv bE), (iv 0)] (Sl.cut x95 2 0 ((0 : Int).toNat) ((x95).c)) (x104).b (x104).n (fun r107 H105 =>
 cell H105 (Addr.add a90 (y65.toNat * 1)) = some (Sl.v x95) ∧ cell H105 (Addr.add a86 3) = some (Sl.v x89) ∧ (
 ∀ H110, H110 = Array.push H105 (.cells #[(sv bE), (iv 0)] 83) → (
 AppendF H110 83 2 24 #[(sv bE), (iv 0)] r107 ((Sl.mk (some (bk H105)) 1 1)).b ((Sl.mk (some (bk H105)) 1 1)).n (fun r114 H112 =>
 (0 : Int) ≤ ((r114).c : Int) ∧ 0 ≤ ((r114).c : Int).toNat ∧ ((r114).c : Int).toNat ≤ (r114).c ∧ (r114).c ≤ (r114).c ∧ (
 ∃ a126, (y61).b = some a126 ∧ (0 : Int) ≤ y64 ∧ y64 < ((y61).n : Int) ∧ (
 ∃ x131, cell H112 (Addr.add (Addr.add a126 (y64.toNat * 2)) 1) = some (Sl.v x131) ∧ (
 F40_L7 Q X4 y60 y61 y62 y63 y64 y65 (Sl.cut r114 2 0 (((r114).c : Int).toNat) ((r114).c)) ((x131).n : Int) H112))))))))))))))
def F40_L4b (Q : Sl → Hp → Prop) (X4 : ZQI) (y41 : (Option Addr)) (y42 : Sl) (y43 : Int) (y44 : Sl) (y40 : Int) (H_4 : Hp) : Prop :=
(decide (y40 < y43) = true → (∃ a46, y41 = some a46 ∧ (
 ∃ x49, cell H_4 (Addr.add a46 10) = some (iv x49) ∧ (
 ∃ a50, y41 = some a50 ∧ (
 ∃ x53, cell H_4 (Addr.add a50 10) = some (iv x53) ∧ (
 ∃ a54, y41 = some a54 ∧ (
 (cell H_4 (Addr.add a54 10)).isSome = true ∧ frz H_4 (Addr.add a54 10) = false ∧ ∀ H56, H56 = setc H_4 (Addr.add a54 10) (iv (IntKind.i64.wrap (x53 + 1))) → (
 ∃ a66, y41 = some a66 ∧ (
 ∃ x69, cell H56 (Addr.add a66 3) = some (Sl.v x69) ∧ (
 ((decide (x49 = ((x69).n : Int))) = true → (∃ a71, y41 = some a71 ∧ (
 ∃ x74, cell H56 (Addr.add a71 3) = some (Sl.v x74) ∧ (
 ∀ H75, H75 = Array.push H56 (.cells #[sN] 84) → (
 AppendF H75 84 1 24 #[sN] x74 ((Sl.mk (some (bk H56)) 1 1)).b ((Sl.mk (some (bk H56)) 1 1)).n (fun r79 H77 =>
 ∃ a80, y41 = some a80 ∧ (
 (cell H77 (Addr.add a80 3)).isSome = true ∧ frz H77 (Addr.add a80 3) = false ∧ ∀ H82, H82 = setc H77 (Addr.add a80 3) (Sl.v r79) → (
 F40_5 Q X4 y41 y42 y43 y44 y40 x49 H82)))))))) ∧
 ((decide (x49 = ((x69).n : Int))) = false → (F40_5 Q X4 y41 y42 y43 y44 y40 x49 H56)))))))))))) ∧
 (decide (y40 < y43) = false → (F40_3 Q y41 y43 y44 H_4))
def F40_L4 (Q : Sl → Hp → Prop) (y41 : (Option Addr)) (y42 : Sl) (y43 : Int) (y44 : Sl) (y40 : Int) (H_4 : Hp) : Prop :=
 ∀ X4 : ZQI, (∀ (y40 : Int) (H_4 : Hp), F40_L4b Q X4 y41 y42 y43 y44 y40 H_4 → X4 y40 H_4) → X4 y40 H_4
def F40_1 (Q : Sl → Hp → Prop) (y20 : (Option Addr)) (y21 : Sl) (y22 : Int) (y23 : Sl) (H_1 : Hp) : Prop :=
F40_L4 Q y20 y21 y22 y23 0 H_1
def F40_L2b (Q : Sl → Hp → Prop) (X2 : ZQI) (y25 : (Option Addr)) (y26 : Sl) (y27 : Int) (y28 : Sl) (y24 : Int) (H_2 : Hp) : Prop :=
((decide (y24 < ((y28).n : Int))) = true → (∃ a30, (y28).b = some a30 ∧ (0 : Int) ≤ y24 ∧ y24 < ((y28).n : Int) ∧ (
 mayw H_2 (Addr.add a30 (y24.toNat * 2)) 2 0 ∧ ∀ H34, H34 = sets H_2 (Addr.add a30 (y24.toNat * 2)) [(sv S_mark), sN] 0 → (
 X2 (IntKind.i64.wrap (y24 + 1)) H34)))) ∧
 ((decide (y24 < ((y28).n : Int))) = false → (F40_1 Q y25 y26 y27 y28 H_2))
def F40_L2 (Q : Sl → Hp → Prop) (y25 : (Option Addr)) (y26 : Sl) (y27 : Int) (y28 : Sl) (y24 : Int) (H_2 : Hp) : Prop :=
 ∀ X2 : ZQI, (∀ (y24 : Int) (H_2 : Hp), F40_L2b Q X2 y25 y26 y27 y28 y24 H_2 → X2 y24 H_2) → X2 y24 H_2
def F40 (p0 : (Option Addr)) (p1 : Sl) (H : Hp) (Q : Sl → Hp → Prop) : Prop :=
∃ a1, p0 = some a1 ∧ (
 ∃ x4, cell H (Addr.add a1 6) = some (Sl.v x4) ∧ (
 0 ≤ (0 : Int).toNat ∧ (0 : Int).toNat ≤ (x4).c ∧ (x4).c ≤ (x4).c ∧ (
 AppendF H 86 2 40 #[(sv bE), sN] (Sl.cut x4 2 0 ((0 : Int).toNat) ((x4).c)) (p1).b (p1).n (fun r10 H8 =>
 ∀ H11, H11 = Array.push H8 (.cells #[(sv bE), sN] 86) → (
 AppendF H11 86 2 40 #[(sv bE), sN] r10 ((Sl.mk (some (bk H8)) 1 1)).b ((Sl.mk (some (bk H8)) 1 1)).n (fun r15 H13 =>
 (0 : Int) ≤ ((r15).c : Int) ∧ 0 ≤ ((r15).c : Int).toNat ∧ ((r15).c : Int).toNat ≤ (r15).c ∧ (r15).c ≤ (r15).c ∧ (
 F40_L2 Q p0 p1 ((p1).n : Int) (Sl.cut r15 2 0 (((r15).c : Int).toNat) ((r15).c)) ((p1).n : Int) H13)))))))
theorem walk40 {w0 : World} {p0 : (Option Addr)} {p1 : Sl} {H : Hp} {Q : Sl → Hp → Prop} (h : F40 p0 p1 H Q) :
  Good prog w0 40 #[(.pointer p0), (Sl.v p1)] H (fun v H => ∃ r0, v = (Sl.v r0) ∧ Q r0 H) := by
 unfold F40 at h
 refine Good.enter' (fn := f40) func40 rfl rfl rfl (ws (wr_ (hv (v := sN) rfl (av rfl) (hn (nt (ws (wr_ ?_)))))))
 refine hv (v := Sl.v p1) rfl (mv rfl) (hv (v := iv ((p1).n : Int)) rfl (HVal.len runUnderlying30 rfl) (hv (v := iv ((p1).n : Int)) rfl (av rfl) ?_))
 refine hn (nt (ws (wr_ (hv (v := .pointer p0) rfl (mv rfl) ?_))))
 obtain ⟨a1, e2, h⟩ := h
 refine hv (v := pp a1) rfl (HVal.nilCheck (congrArg Value.pointer e2)) (hv (v := pp (Addr.add a1 6)) rfl (fa runUnderlying32 rfl rfl sizeOf30 rfl) ?_)
 obtain ⟨x4, c3, h⟩ := h
 refine hv (v := Sl.v x4) rfl (l1 isAgg30 rfl c3) ?_
 obtain ⟨z5, z6, z7, h⟩ := h
 refine hv (v := Sl.v (Sl.cut x4 2 0 ((0 : Int).toNat) ((x4).c))) rfl (HVal.slice _ _ _ runUnderlying30 sizeOf86 rfl rfl ⟨_, _, rfl, by decide, rfl⟩ rfl (by decide) z5 z6 z7) ?_
 refine hv (v := Sl.v p1) rfl (mv rfl) (ho rfl (HOp.append (k := 2) (b := 40) runUnderlying30 runUnderlying30 typeInfo86 rfl rfl zeroValue86 rfl rfl h) ?_)
 rintro _ H8 ⟨r10, rfl, h⟩
 refine hv (v := Sl.v r10) rfl (av rfl) (hn (nt (ws (wr_ (hv (v := Sl.v r10) rfl (mv rfl) (hv (v := .agg #[(sv bE), sN]) rfl (HVal.build' (cs := [(sv bE), sN]) runUnderlying86 zeroValue86 places86 rfl) ?_))))))
 refine ho rfl (HOp.buildSlice' (zs := [(sv bE), sN]) (cs := [(sv bE), sN]) runUnderlying30 sizeOf86 zeroValue86 (by decide) (by kernel_rfl) rfl (by decide)) ?_
 rintro _ H11 ⟨rfl, e12⟩
 replace h := h H11 e12
 refine ho rfl (HOp.append (k := 2) (b := 40) runUnderlying30 runUnderlying30 typeInfo86 rfl rfl zeroValue86 rfl rfl h) ?_
 rintro _ H13 ⟨r15, rfl, h⟩
 refine hv (v := Sl.v r15) rfl (av rfl) (hn (nt (ws (wr_ (hv (v := Sl.v r15) rfl (mv rfl) (hv (v := Sl.v r15) rfl (mv rfl) ?_))))))
 refine hv (v := iv ((r15).c : Int)) rfl (HVal.cap runUnderlying30 rfl) ?_
 obtain ⟨z16, z17, z18, z19, h⟩ := h
 refine hv (v := Sl.v (Sl.cut r15 2 0 (((r15).c : Int).toNat) ((r15).c))) rfl (HVal.slice _ _ _ runUnderlying30 sizeOf86 rfl rfl ⟨_, _, rfl, z16, rfl⟩ rfl (by decide) z17 z18 z19) ?_
 refine hv (v := Sl.v (Sl.cut r15 2 0 (((r15).c : Int).toNat) ((r15).c))) rfl (av rfl) (hn (nt (wc (fun ρ H_1 => Env.Is ρ [(0, (.pointer p0)), (1, (Sl.v p1)), (5, (iv ((p1).n : Int))), (6, (Sl.v (Sl.cut r15 2 0 (((r15).c : Int).toNat) ((r15).c))))] ∧ F40_1 Q p0 p1 ((p1).n : Int) (Sl.cut r15 2 0 (((r15).c : Int).toNat) ((r15).c)) H_1) ?_ ?_)))
 ·refine ws (wr_ (hv (v := iv ((p1).n : Int)) rfl (mv rfl) (hv (v := iv ((p1).n : Int)) rfl (av rfl) (hn (nt ?_)))))
  refine wb (HW.loop' (fun L2 hL2 => ?_))
  obtain ⟨X2, hX2⟩ : ∃ X2 : ZQI, ∀ (y24 : Int) (H_2 : Hp), X2 y24 H_2 ↔ ∀ ρ, Env.Is ρ [(0, (.pointer p0)), (1, (Sl.v p1)), (5, (iv ((p1).n : Int))), (6, (Sl.v (Sl.cut r15 2 0 (((r15).c : Int).toNat) ((r15).c)))), (7, (iv y24))] → L2 ρ H_2 := ⟨_, fun _ _ => Iff.rfl⟩
  refine (hX2 _ _).1 (h X2 ?_) _ ?_
  rotate_left
  ·exact (isp rfl)
  clear h
  intro y24 H_2 h
  refine (hX2 _ _).2 fun ρ hI => ?_
  obtain ⟨ρ0, rfl⟩ := hI.ex
  clear hI; unfold F40_L2b at h; refine hL2 _ _ ?_
  refine ws (ws (wr_ (hv (v := iv y24) rfl (mv rfl) (hv (v := Sl.v (Sl.cut r15 2 0 (((r15).c : Int).toNat) ((r15).c))) rfl (mv rfl) ?_))))
  refine hv (v := iv (((Sl.cut r15 2 0 (((r15).c : Int).toNat) ((r15).c))).n : Int)) rfl (HVal.len runUnderlying30 rfl) (hv (v := bv (decide (y24 < (((Sl.cut r15 2 0 (((r15).c : Int).toNat) ((r15).c))).n : Int)))) rfl (HVal.lss rfl rfl) ?_)
  refine hn (nt ?_)
  obtain ⟨hT, hF⟩ := h
  refine wk (decide (y24 < (((Sl.cut r15 2 0 (((r15).c : Int).toNat) ((r15).c))).n : Int))) rfl (fun hb29 => ?_) (fun hb29 => ?_)
  ·have h := hT hb29
   refine wp_ (nt (ws (wb (wr_ (hv (v := Sl.v (Sl.cut r15 2 0 (((r15).c : Int).toNat) ((r15).c))) rfl (mv rfl) (hv (v := iv y24) rfl (mv rfl) ?_))))))
   refine hv (v := .agg #[(sv S_mark), sN]) rfl (HVal.build' (cs := [(sv S_mark), sN]) runUnderlying86 zeroValue86 places86 rfl) ?_
   obtain ⟨a30, e31, b32, b33, h⟩ := h
   refine hv (v := pp (Addr.add a30 (y24.toNat * 2))) rfl (ia runUnderlying30 sizeOf86 (Sl.v_some rfl e31) rfl b32 b33) ?_
   obtain ⟨z36, h⟩ := h
   refine hq (HOp.storeN' (l := [(sv S_mark), sN]) sizeOf86 rfl rfl rfl z36) ?_
   rintro _ H34 e35
   replace h := h H34 e35
   refine hn (nb (nt (wr_ (hv (v := iv y24) rfl (mv rfl) (hv (v := iv (IntKind.i64.wrap (y24 + 1))) rfl (HVal.add rfl rfl) ?_)))))
   refine hv (v := iv (IntKind.i64.wrap (y24 + 1))) rfl (av rfl) (hn (nt ?_))
   exact (hX2 _ _).1 h _ (isp rfl)
  have h := hF hb29
  refine we (te (te (be (nt ?_))))
  exact ⟨(isp rfl), h⟩
 rintro ρ H_1 ⟨hI, h⟩
 obtain ⟨ρ0, rfl⟩ := hI.ex
 clear hI; unfold F40_1 at h
 refine wc (fun ρ H_3 => Env.Is ρ [(0, (.pointer p0)), (5, (iv ((p1).n : Int))), (6, (Sl.v (Sl.cut r15 2 0 (((r15).c : Int).toNat) ((r15).c))))] ∧ F40_3 Q p0 ((p1).n : Int) (Sl.cut r15 2 0 (((r15).c : Int).toNat) ((r15).c)) H_3) ?_ ?_
 ·refine ws (wr_ (hv (v := iv 0) rfl (av rfl) (hn (nt (wb (HW.loop' (fun L4 hL4 => ?_)))))))
  obtain ⟨X4, hX4⟩ : ∃ X4 : ZQI, ∀ (y40 : Int) (H_4 : Hp), X4 y40 H_4 ↔ ∀ ρ, Env.Is ρ [(0, (.pointer p0)), (1, (Sl.v p1)), (5, (iv ((p1).n : Int))), (6, (Sl.v (Sl.cut r15 2 0 (((r15).c : Int).toNat) ((r15).c)))), (8, (iv y40))] → L4 ρ H_4 := ⟨_, fun _ _ => Iff.rfl⟩
  refine (hX4 _ _).1 (h X4 ?_) _ ?_
  rotate_left
  ·exact (isp rfl)
  clear h
  intro y40 H_4 h
  refine (hX4 _ _).2 fun ρ hI => ?_
  obtain ⟨ρ0, rfl⟩ := hI.ex
  clear hI; unfold F40_L4b at h; refine hL4 _ _ ?_
  refine ws (ws (wr_ (hv (v := iv y40) rfl (mv rfl) (hv (v := iv ((p1).n : Int)) rfl (mv rfl) (hv (v := bv (decide (y40 < ((p1).n : Int)))) rfl (HVal.lss rfl rfl) ?_)))))
  refine hn (nt ?_)
  obtain ⟨hT, hF⟩ := h
  refine wk (decide (y40 < ((p1).n : Int))) rfl (fun hb45 => ?_) (fun hb45 => ?_)
  ·have h := hT hb45
   refine wp_ (nt (ws (wb (ws (wr_ (hv (v := .pointer p0) rfl (mv rfl) ?_))))))
   obtain ⟨a46, e47, h⟩ := h
   refine hv (v := pp a46) rfl (HVal.nilCheck (congrArg Value.pointer e47)) (hv (v := pp (Addr.add a46 10)) rfl (fa runUnderlying32 rfl rfl sizeOf3 rfl) ?_)
   obtain ⟨x49, c48, h⟩ := h
   refine hv (v := iv x49) rfl (l1 isAgg3 rfl c48) (hv (v := iv x49) rfl (av rfl) (hn (nt (ws (wr_ ?_)))))
   refine hv (v := .pointer p0) rfl (mv rfl) ?_
   obtain ⟨a50, e51, h⟩ := h
   refine hv (v := pp a50) rfl (HVal.nilCheck (congrArg Value.pointer e51)) (hv (v := pp (Addr.add a50 10)) rfl (fa runUnderlying32 rfl rfl sizeOf3 rfl) ?_)
   obtain ⟨x53, c52, h⟩ := h
   refine hv (v := iv x53) rfl (l1 isAgg3 rfl c52) (hv (v := iv (IntKind.i64.wrap (x53 + 1))) rfl (HVal.add rfl rfl) ?_)
   obtain ⟨a54, e55, h⟩ := h
   refine hv (v := pp a54) rfl (HVal.nilCheck (congrArg Value.pointer e55)) (hv (v := pp (Addr.add a54 10)) rfl (fa runUnderlying32 rfl rfl sizeOf3 rfl) ?_)
   obtain ⟨z58, z59, h⟩ := h
   refine hq (HOp.store1 sizeOf3 rfl rfl rfl z58 z59) ?_
   rintro _ H56 e57
   replace h := h H56 e57
   refine hn (nt (wc (fun ρ H_5 => Env.Is ρ [(0, (.pointer p0)), (1, (Sl.v p1)), (5, (iv ((p1).n : Int))), (6, (Sl.v (Sl.cut r15 2 0 (((r15).c : Int).toNat) ((r15).c)))), (8, (iv y40)), (9, (iv x49))] ∧ F40_5 Q X4 p0 p1 ((p1).n : Int) (Sl.cut r15 2 0 (((r15).c : Int).toNat) ((r15).c)) y40 x49 H_5) ?_ ?_))
   ·refine ws (wr_ (hv (v := iv x49) rfl (mv rfl) (hv (v := .pointer p0) rfl (mv rfl) ?_)))
    obtain ⟨a66, e67, h⟩ := h
    refine hv (v := pp a66) rfl (HVal.nilCheck (congrArg Value.pointer e67)) (hv (v := pp (Addr.add a66 3)) rfl (fa runUnderlying32 rfl rfl sizeOf28 rfl) ?_)
    obtain ⟨x69, c68, h⟩ := h
    refine hv (v := Sl.v x69) rfl (l1 isAgg28 rfl c68) (hv (v := iv ((x69).n : Int)) rfl (HVal.len runUnderlying28 rfl) ?_)
    refine hv (v := bv (decide (x49 = ((x69).n : Int)))) rfl (HVal.eqlI rfl rfl) (hn (nt ?_))
    obtain ⟨hT, hF⟩ := h
    refine wk (decide (x49 = ((x69).n : Int))) rfl (fun hb70 => ?_) (fun hb70 => ?_)
    ·have h := hT hb70
     refine wr_ (hv (v := .pointer p0) rfl (mv rfl) (hv (v := .pointer p0) rfl (mv rfl) ?_))
     obtain ⟨a71, e72, h⟩ := h
     refine hv (v := pp a71) rfl (HVal.nilCheck (congrArg Value.pointer e72)) (hv (v := pp (Addr.add a71 3)) rfl (fa runUnderlying32 rfl rfl sizeOf28 rfl) ?_)
     obtain ⟨x74, c73, h⟩ := h
     refine hv (v := Sl.v x74) rfl (l1 isAgg28 rfl c73) (ho rfl (HOp.buildSlice' (zs := [sN]) (cs := [sN]) runUnderlying28 sizeOf84 zeroValue84 (by decide) (by kernel_rfl) rfl (by decide)) ?_)
     rintro _ H75 ⟨rfl, e76⟩
     replace h := h H75 e76
     refine ho rfl (HOp.append (k := 1) (b := 24) runUnderlying28 runUnderlying28 typeInfo84 rfl rfl zeroValue84 rfl rfl h) ?_
     rintro _ H77 ⟨r79, rfl, h⟩
     obtain ⟨a80, e81, h⟩ := h
     refine hv (v := pp a80) rfl (HVal.nilCheck (congrArg Value.pointer e81)) (hv (v := pp (Addr.add a80 3)) rfl (fa runUnderlying32 rfl rfl sizeOf28 rfl) ?_)
     obtain ⟨z84, z85, h⟩ := h
     refine hq (HOp.store1 sizeOf28 rfl rfl rfl z84 z85) ?_
     rintro _ H82 e83
     replace h := h H82 e83
     refine hn (nt ?_)
     exact ⟨(isp rfl), h⟩
    have h := hF hb70
    refine wp_ (nt ?_)
    exact ⟨(isp rfl), h⟩
   rintro ρ H_5 ⟨hI, h⟩
   obtain ⟨ρ0, rfl⟩ := hI.ex
   clear hI; unfold F40_5 at h
   refine ws (HW.draw mixed [(0, some []), (1, some []), (2, some []), (3, some []), (4, some []), (5, some []), (6, some []), (7, some []), (8, some []), (9, some []), (10, some []), (11, some []), (12, some [13]), (13, none), (14, some [])] rfl (by kernel_rfl) (by kernel_rfl) ?_)
   refine pv (v := .pointer p0) rfl rfl (fun _ => mv rfl) ?_
   obtain ⟨a86, e87, h⟩ := h
   refine pv (v := pp a86) rfl rfl (fun _ => HVal.nilCheck (congrArg Value.pointer e87)) (pv (v := pp (Addr.add a86 3)) rfl rfl (fun _ => fa runUnderlying32 rfl rfl sizeOf28 rfl) ?_)
   obtain ⟨x89, c88, h⟩ := h
   refine pl (v := Sl.v x89) (fun X => cell X (Addr.add a86 3) = some (Sl.v x89)) rfl rfl (fun _ hX => l1 isAgg28 rfl hX) c88 (pv (v := iv x49) rfl rfl (fun _ => mv rfl) ?_)
   obtain ⟨a90, e91, b92, b93, h⟩ := h
   refine pv (v := pp (Addr.add a90 (x49.toNat * 1))) rfl rfl (fun _ => ia runUnderlying28 sizeOf84 (Sl.v_some rfl e91) rfl b92 b93) ?_
   obtain ⟨x95, c94, h⟩ := h
   refine pl (v := Sl.v x95) (fun X => cell X (Addr.add a90 (x49.toNat * 1)) = some (Sl.v x95)) rfl rfl (fun _ hX => l1 isAgg84 rfl hX) c94 ?_
   obtain ⟨z96, z97, z98, h⟩ := h
   refine pv (v := Sl.v (Sl.cut x95 2 0 ((0 : Int).toNat) ((x95).c))) rfl rfl (fun _ => HVal.slice _ _ _ runUnderlying84 sizeOf83 rfl rfl ⟨_, _, rfl, by decide, rfl⟩ rfl (by decide) z96 z97 z98) ?_
   refine pv (v := Sl.v p1) rfl rfl (fun _ => mv rfl) (pv (v := iv y40) rfl rfl (fun _ => mv rfl) ?_)
   obtain ⟨a99, e100, b101, b102, h⟩ := h
   refine pv (v := pp (Addr.add a99 (y40.toNat * 2))) rfl rfl (fun _ => ia runUnderlying30 sizeOf86 (Sl.v_some rfl e100) rfl b101 b102) ?_
   refine pv (v := pp (Addr.add (Addr.add a99 (y40.toNat * 2)) 1)) rfl rfl (fun _ => fa runUnderlying86 rfl rfl sizeOf84 rfl) ?_
   obtain ⟨x104, c103, h⟩ := h
   refine pl (v := Sl.v x104) (fun X => cell X (Addr.add (Addr.add a99 (y40.toNat * 2)) 1) = some (Sl.v x104)) rfl rfl (fun _ hX => l1 isAgg84 rfl hX) c103 ?_
   refine po rfl rfl (HOp.append (k := 2) (b := 24) runUnderlying84 runUnderlying84 typeInfo83 rfl rfl zeroValue83 rfl rfl h) ?_
   rintro _ H105 ⟨r107, rfl, h⟩
   obtain ⟨s108, s109, h⟩ := h
   refine ⟨SC_of ⟨nofun, fun _ => s108, fun _ => s109, trivial⟩, ?_⟩
   refine pv (v := Sl.v r107) rfl rfl (fun _ => av rfl) (HPlan.done (nt (ws (wr_ (hv (v := Sl.v r107) rfl (mv rfl) ?_)))))
   refine hv (v := .agg #[(sv bE), (iv 0)]) rfl (HVal.build' (cs := [(sv bE), (iv 0)]) runUnderlying83 zeroValue83 places83 rfl) (ho rfl (HOp.buildSlice' (zs := [(sv bE), (iv 0)]) (cs := [(sv bE), (iv 0)]) runUnderlying84 sizeOf83 zeroValue83 (by decide) (by kernel_rfl) rfl (by decide)) ?_)
   rintro _ H110 ⟨rfl, e111⟩
   replace h := h H110 e111
   refine ho rfl (HOp.append (k := 2) (b := 24) runUnderlying84 runUnderlying84 typeInfo83 rfl rfl zeroValue83 rfl rfl h) ?_
   rintro _ H112 ⟨r114, rfl, h⟩
   refine hv (v := Sl.v r114) rfl (av rfl) (hn (nt (ws (wr_ (hv (v := Sl.v r114) rfl (mv rfl) (hv (v := Sl.v r114) rfl (mv rfl) ?_))))))
   refine hv (v := iv ((r114).c : Int)) rfl (HVal.cap runUnderlying84 rfl) ?_
   obtain ⟨z115, z116, z117, z118, h⟩ := h
   refine hv (v := Sl.v (Sl.cut r114 2 0 (((r114).c : Int).toNat) ((r114).c))) rfl (HVal.slice _ _ _ runUnderlying84 sizeOf83 rfl rfl ⟨_, _, rfl, z115, rfl⟩ rfl (by decide) z116 z117 z118) ?_
   refine hv (v := Sl.v (Sl.cut r114 2 0 (((r114).c : Int).toNat) ((r114).c))) rfl (av rfl) (hn (nt (wc (fun ρ H_6 => Env.Is ρ [(0, (.pointer p0)), (1, (Sl.v p1)), (5, (iv ((p1).n : Int))), (6, (Sl.v (Sl.cut r15 2 0 (((r15).c : Int).toNat) ((r15).c)))), (8, (iv y40)), (9, (iv x49)), (10, (Sl.v (Sl.cut r114 2 0 (((r114).c : Int).toNat) ((r114).c))))] ∧ F40_6 Q X4 p0 p1 ((p1).n : Int) (Sl.cut r15 2 0 (((r15).c : Int).toNat) ((r15).c)) y40 x49 (Sl.cut r114 2 0 (((r114).c : Int).toNat) ((r114).c)) H_6) ?_ ?_)))
   ·refine ws (wr_ (hv (v := Sl.v p1) rfl (mv rfl) (hv (v := iv y40) rfl (mv rfl) ?_)))
    obtain ⟨a126, e127, b128, b129, h⟩ := h
    refine hv (v := pp (Addr.add a126 (y40.toNat * 2))) rfl (ia runUnderlying30 sizeOf86 (Sl.v_some rfl e127) rfl b128 b129) ?_
    refine hv (v := pp (Addr.add (Addr.add a126 (y40.toNat * 2)) 1)) rfl (fa runUnderlying86 rfl rfl sizeOf84 rfl) ?_
    obtain ⟨x131, c130, h⟩ := h
    refine hv (v := Sl.v x131) rfl (l1 isAgg84 rfl c130) (hv (v := iv ((x131).n : Int)) rfl (HVal.len runUnderlying84 rfl) ?_)
    refine hv (v := iv ((x131).n : Int)) rfl (av rfl) (hn (nt (wb (HW.loop' (fun L7 hL7 => ?_)))))
    obtain ⟨X7, hX7⟩ : ∃ X7 : ZQI, ∀ (y132 : Int) (H_7 : Hp), X7 y132 H_7 ↔ ∀ ρ, Env.Is ρ [(0, (.pointer p0)), (1, (Sl.v p1)), (5, (iv ((p1).n : Int))), (6, (Sl.v (Sl.cut r15 2 0 (((r15).c : Int).toNat) ((r15).c)))), (8, (iv y40)), (9, (iv x49)), (10, (Sl.v (Sl.cut r114 2 0 (((r114).c : Int).toNat) ((r114).c)))), (11, (iv y132))] → L7 ρ H_7 := ⟨_, fun _ _ => Iff.rfl⟩
    refine (hX7 _ _).1 (h X7 ?_) _ ?_
    rotate_left
    ·exact (isp rfl)
    clear h
    intro y132 H_7 h
    refine (hX7 _ _).2 fun ρ hI => ?_
    obtain ⟨ρ0, rfl⟩ := hI.ex
    clear hI; unfold F40_L7b at h; refine hL7 _ _ ?_
    refine ws (ws (wr_ (hv (v := iv y132) rfl (mv rfl) (hv (v := Sl.v (Sl.cut r114 2 0 (((r114).c : Int).toNat) ((r114).c))) rfl (mv rfl) ?_))))
    refine hv (v := iv (((Sl.cut r114 2 0 (((r114).c : Int).toNat) ((r114).c))).n : Int)) rfl (HVal.len runUnderlying84 rfl) (hv (v := bv (decide (y132 < (((Sl.cut r114 2 0 (((r114).c : Int).toNat) ((r114).c))).n : Int)))) rfl (HVal.lss rfl rfl) ?_)
    refine hn (nt ?_)
    obtain ⟨hT, hF⟩ := h
    refine wk (decide (y132 < (((Sl.cut r114 2 0 (((r114).c : Int).toNat) ((r114).c))).n : Int))) rfl (fun hb140 => ?_) (fun hb140 => ?_)
    ·have h := hT hb140
     refine wp_ (nt (ws (wb (wr_ (hv (v := Sl.v (Sl.cut r114 2 0 (((r114).c : Int).toNat) ((r114).c))) rfl (mv rfl) ?_)))))
     refine hv (v := iv y132) rfl (mv rfl) (hv (v := iv y132) rfl (mv rfl) (hv (v := iv (IntKind.i64.wrap (77 + y132))) rfl (HVal.add rfl rfl) ?_))
     refine hv (v := .agg #[(sv bE), (iv (IntKind.i64.wrap (77 + y132)))]) rfl (HVal.build' (cs := [(sv bE), (iv (IntKind.i64.wrap (77 + y132)))]) runUnderlying83 zeroValue83 places83 rfl) ?_
     obtain ⟨a141, e142, b143, b144, h⟩ := h
     refine hv (v := pp (Addr.add a141 (y132.toNat * 2))) rfl (ia runUnderlying84 sizeOf83 (Sl.v_some rfl e142) rfl b143 b144) ?_
     obtain ⟨z147, h⟩ := h
     refine hq (HOp.storeN' (l := [(sv bE), (iv (IntKind.i64.wrap (77 + y132)))]) sizeOf83 rfl rfl rfl z147) ?_
     rintro _ H145 e146
     replace h := h H145 e146
     refine hn (nb (nt (wr_ (hv (v := iv y132) rfl (mv rfl) (hv (v := iv (IntKind.i64.wrap (y132 + 1))) rfl (HVal.add rfl rfl) ?_)))))
     refine hv (v := iv (IntKind.i64.wrap (y132 + 1))) rfl (av rfl) (hn (nt ?_))
     exact (hX7 _ _).1 h _ (isp rfl)
    have h := hF hb140
    refine we (te (te (be (nt ?_))))
    exact ⟨(isp rfl), h⟩
   rintro ρ H_6 ⟨hI, h⟩
   obtain ⟨ρ0, rfl⟩ := hI.ex
   clear hI; unfold F40_6 at h
   refine ws (wr_ (hv (v := .pointer p0) rfl (mv rfl) ?_))
   obtain ⟨a148, e149, h⟩ := h
   refine hv (v := pp a148) rfl (HVal.nilCheck (congrArg Value.pointer e149)) (hv (v := pp (Addr.add a148 3)) rfl (fa runUnderlying32 rfl rfl sizeOf28 rfl) ?_)
   obtain ⟨x151, c150, h⟩ := h
   refine hv (v := Sl.v x151) rfl (l1 isAgg28 rfl c150) (hv (v := iv x49) rfl (mv rfl) (hv (v := Sl.v (Sl.cut r114 2 0 (((r114).c : Int).toNat) ((r114).c))) rfl (mv rfl) ?_))
   obtain ⟨a152, e153, b154, b155, h⟩ := h
   refine hv (v := pp (Addr.add a152 (x49.toNat * 1))) rfl (ia runUnderlying28 sizeOf84 (Sl.v_some rfl e153) rfl b154 b155) ?_
   obtain ⟨z158, z159, h⟩ := h
   refine hq (HOp.store1 sizeOf84 rfl rfl rfl z158 z159) ?_
   rintro _ H156 e157
   replace h := h H156 e157
   refine hn (nt (wr_ (hv (v := Sl.v (Sl.cut r15 2 0 (((r15).c : Int).toNat) ((r15).c))) rfl (mv rfl) (hv (v := iv y40) rfl (mv rfl) ?_))))
   refine hv (v := Sl.v (Sl.cut r114 2 0 (((r114).c : Int).toNat) ((r114).c))) rfl (mv rfl) (hv (v := Sl.v p1) rfl (mv rfl) ?_)
   refine hv (v := iv y40) rfl (mv rfl) ?_
   obtain ⟨a160, e161, b162, b163, h⟩ := h
   refine hv (v := pp (Addr.add a160 (y40.toNat * 2))) rfl (ia runUnderlying30 sizeOf86 (Sl.v_some rfl e161) rfl b162 b163) ?_
   refine hv (v := pp (Addr.add (Addr.add a160 (y40.toNat * 2)) 1)) rfl (fa runUnderlying86 rfl rfl sizeOf84 rfl) ?_
   obtain ⟨x165, c164, h⟩ := h
   refine hv (v := Sl.v x165) rfl (l1 isAgg84 rfl c164) (hv (v := iv ((x165).n : Int)) rfl (HVal.len runUnderlying84 rfl) ?_)
   obtain ⟨z166, z167, z168, z169, h⟩ := h
   refine hv (v := Sl.v (Sl.cut (Sl.cut r114 2 0 (((r114).c : Int).toNat) ((r114).c)) 2 0 (((x165).n : Int).toNat) (((Sl.cut r114 2 0 (((r114).c : Int).toNat) ((r114).c))).c))) rfl (HVal.slice _ _ _ runUnderlying84 sizeOf83 rfl rfl ⟨_, _, rfl, z166, rfl⟩ rfl (by decide) z167 z168 z169) ?_
   obtain ⟨a170, e171, b172, b173, h⟩ := h
   refine hv (v := pp (Addr.add a170 (y40.toNat * 2))) rfl (ia runUnderlying30 sizeOf86 (Sl.v_some rfl e171) rfl b172 b173) ?_
   refine hv (v := pp (Addr.add (Addr.add a170 (y40.toNat * 2)) 1)) rfl (fa runUnderlying86 rfl rfl sizeOf84 rfl) ?_
   obtain ⟨z176, z177, h⟩ := h
   refine hq (HOp.store1 sizeOf84 rfl rfl rfl z176 z177) ?_
   rintro _ H174 e175
   replace h := h H174 e175
   refine hn (nb (nt (wr_ (hv (v := iv y40) rfl (mv rfl) (hv (v := iv (IntKind.i64.wrap (y40 + 1))) rfl (HVal.add rfl rfl) ?_)))))
   refine hv (v := iv (IntKind.i64.wrap (y40 + 1))) rfl (av rfl) (hn (nt ?_))
   exact (hX4 _ _).1 h _ (isp rfl)
  have h := hF hb45
  refine we (te (te (be (nt ?_))))
  exact ⟨(isp rfl), h⟩
 rintro ρ H_3 ⟨hI, h⟩
 obtain ⟨ρ0, rfl⟩ := hI.ex
 clear hI; unfold F40_3 at h
 refine ws (wr_ (hv (v := .pointer p0) rfl (mv rfl) (hv (v := Sl.v (Sl.cut r15 2 0 (((r15).c : Int).toNat) ((r15).c))) rfl (mv rfl) ?_)))
 obtain ⟨a178, e179, h⟩ := h
 refine hv (v := pp a178) rfl (HVal.nilCheck (congrArg Value.pointer e179)) (hv (v := pp (Addr.add a178 6)) rfl (fa runUnderlying32 rfl rfl sizeOf30 rfl) ?_)
 obtain ⟨z182, z183, h⟩ := h
 refine hq (HOp.store1 sizeOf30 rfl rfl rfl z182 z183) ?_
 rintro _ H180 e181
 replace h := h H180 e181
 refine hn (nt (ws (wr_ (hv (v := Sl.v (Sl.cut r15 2 0 (((r15).c : Int).toNat) ((r15).c))) rfl (mv rfl) (hv (v := iv ((p1).n : Int)) rfl (mv rfl) ?_)))))
 obtain ⟨z184, z185, z186, z187, h⟩ := h
 refine hv (v := Sl.v (Sl.cut (Sl.cut r15 2 0 (((r15).c : Int).toNat) ((r15).c)) 2 0 ((p1).n : Int).toNat (((Sl.cut r15 2 0 (((r15).c : Int).toNat) ((r15).c))).c))) rfl (HVal.slice _ _ _ runUnderlying30 sizeOf86 rfl rfl ⟨_, _, rfl, z184, rfl⟩ rfl (by decide) z185 z186 z187) ?_
 refine hv (v := Sl.v (Sl.cut (Sl.cut r15 2 0 (((r15).c : Int).toNat) ((r15).c)) 2 0 ((p1).n : Int).toNat (((Sl.cut r15 2 0 (((r15).c : Int).toNat) ((r15).c))).c))) rfl (av rfl) ?_
 refine hn (nt (HW.ret ?_))
 exact ⟨_, resOf1 rfl Res1.t, ⟨(Sl.cut (Sl.cut r15 2 0 (((r15).c : Int).toNat) ((r15).c)) 2 0 ((p1).n : Int).toNat (((Sl.cut r15 2 0 (((r15).c : Int).toNat) ((r15).c))).c)), rfl, h⟩⟩

end Go.Hw
