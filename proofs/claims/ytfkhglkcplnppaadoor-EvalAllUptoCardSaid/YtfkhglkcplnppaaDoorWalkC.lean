/- The walks of this seat, printed by a program of this session (wip/tools/gen.py): of each function what it does to the heap, and that it does so. -/
import Derived.Test.YtfkhglkcplnppaaDoorHwZ
import Derived.Test.YtfkhglkcplnppaaDoorProg
import Derived.Test.YtfkhglkcplnppaaDoorWAux
import Derived.Test.YtfkhglkcplnppaaDoorWalkB
set_option linter.unusedVariables false
set_option linter.unusedSimpArgs false
set_option maxRecDepth 100000
set_option maxHeartbeats 4000000
namespace Go.Hw
open Go Go.Proofs Tryd
def F26_3 (Q : Sl → Sl → ByteArray → ByteArray → Int → Sl → Sl → Hp → Prop) (y75 : (Option Addr)) (y76 y77 : Addr) (y78 y79 : Sl) (H_3 : Hp) : Prop :=
∃ a125, y75 = some a125 ∧ (
 (cell H_3 (Addr.add a125 5)).isSome = true ∧ frz H_3 (Addr.add a125 5) = false ∧ ∀ H127, H127 = setc H_3 (Addr.add a125 5) (Sl.v y79) → (
 ∃ x132, cell H127 y76 = some (Sl.v x132) ∧ (
 (0 : Int) ≤ ((x132).n : Int) ∧ 0 ≤ ((x132).n : Int).toNat ∧ ((x132).n : Int).toNat ≤ (y78).c ∧ (y78).c ≤ (y78).c ∧ (
 (cell H127 y76).isSome = true ∧ frz H127 y76 = false ∧ ∀ H137, H137 = setc H127 y76 (Sl.v (Sl.cut y78 1 0 (((x132).n : Int).toNat) ((y78).c))) → (
 ∃ x142, cell H137 (Addr.add y76 1) = some (Sl.v x142) ∧ (
 (0 : Int) ≤ ((x142).n : Int) ∧ 0 ≤ ((x142).n : Int).toNat ∧ ((x142).n : Int).toNat ≤ (y79).c ∧ (y79).c ≤ (y79).c ∧ (
 (cell H137 (Addr.add y76 1)).isSome = true ∧ frz H137 (Addr.add y76 1) = false ∧ ∀ H147, H147 = setc H137 (Addr.add y76 1) (Sl.v (Sl.cut y79 1 0 (((x142).n : Int).toNat) ((y79).c))) → (
 ∃ x152 x153 x154, cells H147 (Addr.add y76 3) (tR x152 x153 x154) 0 ∧ (
 F27 y75 x152 x153 x154 H147 (fun r157 r158 r159 H155 =>
 mayw H155 (Addr.add y76 3) 3 0 ∧ ∀ H160, H160 = sets H155 (Addr.add y76 3) (tR r157 r158 r159) 0 → (
 ∃ x164, cell H160 (Addr.add y76 6) = some (Sl.v x164) ∧ (
 F40 y75 x164 H160 (fun r167 H165 =>
 (cell H165 (Addr.add y76 6)).isSome = true ∧ frz H165 (Addr.add y76 6) = false ∧ ∀ H168, H168 = setc H165 (Addr.add y76 6) (Sl.v r167) → (
 ∃ x173 x174 x175 x176 x177 x178 x179, cells H168 y76 (xR x173 x174 x175 x176 x177 x178 x179) 0 ∧ (
 mayw H168 y77 7 0 ∧ ∀ H180, H180 = sets H168 y77 (xR x173 x174 x175 x176 x177 x178 x179) 0 → (
 ∃ x183 x184 x185 x186 x187 x188 x189, cells H180 y77 (xR x183 x184 x185 x186 x187 x188 x189) 0 ∧ (
 Q x183 x184 x185 x186 x187 x188 x189 H180)))))))))))))))))
def F26_5 (Q : Sl → Sl → ByteArray → ByteArray → Int → Sl → Sl → Hp → Prop) (X4 : ZQI) (y87 : (Option Addr)) (y88 y89 : Addr) (y90 y91 : Sl) (y92 : Int) (H_5 : Hp) : Prop :=
X4 (IntKind.i64.wrap (y92 + 1)) H_5
def F26_L4b (Q : Sl → Sl → ByteArray → ByteArray → Int → Sl → Sl → Hp → Prop) (X4 : ZQI) (y81 : (Option Addr)) (y82 y83 : Addr) (y84 y85 : Sl) (y80 : Int) (H_4 : Hp) : Prop :=
((decide (y80 < ((y85).n : Int))) = true → (∃ x94, cell H_4 (Addr.add y82 1) = some (Sl.v x94) ∧ (
 ((decide (((x94).n : Int) ≤ y80)) = true → (∀ H96, H96 = Array.push H_4 (.cells (tR S_mark 0 Sl.nil).toArray 36) → (
 ∃ a98, (y85).b = some a98 ∧ (0 : Int) ≤ y80 ∧ y80 < ((y85).n : Int) ∧ (
 (cell H96 (Addr.add a98 (y80.toNat * 1))).isSome = true ∧ frz H96 (Addr.add a98 (y80.toNat * 1)) = false ∧ ∀ H102, H102 = setc H96 (Addr.add a98 (y80.toNat * 1)) (Sl.v (Sl.mk (some (bk H_4)) 1 1)) → (
 F26_5 Q X4 y81 y82 y83 y84 y85 y80 H102))))) ∧
 ((decide (((x94).n : Int) ≤ y80)) = false → (∃ x107, cell H_4 (Addr.add y82 1) = some (Sl.v x107) ∧ (
 ∃ a108, (x107).b = some a108 ∧ (0 : Int) ≤ y80 ∧ y80 < ((x107).n : Int) ∧ (
 ∃ x113, cell H_4 (Addr.add a108 (y80.toNat * 1)) = some (Sl.v x113) ∧ (
 F39 y81 x113 H_4 (fun r116 H114 =>
 ∃ a117, (y85).b = some a117 ∧ (0 : Int) ≤ y80 ∧ y80 < ((y85).n : Int) ∧ (
 (cell H114 (Addr.add a117 (y80.toNat * 1))).isSome = true ∧ frz H114 (Addr.add a117 (y80.toNat * 1)) = false ∧ ∀ H121, H121 = setc H114 (Addr.add a117 (y80.toNat * 1)) (Sl.v r116) → (
 F26_5 Q X4 y81 y82 y83 y84 y85 y80 H121))))))))))) ∧
 ((decide (y80 < ((y85).n : Int))) = false → (F26_3 Q y81 y82 y83 y84 y85 H_4))
def F26_L4 (Q : Sl → Sl → ByteArray → ByteArray → Int → Sl → Sl → Hp → Prop) (y81 : (Option Addr)) (y82 y83 : Addr) (y84 y85 : Sl) (y80 : Int) (H_4 : Hp) : Prop :=
 ∀ X4 : ZQI, (∀ (y80 : Int) (H_4 : Hp), F26_L4b Q X4 y81 y82 y83 y84 y85 y80 H_4 → X4 y80 H_4) → X4 y80 H_4
def F26_1 (Q : Sl → Sl → ByteArray → ByteArray → Int → Sl → Sl → Hp → Prop) (y27 : (Option Addr)) (y28 y29 : Addr) (y30 : Sl) (H_1 : Hp) : Prop :=
∃ a47, y27 = some a47 ∧ (
 (cell H_1 (Addr.add a47 4)).isSome = true ∧ frz H_1 (Addr.add a47 4) = false ∧ ∀ H49, H49 = setc H_1 (Addr.add a47 4) (Sl.v y30) → (
 ∃ a53, y27 = some a53 ∧ (
 ∃ x56, cell H49 (Addr.add a53 5) = some (Sl.v x56) ∧ (
 0 ≤ (0 : Int).toNat ∧ (0 : Int).toNat ≤ (x56).c ∧ (x56).c ≤ (x56).c ∧ (
 ∃ x61, cell H49 (Addr.add y28 1) = some (Sl.v x61) ∧ (
 AppendF H49 49 1 24 #[sN] (Sl.cut x56 1 0 ((0 : Int).toNat) ((x56).c)) (x61).b (x61).n (fun r64 H62 =>
 cell H62 (Addr.add a53 5) = some (Sl.v x56) ∧ (
 ∀ H66, H66 = Array.push H62 (.cells #[sN] 49) → (
 AppendF H66 49 1 24 #[sN] r64 ((Sl.mk (some (bk H62)) 1 1)).b ((Sl.mk (some (bk H62)) 1 1)).n (fun r70 H68 =>
 (0 : Int) ≤ ((r70).c : Int) ∧ 0 ≤ ((r70).c : Int).toNat ∧ ((r70).c : Int).toNat ≤ (r70).c ∧ (r70).c ≤ (r70).c ∧ (
 F26_L4 Q y27 y28 y29 y30 (Sl.cut r70 1 0 (((r70).c : Int).toNat) ((r70).c)) 0 H68)))))))))))
def F26_L2b (Q : Sl → Sl → ByteArray → ByteArray → Int → Sl → Sl → Hp → Prop) (X2 : ZQI) (y34 : (Option Addr)) (y35 y36 : Addr) (y37 : Sl) (y33 : Int) (H_2 : Hp) : Prop :=
((decide (y33 < ((y37).n : Int))) = true → (∃ a39, (y37).b = some a39 ∧ (0 : Int) ≤ y33 ∧ y33 < ((y37).n : Int) ∧ (
 (cell H_2 (Addr.add a39 (y33.toNat * 1))).isSome = true ∧ frz H_2 (Addr.add a39 (y33.toNat * 1)) = false ∧ ∀ H43, H43 = setc H_2 (Addr.add a39 (y33.toNat * 1)) (sv S_mark) → (
 X2 (IntKind.i64.wrap (y33 + 1)) H43)))) ∧
 ((decide (y33 < ((y37).n : Int))) = false → (F26_1 Q y34 y35 y36 y37 H_2))
def F26_L2 (Q : Sl → Sl → ByteArray → ByteArray → Int → Sl → Sl → Hp → Prop) (y34 : (Option Addr)) (y35 y36 : Addr) (y37 : Sl) (y33 : Int) (H_2 : Hp) : Prop :=
 ∀ X2 : ZQI, (∀ (y33 : Int) (H_2 : Hp), F26_L2b Q X2 y34 y35 y36 y37 y33 H_2 → X2 y33 H_2) → X2 y33 H_2
def F26 (p0 : (Option Addr)) (p1_0 p1_1 : Sl) (p1_2 p1_3 : ByteArray) (p1_4 : Int) (p1_5 p1_6 : Sl) (H : Hp) (Q : Sl → Sl → ByteArray → ByteArray → Int → Sl → Sl → Hp → Prop) : Prop :=
∀ H1, H1 = Array.push H (.cells (xR p1_0 p1_1 p1_2 p1_3 p1_4 p1_5 p1_6).toArray 43) → (
 ∀ H3, H3 = Array.push H1 (.cells (xR Sl.nil Sl.nil bE bE 0 Sl.nil Sl.nil).toArray 43) → (
 ∃ a5, p0 = some a5 ∧ (
 ∃ x8, cell H3 (Addr.add a5 4) = some (Sl.v x8) ∧ (
 0 ≤ (0 : Int).toNat ∧ (0 : Int).toNat ≤ (x8).c ∧ (x8).c ≤ (x8).c ∧ (
 ∃ x13, cell H3 (bk H) = some (Sl.v x13) ∧ (
 AppendF H3 9 1 16 #[(sv bE)] (Sl.cut x8 1 0 ((0 : Int).toNat) ((x8).c)) (x13).b (x13).n (fun r16 H14 =>
 cell H14 (Addr.add a5 4) = some (Sl.v x8) ∧ (
 ∀ H18, H18 = Array.push H14 (.cells #[(sv bE)] 9) → (
 AppendF H18 9 1 16 #[(sv bE)] r16 ((Sl.mk (some (bk H14)) 1 1)).b ((Sl.mk (some (bk H14)) 1 1)).n (fun r22 H20 =>
 (0 : Int) ≤ ((r22).c : Int) ∧ 0 ≤ ((r22).c : Int).toNat ∧ ((r22).c : Int).toNat ≤ (r22).c ∧ (r22).c ≤ (r22).c ∧ (
 ∃ x32, cell H20 (bk H) = some (Sl.v x32) ∧ (
 F26_L2 Q p0 (bk H) (bk H1) (Sl.cut r22 1 0 (((r22).c : Int).toNat) ((r22).c)) ((x32).n : Int) H20))))))))))))
theorem walk26 {w0 : World} {p0 : (Option Addr)} {p1_0 p1_1 : Sl} {p1_2 p1_3 : ByteArray} {p1_4 : Int} {p1_5 p1_6 : Sl} {H : Hp} {Q : Sl → Sl → ByteArray → ByteArray → Int → Sl → Sl → Hp → Prop} (h : F26 p0 p1_0 p1_1 p1_2 p1_3 p1_4 p1_5 p1_6 H Q) :
  Good prog w0 26 #[(.pointer p0), (.agg (xR p1_0 p1_1 p1_2 p1_3 p1_4 p1_5 p1_6).toArray)] H (fun v H => ∃ r0 r1 r2 r3 r4 r5 r6, v = (.agg (xR r0 r1 r2 r3 r4 r5 r6).toArray) ∧ Q r0 r1 r2 r3 r4 r5 r6 H) := by
 unfold F26 at h
 refine Good.enter' (fn := f26) func26 rfl rfl rfl (ws (wr_ (ho rfl (ob (v := .agg (xR p1_0 p1_1 p1_2 p1_3 p1_4 p1_5 p1_6).toArray) rfl) ?_)))
 rintro _ H1 ⟨rfl, e2⟩
 replace h := h H1 e2
 refine ho rfl (HOp.alloc zeroValue43) ?_
 rintro _ H3 ⟨rfl, e4⟩
 replace h := h H3 e4
 refine hn (nt (ws (HW.draw mixed [(0, some []), (1, some []), (2, some []), (3, some []), (4, some []), (5, some []), (6, some [7]), (7, none), (8, some [])] rfl (by kernel_rfl) (by kernel_rfl) ?_)))
 refine pv (v := .pointer p0) rfl rfl (fun _ => mv rfl) ?_
 obtain ⟨a5, e6, h⟩ := h
 refine pv (v := pp a5) rfl rfl (fun _ => HVal.nilCheck (congrArg Value.pointer e6)) (pv (v := pp (Addr.add a5 4)) rfl rfl (fun _ => fa runUnderlying32 rfl rfl sizeOf29 rfl) ?_)
 obtain ⟨x8, c7, h⟩ := h
 refine pl (v := Sl.v x8) (fun X => cell X (Addr.add a5 4) = some (Sl.v x8)) rfl rfl (fun _ hX => l1 isAgg29 rfl hX) c7 ?_
 obtain ⟨z9, z10, z11, h⟩ := h
 refine pv (v := Sl.v (Sl.cut x8 1 0 ((0 : Int).toNat) ((x8).c))) rfl rfl (fun _ => HVal.slice _ _ _ runUnderlying29 sizeOf9 rfl rfl ⟨_, _, rfl, by decide, rfl⟩ rfl (by decide) z9 z10 z11) ?_
 refine pv (v := pp (bk H)) rfl rfl (fun _ => HVal.fieldAddr0 runUnderlying43 rfl rfl sizeOf29 rfl) ?_
 obtain ⟨x13, c12, h⟩ := h
 refine pl (v := Sl.v x13) (fun X => cell X (bk H) = some (Sl.v x13)) rfl rfl (fun _ hX => l1 isAgg29 rfl hX) c12 (po rfl rfl (HOp.append (k := 1) (b := 16) runUnderlying29 runUnderlying29 typeInfo9 rfl rfl zeroValue9 rfl rfl h) ?_)
 rintro _ H14 ⟨r16, rfl, h⟩
 obtain ⟨s17, h⟩ := h
 refine ⟨SC_of ⟨nofun, fun _ => s17, trivial⟩, ?_⟩
 refine pv (v := Sl.v r16) rfl rfl (fun _ => av rfl) (HPlan.done (nt (ws (wr_ (hv (v := Sl.v r16) rfl (mv rfl) ?_)))))
 refine ho rfl (HOp.buildSlice' (zs := [(sv bE)]) (cs := [(sv bE)]) runUnderlying29 sizeOf9 zeroValue9 (by decide) (by kernel_rfl) rfl (by decide)) ?_
 rintro _ H18 ⟨rfl, e19⟩
 replace h := h H18 e19
 refine ho rfl (HOp.append (k := 1) (b := 16) runUnderlying29 runUnderlying29 typeInfo9 rfl rfl zeroValue9 rfl rfl h) ?_
 rintro _ H20 ⟨r22, rfl, h⟩
 refine hv (v := Sl.v r22) rfl (av rfl) (hn (nt (ws (wr_ (hv (v := Sl.v r22) rfl (mv rfl) (hv (v := Sl.v r22) rfl (mv rfl) ?_))))))
 refine hv (v := iv ((r22).c : Int)) rfl (HVal.cap runUnderlying29 rfl) ?_
 obtain ⟨z23, z24, z25, z26, h⟩ := h
 refine hv (v := Sl.v (Sl.cut r22 1 0 (((r22).c : Int).toNat) ((r22).c))) rfl (HVal.slice _ _ _ runUnderlying29 sizeOf9 rfl rfl ⟨_, _, rfl, z23, rfl⟩ rfl (by decide) z24 z25 z26) ?_
 refine hv (v := Sl.v (Sl.cut r22 1 0 (((r22).c : Int).toNat) ((r22).c))) rfl (av rfl) (hn (nt (wc (fun ρ H_1 => Env.Is ρ [(0, (.pointer p0)), (3, (pp (bk H))), (4, (pp (bk H1))), (5, (Sl.v (Sl.cut r22 1 0 (((r22).c : Int).toNat) ((r22).c))))] ∧ F26_1 Q p0 (bk H) (bk H1) (Sl.cut r22 1 0 (((r22).c : Int).toNat) ((r22).c)) H_1) ?_ ?_)))
 ·refine ws (wr_ (hv (v := pp (bk H)) rfl (HVal.fieldAddr0 runUnderlying43 rfl rfl sizeOf29 rfl) ?_))
  obtain ⟨x32, c31, h⟩ := h
  refine hv (v := Sl.v x32) rfl (l1 isAgg29 rfl c31) (hv (v := iv ((x32).n : Int)) rfl (HVal.len runUnderlying29 rfl) (hv (v := iv ((x32).n : Int)) rfl (av rfl) ?_))
  refine hn (nt (wb (HW.loop' (fun L2 hL2 => ?_))))
  obtain ⟨X2, hX2⟩ : ∃ X2 : ZQI, ∀ (y33 : Int) (H_2 : Hp), X2 y33 H_2 ↔ ∀ ρ, Env.Is ρ [(0, (.pointer p0)), (3, (pp (bk H))), (4, (pp (bk H1))), (5, (Sl.v (Sl.cut r22 1 0 (((r22).c : Int).toNat) ((r22).c)))), (6, (iv y33))] → L2 ρ H_2 := ⟨_, fun _ _ => Iff.rfl⟩
  refine (hX2 _ _).1 (h X2 ?_) _ ?_
  rotate_left
  ·exact (isp rfl)
  clear h
  intro y33 H_2 h
  refine (hX2 _ _).2 fun ρ hI => ?_
  obtain ⟨ρ0, rfl⟩ := hI.ex
  clear hI; unfold F26_L2b at h; refine hL2 _ _ ?_
  refine ws (ws (wr_ (hv (v := iv y33) rfl (mv rfl) (hv (v := Sl.v (Sl.cut r22 1 0 (((r22).c : Int).toNat) ((r22).c))) rfl (mv rfl) ?_))))
  refine hv (v := iv (((Sl.cut r22 1 0 (((r22).c : Int).toNat) ((r22).c))).n : Int)) rfl (HVal.len runUnderlying29 rfl) (hv (v := bv (decide (y33 < (((Sl.cut r22 1 0 (((r22).c : Int).toNat) ((r22).c))).n : Int)))) rfl (HVal.lss rfl rfl) ?_)
  refine hn (nt ?_)
  obtain ⟨hT, hF⟩ := h
  refine wk (decide (y33 < (((Sl.cut r22 1 0 (((r22).c : Int).toNat) ((r22).c))).n : Int))) rfl (fun hb38 => ?_) (fun hb38 => ?_)
  ·have h := hT hb38
   refine wp_ (nt (ws (wb (wr_ (hv (v := Sl.v (Sl.cut r22 1 0 (((r22).c : Int).toNat) ((r22).c))) rfl (mv rfl) (hv (v := iv y33) rfl (mv rfl) ?_))))))
   obtain ⟨a39, e40, b41, b42, h⟩ := h
   refine hv (v := pp (Addr.add a39 (y33.toNat * 1))) rfl (ia runUnderlying29 sizeOf9 (Sl.v_some rfl e40) rfl b41 b42) ?_
   obtain ⟨z45, z46, h⟩ := h
   refine hq (HOp.store1 sizeOf9 rfl rfl rfl z45 z46) ?_
   rintro _ H43 e44
   replace h := h H43 e44
   refine hn (nb (nt (wr_ (hv (v := iv y33) rfl (mv rfl) (hv (v := iv (IntKind.i64.wrap (y33 + 1))) rfl (HVal.add rfl rfl) ?_)))))
   refine hv (v := iv (IntKind.i64.wrap (y33 + 1))) rfl (av rfl) (hn (nt ?_))
   exact (hX2 _ _).1 h _ (isp rfl)
  have h := hF hb38
  refine we (te (te (be (nt ?_))))
  exact ⟨(isp rfl), h⟩
 rintro ρ H_1 ⟨hI, h⟩
 obtain ⟨ρ0, rfl⟩ := hI.ex
 clear hI; unfold F26_1 at h
 refine ws (wr_ (hv (v := .pointer p0) rfl (mv rfl) (hv (v := Sl.v (Sl.cut r22 1 0 (((r22).c : Int).toNat) ((r22).c))) rfl (mv rfl) ?_)))
 obtain ⟨a47, e48, h⟩ := h
 refine hv (v := pp a47) rfl (HVal.nilCheck (congrArg Value.pointer e48)) (hv (v := pp (Addr.add a47 4)) rfl (fa runUnderlying32 rfl rfl sizeOf29 rfl) ?_)
 obtain ⟨z51, z52, h⟩ := h
 refine hq (HOp.store1 sizeOf29 rfl rfl rfl z51 z52) ?_
 rintro _ H49 e50
 replace h := h H49 e50
 refine hn (nt (ws (HW.draw mixed [(0, some []), (1, some []), (2, some []), (3, some []), (4, some []), (5, some []), (6, some [7]), (7, none), (8, some [])] rfl (by kernel_rfl) (by kernel_rfl) ?_)))
 refine pv (v := .pointer p0) rfl rfl (fun _ => mv rfl) ?_
 obtain ⟨a53, e54, h⟩ := h
 refine pv (v := pp a53) rfl rfl (fun _ => HVal.nilCheck (congrArg Value.pointer e54)) (pv (v := pp (Addr.add a53 5)) rfl rfl (fun _ => fa runUnderlying32 rfl rfl sizeOf27 rfl) ?_)
 obtain ⟨x56, c55, h⟩ := h
 refine pl (v := Sl.v x56) (fun X => cell X (Addr.add a53 5) = some (Sl.v x56)) rfl rfl (fun _ hX => l1 isAgg27 rfl hX) c55 ?_
 obtain ⟨z57, z58, z59, h⟩ := h
 refine pv (v := Sl.v (Sl.cut x56 1 0 ((0 : Int).toNat) ((x56).c))) rfl rfl (fun _ => HVal.slice _ _ _ runUnderlying27 sizeOf49 rfl rfl ⟨_, _, rfl, by decide, rfl⟩ rfl (by decide) z57 z58 z59) ?_
 refine pv (v := pp (Addr.add (bk H) 1)) rfl rfl (fun _ => fa runUnderlying43 rfl rfl sizeOf27 rfl) ?_
 obtain ⟨x61, c60, h⟩ := h
 refine pl (v := Sl.v x61) (fun X => cell X (Addr.add (bk H) 1) = some (Sl.v x61)) rfl rfl (fun _ hX => l1 isAgg27 rfl hX) c60 (po rfl rfl (HOp.append (k := 1) (b := 24) runUnderlying27 runUnderlying27 typeInfo49 rfl rfl zeroValue49 rfl rfl h) ?_)
 rintro _ H62 ⟨r64, rfl, h⟩
 obtain ⟨s65, h⟩ := h
 refine ⟨SC_of ⟨nofun, fun _ => s65, trivial⟩, ?_⟩
 refine pv (v := Sl.v r64) rfl rfl (fun _ => av rfl) (HPlan.done (nt (ws (wr_ (hv (v := Sl.v r64) rfl (mv rfl) ?_)))))
 refine ho rfl (HOp.buildSlice' (zs := [sN]) (cs := [sN]) runUnderlying27 sizeOf49 zeroValue49 (by decide) (by kernel_rfl) rfl (by decide)) ?_
 rintro _ H66 ⟨rfl, e67⟩
 replace h := h H66 e67
 refine ho rfl (HOp.append (k := 1) (b := 24) runUnderlying27 runUnderlying27 typeInfo49 rfl rfl zeroValue49 rfl rfl h) ?_
 rintro _ H68 ⟨r70, rfl, h⟩
 refine hv (v := Sl.v r70) rfl (av rfl) (hn (nt (ws (wr_ (hv (v := Sl.v r70) rfl (mv rfl) (hv (v := Sl.v r70) rfl (mv rfl) ?_))))))
 refine hv (v := iv ((r70).c : Int)) rfl (HVal.cap runUnderlying27 rfl) ?_
 obtain ⟨z71, z72, z73, z74, h⟩ := h
 refine hv (v := Sl.v (Sl.cut r70 1 0 (((r70).c : Int).toNat) ((r70).c))) rfl (HVal.slice _ _ _ runUnderlying27 sizeOf49 rfl rfl ⟨_, _, rfl, z71, rfl⟩ rfl (by decide) z72 z73 z74) ?_
 refine hv (v := Sl.v (Sl.cut r70 1 0 (((r70).c : Int).toNat) ((r70).c))) rfl (av rfl) (hn (nt (wc (fun ρ H_3 => Env.Is ρ [(0, (.pointer p0)), (3, (pp (bk H))), (4, (pp (bk H1))), (5, (Sl.v (Sl.cut r22 1 0 (((r22).c : Int).toNat) ((r22).c)))), (7, (Sl.v (Sl.cut r70 1 0 (((r70).c : Int).toNat) ((r70).c))))] ∧ F26_3 Q p0 (bk H) (bk H1) (Sl.cut r22 1 0 (((r22).c : Int).toNat) ((r22).c)) (Sl.cut r70 1 0 (((r70).c : Int).toNat) ((r70).c)) H_3) ?_ ?_)))
 ·refine ws (wr_ (hv (v := iv 0) rfl (av rfl) (hn (nt (wb (HW.loop' (fun L4 hL4 => ?_)))))))
  obtain ⟨X4, hX4⟩ : ∃ X4 : ZQI, ∀ (y80 : Int) (H_4 : Hp), X4 y80 H_4 ↔ ∀ ρ, Env.Is ρ [(0, (.pointer p0)), (3, (pp (bk H))), (4, (pp (bk H1))), (5, (Sl.v (Sl.cut r22 1 0 (((r22).c : Int).toNat) ((r22).c)))), (7, (Sl.v (Sl.cut r70 1 0 (((r70).c : Int).toNat) ((r70).c)))), (8, (iv y80))] → L4 ρ H_4 := ⟨_, fun _ _ => Iff.rfl⟩
  refine (hX4 _ _).1 (h X4 ?_) _ ?_
  rotate_left
  ·exact (isp rfl)
  clear h
  intro y80 H_4 h
  refine (hX4 _ _).2 fun ρ hI => ?_
  obtain ⟨ρ0, rfl⟩ := hI.ex
  clear hI; unfold F26_L4b at h; refine hL4 _ _ ?_
  refine ws (ws (wr_ (hv (v := iv y80) rfl (mv rfl) (hv (v := Sl.v (Sl.cut r70 1 0 (((r70).c : Int).toNat) ((r70).c))) rfl (mv rfl) ?_))))
  refine hv (v := iv (((Sl.cut r70 1 0 (((r70).c : Int).toNat) ((r70).c))).n : Int)) rfl (HVal.len runUnderlying27 rfl) (hv (v := bv (decide (y80 < (((Sl.cut r70 1 0 (((r70).c : Int).toNat) ((r70).c))).n : Int)))) rfl (HVal.lss rfl rfl) ?_)
  refine hn (nt ?_)
  obtain ⟨hT, hF⟩ := h
  refine wk (decide (y80 < (((Sl.cut r70 1 0 (((r70).c : Int).toNat) ((r70).c))).n : Int))) rfl (fun hb86 => ?_) (fun hb86 => ?_)
  ·have h := hT hb86
   refine wp_ (nt (wc (fun ρ H_5 => Env.Is ρ [(0, (.pointer p0)), (3, (pp (bk H))), (4, (pp (bk H1))), (5, (Sl.v (Sl.cut r22 1 0 (((r22).c : Int).toNat) ((r22).c)))), (7, (Sl.v (Sl.cut r70 1 0 (((r70).c : Int).toNat) ((r70).c)))), (8, (iv y80))] ∧ F26_5 Q X4 p0 (bk H) (bk H1) (Sl.cut r22 1 0 (((r22).c : Int).toNat) ((r22).c)) (Sl.cut r70 1 0 (((r70).c : Int).toNat) ((r70).c)) y80 H_5) ?_ ?_))
   ·refine wb (ws (ws (wr_ (hv (v := iv y80) rfl (mv rfl) (hv (v := pp (Addr.add (bk H) 1)) rfl (fa runUnderlying43 rfl rfl sizeOf27 rfl) ?_)))))
    obtain ⟨x94, c93, h⟩ := h
    refine hv (v := Sl.v x94) rfl (l1 isAgg27 rfl c93) (hv (v := iv ((x94).n : Int)) rfl (HVal.len runUnderlying27 rfl) ?_)
    refine hv (v := bv (decide (((x94).n : Int) ≤ y80))) rfl (HVal.geq rfl rfl) (hn (nt ?_))
    obtain ⟨hT, hF⟩ := h
    refine wk (decide (((x94).n : Int) ≤ y80)) rfl (fun hb95 => ?_) (fun hb95 => ?_)
    ·have h := hT hb95
     refine ws (wr_ (hv (v := Sl.v (Sl.cut r70 1 0 (((r70).c : Int).toNat) ((r70).c))) rfl (mv rfl) (hv (v := iv y80) rfl (mv rfl) ?_)))
     refine hv (v := .agg (tR S_mark 0 Sl.nil).toArray) rfl (HVal.build' (cs := (tR S_mark 0 Sl.nil)) runUnderlying36 zeroValue36 places36 rfl) ?_
     refine ho rfl (HOp.buildSlice' (zs := (tR bE 0 Sl.nil)) (cs := (tR S_mark 0 Sl.nil)) runUnderlying49 sizeOf36 zeroValue36 (by decide) (by kernel_rfl) rfl (by decide)) ?_
     rintro _ H96 ⟨rfl, e97⟩
     replace h := h H96 e97
     obtain ⟨a98, e99, b100, b101, h⟩ := h
     refine hv (v := pp (Addr.add a98 (y80.toNat * 1))) rfl (ia runUnderlying27 sizeOf49 (Sl.v_some rfl e99) rfl b100 b101) ?_
     obtain ⟨z104, z105, h⟩ := h
     refine hq (HOp.store1 sizeOf49 rfl rfl rfl z104 z105) ?_
     rintro _ H102 e103
     replace h := h H102 e103
     refine hn (nt (we (te (be (nt ?_)))))
     exact ⟨(isp rfl), h⟩
    have h := hF hb95
    refine wp_ (nt (ws (wr_ (hv (v := .pointer p0) rfl (mv rfl) (hv (v := pp (Addr.add (bk H) 1)) rfl (fa runUnderlying43 rfl rfl sizeOf27 rfl) ?_)))))
    obtain ⟨x107, c106, h⟩ := h
    refine hv (v := Sl.v x107) rfl (l1 isAgg27 rfl c106) (hv (v := iv y80) rfl (mv rfl) ?_)
    obtain ⟨a108, e109, b110, b111, h⟩ := h
    refine hv (v := pp (Addr.add a108 (y80.toNat * 1))) rfl (ia runUnderlying27 sizeOf49 (Sl.v_some rfl e109) rfl b110 b111) ?_
    obtain ⟨x113, c112, h⟩ := h
    refine hv (v := Sl.v x113) rfl (l1 isAgg49 rfl c112) (ho rfl (HOp.call' 39 [(.pointer p0), (Sl.v x113)] (cap := []) rfl rfl call39 (walk39 h)) ?_)
    rintro _ H114 ⟨r116, rfl, h⟩
    refine hv (v := Sl.v r116) rfl (av rfl) (hn (nt (wr_ (hv (v := Sl.v (Sl.cut r70 1 0 (((r70).c : Int).toNat) ((r70).c))) rfl (mv rfl) ?_))))
    refine hv (v := iv y80) rfl (mv rfl) (hv (v := Sl.v r116) rfl (mv rfl) ?_)
    obtain ⟨a117, e118, b119, b120, h⟩ := h
    refine hv (v := pp (Addr.add a117 (y80.toNat * 1))) rfl (ia runUnderlying27 sizeOf49 (Sl.v_some rfl e118) rfl b119 b120) ?_
    obtain ⟨z123, z124, h⟩ := h
    refine hq (HOp.store1 sizeOf49 rfl rfl rfl z123 z124) ?_
    rintro _ H121 e122
    replace h := h H121 e122
    refine hn (nb (nt ?_))
    exact ⟨(isp rfl), h⟩
   rintro ρ H_5 ⟨hI, h⟩
   obtain ⟨ρ0, rfl⟩ := hI.ex
   clear hI; unfold F26_5 at h
   refine wr_ (hv (v := iv y80) rfl (mv rfl) (hv (v := iv (IntKind.i64.wrap (y80 + 1))) rfl (HVal.add rfl rfl) (hv (v := iv (IntKind.i64.wrap (y80 + 1))) rfl (av rfl) ?_)))
   refine hn (nt ?_)
   exact (hX4 _ _).1 h _ (isp rfl)
  have h := hF hb86
  refine we (te (te (be (nt ?_))))
  exact ⟨(isp rfl), h⟩
 rintro ρ H_3 ⟨hI, h⟩
 obtain ⟨ρ0, rfl⟩ := hI.ex
 clear hI; unfold F26_3 at h
 refine ws (wr_ (hv (v := .pointer p0) rfl (mv rfl) (hv (v := Sl.v (Sl.cut r70 1 0 (((r70).c : Int).toNat) ((r70).c))) rfl (mv rfl) ?_)))
 obtain ⟨a125, e126, h⟩ := h
 refine hv (v := pp a125) rfl (HVal.nilCheck (congrArg Value.pointer e126)) (hv (v := pp (Addr.add a125 5)) rfl (fa runUnderlying32 rfl rfl sizeOf27 rfl) ?_)
 obtain ⟨z129, z130, h⟩ := h
 refine hq (HOp.store1 sizeOf27 rfl rfl rfl z129 z130) ?_
 rintro _ H127 e128
 replace h := h H127 e128
 refine hn (nt (ws (wr_ (hv (v := Sl.v (Sl.cut r22 1 0 (((r22).c : Int).toNat) ((r22).c))) rfl (mv rfl) (hv (v := pp (bk H)) rfl (HVal.fieldAddr0 runUnderlying43 rfl rfl sizeOf29 rfl) ?_)))))
 obtain ⟨x132, c131, h⟩ := h
 refine hv (v := Sl.v x132) rfl (l1 isAgg29 rfl c131) (hv (v := iv ((x132).n : Int)) rfl (HVal.len runUnderlying29 rfl) ?_)
 obtain ⟨z133, z134, z135, z136, h⟩ := h
 refine hv (v := Sl.v (Sl.cut (Sl.cut r22 1 0 (((r22).c : Int).toNat) ((r22).c)) 1 0 (((x132).n : Int).toNat) (((Sl.cut r22 1 0 (((r22).c : Int).toNat) ((r22).c))).c))) rfl (HVal.slice _ _ _ runUnderlying29 sizeOf9 rfl rfl ⟨_, _, rfl, z133, rfl⟩ rfl (by decide) z134 z135 z136) ?_
 refine hv (v := pp (bk H)) rfl (HVal.fieldAddr0 runUnderlying43 rfl rfl sizeOf29 rfl) ?_
 obtain ⟨z139, z140, h⟩ := h
 refine hq (HOp.store1 sizeOf29 rfl rfl rfl z139 z140) ?_
 rintro _ H137 e138
 replace h := h H137 e138
 refine hn (nt (ws (wr_ (hv (v := Sl.v (Sl.cut r70 1 0 (((r70).c : Int).toNat) ((r70).c))) rfl (mv rfl) (hv (v := pp (Addr.add (bk H) 1)) rfl (fa runUnderlying43 rfl rfl sizeOf27 rfl) ?_)))))
 obtain ⟨x142, c141, h⟩ := h
 refine hv (v := Sl.v x142) rfl (l1 isAgg27 rfl c141) (hv (v := iv ((x142).n : Int)) rfl (HVal.len runUnderlying27 rfl) ?_)
 obtain ⟨z143, z144, z145, z146, h⟩ := h
 refine hv (v := Sl.v (Sl.cut (Sl.cut r70 1 0 (((r70).c : Int).toNat) ((r70).c)) 1 0 (((x142).n : Int).toNat) (((Sl.cut r70 1 0 (((r70).c : Int).toNat) ((r70).c))).c))) rfl (HVal.slice _ _ _ runUnderlying27 sizeOf49 rfl rfl ⟨_, _, rfl, z143, rfl⟩ rfl (by decide) z144 z145 z146) ?_
 refine hv (v := pp (Addr.add (bk H) 1)) rfl (fa runUnderlying43 rfl rfl sizeOf27 rfl) ?_
 obtain ⟨z149, z150, h⟩ := h
 refine hq (HOp.store1 sizeOf27 rfl rfl rfl z149 z150) ?_
 rintro _ H147 e148
 replace h := h H147 e148
 refine hn (nt (ws (wr_ (hv (v := .pointer p0) rfl (mv rfl) (hv (v := pp (Addr.add (bk H) 3)) rfl (fa runUnderlying43 rfl rfl sizeOf36 rfl) ?_)))))
 obtain ⟨x152, x153, x154, c151, h⟩ := h
 refine hv (v := .agg (tR x152 x153 x154).toArray) rfl (ln (tR x152 x153 x154) isAgg36 sizeOf36 rfl c151) (ho rfl (HOp.call' 27 [(.pointer p0), (.agg (tR x152 x153 x154).toArray)] (cap := []) rfl rfl call27 (walk27 h)) ?_)
 rintro _ H155 ⟨r157, r158, r159, rfl, h⟩
 refine hv (v := pp (Addr.add (bk H) 3)) rfl (fa runUnderlying43 rfl rfl sizeOf36 rfl) ?_
 obtain ⟨z162, h⟩ := h
 refine hq (HOp.storeN' (l := (tR r157 r158 r159)) sizeOf36 rfl rfl rfl z162) ?_
 rintro _ H160 e161
 replace h := h H160 e161
 refine hn (nt (ws (wr_ (hv (v := .pointer p0) rfl (mv rfl) (hv (v := pp (Addr.add (bk H) 6)) rfl (fa runUnderlying43 rfl rfl sizeOf30 rfl) ?_)))))
 obtain ⟨x164, c163, h⟩ := h
 refine hv (v := Sl.v x164) rfl (l1 isAgg30 rfl c163) (ho rfl (HOp.call' 40 [(.pointer p0), (Sl.v x164)] (cap := []) rfl rfl call40 (walk40 h)) ?_)
 rintro _ H165 ⟨r167, rfl, h⟩
 refine hv (v := pp (Addr.add (bk H) 6)) rfl (fa runUnderlying43 rfl rfl sizeOf30 rfl) ?_
 obtain ⟨z170, z171, h⟩ := h
 refine hq (HOp.store1 sizeOf30 rfl rfl rfl z170 z171) ?_
 rintro _ H168 e169
 replace h := h H168 e169
 refine hn (nt (ws (wr_ ?_)))
 obtain ⟨x173, x174, x175, x176, x177, x178, x179, c172, h⟩ := h
 refine hv (v := .agg (xR x173 x174 x175 x176 x177 x178 x179).toArray) rfl (ln (xR x173 x174 x175 x176 x177 x178 x179) isAgg43 sizeOf43 rfl c172) ?_
 obtain ⟨z182, h⟩ := h
 refine hq (HOp.storeN' (l := (xR x173 x174 x175 x176 x177 x178 x179)) sizeOf43 rfl rfl rfl z182) ?_
 rintro _ H180 e181
 replace h := h H180 e181
 refine hn (nt (HW.ret ?_))
 obtain ⟨x183, x184, x185, x186, x187, x188, x189, c190, h⟩ := h
 exact ⟨_, resOf1 rfl (Res1.n (xR x183 x184 x185 x186 x187 x188 x189) isAgg43 sizeOf43 rfl c190), ⟨x183, x184, x185, x186, x187, x188, x189, rfl, h⟩⟩

def F49_3 (Q : ZQB) (X2 : ZQI) (y22 : Sl) (y23 : Int) (y24 : Sl) (y25 : Int) (y26 : Addr) (H_3 : Hp) : Prop :=
∃ a40, (y24).b = some a40 ∧ (0 : Int) ≤ y25 ∧ y25 < ((y24).n : Int) ∧ (
 ∃ x45 x46 x47 x48, cells H_3 (Addr.add a40 (y25.toNat * 4)) (vR x45 x46 x47 x48) 0 ∧ (
 ∃ x50 x51 x52 x53, cells H_3 y26 (vR x50 x51 x52 x53) 0 ∧ (
 ((!(decide (x45 = x50) && (decide (x46 = x51) && (seq x47 x52 && (x48 == x53))))) = true → (Q false H_3)) ∧
 ((!(decide (x45 = x50) && (decide (x46 = x51) && (seq x47 x52 && (x48 == x53))))) = false → (X2 (IntKind.i64.wrap (y25 + 1)) H_3)))))
def F49_L2b (Q : ZQB) (X2 : ZQI) (y13 : Sl) (y14 : Int) (y15 : Sl) (y12 : Int) (H_2 : Hp) : Prop :=
((decide (y12 < ((y15).n : Int))) = true → (∀ H17, H17 = Array.push H_2 (.cells (vR 0 0 bE false).toArray 38) → (
 mayw H17 (bk H_2) 4 0 ∧ ∀ H19, H19 = sets H17 (bk H_2) (vR (IntKind.i64.wrap (77 + y12)) 0 bE false) 0 → (
 (decide (y12 < y14) = true → (∃ a28, (y13).b = some a28 ∧ (0 : Int) ≤ y12 ∧ y12 < ((y13).n : Int) ∧ (
 ∃ x33 x34 x35 x36, cells H19 (Addr.add a28 (y12.toNat * 4)) (vR x33 x34 x35 x36) 0 ∧ (
 mayw H19 (bk H_2) 4 0 ∧ ∀ H37, H37 = sets H19 (bk H_2) (vR x33 x34 x35 x36) 0 → (
 F49_3 Q X2 y13 y14 y15 y12 (bk H_2) H37))))) ∧
 (decide (y12 < y14) = false → (F49_3 Q X2 y13 y14 y15 y12 (bk H_2) H19)))))) ∧
 ((decide (y12 < ((y15).n : Int))) = false → (Q true H_2))
def F49_L2 (Q : ZQB) (y13 : Sl) (y14 : Int) (y15 : Sl) (y12 : Int) (H_2 : Hp) : Prop :=
 ∀ X2 : ZQI, (∀ (y12 : Int) (H_2 : Hp), F49_L2b Q X2 y13 y14 y15 y12 H_2 → X2 y12 H_2) → X2 y12 H_2
def F49_1 (Q : ZQB) (y1 y2 : Sl) (y3 : Int) (y6 : Bool) (H_1 : Hp) : Prop :=
(y6 = true → (Q false H_1)) ∧
 (y6 = false → ((0 : Int) ≤ ((y2).c : Int) ∧ 0 ≤ ((y2).c : Int).toNat ∧ ((y2).c : Int).toNat ≤ (y2).c ∧ (y2).c ≤ (y2).c ∧ (
 F49_L2 Q y1 y3 (Sl.cut y2 4 0 (((y2).c : Int).toNat) ((y2).c)) 0 H_1)))
def F49 (p0 p1 : Sl) (H : Hp) (Q : ZQB) : Prop :=
((decide (((p1).n : Int) ≠ ((p0).n : Int))) = true → (F49_1 Q p0 p1 ((p0).n : Int) true H)) ∧
 ((decide (((p1).n : Int) ≠ ((p0).n : Int))) = false → (F49_1 Q p0 p1 ((p0).n : Int) (decide (((p1).c : Int) ≤ ((p0).n : Int))) H))
theorem walk49 {w0 : World} {p0 p1 : Sl} {H : Hp} {Q : ZQB} (h : F49 p0 p1 H Q) :
  Good prog w0 49 #[(Sl.v p0), (Sl.v p1)] H (fun v H => ∃ r0, v = (bv r0) ∧ Q r0 H) := by
 unfold F49 at h
 refine Good.enter' (fn := f49) func49 rfl rfl rfl (ws (wr_ (hv (v := bv false) rfl (av rfl) (hn (nt (ws ?_))))))
 refine wr_ (hv (v := Sl.v p0) rfl (mv rfl) (hv (v := iv ((p0).n : Int)) rfl (HVal.len runUnderlying34 rfl) (hv (v := iv ((p0).n : Int)) rfl (av rfl) ?_)))
 refine hn (nt (ws (wc (fun ρ H_1 => ∃ y6, Env.Is ρ [(0, (Sl.v p0)), (1, (Sl.v p1)), (5, (iv ((p0).n : Int))), (20, (bv y6))] ∧ F49_1 Q p0 p1 ((p0).n : Int) y6 H_1) ?_ ?_)))
 ·refine wr_ (hv (v := Sl.v p1) rfl (mv rfl) (hv (v := iv ((p1).n : Int)) rfl (HVal.len runUnderlying34 rfl) (hv (v := iv ((p0).n : Int)) rfl (mv rfl) ?_)))
  refine hv (v := bv (decide (((p1).n : Int) ≠ ((p0).n : Int)))) rfl (HVal.neqI rfl rfl) (hv (v := bv (decide (((p1).n : Int) ≠ ((p0).n : Int)))) rfl (mv rfl) ?_)
  obtain ⟨hT, hF⟩ := h
  rcases Bool.eq_false_or_eq_true (decide (((p1).n : Int) ≠ ((p0).n : Int))) with hb4 | hb5
  ·have h := hT hb4
   refine hs_ rfl rfl rfl rfl (cB hb4) (hs_ rfl rfl rfl rfl (cB hb4) (hs_ rfl rfl rfl rfl (cB hb4) (hs_ rfl rfl rfl rfl (cB hb4) ?_)))
   refine hv (v := bv true) rfl (pt_ rfl hb4 rfl) (hn (nt ?_))
   exact ⟨true, (isp rfl), h⟩
  have h := hF hb5
  refine hg (v := Sl.v p1) rfl rfl rfl rfl (cB hb5) (mv rfl) (hg (v := iv ((p1).c : Int)) rfl rfl rfl rfl (cB hb5) (HVal.cap runUnderlying34 rfl) ?_)
  refine hg (v := iv ((p0).n : Int)) rfl rfl rfl rfl (cB hb5) (mv rfl) (hg (v := bv (decide (((p1).c : Int) ≤ ((p0).n : Int)))) rfl rfl rfl rfl (cB hb5) (HVal.leq rfl rfl) ?_)
  refine hv (v := bv (decide (((p1).c : Int) ≤ ((p0).n : Int)))) rfl (pf_ rfl hb5 rfl) (hn (nt ?_))
  exact ⟨(decide (((p1).c : Int) ≤ ((p0).n : Int))), (isp rfl), h⟩
 rintro ρ H_1 ⟨y6, hI, h⟩
 obtain ⟨ρ0, rfl⟩ := hI.ex
 clear hI; unfold F49_1 at h
 obtain ⟨hT, hF⟩ := h
 refine wk y6 rfl (fun hb7 => ?_) (fun hb7 => ?_)
 ·have h := hT hb7
  refine ws (wr_ (hv (v := bv false) rfl (av rfl) (hn (nt (HW.ret (tr ?_))))))
  exact ⟨_, resOf1 rfl Res1.t, ⟨false, rfl, h⟩⟩
 have h := hF hb7
 refine wp_ (nt (ws (wr_ (hv (v := Sl.v p1) rfl (mv rfl) (hv (v := Sl.v p1) rfl (mv rfl) (hv (v := iv ((p1).c : Int)) rfl (HVal.cap runUnderlying34 rfl) ?_))))))
 obtain ⟨z8, z9, z10, z11, h⟩ := h
 refine hv (v := Sl.v (Sl.cut p1 4 0 (((p1).c : Int).toNat) ((p1).c))) rfl (HVal.slice _ _ _ runUnderlying34 sizeOf38 rfl rfl ⟨_, _, rfl, z8, rfl⟩ rfl (by decide) z9 z10 z11) ?_
 refine hv (v := Sl.v (Sl.cut p1 4 0 (((p1).c : Int).toNat) ((p1).c))) rfl (av rfl) (hn (nt (ws (ws (wr_ (hv (v := iv 0) rfl (av rfl) ?_))))))
 refine hn (nt (wb (HW.loop' (fun L2 hL2 => ?_))))
 obtain ⟨X2, hX2⟩ : ∃ X2 : ZQI, ∀ (y12 : Int) (H_2 : Hp), X2 y12 H_2 ↔ ∀ ρ, Env.Is ρ [(0, (Sl.v p0)), (5, (iv ((p0).n : Int))), (6, (Sl.v (Sl.cut p1 4 0 (((p1).c : Int).toNat) ((p1).c)))), (7, (iv y12))] → L2 ρ H_2 := ⟨_, fun _ _ => Iff.rfl⟩
 refine (hX2 _ _).1 (h X2 ?_) _ ?_
 rotate_left
 ·exact (isp rfl)
 clear h
 intro y12 H_2 h
 refine (hX2 _ _).2 fun ρ hI => ?_
 obtain ⟨ρ0, rfl⟩ := hI.ex
 clear hI; unfold F49_L2b at h; refine hL2 _ _ ?_
 refine ws (ws (wr_ (hv (v := iv y12) rfl (mv rfl) (hv (v := Sl.v (Sl.cut p1 4 0 (((p1).c : Int).toNat) ((p1).c))) rfl (mv rfl) ?_))))
 refine hv (v := iv (((Sl.cut p1 4 0 (((p1).c : Int).toNat) ((p1).c))).n : Int)) rfl (HVal.len runUnderlying34 rfl) (hv (v := bv (decide (y12 < (((Sl.cut p1 4 0 (((p1).c : Int).toNat) ((p1).c))).n : Int)))) rfl (HVal.lss rfl rfl) ?_)
 refine hn (nt ?_)
 obtain ⟨hT, hF⟩ := h
 refine wk (decide (y12 < (((Sl.cut p1 4 0 (((p1).c : Int).toNat) ((p1).c))).n : Int))) rfl (fun hb16 => ?_) (fun hb16 => ?_)
 ·have h := hT hb16
  refine wp_ (nt (ws (wb (ws (wr_ (hv (v := iv y12) rfl (mv rfl) (hv (v := iv (IntKind.i64.wrap (77 + y12))) rfl (HVal.add rfl rfl) ?_)))))))
  refine hv (v := .agg (vR (IntKind.i64.wrap (77 + y12)) 0 bE false).toArray) rfl (HVal.build' (cs := (vR (IntKind.i64.wrap (77 + y12)) 0 bE false)) runUnderlying38 zeroValue38 places38 rfl) ?_
  refine ho rfl (HOp.alloc zeroValue38) ?_
  rintro _ H17 ⟨rfl, e18⟩
  replace h := h H17 e18
  obtain ⟨z21, h⟩ := h
  refine hq (HOp.storeN' (l := (vR (IntKind.i64.wrap (77 + y12)) 0 bE false)) sizeOf38 rfl rfl rfl z21) ?_
  rintro _ H19 e20
  replace h := h H19 e20
  refine hn (nt (wc (fun ρ H_3 => Env.Is ρ [(0, (Sl.v p0)), (5, (iv ((p0).n : Int))), (6, (Sl.v (Sl.cut p1 4 0 (((p1).c : Int).toNat) ((p1).c)))), (7, (iv y12)), (8, (pp (bk H_2)))] ∧ F49_3 Q X2 p0 ((p0).n : Int) (Sl.cut p1 4 0 (((p1).c : Int).toNat) ((p1).c)) y12 (bk H_2) H_3) ?_ ?_))
  ·refine ws (wr_ (hv (v := iv y12) rfl (mv rfl) (hv (v := iv ((p0).n : Int)) rfl (mv rfl) (hv (v := bv (decide (y12 < ((p0).n : Int)))) rfl (HVal.lss rfl rfl) ?_))))
   refine hn (nt ?_)
   obtain ⟨hT, hF⟩ := h
   refine wk (decide (y12 < ((p0).n : Int))) rfl (fun hb27 => ?_) (fun hb27 => ?_)
   ·have h := hT hb27
    refine wr_ (hv (v := Sl.v p0) rfl (mv rfl) (hv (v := iv y12) rfl (mv rfl) ?_))
    obtain ⟨a28, e29, b30, b31, h⟩ := h
    refine hv (v := pp (Addr.add a28 (y12.toNat * 4))) rfl (ia runUnderlying34 sizeOf38 (Sl.v_some rfl e29) rfl b30 b31) ?_
    obtain ⟨x33, x34, x35, x36, c32, h⟩ := h
    refine hv (v := .agg (vR x33 x34 x35 x36).toArray) rfl (ln (vR x33 x34 x35 x36) isAgg38 sizeOf38 rfl c32) ?_
    obtain ⟨z39, h⟩ := h
    refine hq (HOp.storeN' (l := (vR x33 x34 x35 x36)) sizeOf38 rfl rfl rfl z39) ?_
    rintro _ H37 e38
    replace h := h H37 e38
    refine hn (nt ?_)
    exact ⟨(isp rfl), h⟩
   have h := hF hb27
   refine wp_ (nt ?_)
   exact ⟨(isp rfl), h⟩
  rintro ρ H_3 ⟨hI, h⟩
  obtain ⟨ρ0, rfl⟩ := hI.ex
  clear hI; unfold F49_3 at h
  refine ws (HW.draw mixed [(0, some []), (1, some []), (2, some []), (3, some []), (4, some []), (5, some [])] rfl (by kernel_rfl) (by kernel_rfl) (pv (v := Sl.v (Sl.cut p1 4 0 (((p1).c : Int).toNat) ((p1).c))) rfl rfl (fun _ => mv rfl) ?_))
  refine pv (v := iv y12) rfl rfl (fun _ => mv rfl) ?_
  obtain ⟨a40, e41, b42, b43, h⟩ := h
  refine pv (v := pp (Addr.add a40 (y12.toNat * 4))) rfl rfl (fun _ => ia runUnderlying34 sizeOf38 (Sl.v_some rfl e41) rfl b42 b43) ?_
  obtain ⟨x45, x46, x47, x48, c44, h⟩ := h
  refine pl (v := .agg (vR x45 x46 x47 x48).toArray) (fun X => cells X (Addr.add a40 (y12.toNat * 4)) (vR x45 x46 x47 x48) 0) rfl rfl (fun _ hX => ln (vR x45 x46 x47 x48) isAgg38 sizeOf38 rfl hX) c44 ?_
  obtain ⟨x50, x51, x52, x53, c49, h⟩ := h
  refine pl (v := .agg (vR x50 x51 x52 x53).toArray) (fun X => cells X (bk H_2) (vR x50 x51 x52 x53) 0) rfl rfl (fun _ hX => ln (vR x50 x51 x52 x53) isAgg38 sizeOf38 rfl hX) c49 ?_
  refine pv (v := bv (!(decide (x45 = x50) && (decide (x46 = x51) && (seq x47 x52 && (x48 == x53)))))) rfl rfl (fun _ => eqs38_neq rfl rfl) (HPlan.done ?_)
  refine nt ?_
  obtain ⟨hT, hF⟩ := h
  refine wk (!(decide (x45 = x50) && (decide (x46 = x51) && (seq x47 x52 && (x48 == x53))))) rfl (fun hb54 => ?_) (fun hb54 => ?_)
  ·have h := hT hb54
   refine ws (wr_ (hv (v := bv false) rfl (av rfl) (hn (nt (HW.ret (br (tr (tr (br (tr ?_))))))))))
   exact ⟨_, resOf1 rfl Res1.t, ⟨false, rfl, h⟩⟩
  have h := hF hb54
  refine wp_ (nb (nt (wr_ (hv (v := iv y12) rfl (mv rfl) (hv (v := iv (IntKind.i64.wrap (y12 + 1))) rfl (HVal.add rfl rfl) ?_)))))
  refine hv (v := iv (IntKind.i64.wrap (y12 + 1))) rfl (av rfl) (hn (nt ?_))
  exact (hX2 _ _).1 h _ (isp rfl)
 have h := hF hb16
 refine we (te (te (be (nt (ws (wr_ (hv (v := bv true) rfl (av rfl) (hn (nt (HW.ret ?_))))))))))
 exact ⟨_, resOf1 rfl Res1.t, ⟨true, rfl, h⟩⟩

def F30 (p0_0 : ByteArray) (p0_1 : Int) (p0_2 : Sl) (p1_0 : ByteArray) (p1_1 : Int) (p1_2 : Sl) (H : Hp) (Q : ZQB) : Prop :=
∀ H1, H1 = Array.push H (.cells (tR p0_0 p0_1 p0_2).toArray 36) → (
 ∀ H3, H3 = Array.push H1 (.cells (tR p1_0 p1_1 p1_2).toArray 36) → (
 ∃ x6, cell H3 (bk H) = some (sv x6) ∧ (
 ∃ x8, cell H3 (bk H1) = some (sv x8) ∧ (
 ((seq x6 x8) = true → (∃ x12, cell H3 (Addr.add (bk H) 1) = some (iv x12) ∧ (
 ∃ x14, cell H3 (Addr.add (bk H1) 1) = some (iv x14) ∧ (
 (decide (x12 = x14) = true → (∃ x18, cell H3 (Addr.add (bk H) 2) = some (Sl.v x18) ∧ (
 ∃ x20, cell H3 (Addr.add (bk H1) 2) = some (Sl.v x20) ∧ (
 F49 x18 x20 H3 (fun r23 H21 =>
 Q r23 H21))))) ∧
 (decide (x12 = x14) = false → (Q false H3)))))) ∧
 ((seq x6 x8) = false → (Q false H3))))))
theorem walk30 {w0 : World} {p0_0 : ByteArray} {p0_1 : Int} {p0_2 : Sl} {p1_0 : ByteArray} {p1_1 : Int} {p1_2 : Sl} {H : Hp} {Q : ZQB} (h : F30 p0_0 p0_1 p0_2 p1_0 p1_1 p1_2 H Q) :
  Good prog w0 30 #[(.agg (tR p0_0 p0_1 p0_2).toArray), (.agg (tR p1_0 p1_1 p1_2).toArray)] H (fun v H => ∃ r0, v = (bv r0) ∧ Q r0 H) := by
 unfold F30 at h
 refine Good.enter' (fn := f30) func30 rfl rfl rfl (ws (wr_ (ho rfl (ob (v := .agg (tR p0_0 p0_1 p0_2).toArray) rfl) ?_)))
 rintro _ H1 ⟨rfl, e2⟩
 replace h := h H1 e2
 refine ho rfl (ob (v := .agg (tR p1_0 p1_1 p1_2).toArray) rfl) ?_
 rintro _ H3 ⟨rfl, e4⟩
 replace h := h H3 e4
 refine hv (v := bv false) rfl (av rfl) (hn (nt (ws (wr_ (hv (v := pp (bk H)) rfl (HVal.fieldAddr0 runUnderlying36 rfl rfl sizeOf9 rfl) ?_)))))
 obtain ⟨x6, c5, h⟩ := h
 refine hv (v := sv x6) rfl (l1 isAgg9 rfl c5) (hv (v := pp (bk H1)) rfl (HVal.fieldAddr0 runUnderlying36 rfl rfl sizeOf9 rfl) ?_)
 obtain ⟨x8, c7, h⟩ := h
 refine hv (v := sv x8) rfl (l1 isAgg9 rfl c7) (hv (v := bv (seq x6 x8)) rfl (HVal.eqlS rfl rfl) (hv (v := bv (seq x6 x8)) rfl (mv rfl) ?_))
 obtain ⟨hT, hF⟩ := h
 rcases Bool.eq_false_or_eq_true (seq x6 x8) with hb9 | hb10
 ·have h := hT hb9
  refine hg (v := pp (Addr.add (bk H) 1)) rfl rfl rfl rfl (cB hb9) (fa runUnderlying36 rfl rfl sizeOf2 rfl) ?_
  obtain ⟨x12, c11, h⟩ := h
  refine hg (v := iv x12) rfl rfl rfl rfl (cB hb9) (l1 isAgg2 rfl c11) (hg (v := pp (Addr.add (bk H1) 1)) rfl rfl rfl rfl (cB hb9) (fa runUnderlying36 rfl rfl sizeOf2 rfl) ?_)
  obtain ⟨x14, c13, h⟩ := h
  refine hg (v := iv x14) rfl rfl rfl rfl (cB hb9) (l1 isAgg2 rfl c13) (hg (v := bv (decide (x12 = x14))) rfl rfl rfl rfl (cB hb9) (HVal.eqlI rfl rfl) ?_)
  refine hv (v := bv (decide (x12 = x14))) rfl (pt_ rfl hb9 rfl) (hv (v := bv (decide (x12 = x14))) rfl (mv rfl) ?_)
  obtain ⟨hT, hF⟩ := h
  rcases Bool.eq_false_or_eq_true (decide (x12 = x14)) with hb15 | hb16
  ·have h := hT hb15
   refine hg (v := pp (Addr.add (bk H) 2)) rfl rfl rfl rfl (cB hb15) (fa runUnderlying36 rfl rfl sizeOf34 rfl) ?_
   obtain ⟨x18, c17, h⟩ := h
   refine hg (v := Sl.v x18) rfl rfl rfl rfl (cB hb15) (l1 isAgg34 rfl c17) (hg (v := pp (Addr.add (bk H1) 2)) rfl rfl rfl rfl (cB hb15) (fa runUnderlying36 rfl rfl sizeOf34 rfl) ?_)
   obtain ⟨x20, c19, h⟩ := h
   refine hg (v := Sl.v x20) rfl rfl rfl rfl (cB hb15) (l1 isAgg34 rfl c19) (HList.gops rfl rfl rfl rfl (cB hb15) (HOp.call' 49 [(Sl.v x18), (Sl.v x20)] (cap := []) rfl rfl call49 (walk49 h)) ?_)
   rintro _ H21 ⟨r23, rfl, h⟩
   refine hv (v := bv r23) rfl (pt_ rfl hb15 rfl) (hv (v := bv r23) rfl (av rfl) (hn (nt (HW.ret ?_))))
   exact ⟨_, resOf1 rfl Res1.t, ⟨r23, rfl, h⟩⟩
  have h := hF hb16
  refine hs_ rfl rfl rfl rfl (cB hb16) (hs_ rfl rfl rfl rfl (cB hb16) (hs_ rfl rfl rfl rfl (cB hb16) (hs_ rfl rfl rfl rfl (cB hb16) ?_)))
  refine hs_ rfl rfl rfl rfl (cB hb16) (hv (v := bv false) rfl (pf_ rfl hb16 rfl) (hv (v := bv false) rfl (av rfl) ?_))
  refine hn (nt (HW.ret ?_))
  exact ⟨_, resOf1 rfl Res1.t, ⟨false, rfl, h⟩⟩
 have h := hF hb10
 refine hs_ rfl rfl rfl rfl (cB hb10) (hs_ rfl rfl rfl rfl (cB hb10) (hs_ rfl rfl rfl rfl (cB hb10) (hs_ rfl rfl rfl rfl (cB hb10) ?_)))
 refine hs_ rfl rfl rfl rfl (cB hb10) (hv (v := bv false) rfl (pf_ rfl hb10 rfl) (hv (v := bv false) rfl (mv rfl) ?_))
 refine hs_ rfl rfl rfl rfl rfl (hs_ rfl rfl rfl rfl rfl (hs_ rfl rfl rfl rfl rfl (hs_ rfl rfl rfl rfl rfl (hs_ rfl rfl rfl rfl rfl ?_))))
 refine hv (v := bv false) rfl (pf_ rfl rfl rfl) (hv (v := bv false) rfl (av rfl) (hn (nt (HW.ret ?_))))
 exact ⟨_, resOf1 rfl Res1.t, ⟨false, rfl, h⟩⟩

def F31_5 (X : (Option Addr) → Sl → Hp → (Sl → Hp → Prop) → Prop) (Q : Sl → Hp → Prop) (y100 : Int) (y101 : Sl) (H_5 : Hp) : Prop :=
(0 : Int) ≤ y100 ∧ 0 ≤ y100.toNat ∧ y100.toNat ≤ (y101).c ∧ (y101).c ≤ (y101).c ∧ (
 Q (Sl.cut y101 10 0 y100.toNat ((y101).c)) H_5)
def F31_L6b (X : (Option Addr) → Sl → Hp → (Sl → Hp → Prop) → Prop) (Q : Sl → Hp → Prop) (X6 : ZQI) (y103 : (Option Addr)) (y104 : Sl) (y105 : Int) (y106 : Sl) (y102 : Int) (H_6 : Hp) : Prop :=
(decide (y102 < y105) = true → (∃ a108, (y104).b = some a108 ∧ (0 : Int) ≤ y102 ∧ y102 < ((y104).n : Int) ∧ (
 ∃ x113, cell H_6 (Addr.add (Addr.add a108 (y102.toNat * 10)) 9) = some (Sl.v x113) ∧ (
 X y103 x113 H_6 (fun r116 H114 =>
 ∃ a117, (y106).b = some a117 ∧ (0 : Int) ≤ y102 ∧ y102 < ((y106).n : Int) ∧ (
 (cell H114 (Addr.add (Addr.add a117 (y102.toNat * 10)) 9)).isSome = true ∧ frz H114 (Addr.add (Addr.add a117 (y102.toNat * 10)) 9) = false ∧ ∀ H121, H121 = setc H114 (Addr.add (Addr.add a117 (y102.toNat * 10)) 9) (Sl.v r116) → (
 X6 (IntKind.i64.wrap (y102 + 1)) H121))))))) ∧
 (decide (y102 < y105) = false → (F31_5 X Q y105 y106 H_6))
def F31_L6 (X : (Option Addr) → Sl → Hp → (Sl → Hp → Prop) → Prop) (Q : Sl → Hp → Prop) (y103 : (Option Addr)) (y104 : Sl) (y105 : Int) (y106 : Sl) (y102 : Int) (H_6 : Hp) : Prop :=
 ∀ X6 : ZQI, (∀ (y102 : Int) (H_6 : Hp), F31_L6b X Q X6 y103 y104 y105 y106 y102 H_6 → X6 y102 H_6) → X6 y102 H_6
def F31_3 (X : (Option Addr) → Sl → Hp → (Sl → Hp → Prop) → Prop) (Q : Sl → Hp → Prop) (y69 : (Option Addr)) (y70 : Sl) (y71 y72 : Int) (y73 : Sl) (H_3 : Hp) : Prop :=
∃ a88, y69 = some a88 ∧ (
 ∃ x91, cell H_3 a88 = some (Sl.v x91) ∧ (
 ∃ a92, (x91).b = some a92 ∧ (0 : Int) ≤ y71 ∧ y71 < ((x91).n : Int) ∧ (
 (cell H_3 (Addr.add a92 (y71.toNat * 1))).isSome = true ∧ frz H_3 (Addr.add a92 (y71.toNat * 1)) = false ∧ ∀ H96, H96 = setc H_3 (Addr.add a92 (y71.toNat * 1)) (Sl.v y73) → (
 F31_L6 X Q y69 y70 y72 y73 0 H96))))
def F31_L4b (X : (Option Addr) → Sl → Hp → (Sl → Hp → Prop) → Prop) (Q : Sl → Hp → Prop) (X4 : ZQI) (y75 : (Option Addr)) (y76 : Sl) (y77 y78 : Int) (y79 : Sl) (y74 : Int) (H_4 : Hp) : Prop :=
((decide (y74 < ((y79).n : Int))) = true → (∃ a81, (y79).b = some a81 ∧ (0 : Int) ≤ y74 ∧ y74 < ((y79).n : Int) ∧ (
 mayw H_4 (Addr.add a81 (y74.toNat * 10)) 10 0 ∧ ∀ H85, H85 = sets H_4 (Addr.add a81 (y74.toNat * 10)) (eR (IntKind.i64.wrap (77 + y74)) 0 0 0 bE false bE 0 bE Sl.nil) 0 → (
 X4 (IntKind.i64.wrap (y74 + 1)) H85)))) ∧
 ((decide (y74 < ((y79).n : Int))) = false → (F31_3 X Q y75 y76 y77 y78 y79 H_4))
def F31_L4 (X : (Option Addr) → Sl → Hp → (Sl → Hp → Prop) → Prop) (Q : Sl → Hp → Prop) (y75 : (Option Addr)) (y76 : Sl) (y77 y78 : Int) (y79 : Sl) (y74 : Int) (H_4 : Hp) : Prop :=
 ∀ X4 : ZQI, (∀ (y74 : Int) (H_4 : Hp), F31_L4b X Q X4 y75 y76 y77 y78 y79 y74 H_4 → X4 y74 H_4) → X4 y74 H_4
def F31_2 (X : (Option Addr) → Sl → Hp → (Sl → Hp → Prop) → Prop) (Q : Sl → Hp → Prop) (y48 : (Option Addr)) (y49 : Sl) (y50 y51 : Int) (y53 : Sl) (H_2 : Hp) : Prop :=
0 ≤ (0 : Int).toNat ∧ (0 : Int).toNat ≤ (y53).c ∧ (y53).c ≤ (y53).c ∧ (
 AppendF H_2 41 10 120 zR.toArray (Sl.cut y53 10 0 ((0 : Int).toNat) ((y53).c)) (y49).b (y49).n (fun r59 H57 =>
 ∀ H60, H60 = Array.push H57 (.cells zR.toArray 41) → (
 AppendF H60 41 10 120 zR.toArray r59 ((Sl.mk (some (bk H57)) 1 1)).b ((Sl.mk (some (bk H57)) 1 1)).n (fun r64 H62 =>
 (0 : Int) ≤ ((r64).c : Int) ∧ 0 ≤ ((r64).c : Int).toNat ∧ ((r64).c : Int).toNat ≤ (r64).c ∧ (r64).c ≤ (r64).c ∧ (
 F31_L4 X Q y48 y49 y50 y51 (Sl.cut r64 10 0 (((r64).c : Int).toNat) ((r64).c)) y51 H62)))))
def F31_1 (X : (Option Addr) → Sl → Hp → (Sl → Hp → Prop) → Prop) (Q : Sl → Hp → Prop) (y15 : (Option Addr)) (y16 : Sl) (y17 : Int) (H_1 : Hp) : Prop :=
∃ a38, y15 = some a38 ∧ (
 ∃ x41, cell H_1 a38 = some (Sl.v x41) ∧ (
 ∃ a42, (x41).b = some a42 ∧ (0 : Int) ≤ y17 ∧ y17 < ((x41).n : Int) ∧ (
 ∃ x47, cell H_1 (Addr.add a42 (y17.toNat * 1)) = some (Sl.v x47) ∧ (
 ((decide ((IntKind.i64.wrap (((y16).n : Int) + 70000)) < ((x47).c : Int))) = true → (F31_2 X Q y15 y16 y17 ((y16).n : Int) Sl.nil H_1)) ∧
 ((decide ((IntKind.i64.wrap (((y16).n : Int) + 70000)) < ((x47).c : Int))) = false → (F31_2 X Q y15 y16 y17 ((y16).n : Int) x47 H_1))))))
def F31b (X : (Option Addr) → Sl → Hp → (Sl → Hp → Prop) → Prop) (p0 : (Option Addr)) (p1 : Sl) (H : Hp) (Q : Sl → Hp → Prop) : Prop :=
∃ a1, p0 = some a1 ∧ (
 ∃ x4, cell H (Addr.add a1 7) = some (iv x4) ∧ (
 ∃ a5, p0 = some a5 ∧ (
 ∃ x8, cell H (Addr.add a5 7) = some (iv x8) ∧ (
 ∃ a9, p0 = some a9 ∧ (
 (cell H (Addr.add a9 7)).isSome = true ∧ frz H (Addr.add a9 7) = false ∧ ∀ H11, H11 = setc H (Addr.add a9 7) (iv (IntKind.i64.wrap (x8 + 1))) → (
 ∃ a18, p0 = some a18 ∧ (
 ∃ x21, cell H11 a18 = some (Sl.v x21) ∧ (
 ((decide (x4 = ((x21).n : Int))) = true → (∃ a23, p0 = some a23 ∧ (
 ∃ x26, cell H11 a23 = some (Sl.v x26) ∧ (
 ∀ H27, H27 = Array.push H11 (.cells #[sN] 39) → (
 AppendF H27 39 1 24 #[sN] x26 ((Sl.mk (some (bk H11)) 1 1)).b ((Sl.mk (some (bk H11)) 1 1)).n (fun r31 H29 =>
 ∃ a32, p0 = some a32 ∧ (
 (cell H29 a32).isSome = true ∧ frz H29 a32 = false ∧ ∀ H34, H34 = setc H29 a32 (Sl.v r31) → (
 F31_1 X Q p0 p1 x4 H34)))))))) ∧
 ((decide (x4 = ((x21).n : Int))) = false → (F31_1 X Q p0 p1 x4 H11))))))))))
def F31 (p0 : (Option Addr)) (p1 : Sl) (H : Hp) (Q : Sl → Hp → Prop) : Prop :=
 ∀ X : (Option Addr) → Sl → Hp → (Sl → Hp → Prop) → Prop, (∀ (p0 : (Option Addr)) (p1 : Sl) (H : Hp) (Q : Sl → Hp → Prop), F31b X p0 p1 H Q → X p0 p1 H Q) → X p0 p1 H Q
theorem walk31 {w0 : World} {p0 : (Option Addr)} {p1 : Sl} {H : Hp} {Q : Sl → Hp → Prop} (h : F31 p0 p1 H Q) :
  Good prog w0 31 #[(.pointer p0), (Sl.v p1)] H (fun v H => ∃ r0, v = (Sl.v r0) ∧ Q r0 H) := by
 obtain ⟨X, hX⟩ : ∃ X : (Option Addr) → Sl → Hp → (Sl → Hp → Prop) → Prop, ∀ (p0 : (Option Addr)) (p1 : Sl) (H : Hp) (Q : Sl → Hp → Prop), X p0 p1 H Q ↔ Good prog w0 31 #[(.pointer p0), (Sl.v p1)] H (fun v H => ∃ r0, v = (Sl.v r0) ∧ Q r0 H) := ⟨_, fun _ _ _ _ => Iff.rfl⟩
 refine (hX _ _ _ _).1 (h X ?_)
 clear h
 intro p0 p1 H Q h
 refine (hX _ _ _ _).2 ?_
 unfold F31b at h
 refine Good.enter' (fn := f31) func31 rfl rfl rfl (ws (wr_ (hv (v := sN) rfl (av rfl) (hn (nt (ws (wr_ ?_)))))))
 refine hv (v := .pointer p0) rfl (mv rfl) ?_
 obtain ⟨a1, e2, h⟩ := h
 refine hv (v := pp a1) rfl (HVal.nilCheck (congrArg Value.pointer e2)) (hv (v := pp (Addr.add a1 7)) rfl (fa runUnderlying32 rfl rfl sizeOf3 rfl) ?_)
 obtain ⟨x4, c3, h⟩ := h
 refine hv (v := iv x4) rfl (l1 isAgg3 rfl c3) (hv (v := iv x4) rfl (av rfl) (hn (nt (ws (wr_ ?_)))))
 refine hv (v := .pointer p0) rfl (mv rfl) ?_
 obtain ⟨a5, e6, h⟩ := h
 refine hv (v := pp a5) rfl (HVal.nilCheck (congrArg Value.pointer e6)) (hv (v := pp (Addr.add a5 7)) rfl (fa runUnderlying32 rfl rfl sizeOf3 rfl) ?_)
 obtain ⟨x8, c7, h⟩ := h
 refine hv (v := iv x8) rfl (l1 isAgg3 rfl c7) (hv (v := iv (IntKind.i64.wrap (x8 + 1))) rfl (HVal.add rfl rfl) ?_)
 obtain ⟨a9, e10, h⟩ := h
 refine hv (v := pp a9) rfl (HVal.nilCheck (congrArg Value.pointer e10)) (hv (v := pp (Addr.add a9 7)) rfl (fa runUnderlying32 rfl rfl sizeOf3 rfl) ?_)
 obtain ⟨z13, z14, h⟩ := h
 refine hq (HOp.store1 sizeOf3 rfl rfl rfl z13 z14) ?_
 rintro _ H11 e12
 replace h := h H11 e12
 refine hn (nt (wc (fun ρ H_1 => Env.Is ρ [(0, (.pointer p0)), (1, (Sl.v p1)), (5, (iv x4))] ∧ F31_1 X Q p0 p1 x4 H_1) ?_ ?_))
 ·refine ws (wr_ (hv (v := iv x4) rfl (mv rfl) (hv (v := .pointer p0) rfl (mv rfl) ?_)))
  obtain ⟨a18, e19, h⟩ := h
  refine hv (v := pp a18) rfl (HVal.nilCheck (congrArg Value.pointer e19)) (hv (v := pp a18) rfl (HVal.fieldAddr0 runUnderlying32 rfl rfl sizeOf25 rfl) ?_)
  obtain ⟨x21, c20, h⟩ := h
  refine hv (v := Sl.v x21) rfl (l1 isAgg25 rfl c20) (hv (v := iv ((x21).n : Int)) rfl (HVal.len runUnderlying25 rfl) (hv (v := bv (decide (x4 = ((x21).n : Int)))) rfl (HVal.eqlI rfl rfl) ?_))
  refine hn (nt ?_)
  obtain ⟨hT, hF⟩ := h
  refine wk (decide (x4 = ((x21).n : Int))) rfl (fun hb22 => ?_) (fun hb22 => ?_)
  ·have h := hT hb22
   refine wr_ (hv (v := .pointer p0) rfl (mv rfl) (hv (v := .pointer p0) rfl (mv rfl) ?_))
   obtain ⟨a23, e24, h⟩ := h
   refine hv (v := pp a23) rfl (HVal.nilCheck (congrArg Value.pointer e24)) (hv (v := pp a23) rfl (HVal.fieldAddr0 runUnderlying32 rfl rfl sizeOf25 rfl) ?_)
   obtain ⟨x26, c25, h⟩ := h
   refine hv (v := Sl.v x26) rfl (l1 isAgg25 rfl c25) (ho rfl (HOp.buildSlice' (zs := [sN]) (cs := [sN]) runUnderlying25 sizeOf39 zeroValue39 (by decide) (by kernel_rfl) rfl (by decide)) ?_)
   rintro _ H27 ⟨rfl, e28⟩
   replace h := h H27 e28
   refine ho rfl (HOp.append (k := 1) (b := 24) runUnderlying25 runUnderlying25 typeInfo39 rfl rfl zeroValue39 rfl rfl h) ?_
   rintro _ H29 ⟨r31, rfl, h⟩
   obtain ⟨a32, e33, h⟩ := h
   refine hv (v := pp a32) rfl (HVal.nilCheck (congrArg Value.pointer e33)) (hv (v := pp a32) rfl (HVal.fieldAddr0 runUnderlying32 rfl rfl sizeOf25 rfl) ?_)
   obtain ⟨z36, z37, h⟩ := h
   refine hq (HOp.store1 sizeOf25 rfl rfl rfl z36 z37) ?_
   rintro _ H34 e35
   replace h := h H34 e35
   refine hn (nt ?_)
   exact ⟨(isp rfl), h⟩
  have h := hF hb22
  refine wp_ (nt ?_)
  exact ⟨(isp rfl), h⟩
 rintro ρ H_1 ⟨hI, h⟩
 obtain ⟨ρ0, rfl⟩ := hI.ex
 clear hI; unfold F31_1 at h
 refine ws (wr_ (hv (v := Sl.v p1) rfl (mv rfl) (hv (v := iv ((p1).n : Int)) rfl (HVal.len runUnderlying39 rfl) ?_)))
 refine hv (v := iv ((p1).n : Int)) rfl (av rfl) (hn (nt (ws (wr_ (hv (v := .pointer p0) rfl (mv rfl) ?_)))))
 obtain ⟨a38, e39, h⟩ := h
 refine hv (v := pp a38) rfl (HVal.nilCheck (congrArg Value.pointer e39)) (hv (v := pp a38) rfl (HVal.fieldAddr0 runUnderlying32 rfl rfl sizeOf25 rfl) ?_)
 obtain ⟨x41, c40, h⟩ := h
 refine hv (v := Sl.v x41) rfl (l1 isAgg25 rfl c40) (hv (v := iv x4) rfl (mv rfl) ?_)
 obtain ⟨a42, e43, b44, b45, h⟩ := h
 refine hv (v := pp (Addr.add a42 (x4.toNat * 1))) rfl (ia runUnderlying25 sizeOf39 (Sl.v_some rfl e43) rfl b44 b45) ?_
 obtain ⟨x47, c46, h⟩ := h
 refine hv (v := Sl.v x47) rfl (l1 isAgg39 rfl c46) (hv (v := Sl.v x47) rfl (av rfl) (hn (nt (wc (fun ρ H_2 => ∃ y53, Env.Is ρ [(0, (.pointer p0)), (1, (Sl.v p1)), (5, (iv x4)), (6, (iv ((p1).n : Int))), (7, (Sl.v y53))] ∧ F31_2 X Q p0 p1 x4 ((p1).n : Int) y53 H_2) ?_ ?_))))
 ·refine ws (wr_ (hv (v := Sl.v x47) rfl (mv rfl) (hv (v := iv ((x47).c : Int)) rfl (HVal.cap runUnderlying39 rfl) ?_)))
  refine hv (v := iv ((p1).n : Int)) rfl (mv rfl) (hv (v := iv (IntKind.i64.wrap (((p1).n : Int) + 70000))) rfl (HVal.add rfl rfl) ?_)
  refine hv (v := bv (decide ((IntKind.i64.wrap (((p1).n : Int) + 70000)) < ((x47).c : Int)))) rfl (HVal.gtr rfl rfl) (hn (nt ?_))
  obtain ⟨hT, hF⟩ := h
  refine wk (decide ((IntKind.i64.wrap (((p1).n : Int) + 70000)) < ((x47).c : Int))) rfl (fun hb52 => ?_) (fun hb52 => ?_)
  ·have h := hT hb52
   refine wr_ (hv (v := sN) rfl (av rfl) (hn (nt ?_)))
   exact ⟨Sl.nil, (isp rfl), h⟩
  have h := hF hb52
  refine wp_ (nt ?_)
  exact ⟨x47, (isp rfl), h⟩
 rintro ρ H_2 ⟨y53, hI, h⟩
 obtain ⟨ρ0, rfl⟩ := hI.ex
 clear hI; unfold F31_2 at h
 refine ws (wr_ (hv (v := Sl.v y53) rfl (mv rfl) ?_))
 obtain ⟨z54, z55, z56, h⟩ := h
 refine hv (v := Sl.v (Sl.cut y53 10 0 ((0 : Int).toNat) ((y53).c))) rfl (HVal.slice _ _ _ runUnderlying39 sizeOf41 rfl rfl ⟨_, _, rfl, by decide, rfl⟩ rfl (by decide) z54 z55 z56) ?_
 refine hv (v := Sl.v p1) rfl (mv rfl) (ho rfl (HOp.append (k := 10) (b := 120) runUnderlying39 runUnderlying39 typeInfo41 rfl rfl zeroValue41 rfl rfl h) ?_)
 rintro _ H57 ⟨r59, rfl, h⟩
 refine hv (v := Sl.v r59) rfl (av rfl) (hn (nt (ws (wr_ (hv (v := Sl.v r59) rfl (mv rfl) (hv (v := .agg zR.toArray) rfl (HVal.build' (cs := zR) runUnderlying41 zeroValue41 places41 (by kernel_rfl)) ?_))))))
 refine ho rfl (HOp.buildSlice' (zs := zR) (cs := zR) runUnderlying39 sizeOf41 zeroValue41 (by decide) (by kernel_rfl) (by kernel_rfl) (by decide)) ?_
 rintro _ H60 ⟨rfl, e61⟩
 replace h := h H60 e61
 refine ho rfl (HOp.append (k := 10) (b := 120) runUnderlying39 runUnderlying39 typeInfo41 rfl rfl zeroValue41 rfl rfl h) ?_
 rintro _ H62 ⟨r64, rfl, h⟩
 refine hv (v := Sl.v r64) rfl (av rfl) (hn (nt (ws (wr_ (hv (v := Sl.v r64) rfl (mv rfl) (hv (v := Sl.v r64) rfl (mv rfl) ?_))))))
 refine hv (v := iv ((r64).c : Int)) rfl (HVal.cap runUnderlying39 rfl) ?_
 obtain ⟨z65, z66, z67, z68, h⟩ := h
 refine hv (v := Sl.v (Sl.cut r64 10 0 (((r64).c : Int).toNat) ((r64).c))) rfl (HVal.slice _ _ _ runUnderlying39 sizeOf41 rfl rfl ⟨_, _, rfl, z65, rfl⟩ rfl (by decide) z66 z67 z68) ?_
 refine hv (v := Sl.v (Sl.cut r64 10 0 (((r64).c : Int).toNat) ((r64).c))) rfl (av rfl) (hn (nt (wc (fun ρ H_3 => Env.Is ρ [(0, (.pointer p0)), (1, (Sl.v p1)), (5, (iv x4)), (6, (iv ((p1).n : Int))), (7, (Sl.v (Sl.cut r64 10 0 (((r64).c : Int).toNat) ((r64).c))))] ∧ F31_3 X Q p0 p1 x4 ((p1).n : Int) (Sl.cut r64 10 0 (((r64).c : Int).toNat) ((r64).c)) H_3) ?_ ?_)))
 ·refine ws (wr_ (hv (v := iv ((p1).n : Int)) rfl (mv rfl) (hv (v := iv ((p1).n : Int)) rfl (av rfl) (hn (nt ?_)))))
  refine wb (HW.loop' (fun L4 hL4 => ?_))
  obtain ⟨X4, hX4⟩ : ∃ X4 : ZQI, ∀ (y74 : Int) (H_4 : Hp), X4 y74 H_4 ↔ ∀ ρ, Env.Is ρ [(0, (.pointer p0)), (1, (Sl.v p1)), (5, (iv x4)), (6, (iv ((p1).n : Int))), (7, (Sl.v (Sl.cut r64 10 0 (((r64).c : Int).toNat) ((r64).c)))), (8, (iv y74))] → L4 ρ H_4 := ⟨_, fun _ _ => Iff.rfl⟩
  refine (hX4 _ _).1 (h X4 ?_) _ ?_
  rotate_left
  ·exact (isp rfl)
  clear h
  intro y74 H_4 h
  refine (hX4 _ _).2 fun ρ hI => ?_
  obtain ⟨ρ0, rfl⟩ := hI.ex
  clear hI; unfold F31_L4b at h; refine hL4 _ _ ?_
  refine ws (ws (wr_ (hv (v := iv y74) rfl (mv rfl) (hv (v := Sl.v (Sl.cut r64 10 0 (((r64).c : Int).toNat) ((r64).c))) rfl (mv rfl) ?_))))
  refine hv (v := iv (((Sl.cut r64 10 0 (((r64).c : Int).toNat) ((r64).c))).n : Int)) rfl (HVal.len runUnderlying39 rfl) (hv (v := bv (decide (y74 < (((Sl.cut r64 10 0 (((r64).c : Int).toNat) ((r64).c))).n : Int)))) rfl (HVal.lss rfl rfl) ?_)
  refine hn (nt ?_)
  obtain ⟨hT, hF⟩ := h
  refine wk (decide (y74 < (((Sl.cut r64 10 0 (((r64).c : Int).toNat) ((r64).c))).n : Int))) rfl (fun hb80 => ?_) (fun hb80 => ?_)
  ·have h := hT hb80
   refine wp_ (nt (ws (wb (wr_ (hv (v := Sl.v (Sl.cut r64 10 0 (((r64).c : Int).toNat) ((r64).c))) rfl (mv rfl) (hv (v := iv y74) rfl (mv rfl) ?_))))))
   refine hv (v := iv y74) rfl (mv rfl) (hv (v := iv (IntKind.i64.wrap (77 + y74))) rfl (HVal.add rfl rfl) (hv (v := .agg (eR (IntKind.i64.wrap (77 + y74)) 0 0 0 bE false bE 0 bE Sl.nil).toArray) rfl (HVal.build' (cs := (eR (IntKind.i64.wrap (77 + y74)) 0 0 0 bE false bE 0 bE Sl.nil)) runUnderlying41 zeroValue41 places41 (by kernel_rfl)) ?_))
   obtain ⟨a81, e82, b83, b84, h⟩ := h
   refine hv (v := pp (Addr.add a81 (y74.toNat * 10))) rfl (ia runUnderlying39 sizeOf41 (Sl.v_some rfl e82) rfl b83 b84) ?_
   obtain ⟨z87, h⟩ := h
   refine hq (HOp.storeN' (l := (eR (IntKind.i64.wrap (77 + y74)) 0 0 0 bE false bE 0 bE Sl.nil)) sizeOf41 rfl rfl rfl z87) ?_
   rintro _ H85 e86
   replace h := h H85 e86
   refine hn (nb (nt (wr_ (hv (v := iv y74) rfl (mv rfl) (hv (v := iv (IntKind.i64.wrap (y74 + 1))) rfl (HVal.add rfl rfl) ?_)))))
   refine hv (v := iv (IntKind.i64.wrap (y74 + 1))) rfl (av rfl) (hn (nt ?_))
   exact (hX4 _ _).1 h _ (isp rfl)
  have h := hF hb80
  refine we (te (te (be (nt ?_))))
  exact ⟨(isp rfl), h⟩
 rintro ρ H_3 ⟨hI, h⟩
 obtain ⟨ρ0, rfl⟩ := hI.ex
 clear hI; unfold F31_3 at h
 refine ws (wr_ (hv (v := .pointer p0) rfl (mv rfl) ?_))
 obtain ⟨a88, e89, h⟩ := h
 refine hv (v := pp a88) rfl (HVal.nilCheck (congrArg Value.pointer e89)) (hv (v := pp a88) rfl (HVal.fieldAddr0 runUnderlying32 rfl rfl sizeOf25 rfl) ?_)
 obtain ⟨x91, c90, h⟩ := h
 refine hv (v := Sl.v x91) rfl (l1 isAgg25 rfl c90) (hv (v := iv x4) rfl (mv rfl) (hv (v := Sl.v (Sl.cut r64 10 0 (((r64).c : Int).toNat) ((r64).c))) rfl (mv rfl) ?_))
 obtain ⟨a92, e93, b94, b95, h⟩ := h
 refine hv (v := pp (Addr.add a92 (x4.toNat * 1))) rfl (ia runUnderlying25 sizeOf39 (Sl.v_some rfl e93) rfl b94 b95) ?_
 obtain ⟨z98, z99, h⟩ := h
 refine hq (HOp.store1 sizeOf39 rfl rfl rfl z98 z99) ?_
 rintro _ H96 e97
 replace h := h H96 e97
 refine hn (nt (wc (fun ρ H_5 => Env.Is ρ [(6, (iv ((p1).n : Int))), (7, (Sl.v (Sl.cut r64 10 0 (((r64).c : Int).toNat) ((r64).c))))] ∧ F31_5 X Q ((p1).n : Int) (Sl.cut r64 10 0 (((r64).c : Int).toNat) ((r64).c)) H_5) ?_ ?_))
 ·refine ws (wr_ (hv (v := iv 0) rfl (av rfl) (hn (nt (wb (HW.loop' (fun L6 hL6 => ?_)))))))
  obtain ⟨X6, hX6⟩ : ∃ X6 : ZQI, ∀ (y102 : Int) (H_6 : Hp), X6 y102 H_6 ↔ ∀ ρ, Env.Is ρ [(0, (.pointer p0)), (1, (Sl.v p1)), (6, (iv ((p1).n : Int))), (7, (Sl.v (Sl.cut r64 10 0 (((r64).c : Int).toNat) ((r64).c)))), (9, (iv y102))] → L6 ρ H_6 := ⟨_, fun _ _ => Iff.rfl⟩
  refine (hX6 _ _).1 (h X6 ?_) _ ?_
  rotate_left
  ·exact (isp rfl)
  clear h
  intro y102 H_6 h
  refine (hX6 _ _).2 fun ρ hI => ?_
  obtain ⟨ρ0, rfl⟩ := hI.ex
  clear hI; unfold F31_L6b at h; refine hL6 _ _ ?_
  refine ws (ws (wr_ (hv (v := iv y102) rfl (mv rfl) (hv (v := iv ((p1).n : Int)) rfl (mv rfl) (hv (v := bv (decide (y102 < ((p1).n : Int)))) rfl (HVal.lss rfl rfl) ?_)))))
  refine hn (nt ?_)
  obtain ⟨hT, hF⟩ := h
  refine wk (decide (y102 < ((p1).n : Int))) rfl (fun hb107 => ?_) (fun hb107 => ?_)
  ·have h := hT hb107
   refine wp_ (nt (ws (wb (ws (wr_ (hv (v := .pointer p0) rfl (mv rfl) (hv (v := Sl.v p1) rfl (mv rfl) ?_)))))))
   refine hv (v := iv y102) rfl (mv rfl) ?_
   obtain ⟨a108, e109, b110, b111, h⟩ := h
   refine hv (v := pp (Addr.add a108 (y102.toNat * 10))) rfl (ia runUnderlying39 sizeOf41 (Sl.v_some rfl e109) rfl b110 b111) ?_
   refine hv (v := pp (Addr.add (Addr.add a108 (y102.toNat * 10)) 9)) rfl (fa runUnderlying41 rfl rfl sizeOf39 rfl) ?_
   obtain ⟨x113, c112, h⟩ := h
   refine hv (v := Sl.v x113) rfl (l1 isAgg39 rfl c112) (ho rfl (HOp.call' 31 [(.pointer p0), (Sl.v x113)] (cap := []) rfl rfl call31 ((hX _ _ _ _).1 h)) ?_)
   rintro _ H114 ⟨r116, rfl, h⟩
   refine hv (v := Sl.v r116) rfl (av rfl) (hn (nt (wr_ (hv (v := Sl.v (Sl.cut r64 10 0 (((r64).c : Int).toNat) ((r64).c))) rfl (mv rfl) ?_))))
   refine hv (v := iv y102) rfl (mv rfl) (hv (v := Sl.v r116) rfl (mv rfl) ?_)
   obtain ⟨a117, e118, b119, b120, h⟩ := h
   refine hv (v := pp (Addr.add a117 (y102.toNat * 10))) rfl (ia runUnderlying39 sizeOf41 (Sl.v_some rfl e118) rfl b119 b120) ?_
   refine hv (v := pp (Addr.add (Addr.add a117 (y102.toNat * 10)) 9)) rfl (fa runUnderlying41 rfl rfl sizeOf39 rfl) ?_
   obtain ⟨z123, z124, h⟩ := h
   refine hq (HOp.store1 sizeOf39 rfl rfl rfl z123 z124) ?_
   rintro _ H121 e122
   replace h := h H121 e122
   refine hn (nb (nt (wr_ (hv (v := iv y102) rfl (mv rfl) (hv (v := iv (IntKind.i64.wrap (y102 + 1))) rfl (HVal.add rfl rfl) ?_)))))
   refine hv (v := iv (IntKind.i64.wrap (y102 + 1))) rfl (av rfl) (hn (nt ?_))
   exact (hX6 _ _).1 h _ (isp rfl)
  have h := hF hb107
  refine we (te (te (be (nt ?_))))
  exact ⟨(isp rfl), h⟩
 rintro ρ H_5 ⟨hI, h⟩
 obtain ⟨ρ0, rfl⟩ := hI.ex
 clear hI; unfold F31_5 at h
 refine ws (wr_ (hv (v := Sl.v (Sl.cut r64 10 0 (((r64).c : Int).toNat) ((r64).c))) rfl (mv rfl) (hv (v := iv ((p1).n : Int)) rfl (mv rfl) ?_)))
 obtain ⟨z125, z126, z127, z128, h⟩ := h
 refine hv (v := Sl.v (Sl.cut (Sl.cut r64 10 0 (((r64).c : Int).toNat) ((r64).c)) 10 0 ((p1).n : Int).toNat (((Sl.cut r64 10 0 (((r64).c : Int).toNat) ((r64).c))).c))) rfl (HVal.slice _ _ _ runUnderlying39 sizeOf41 rfl rfl ⟨_, _, rfl, z125, rfl⟩ rfl (by decide) z126 z127 z128) ?_
 refine hv (v := Sl.v (Sl.cut (Sl.cut r64 10 0 (((r64).c : Int).toNat) ((r64).c)) 10 0 ((p1).n : Int).toNat (((Sl.cut r64 10 0 (((r64).c : Int).toNat) ((r64).c))).c))) rfl (av rfl) ?_
 refine hn (nt (HW.ret ?_))
 exact ⟨_, resOf1 rfl Res1.t, ⟨(Sl.cut (Sl.cut r64 10 0 (((r64).c : Int).toNat) ((r64).c)) 10 0 ((p1).n : Int).toNat (((Sl.cut r64 10 0 (((r64).c : Int).toNat) ((r64).c))).c)), rfl, h⟩⟩

def F33_7 (X : Sl → Sl → Hp → (ZQB) → Prop) (Q : ZQB) (X5 : ZQI) (y141 y142 : Sl) (y143 y144 : Int) (y151 : Bool) (H_7 : Hp) : Prop :=
(y151 = true → (Q false H_7)) ∧
 (y151 = false → (X5 (IntKind.i64.wrap (y144 + 1)) H_7))
def F33_6 (X : Sl → Sl → Hp → (ZQB) → Prop) (Q : ZQB) (X5 : ZQI) (y75 y76 : Sl) (y77 y78 : Int) (y124 y125 : Addr) (H_6 : Hp) : Prop :=
∃ x146, cell H_6 y124 = some (iv x146) ∧ (
 ∃ x148, cell H_6 y125 = some (iv x148) ∧ (
 (decide (x146 ≠ x148) = true → (F33_7 X Q X5 y75 y76 y77 y78 true H_6)) ∧
 (decide (x146 ≠ x148) = false → (∃ x153, cell H_6 (Addr.add y124 1) = some (iv x153) ∧ (
 ∃ x155, cell H_6 (Addr.add y125 1) = some (iv x155) ∧ (
 (decide (x153 ≠ x155) = true → (F33_7 X Q X5 y75 y76 y77 y78 true H_6)) ∧
 (decide (x153 ≠ x155) = false → (∃ x159 x160 x161 x162, cells H_6 (Addr.add y124 2) (vR x159 x160 x161 x162) 0 ∧ (
 ∃ x164 x165 x166 x167, cells H_6 (Addr.add y125 2) (vR x164 x165 x166 x167) 0 ∧ (
 ((!(decide (x159 = x164) && (decide (x160 = x165) && (seq x161 x166 && (x162 == x167))))) = true → (F33_7 X Q X5 y75 y76 y77 y78 true H_6)) ∧
 ((!(decide (x159 = x164) && (decide (x160 = x165) && (seq x161 x166 && (x162 == x167))))) = false → (∃ x171, cell H_6 (Addr.add y124 6) = some (sv x171) ∧ (
 ∃ x173, cell H_6 (Addr.add y125 6) = some (sv x173) ∧ (
 ((!(seq x171 x173)) = true → (F33_7 X Q X5 y75 y76 y77 y78 true H_6)) ∧
 ((!(seq x171 x173)) = false → (∃ x177, cell H_6 (Addr.add y124 7) = some (iv x177) ∧ (
 ∃ x179, cell H_6 (Addr.add y125 7) = some (iv x179) ∧ (
 (decide (x177 ≠ x179) = true → (F33_7 X Q X5 y75 y76 y77 y78 true H_6)) ∧
 (decide (x177 ≠ x179) = false → (∃ x183, cell H_6 (Addr.add y124 8) = some (sv x183) ∧ (
 ∃ x185, cell H_6 (Addr.add y125 8) = some (sv x185) ∧ (
 ((!(seq x183 x185)) = true → (F33_7 X Q X5 y75 y76 y77 y78 true H_6)) ∧
 ((!(seq x183 x185)) = false → (∃ x189, cell H_6 (Addr.add y124 9) = some (Sl.v x189) ∧ (
 ∃ x191, cell H_6 (Addr.add y125 9) = some (Sl.v x191) ∧ (
 X x189 x191 H_6 (fun r194 H192 =>
 F33_7 X Q X5 y75 y76 y77 y78 (!r194) H192)))))))))))))))))))))))))))
def F33_L5b (X : Sl → Sl → Hp → (ZQB) → Prop) (Q : ZQB) (X5 : ZQI) (y71 y72 : Sl) (y73 y70 : Int) (H_5 : Hp) : Prop :=
(decide (y70 < y73) = true → (∃ a79, (y71).b = some a79 ∧ (0 : Int) ≤ y70 ∧ y70 < ((y71).n : Int) ∧ (
 ∃ x84 x85 x86 x87 x88 x89 x90 x91 x92 x93, cells H_5 (Addr.add a79 (y70.toNat * 10)) (eR x84 x85 x86 x87 x88 x89 x90 x91 x92 x93) 0 ∧ (
 ∃ a94, (y72).b = some a94 ∧ (0 : Int) ≤ y70 ∧ y70 < ((y72).n : Int) ∧ (
 ∃ x99 x100 x101 x102 x103 x104 x105 x106 x107 x108, cells H_5 (Addr.add a94 (y70.toNat * 10)) (eR x99 x100 x101 x102 x103 x104 x105 x106 x107 x108) 0 ∧ (
 (∀ H109, H109 = Array.push H_5 (.cells zR.toArray 41) → (
 cells H109 (Addr.add a94 (y70.toNat * 10)) (eR x99 x100 x101 x102 x103 x104 x105 x106 x107 x108) 0 ∧ cells H109 (Addr.add a79 (y70.toNat * 10)) (eR x84 x85 x86 x87 x88 x89 x90 x91 x92 x93) 0 ∧ (
 ∀ H113, H113 = Array.push H109 (.cells zR.toArray 41) → (
 cells H113 (Addr.add a94 (y70.toNat * 10)) (eR x99 x100 x101 x102 x103 x104 x105 x106 x107 x108) 0 ∧ cells H113 (Addr.add a79 (y70.toNat * 10)) (eR x84 x85 x86 x87 x88 x89 x90 x91 x92 x93) 0 ∧ (
 mayw H113 (bk H_5) 10 0 ∧ ∀ H117, H117 = sets H113 (bk H_5) (eR x84 x85 x86 x87 x88 x89 x90 x91 x92 x93) 0 → (
 cells H117 (Addr.add a94 (y70.toNat * 10)) (eR x99 x100 x101 x102 x103 x104 x105 x106 x107 x108) 0 ∧ (
 mayw H117 (bk H109) 10 0 ∧ ∀ H121, H121 = sets H117 (bk H109) (eR x99 x100 x101 x102 x103 x104 x105 x106 x107 x108) 0 → (
 F33_6 X Q X5 y71 y72 y73 y70 (bk H_5) (bk H109) H121)))))))) ∧
 (∀ H126, H126 = Array.push H_5 (.cells zR.toArray 41) → (
 cells H126 (Addr.add a94 (y70.toNat * 10)) (eR x99 x100 x101 x102 x103 x104 x105 x106 x107 x108) 0 ∧ cells H126 (Addr.add a79 (y70.toNat * 10)) (eR x84 x85 x86 x87 x88 x89 x90 x91 x92 x93) 0 ∧ (
 ∀ H130, H130 = Array.push H126 (.cells zR.toArray 41) → (
 cells H130 (Addr.add a94 (y70.toNat * 10)) (eR x99 x100 x101 x102 x103 x104 x105 x106 x107 x108) 0 ∧ cells H130 (Addr.add a79 (y70.toNat * 10)) (eR x84 x85 x86 x87 x88 x89 x90 x91 x92 x93) 0 ∧ (
 mayw H130 (bk H126) 10 0 ∧ ∀ H134, H134 = sets H130 (bk H126) (eR x84 x85 x86 x87 x88 x89 x90 x91 x92 x93) 0 → (
 cells H134 (Addr.add a94 (y70.toNat * 10)) (eR x99 x100 x101 x102 x103 x104 x105 x106 x107 x108) 0 ∧ (
 mayw H134 (bk H_5) 10 0 ∧ ∀ H138, H138 = sets H134 (bk H_5) (eR x99 x100 x101 x102 x103 x104 x105 x106 x107 x108) 0 → (
 F33_6 X Q X5 y71 y72 y73 y70 (bk H126) (bk H_5) H138)))))))))))))) ∧
 (decide (y70 < y73) = false → (Q true H_5))
def F33_L5 (X : Sl → Sl → Hp → (ZQB) → Prop) (Q : ZQB) (y71 y72 : Sl) (y73 y70 : Int) (H_5 : Hp) : Prop :=
 ∀ X5 : ZQI, (∀ (y70 : Int) (H_5 : Hp), F33_L5b X Q X5 y71 y72 y73 y70 H_5 → X5 y70 H_5) → X5 y70 H_5
def F33_2 (X : Sl → Sl → Hp → (ZQB) → Prop) (Q : ZQB) (y12 y13 : Sl) (y14 : Int) (H_2 : Hp) : Prop :=
F33_L5 X Q y12 y13 y14 0 H_2
def F33_4 (X : Sl → Sl → Hp → (ZQB) → Prop) (Q : ZQB) (X3 : ZQI) (y41 y42 : Sl) (y43 : Int) (y44 : Sl) (y45 : Int) (y50 : Bool) (H_4 : Hp) : Prop :=
(y50 = true → (Q false H_4)) ∧
 (y50 = false → (X3 (IntKind.i64.wrap (y45 + 1)) H_4))
def F33_L3b (X : Sl → Sl → Hp → (ZQB) → Prop) (Q : ZQB) (X3 : ZQI) (y16 y17 : Sl) (y18 : Int) (y19 : Sl) (y15 : Int) (H_3 : Hp) : Prop :=
((decide (y15 < ((y19).n : Int))) = true → (∃ a21, (y19).b = some a21 ∧ (0 : Int) ≤ y15 ∧ y15 < ((y19).n : Int) ∧ (
 ∃ x26 x27 x28 x29 x30 x31 x32 x33 x34 x35, cells H_3 (Addr.add a21 (y15.toNat * 10)) (eR x26 x27 x28 x29 x30 x31 x32 x33 x34 x35) 0 ∧ (
 ∀ H36, H36 = Array.push H_3 (.cells zR.toArray 41) → (
 mayw H36 (bk H_3) 10 0 ∧ ∀ H38, H38 = sets H36 (bk H_3) (eR x26 x27 x28 x29 x30 x31 x32 x33 x34 x35) 0 → (
 ∃ x47, cell H38 (bk H_3) = some (iv x47) ∧ (
 ((decide (x47 ≠ (IntKind.i64.wrap (77 + y15)))) = true → (F33_4 X Q X3 y16 y17 y18 y19 y15 true H38)) ∧
 ((decide (x47 ≠ (IntKind.i64.wrap (77 + y15)))) = false → (∃ x52, cell H38 (Addr.add (bk H_3) 1) = some (iv x52) ∧ (
 (decide (x52 ≠ 0) = true → (F33_4 X Q X3 y16 y17 y18 y19 y15 true H38)) ∧
 (decide (x52 ≠ 0) = false → (∃ x56, cell H38 (Addr.add (bk H_3) 6) = some (sv x56) ∧ (
 ((!(seq x56 bE)) = true → (F33_4 X Q X3 y16 y17 y18 y19 y15 true H38)) ∧
 ((!(seq x56 bE)) = false → (∃ x60, cell H38 (Addr.add (bk H_3) 7) = some (iv x60) ∧ (
 (decide (x60 ≠ 0) = true → (F33_4 X Q X3 y16 y17 y18 y19 y15 true H38)) ∧
 (decide (x60 ≠ 0) = false → (∃ x64, cell H38 (Addr.add (bk H_3) 8) = some (sv x64) ∧ (
 ((!(seq x64 bE)) = true → (F33_4 X Q X3 y16 y17 y18 y19 y15 true H38)) ∧
 ((!(seq x64 bE)) = false → (∃ x68, cell H38 (Addr.add (bk H_3) 9) = some (Sl.v x68) ∧ (
 F33_4 X Q X3 y16 y17 y18 y19 y15 (decide (((x68).n : Int) ≠ 0)) H38)))))))))))))))))))))) ∧
 ((decide (y15 < ((y19).n : Int))) = false → (F33_2 X Q y16 y17 y18 H_3))
def F33_L3 (X : Sl → Sl → Hp → (ZQB) → Prop) (Q : ZQB) (y16 y17 : Sl) (y18 : Int) (y19 : Sl) (y15 : Int) (H_3 : Hp) : Prop :=
 ∀ X3 : ZQI, (∀ (y15 : Int) (H_3 : Hp), F33_L3b X Q X3 y16 y17 y18 y19 y15 H_3 → X3 y15 H_3) → X3 y15 H_3
def F33_1 (X : Sl → Sl → Hp → (ZQB) → Prop) (Q : ZQB) (y1 y2 : Sl) (y3 : Int) (y6 : Bool) (H_1 : Hp) : Prop :=
(y6 = true → (Q false H_1)) ∧
 (y6 = false → ((0 : Int) ≤ ((y2).c : Int) ∧ 0 ≤ ((y2).c : Int).toNat ∧ ((y2).c : Int).toNat ≤ (y2).c ∧ (y2).c ≤ (y2).c ∧ (
 F33_L3 X Q y1 y2 y3 (Sl.cut y2 10 0 (((y2).c : Int).toNat) ((y2).c)) y3 H_1)))
def F33b (X : Sl → Sl → Hp → (ZQB) → Prop) (p0 p1 : Sl) (H : Hp) (Q : ZQB) : Prop :=
((decide (((p1).n : Int) ≠ ((p0).n : Int))) = true → (F33_1 X Q p0 p1 ((p0).n : Int) true H)) ∧
 ((decide (((p1).n : Int) ≠ ((p0).n : Int))) = false → (F33_1 X Q p0 p1 ((p0).n : Int) (decide (((p1).c : Int) ≤ ((p0).n : Int))) H))
def F33 (p0 p1 : Sl) (H : Hp) (Q : ZQB) : Prop :=
 ∀ X : Sl → Sl → Hp → (ZQB) → Prop, (∀ (p0 p1 : Sl) (H : Hp) (Q : ZQB), F33b X p0 p1 H Q → X p0 p1 H Q) → X p0 p1 H Q
theorem walk33 {w0 : World} {p0 p1 : Sl} {H : Hp} {Q : ZQB} (h : F33 p0 p1 H Q) :
  Good prog w0 33 #[(Sl.v p0), (Sl.v p1)] H (fun v H => ∃ r0, v = (bv r0) ∧ Q r0 H) := by
 obtain ⟨X, hX⟩ : ∃ X : Sl → Sl → Hp → (ZQB) → Prop, ∀ (p0 p1 : Sl) (H : Hp) (Q : ZQB), X p0 p1 H Q ↔ Good prog w0 33 #[(Sl.v p0), (Sl.v p1)] H (fun v H => ∃ r0, v = (bv r0) ∧ Q r0 H) := ⟨_, fun _ _ _ _ => Iff.rfl⟩
 refine (hX _ _ _ _).1 (h X ?_)
 clear h
 intro p0 p1 H Q h
 refine (hX _ _ _ _).2 ?_
 unfold F33b at h
 refine Good.enter' (fn := f33) func33 rfl rfl rfl (ws (wr_ (hv (v := bv false) rfl (av rfl) (hn (nt (ws ?_))))))
 refine wr_ (hv (v := Sl.v p0) rfl (mv rfl) (hv (v := iv ((p0).n : Int)) rfl (HVal.len runUnderlying39 rfl) (hv (v := iv ((p0).n : Int)) rfl (av rfl) ?_)))
 refine hn (nt (ws (wc (fun ρ H_1 => ∃ y6, Env.Is ρ [(0, (Sl.v p0)), (1, (Sl.v p1)), (5, (iv ((p0).n : Int))), (23, (bv y6))] ∧ F33_1 X Q p0 p1 ((p0).n : Int) y6 H_1) ?_ ?_)))
 ·refine wr_ (hv (v := Sl.v p1) rfl (mv rfl) (hv (v := iv ((p1).n : Int)) rfl (HVal.len runUnderlying39 rfl) (hv (v := iv ((p0).n : Int)) rfl (mv rfl) ?_)))
  refine hv (v := bv (decide (((p1).n : Int) ≠ ((p0).n : Int)))) rfl (HVal.neqI rfl rfl) (hv (v := bv (decide (((p1).n : Int) ≠ ((p0).n : Int)))) rfl (mv rfl) ?_)
  obtain ⟨hT, hF⟩ := h
  rcases Bool.eq_false_or_eq_true (decide (((p1).n : Int) ≠ ((p0).n : Int))) with hb4 | hb5
  ·have h := hT hb4
   refine hs_ rfl rfl rfl rfl (cB hb4) (hs_ rfl rfl rfl rfl (cB hb4) (hs_ rfl rfl rfl rfl (cB hb4) (hs_ rfl rfl rfl rfl (cB hb4) ?_)))
   refine hv (v := bv true) rfl (pt_ rfl hb4 rfl) (hn (nt ?_))
   exact ⟨true, (isp rfl), h⟩
  have h := hF hb5
  refine hg (v := Sl.v p1) rfl rfl rfl rfl (cB hb5) (mv rfl) (hg (v := iv ((p1).c : Int)) rfl rfl rfl rfl (cB hb5) (HVal.cap runUnderlying39 rfl) ?_)
  refine hg (v := iv ((p0).n : Int)) rfl rfl rfl rfl (cB hb5) (mv rfl) (hg (v := bv (decide (((p1).c : Int) ≤ ((p0).n : Int)))) rfl rfl rfl rfl (cB hb5) (HVal.leq rfl rfl) ?_)
  refine hv (v := bv (decide (((p1).c : Int) ≤ ((p0).n : Int)))) rfl (pf_ rfl hb5 rfl) (hn (nt ?_))
  exact ⟨(decide (((p1).c : Int) ≤ ((p0).n : Int))), (isp rfl), h⟩
 rintro ρ H_1 ⟨y6, hI, h⟩
 obtain ⟨ρ0, rfl⟩ := hI.ex
 clear hI; unfold F33_1 at h
 obtain ⟨hT, hF⟩ := h
 refine wk y6 rfl (fun hb7 => ?_) (fun hb7 => ?_)
 ·have h := hT hb7
  refine ws (wr_ (hv (v := bv false) rfl (av rfl) (hn (nt (HW.ret (tr ?_))))))
  exact ⟨_, resOf1 rfl Res1.t, ⟨false, rfl, h⟩⟩
 have h := hF hb7
 refine wp_ (nt (ws (wr_ (hv (v := Sl.v p1) rfl (mv rfl) (hv (v := Sl.v p1) rfl (mv rfl) (hv (v := iv ((p1).c : Int)) rfl (HVal.cap runUnderlying39 rfl) ?_))))))
 obtain ⟨z8, z9, z10, z11, h⟩ := h
 refine hv (v := Sl.v (Sl.cut p1 10 0 (((p1).c : Int).toNat) ((p1).c))) rfl (HVal.slice _ _ _ runUnderlying39 sizeOf41 rfl rfl ⟨_, _, rfl, z8, rfl⟩ rfl (by decide) z9 z10 z11) ?_
 refine hv (v := Sl.v (Sl.cut p1 10 0 (((p1).c : Int).toNat) ((p1).c))) rfl (av rfl) (hn (nt (wc (fun ρ H_2 => Env.Is ρ [(0, (Sl.v p0)), (1, (Sl.v p1)), (5, (iv ((p0).n : Int)))] ∧ F33_2 X Q p0 p1 ((p0).n : Int) H_2) ?_ ?_)))
 ·refine ws (wr_ (hv (v := iv ((p0).n : Int)) rfl (mv rfl) (hv (v := iv ((p0).n : Int)) rfl (av rfl) (hn (nt ?_)))))
  refine wb (HW.loop' (fun L3 hL3 => ?_))
  obtain ⟨X3, hX3⟩ : ∃ X3 : ZQI, ∀ (y15 : Int) (H_3 : Hp), X3 y15 H_3 ↔ ∀ ρ, Env.Is ρ [(0, (Sl.v p0)), (1, (Sl.v p1)), (5, (iv ((p0).n : Int))), (6, (Sl.v (Sl.cut p1 10 0 (((p1).c : Int).toNat) ((p1).c)))), (7, (iv y15))] → L3 ρ H_3 := ⟨_, fun _ _ => Iff.rfl⟩
  refine (hX3 _ _).1 (h X3 ?_) _ ?_
  rotate_left
  ·exact (isp rfl)
  clear h
  intro y15 H_3 h
  refine (hX3 _ _).2 fun ρ hI => ?_
  obtain ⟨ρ0, rfl⟩ := hI.ex
  clear hI; unfold F33_L3b at h; refine hL3 _ _ ?_
  refine ws (ws (wr_ (hv (v := iv y15) rfl (mv rfl) (hv (v := Sl.v (Sl.cut p1 10 0 (((p1).c : Int).toNat) ((p1).c))) rfl (mv rfl) ?_))))
  refine hv (v := iv (((Sl.cut p1 10 0 (((p1).c : Int).toNat) ((p1).c))).n : Int)) rfl (HVal.len runUnderlying39 rfl) (hv (v := bv (decide (y15 < (((Sl.cut p1 10 0 (((p1).c : Int).toNat) ((p1).c))).n : Int)))) rfl (HVal.lss rfl rfl) ?_)
  refine hn (nt ?_)
  obtain ⟨hT, hF⟩ := h
  refine wk (decide (y15 < (((Sl.cut p1 10 0 (((p1).c : Int).toNat) ((p1).c))).n : Int))) rfl (fun hb20 => ?_) (fun hb20 => ?_)
  ·have h := hT hb20
   refine wp_ (nt (ws (wb (ws (wr_ (hv (v := Sl.v (Sl.cut p1 10 0 (((p1).c : Int).toNat) ((p1).c))) rfl (mv rfl) ?_))))))
   refine hv (v := iv y15) rfl (mv rfl) ?_
   obtain ⟨a21, e22, b23, b24, h⟩ := h
   refine hv (v := pp (Addr.add a21 (y15.toNat * 10))) rfl (ia runUnderlying39 sizeOf41 (Sl.v_some rfl e22) rfl b23 b24) ?_
   obtain ⟨x26, x27, x28, x29, x30, x31, x32, x33, x34, x35, c25, h⟩ := h
   refine hv (v := .agg (eR x26 x27 x28 x29 x30 x31 x32 x33 x34 x35).toArray) rfl (ln (eR x26 x27 x28 x29 x30 x31 x32 x33 x34 x35) isAgg41 sizeOf41 rfl c25) ?_
   refine ho rfl (HOp.alloc zeroValue41) ?_
   rintro _ H36 ⟨rfl, e37⟩
   replace h := h H36 e37
   obtain ⟨z40, h⟩ := h
   refine hq (HOp.storeN' (l := (eR x26 x27 x28 x29 x30 x31 x32 x33 x34 x35)) sizeOf41 rfl rfl rfl z40) ?_
   rintro _ H38 e39
   replace h := h H38 e39
   refine hn (nt (wc (fun ρ H_4 => ∃ y50, Env.Is ρ [(0, (Sl.v p0)), (1, (Sl.v p1)), (5, (iv ((p0).n : Int))), (6, (Sl.v (Sl.cut p1 10 0 (((p1).c : Int).toNat) ((p1).c)))), (7, (iv y15)), (69, (bv y50))] ∧ F33_4 X Q X3 p0 p1 ((p0).n : Int) (Sl.cut p1 10 0 (((p1).c : Int).toNat) ((p1).c)) y15 y50 H_4) ?_ ?_))
   ·refine wr_ (hv (v := pp (bk H_3)) rfl (HVal.fieldAddr0 runUnderlying41 rfl rfl sizeOf3 rfl) ?_)
    obtain ⟨x47, c46, h⟩ := h
    refine hv (v := iv x47) rfl (l1 isAgg3 rfl c46) (hv (v := iv y15) rfl (mv rfl) (hv (v := iv (IntKind.i64.wrap (77 + y15))) rfl (HVal.add rfl rfl) ?_))
    refine hv (v := bv (decide (x47 ≠ (IntKind.i64.wrap (77 + y15))))) rfl (HVal.neqI rfl rfl) (hv (v := bv (decide (x47 ≠ (IntKind.i64.wrap (77 + y15))))) rfl (mv rfl) ?_)
    obtain ⟨hT, hF⟩ := h
    rcases Bool.eq_false_or_eq_true (decide (x47 ≠ (IntKind.i64.wrap (77 + y15)))) with hb48 | hb49
    ·have h := hT hb48
     refine hs_ rfl rfl rfl rfl (cB hb48) (hs_ rfl rfl rfl rfl (cB hb48) (hs_ rfl rfl rfl rfl (cB hb48) (hv (v := bv true) rfl (pt_ rfl hb48 rfl) ?_)))
     refine hv (v := bv true) rfl (mv rfl) (hs_ rfl rfl rfl rfl rfl (hs_ rfl rfl rfl rfl rfl (hs_ rfl rfl rfl rfl rfl ?_)))
     refine hv (v := bv true) rfl (pt_ rfl rfl rfl) (hv (v := bv true) rfl (mv rfl) (hs_ rfl rfl rfl rfl rfl (hs_ rfl rfl rfl rfl rfl ?_)))
     refine hs_ rfl rfl rfl rfl rfl (hv (v := bv true) rfl (pt_ rfl rfl rfl) (hv (v := bv true) rfl (mv rfl) (hs_ rfl rfl rfl rfl rfl ?_)))
     refine hs_ rfl rfl rfl rfl rfl (hs_ rfl rfl rfl rfl rfl (hv (v := bv true) rfl (pt_ rfl rfl rfl) (hv (v := bv true) rfl (mv rfl) ?_)))
     refine hs_ rfl rfl rfl rfl rfl (hs_ rfl rfl rfl rfl rfl (hs_ rfl rfl rfl rfl rfl (hs_ rfl rfl rfl rfl rfl (hv (v := bv true) rfl (pt_ rfl rfl rfl) ?_))))
     refine hn (nt ?_)
     exact ⟨true, (isp rfl), h⟩
    have h := hF hb49
    refine hg (v := pp (Addr.add (bk H_3) 1)) rfl rfl rfl rfl (cB hb49) (fa runUnderlying41 rfl rfl sizeOf3 rfl) ?_
    obtain ⟨x52, c51, h⟩ := h
    refine hg (v := iv x52) rfl rfl rfl rfl (cB hb49) (l1 isAgg3 rfl c51) (hg (v := bv (decide (x52 ≠ 0))) rfl rfl rfl rfl (cB hb49) (HVal.neqI rfl rfl) ?_)
    refine hv (v := bv (decide (x52 ≠ 0))) rfl (pf_ rfl hb49 rfl) (hv (v := bv (decide (x52 ≠ 0))) rfl (mv rfl) ?_)
    obtain ⟨hT, hF⟩ := h
    rcases Bool.eq_false_or_eq_true (decide (x52 ≠ 0)) with hb53 | hb54
    ·have h := hT hb53
     refine hs_ rfl rfl rfl rfl (cB hb53) (hs_ rfl rfl rfl rfl (cB hb53) (hs_ rfl rfl rfl rfl (cB hb53) (hv (v := bv true) rfl (pt_ rfl hb53 rfl) ?_)))
     refine hv (v := bv true) rfl (mv rfl) (hs_ rfl rfl rfl rfl rfl (hs_ rfl rfl rfl rfl rfl (hs_ rfl rfl rfl rfl rfl ?_)))
     refine hv (v := bv true) rfl (pt_ rfl rfl rfl) (hv (v := bv true) rfl (mv rfl) (hs_ rfl rfl rfl rfl rfl (hs_ rfl rfl rfl rfl rfl ?_)))
     refine hs_ rfl rfl rfl rfl rfl (hv (v := bv true) rfl (pt_ rfl rfl rfl) (hv (v := bv true) rfl (mv rfl) (hs_ rfl rfl rfl rfl rfl ?_)))
     refine hs_ rfl rfl rfl rfl rfl (hs_ rfl rfl rfl rfl rfl (hs_ rfl rfl rfl rfl rfl (hv (v := bv true) rfl (pt_ rfl rfl rfl) ?_)))
     refine hn (nt ?_)
     exact ⟨true, (isp rfl), h⟩
    have h := hF hb54
    refine hg (v := pp (Addr.add (bk H_3) 6)) rfl rfl rfl rfl (cB hb54) (fa runUnderlying41 rfl rfl sizeOf9 rfl) ?_
    obtain ⟨x56, c55, h⟩ := h
    refine hg (v := sv x56) rfl rfl rfl rfl (cB hb54) (l1 isAgg9 rfl c55) (hg (v := bv (!(seq x56 bE))) rfl rfl rfl rfl (cB hb54) (HVal.neqS rfl rfl) ?_)
    refine hv (v := bv (!(seq x56 bE))) rfl (pf_ rfl hb54 rfl) (hv (v := bv (!(seq x56 bE))) rfl (mv rfl) ?_)
    obtain ⟨hT, hF⟩ := h
    rcases Bool.eq_false_or_eq_true (!(seq x56 bE)) with hb57 | hb58
    ·have h := hT hb57
     refine hs_ rfl rfl rfl rfl (cB hb57) (hs_ rfl rfl rfl rfl (cB hb57) (hs_ rfl rfl rfl rfl (cB hb57) (hv (v := bv true) rfl (pt_ rfl hb57 rfl) ?_)))
     refine hv (v := bv true) rfl (mv rfl) (hs_ rfl rfl rfl rfl rfl (hs_ rfl rfl rfl rfl rfl (hs_ rfl rfl rfl rfl rfl ?_)))
     refine hv (v := bv true) rfl (pt_ rfl rfl rfl) (hv (v := bv true) rfl (mv rfl) (hs_ rfl rfl rfl rfl rfl (hs_ rfl rfl rfl rfl rfl ?_)))
     refine hs_ rfl rfl rfl rfl rfl (hs_ rfl rfl rfl rfl rfl (hv (v := bv true) rfl (pt_ rfl rfl rfl) (hn (nt ?_))))
     exact ⟨true, (isp rfl), h⟩
    have h := hF hb58
    refine hg (v := pp (Addr.add (bk H_3) 7)) rfl rfl rfl rfl (cB hb58) (fa runUnderlying41 rfl rfl sizeOf3 rfl) ?_
    obtain ⟨x60, c59, h⟩ := h
    refine hg (v := iv x60) rfl rfl rfl rfl (cB hb58) (l1 isAgg3 rfl c59) (hg (v := bv (decide (x60 ≠ 0))) rfl rfl rfl rfl (cB hb58) (HVal.neqI rfl rfl) ?_)
    refine hv (v := bv (decide (x60 ≠ 0))) rfl (pf_ rfl hb58 rfl) (hv (v := bv (decide (x60 ≠ 0))) rfl (mv rfl) ?_)
    obtain ⟨hT, hF⟩ := h
    rcases Bool.eq_false_or_eq_true (decide (x60 ≠ 0)) with hb61 | hb62
    ·have h := hT hb61
     refine hs_ rfl rfl rfl rfl (cB hb61) (hs_ rfl rfl rfl rfl (cB hb61) (hs_ rfl rfl rfl rfl (cB hb61) (hv (v := bv true) rfl (pt_ rfl hb61 rfl) ?_)))
     refine hv (v := bv true) rfl (mv rfl) (hs_ rfl rfl rfl rfl rfl (hs_ rfl rfl rfl rfl rfl (hs_ rfl rfl rfl rfl rfl ?_)))
     refine hs_ rfl rfl rfl rfl rfl (hv (v := bv true) rfl (pt_ rfl rfl rfl) (hn (nt ?_)))
     exact ⟨true, (isp rfl), h⟩
    have h := hF hb62
    refine hg (v := pp (Addr.add (bk H_3) 8)) rfl rfl rfl rfl (cB hb62) (fa runUnderlying41 rfl rfl sizeOf9 rfl) ?_
    obtain ⟨x64, c63, h⟩ := h
    refine hg (v := sv x64) rfl rfl rfl rfl (cB hb62) (l1 isAgg9 rfl c63) (hg (v := bv (!(seq x64 bE))) rfl rfl rfl rfl (cB hb62) (HVal.neqS rfl rfl) ?_)
    refine hv (v := bv (!(seq x64 bE))) rfl (pf_ rfl hb62 rfl) (hv (v := bv (!(seq x64 bE))) rfl (mv rfl) ?_)
    obtain ⟨hT, hF⟩ := h
    rcases Bool.eq_false_or_eq_true (!(seq x64 bE)) with hb65 | hb66
    ·have h := hT hb65
     refine hs_ rfl rfl rfl rfl (cB hb65) (hs_ rfl rfl rfl rfl (cB hb65) (hs_ rfl rfl rfl rfl (cB hb65) (hs_ rfl rfl rfl rfl (cB hb65) ?_)))
     refine hv (v := bv true) rfl (pt_ rfl hb65 rfl) (hn (nt ?_))
     exact ⟨true, (isp rfl), h⟩
    have h := hF hb66
    refine hg (v := pp (Addr.add (bk H_3) 9)) rfl rfl rfl rfl (cB hb66) (fa runUnderlying41 rfl rfl sizeOf39 rfl) ?_
    obtain ⟨x68, c67, h⟩ := h
    refine hg (v := Sl.v x68) rfl rfl rfl rfl (cB hb66) (l1 isAgg39 rfl c67) (hg (v := iv ((x68).n : Int)) rfl rfl rfl rfl (cB hb66) (HVal.len runUnderlying39 rfl) ?_)
    refine hg (v := bv (decide (((x68).n : Int) ≠ 0))) rfl rfl rfl rfl (cB hb66) (HVal.neqI rfl rfl) (hv (v := bv (decide (((x68).n : Int) ≠ 0))) rfl (pf_ rfl hb66 rfl) ?_)
    refine hn (nt ?_)
    exact ⟨(decide (((x68).n : Int) ≠ 0)), (isp rfl), h⟩
   rintro ρ H_4 ⟨y50, hI, h⟩
   obtain ⟨ρ0, rfl⟩ := hI.ex
   clear hI; unfold F33_4 at h
   obtain ⟨hT, hF⟩ := h
   refine wk y50 rfl (fun hb69 => ?_) (fun hb69 => ?_)
   ·have h := hT hb69
    refine ws (wr_ (hv (v := bv false) rfl (av rfl) (hn (nt (HW.ret (br (tr (tr (br (tr ?_))))))))))
    exact ⟨_, resOf1 rfl Res1.t, ⟨false, rfl, h⟩⟩
   have h := hF hb69
   refine wp_ (nb (nt (wr_ (hv (v := iv y15) rfl (mv rfl) (hv (v := iv (IntKind.i64.wrap (y15 + 1))) rfl (HVal.add rfl rfl) ?_)))))
   refine hv (v := iv (IntKind.i64.wrap (y15 + 1))) rfl (av rfl) (hn (nt ?_))
   exact (hX3 _ _).1 h _ (isp rfl)
  have h := hF hb20
  refine we (te (te (be (nt ?_))))
  exact ⟨(isp rfl), h⟩
 rintro ρ H_2 ⟨hI, h⟩
 obtain ⟨ρ0, rfl⟩ := hI.ex
 clear hI; unfold F33_2 at h
 refine ws (ws (wr_ (hv (v := iv 0) rfl (av rfl) (hn (nt (wb (HW.loop' (fun L5 hL5 => ?_))))))))
 obtain ⟨X5, hX5⟩ : ∃ X5 : ZQI, ∀ (y70 : Int) (H_5 : Hp), X5 y70 H_5 ↔ ∀ ρ, Env.Is ρ [(0, (Sl.v p0)), (1, (Sl.v p1)), (5, (iv ((p0).n : Int))), (9, (iv y70))] → L5 ρ H_5 := ⟨_, fun _ _ => Iff.rfl⟩
 refine (hX5 _ _).1 (h X5 ?_) _ ?_
 rotate_left
 ·exact (isp rfl)
 clear h
 intro y70 H_5 h
 refine (hX5 _ _).2 fun ρ hI => ?_
 obtain ⟨ρ0, rfl⟩ := hI.ex
 clear hI; unfold F33_L5b at h; refine hL5 _ _ ?_
 refine ws (ws (wr_ (hv (v := iv y70) rfl (mv rfl) (hv (v := iv ((p0).n : Int)) rfl (mv rfl) (hv (v := bv (decide (y70 < ((p0).n : Int)))) rfl (HVal.lss rfl rfl) ?_)))))
 refine hn (nt ?_)
 obtain ⟨hT, hF⟩ := h
 refine wk (decide (y70 < ((p0).n : Int))) rfl (fun hb74 => ?_) (fun hb74 => ?_)
 ·have h := hT hb74
  refine wp_ (nt (ws (wb (wc (fun ρ H_6 => ∃ y124 y125, Env.Is ρ [(0, (Sl.v p0)), (1, (Sl.v p1)), (5, (iv ((p0).n : Int))), (9, (iv y70)), (10, (pp y124)), (11, (pp y125))] ∧ F33_6 X Q X5 p0 p1 ((p0).n : Int) y70 y124 y125 H_6) ?_ ?_))))
  ·refine HW.draw mixed [(0, some []), (1, some []), (2, some []), (3, some [10, 11]), (4, some []), (5, some []), (6, some []), (7, some [11]), (12, none), (12, none), (12, none), (12, none)] rfl (by kernel_rfl) (by kernel_rfl) ?_
   refine pv (v := Sl.v p0) rfl rfl (fun _ => mv rfl) (pv (v := iv y70) rfl rfl (fun _ => mv rfl) ?_)
   obtain ⟨a79, e80, b81, b82, h⟩ := h
   refine pv (v := pp (Addr.add a79 (y70.toNat * 10))) rfl rfl (fun _ => ia runUnderlying39 sizeOf41 (Sl.v_some rfl e80) rfl b81 b82) ?_
   obtain ⟨x84, x85, x86, x87, x88, x89, x90, x91, x92, x93, c83, h⟩ := h
   refine pl (v := .agg (eR x84 x85 x86 x87 x88 x89 x90 x91 x92 x93).toArray) (fun X => cells X (Addr.add a79 (y70.toNat * 10)) (eR x84 x85 x86 x87 x88 x89 x90 x91 x92 x93) 0) rfl rfl (fun _ hX => ln (eR x84 x85 x86 x87 x88 x89 x90 x91 x92 x93) isAgg41 sizeOf41 rfl hX) c83 ?_
   refine pv (v := Sl.v p1) rfl rfl (fun _ => mv rfl) (pv (v := iv y70) rfl rfl (fun _ => mv rfl) ?_)
   obtain ⟨a94, e95, b96, b97, h⟩ := h
   refine pv (v := pp (Addr.add a94 (y70.toNat * 10))) rfl rfl (fun _ => ia runUnderlying39 sizeOf41 (Sl.v_some rfl e95) rfl b96 b97) ?_
   obtain ⟨x99, x100, x101, x102, x103, x104, x105, x106, x107, x108, c98, h⟩ := h
   refine pl (v := .agg (eR x99 x100 x101 x102 x103 x104 x105 x106 x107 x108).toArray) (fun X => cells X (Addr.add a94 (y70.toNat * 10)) (eR x99 x100 x101 x102 x103 x104 x105 x106 x107 x108) 0) rfl rfl (fun _ hX => ln (eR x99 x100 x101 x102 x103 x104 x105 x106 x107 x108) isAgg41 sizeOf41 rfl hX) c98 ?_
   obtain ⟨hB8, hB9⟩ := h
   refine HPlan.fork2 (i := 8) (j := 9) (by kernel_rfl) ?_ ?_
   ·have h := hB8
    clear hB8 hB9
    refine HBr.ops' [(9, none), (10, none), (11, none)] rfl (by kernel_rfl) (by kernel_rfl) rfl rfl rfl (HOp.alloc zeroValue41) ?_
    rintro _ H109 ⟨rfl, e110⟩
    replace h := h H109 e110
    obtain ⟨s111, s112, h⟩ := h
    refine ⟨SC_of ⟨fun _ => s111, fun _ => s112, trivial⟩, ?_⟩
    refine po rfl rfl (HOp.alloc zeroValue41) ?_
    rintro _ H113 ⟨rfl, e114⟩
    replace h := h H113 e114
    obtain ⟨s115, s116, h⟩ := h
    refine ⟨SC_of ⟨fun _ => s115, fun _ => s116, trivial⟩, ?_⟩
    obtain ⟨z119, h⟩ := h
    refine pn rfl (HOp.storeN' (l := (eR x84 x85 x86 x87 x88 x89 x90 x91 x92 x93)) sizeOf41 rfl rfl rfl z119) ?_
    rintro _ H117 e118
    replace h := h H117 e118
    obtain ⟨s120, h⟩ := h
    refine ⟨SC_of ⟨fun _ => s120, nofun, trivial⟩, ?_⟩
    obtain ⟨z123, h⟩ := h
    refine pn rfl (HOp.storeN' (l := (eR x99 x100 x101 x102 x103 x104 x105 x106 x107 x108)) sizeOf41 rfl rfl rfl z123) ?_
    rintro _ H121 e122
    replace h := h H121 e122
    refine ⟨SC_of ⟨nofun, nofun, trivial⟩, ?_⟩
    refine HPlan.done (nt ?_)
    exact ⟨(bk H_5), (bk H109), (isp rfl), h⟩
   have h := hB9
   clear hB8 hB9
   refine HBr.ops' [(8, none), (10, none), (11, none)] rfl (by kernel_rfl) (by kernel_rfl) rfl rfl rfl (HOp.alloc zeroValue41) ?_
   rintro _ H126 ⟨rfl, e127⟩
   replace h := h H126 e127
   obtain ⟨s128, s129, h⟩ := h
   refine ⟨SC_of ⟨fun _ => s128, fun _ => s129, trivial⟩, ?_⟩
   refine po rfl rfl (HOp.alloc zeroValue41) ?_
   rintro _ H130 ⟨rfl, e131⟩
   replace h := h H130 e131
   obtain ⟨s132, s133, h⟩ := h
   refine ⟨SC_of ⟨fun _ => s132, fun _ => s133, trivial⟩, ?_⟩
   obtain ⟨z136, h⟩ := h
   refine pn rfl (HOp.storeN' (l := (eR x84 x85 x86 x87 x88 x89 x90 x91 x92 x93)) sizeOf41 rfl rfl rfl z136) ?_
   rintro _ H134 e135
   replace h := h H134 e135
   obtain ⟨s137, h⟩ := h
   refine ⟨SC_of ⟨fun _ => s137, nofun, trivial⟩, ?_⟩
   obtain ⟨z140, h⟩ := h
   refine pn rfl (HOp.storeN' (l := (eR x99 x100 x101 x102 x103 x104 x105 x106 x107 x108)) sizeOf41 rfl rfl rfl z140) ?_
   rintro _ H138 e139
   replace h := h H138 e139
   refine ⟨SC_of ⟨nofun, nofun, trivial⟩, ?_⟩
   refine HPlan.done (nt ?_)
   exact ⟨(bk H126), (bk H_5), (isp rfl), h⟩
  rintro ρ H_6 ⟨y124, y125, hI, h⟩
  obtain ⟨ρ0, rfl⟩ := hI.ex
  clear hI; unfold F33_6 at h
  refine wc (fun ρ H_7 => ∃ y151, Env.Is ρ [(0, (Sl.v p0)), (1, (Sl.v p1)), (5, (iv ((p0).n : Int))), (9, (iv y70)), (130, (bv y151))] ∧ F33_7 X Q X5 p0 p1 ((p0).n : Int) y70 y151 H_7) ?_ ?_
  ·refine wr_ (hv (v := pp y124) rfl (HVal.fieldAddr0 runUnderlying41 rfl rfl sizeOf3 rfl) ?_)
   obtain ⟨x146, c145, h⟩ := h
   refine hv (v := iv x146) rfl (l1 isAgg3 rfl c145) (hv (v := pp y125) rfl (HVal.fieldAddr0 runUnderlying41 rfl rfl sizeOf3 rfl) ?_)
   obtain ⟨x148, c147, h⟩ := h
   refine hv (v := iv x148) rfl (l1 isAgg3 rfl c147) (hv (v := bv (decide (x146 ≠ x148))) rfl (HVal.neqI rfl rfl) (hv (v := bv (decide (x146 ≠ x148))) rfl (mv rfl) ?_))
   obtain ⟨hT, hF⟩ := h
   rcases Bool.eq_false_or_eq_true (decide (x146 ≠ x148)) with hb149 | hb150
   ·have h := hT hb149
    refine hs_ rfl rfl rfl rfl (cB hb149) (hs_ rfl rfl rfl rfl (cB hb149) (hs_ rfl rfl rfl rfl (cB hb149) (hs_ rfl rfl rfl rfl (cB hb149) ?_)))
    refine hs_ rfl rfl rfl rfl (cB hb149) (hv (v := bv true) rfl (pt_ rfl hb149 rfl) (hv (v := bv true) rfl (mv rfl) ?_))
    refine hs_ rfl rfl rfl rfl rfl (hs_ rfl rfl rfl rfl rfl (hs_ rfl rfl rfl rfl rfl (hs_ rfl rfl rfl rfl rfl (hs_ rfl rfl rfl rfl rfl ?_))))
    refine hv (v := bv true) rfl (pt_ rfl rfl rfl) (hv (v := bv true) rfl (mv rfl) (hs_ rfl rfl rfl rfl rfl (hs_ rfl rfl rfl rfl rfl ?_)))
    refine hs_ rfl rfl rfl rfl rfl (hs_ rfl rfl rfl rfl rfl (hs_ rfl rfl rfl rfl rfl (hv (v := bv true) rfl (pt_ rfl rfl rfl) ?_)))
    refine hv (v := bv true) rfl (mv rfl) (hs_ rfl rfl rfl rfl rfl (hs_ rfl rfl rfl rfl rfl (hs_ rfl rfl rfl rfl rfl ?_)))
    refine hs_ rfl rfl rfl rfl rfl (hs_ rfl rfl rfl rfl rfl (hv (v := bv true) rfl (pt_ rfl rfl rfl) (hv (v := bv true) rfl (mv rfl) ?_)))
    refine hs_ rfl rfl rfl rfl rfl (hs_ rfl rfl rfl rfl rfl (hs_ rfl rfl rfl rfl rfl (hs_ rfl rfl rfl rfl rfl (hs_ rfl rfl rfl rfl rfl ?_))))
    refine hv (v := bv true) rfl (pt_ rfl rfl rfl) (hv (v := bv true) rfl (mv rfl) (hs_ rfl rfl rfl rfl rfl (hs_ rfl rfl rfl rfl rfl ?_)))
    refine hs_ rfl rfl rfl rfl rfl (hs_ rfl rfl rfl rfl rfl (hs_ rfl rfl rfl rfl rfl (hs_ rfl rfl rfl rfl rfl (hv (v := bv true) rfl (pt_ rfl rfl rfl) ?_))))
    refine hn (nt ?_)
    exact ⟨true, (isp rfl), h⟩
   have h := hF hb150
   refine hg (v := pp (Addr.add y124 1)) rfl rfl rfl rfl (cB hb150) (fa runUnderlying41 rfl rfl sizeOf3 rfl) ?_
   obtain ⟨x153, c152, h⟩ := h
   refine hg (v := iv x153) rfl rfl rfl rfl (cB hb150) (l1 isAgg3 rfl c152) (hg (v := pp (Addr.add y125 1)) rfl rfl rfl rfl (cB hb150) (fa runUnderlying41 rfl rfl sizeOf3 rfl) ?_)
   obtain ⟨x155, c154, h⟩ := h
   refine hg (v := iv x155) rfl rfl rfl rfl (cB hb150) (l1 isAgg3 rfl c154) (hg (v := bv (decide (x153 ≠ x155))) rfl rfl rfl rfl (cB hb150) (HVal.neqI rfl rfl) ?_)
   refine hv (v := bv (decide (x153 ≠ x155))) rfl (pf_ rfl hb150 rfl) (hv (v := bv (decide (x153 ≠ x155))) rfl (mv rfl) ?_)
   obtain ⟨hT, hF⟩ := h
   rcases Bool.eq_false_or_eq_true (decide (x153 ≠ x155)) with hb156 | hb157
   ·have h := hT hb156
    refine hs_ rfl rfl rfl rfl (cB hb156) (hs_ rfl rfl rfl rfl (cB hb156) (hs_ rfl rfl rfl rfl (cB hb156) (hs_ rfl rfl rfl rfl (cB hb156) ?_)))
    refine hs_ rfl rfl rfl rfl (cB hb156) (hv (v := bv true) rfl (pt_ rfl hb156 rfl) (hv (v := bv true) rfl (mv rfl) ?_))
    refine hs_ rfl rfl rfl rfl rfl (hs_ rfl rfl rfl rfl rfl (hs_ rfl rfl rfl rfl rfl (hs_ rfl rfl rfl rfl rfl (hs_ rfl rfl rfl rfl rfl ?_))))
    refine hv (v := bv true) rfl (pt_ rfl rfl rfl) (hv (v := bv true) rfl (mv rfl) (hs_ rfl rfl rfl rfl rfl (hs_ rfl rfl rfl rfl rfl ?_)))
    refine hs_ rfl rfl rfl rfl rfl (hs_ rfl rfl rfl rfl rfl (hs_ rfl rfl rfl rfl rfl (hv (v := bv true) rfl (pt_ rfl rfl rfl) ?_)))
    refine hv (v := bv true) rfl (mv rfl) (hs_ rfl rfl rfl rfl rfl (hs_ rfl rfl rfl rfl rfl (hs_ rfl rfl rfl rfl rfl ?_)))
    refine hs_ rfl rfl rfl rfl rfl (hs_ rfl rfl rfl rfl rfl (hv (v := bv true) rfl (pt_ rfl rfl rfl) (hv (v := bv true) rfl (mv rfl) ?_)))
    refine hs_ rfl rfl rfl rfl rfl (hs_ rfl rfl rfl rfl rfl (hs_ rfl rfl rfl rfl rfl (hs_ rfl rfl rfl rfl rfl (hs_ rfl rfl rfl rfl rfl ?_))))
    refine hs_ rfl rfl rfl rfl rfl (hv (v := bv true) rfl (pt_ rfl rfl rfl) (hn (nt ?_)))
    exact ⟨true, (isp rfl), h⟩
   have h := hF hb157
   refine hg (v := pp (Addr.add y124 2)) rfl rfl rfl rfl (cB hb157) (fa runUnderlying41 rfl rfl sizeOf38 rfl) ?_
   obtain ⟨x159, x160, x161, x162, c158, h⟩ := h
   refine hg (v := .agg (vR x159 x160 x161 x162).toArray) rfl rfl rfl rfl (cB hb157) (ln (vR x159 x160 x161 x162) isAgg38 sizeOf38 rfl c158) ?_
   refine hg (v := pp (Addr.add y125 2)) rfl rfl rfl rfl (cB hb157) (fa runUnderlying41 rfl rfl sizeOf38 rfl) ?_
   obtain ⟨x164, x165, x166, x167, c163, h⟩ := h
   refine hg (v := .agg (vR x164 x165 x166 x167).toArray) rfl rfl rfl rfl (cB hb157) (ln (vR x164 x165 x166 x167) isAgg38 sizeOf38 rfl c163) ?_
   refine hg (v := bv (!(decide (x159 = x164) && (decide (x160 = x165) && (seq x161 x166 && (x162 == x167)))))) rfl rfl rfl rfl (cB hb157) (eqs38_neq rfl rfl) ?_
   refine hv (v := bv (!(decide (x159 = x164) && (decide (x160 = x165) && (seq x161 x166 && (x162 == x167)))))) rfl (pf_ rfl hb157 rfl) (hv (v := bv (!(decide (x159 = x164) && (decide (x160 = x165) && (seq x161 x166 && (x162 == x167)))))) rfl (mv rfl) ?_)
   obtain ⟨hT, hF⟩ := h
   rcases Bool.eq_false_or_eq_true (!(decide (x159 = x164) && (decide (x160 = x165) && (seq x161 x166 && (x162 == x167))))) with hb168 | hb169
   ·have h := hT hb168
    refine hs_ rfl rfl rfl rfl (cB hb168) (hs_ rfl rfl rfl rfl (cB hb168) (hs_ rfl rfl rfl rfl (cB hb168) (hs_ rfl rfl rfl rfl (cB hb168) ?_)))
    refine hs_ rfl rfl rfl rfl (cB hb168) (hv (v := bv true) rfl (pt_ rfl hb168 rfl) (hv (v := bv true) rfl (mv rfl) ?_))
    refine hs_ rfl rfl rfl rfl rfl (hs_ rfl rfl rfl rfl rfl (hs_ rfl rfl rfl rfl rfl (hs_ rfl rfl rfl rfl rfl (hs_ rfl rfl rfl rfl rfl ?_))))
    refine hv (v := bv true) rfl (pt_ rfl rfl rfl) (hv (v := bv true) rfl (mv rfl) (hs_ rfl rfl rfl rfl rfl (hs_ rfl rfl rfl rfl rfl ?_)))
    refine hs_ rfl rfl rfl rfl rfl (hs_ rfl rfl rfl rfl rfl (hs_ rfl rfl rfl rfl rfl (hv (v := bv true) rfl (pt_ rfl rfl rfl) ?_)))
    refine hv (v := bv true) rfl (mv rfl) (hs_ rfl rfl rfl rfl rfl (hs_ rfl rfl rfl rfl rfl (hs_ rfl rfl rfl rfl rfl ?_)))
    refine hs_ rfl rfl rfl rfl rfl (hs_ rfl rfl rfl rfl rfl (hs_ rfl rfl rfl rfl rfl (hv (v := bv true) rfl (pt_ rfl rfl rfl) ?_)))
    refine hn (nt ?_)
    exact ⟨true, (isp rfl), h⟩
   have h := hF hb169
   refine hg (v := pp (Addr.add y124 6)) rfl rfl rfl rfl (cB hb169) (fa runUnderlying41 rfl rfl sizeOf9 rfl) ?_
   obtain ⟨x171, c170, h⟩ := h
   refine hg (v := sv x171) rfl rfl rfl rfl (cB hb169) (l1 isAgg9 rfl c170) (hg (v := pp (Addr.add y125 6)) rfl rfl rfl rfl (cB hb169) (fa runUnderlying41 rfl rfl sizeOf9 rfl) ?_)
   obtain ⟨x173, c172, h⟩ := h
   refine hg (v := sv x173) rfl rfl rfl rfl (cB hb169) (l1 isAgg9 rfl c172) (hg (v := bv (!(seq x171 x173))) rfl rfl rfl rfl (cB hb169) (HVal.neqS rfl rfl) ?_)
   refine hv (v := bv (!(seq x171 x173))) rfl (pf_ rfl hb169 rfl) (hv (v := bv (!(seq x171 x173))) rfl (mv rfl) ?_)
   obtain ⟨hT, hF⟩ := h
   rcases Bool.eq_false_or_eq_true (!(seq x171 x173)) with hb174 | hb175
   ·have h := hT hb174
    refine hs_ rfl rfl rfl rfl (cB hb174) (hs_ rfl rfl rfl rfl (cB hb174) (hs_ rfl rfl rfl rfl (cB hb174) (hs_ rfl rfl rfl rfl (cB hb174) ?_)))
    refine hs_ rfl rfl rfl rfl (cB hb174) (hv (v := bv true) rfl (pt_ rfl hb174 rfl) (hv (v := bv true) rfl (mv rfl) ?_))
    refine hs_ rfl rfl rfl rfl rfl (hs_ rfl rfl rfl rfl rfl (hs_ rfl rfl rfl rfl rfl (hs_ rfl rfl rfl rfl rfl (hs_ rfl rfl rfl rfl rfl ?_))))
    refine hv (v := bv true) rfl (pt_ rfl rfl rfl) (hv (v := bv true) rfl (mv rfl) (hs_ rfl rfl rfl rfl rfl (hs_ rfl rfl rfl rfl rfl ?_)))
    refine hs_ rfl rfl rfl rfl rfl (hs_ rfl rfl rfl rfl rfl (hs_ rfl rfl rfl rfl rfl (hs_ rfl rfl rfl rfl rfl (hv (v := bv true) rfl (pt_ rfl rfl rfl) ?_))))
    refine hn (nt ?_)
    exact ⟨true, (isp rfl), h⟩
   have h := hF hb175
   refine hg (v := pp (Addr.add y124 7)) rfl rfl rfl rfl (cB hb175) (fa runUnderlying41 rfl rfl sizeOf3 rfl) ?_
   obtain ⟨x177, c176, h⟩ := h
   refine hg (v := iv x177) rfl rfl rfl rfl (cB hb175) (l1 isAgg3 rfl c176) (hg (v := pp (Addr.add y125 7)) rfl rfl rfl rfl (cB hb175) (fa runUnderlying41 rfl rfl sizeOf3 rfl) ?_)
   obtain ⟨x179, c178, h⟩ := h
   refine hg (v := iv x179) rfl rfl rfl rfl (cB hb175) (l1 isAgg3 rfl c178) (hg (v := bv (decide (x177 ≠ x179))) rfl rfl rfl rfl (cB hb175) (HVal.neqI rfl rfl) ?_)
   refine hv (v := bv (decide (x177 ≠ x179))) rfl (pf_ rfl hb175 rfl) (hv (v := bv (decide (x177 ≠ x179))) rfl (mv rfl) ?_)
   obtain ⟨hT, hF⟩ := h
   rcases Bool.eq_false_or_eq_true (decide (x177 ≠ x179)) with hb180 | hb181
   ·have h := hT hb180
    refine hs_ rfl rfl rfl rfl (cB hb180) (hs_ rfl rfl rfl rfl (cB hb180) (hs_ rfl rfl rfl rfl (cB hb180) (hs_ rfl rfl rfl rfl (cB hb180) ?_)))
    refine hs_ rfl rfl rfl rfl (cB hb180) (hv (v := bv true) rfl (pt_ rfl hb180 rfl) (hv (v := bv true) rfl (mv rfl) ?_))
    refine hs_ rfl rfl rfl rfl rfl (hs_ rfl rfl rfl rfl rfl (hs_ rfl rfl rfl rfl rfl (hs_ rfl rfl rfl rfl rfl (hs_ rfl rfl rfl rfl rfl ?_))))
    refine hs_ rfl rfl rfl rfl rfl (hv (v := bv true) rfl (pt_ rfl rfl rfl) (hn (nt ?_)))
    exact ⟨true, (isp rfl), h⟩
   have h := hF hb181
   refine hg (v := pp (Addr.add y124 8)) rfl rfl rfl rfl (cB hb181) (fa runUnderlying41 rfl rfl sizeOf9 rfl) ?_
   obtain ⟨x183, c182, h⟩ := h
   refine hg (v := sv x183) rfl rfl rfl rfl (cB hb181) (l1 isAgg9 rfl c182) (hg (v := pp (Addr.add y125 8)) rfl rfl rfl rfl (cB hb181) (fa runUnderlying41 rfl rfl sizeOf9 rfl) ?_)
   obtain ⟨x185, c184, h⟩ := h
   refine hg (v := sv x185) rfl rfl rfl rfl (cB hb181) (l1 isAgg9 rfl c184) (hg (v := bv (!(seq x183 x185))) rfl rfl rfl rfl (cB hb181) (HVal.neqS rfl rfl) ?_)
   refine hv (v := bv (!(seq x183 x185))) rfl (pf_ rfl hb181 rfl) (hv (v := bv (!(seq x183 x185))) rfl (mv rfl) ?_)
   obtain ⟨hT, hF⟩ := h
   rcases Bool.eq_false_or_eq_true (!(seq x183 x185)) with hb186 | hb187
   ·have h := hT hb186
    refine hs_ rfl rfl rfl rfl (cB hb186) (hs_ rfl rfl rfl rfl (cB hb186) (hs_ rfl rfl rfl rfl (cB hb186) (hs_ rfl rfl rfl rfl (cB hb186) ?_)))
    refine hs_ rfl rfl rfl rfl (cB hb186) (hs_ rfl rfl rfl rfl (cB hb186) (hv (v := bv true) rfl (pt_ rfl hb186 rfl) (hn (nt ?_))))
    exact ⟨true, (isp rfl), h⟩
   have h := hF hb187
   refine hg (v := pp (Addr.add y124 9)) rfl rfl rfl rfl (cB hb187) (fa runUnderlying41 rfl rfl sizeOf39 rfl) ?_
   obtain ⟨x189, c188, h⟩ := h
   refine hg (v := Sl.v x189) rfl rfl rfl rfl (cB hb187) (l1 isAgg39 rfl c188) (hg (v := pp (Addr.add y125 9)) rfl rfl rfl rfl (cB hb187) (fa runUnderlying41 rfl rfl sizeOf39 rfl) ?_)
   obtain ⟨x191, c190, h⟩ := h
   refine hg (v := Sl.v x191) rfl rfl rfl rfl (cB hb187) (l1 isAgg39 rfl c190) (HList.gops rfl rfl rfl rfl (cB hb187) (HOp.call' 33 [(Sl.v x189), (Sl.v x191)] (cap := []) rfl rfl call33 ((hX _ _ _ _).1 h)) ?_)
   rintro _ H192 ⟨r194, rfl, h⟩
   refine hg (v := bv (!r194)) rfl rfl rfl rfl (cB hb187) (HVal.not rfl) (hv (v := bv (!r194)) rfl (pf_ rfl hb187 rfl) (hn (nt ?_)))
   exact ⟨(!r194), (isp rfl), h⟩
  rintro ρ H_7 ⟨y151, hI, h⟩
  obtain ⟨ρ0, rfl⟩ := hI.ex
  clear hI; unfold F33_7 at h
  obtain ⟨hT, hF⟩ := h
  refine wk y151 rfl (fun hb195 => ?_) (fun hb195 => ?_)
  ·have h := hT hb195
   refine ws (wr_ (hv (v := bv false) rfl (av rfl) (hn (nt (HW.ret (br (tr (tr (br (tr ?_))))))))))
   exact ⟨_, resOf1 rfl Res1.t, ⟨false, rfl, h⟩⟩
  have h := hF hb195
  refine wp_ (nb (nt (wr_ (hv (v := iv y70) rfl (mv rfl) (hv (v := iv (IntKind.i64.wrap (y70 + 1))) rfl (HVal.add rfl rfl) ?_)))))
  refine hv (v := iv (IntKind.i64.wrap (y70 + 1))) rfl (av rfl) (hn (nt ?_))
  exact (hX5 _ _).1 h _ (isp rfl)
 have h := hF hb74
 refine we (te (te (be (nt (ws (wr_ (hv (v := bv true) rfl (av rfl) (hn (nt (HW.ret ?_))))))))))
 exact ⟨_, resOf1 rfl Res1.t, ⟨true, rfl, h⟩⟩

def F53_1 (Q : ZQB) (y192 : Bool) (H_1 : Hp) : Prop :=
Q y192 H_1
def F53_3 (Q : ZQB) (X2 : Bool → ZQI) (y12 : (Option Addr)) (y13 : Sl) (y14 : Int) (y38 : Bool) (H_3 : Hp) : Prop :=
X2 y38 (IntKind.i64.wrap (y14 + 1)) H_3
def F53_7 (Q : ZQB) (X2 X6 : Bool → ZQI) (y151 : (Option Addr)) (y152 : Sl) (y153 : Int) (y154 : Addr) (y155 : Int) (y156 : Addr) (H_7 : Hp) : Prop :=
∃ a172, y151 = some a172 ∧ (
 ∃ x175, cell H_7 (Addr.add a172 3) = some (Sl.v x175) ∧ (
 ∃ a176, (x175).b = some a176 ∧ (0 : Int) ≤ y153 ∧ y153 < ((x175).n : Int) ∧ (
 ∃ x181, cell H_7 (Addr.add a176 (y153.toNat * 1)) = some (Sl.v x181) ∧ (
 ∃ a182, (x181).b = some a182 ∧ (0 : Int) ≤ y155 ∧ y155 < ((x181).n : Int) ∧ (
 ∃ x187 x188, cells H_7 (Addr.add a182 (y155.toNat * 2)) [(sv x187), (iv x188)] 0 ∧ (
 ∃ x190 x191, cells H_7 y156 [(sv x190), (iv x191)] 0 ∧ (
 X6 (seq x187 x190 && decide (x188 = x191)) (IntKind.i64.wrap (y155 + 1)) H_7)))))))
def F53_L6b (Q : ZQB) (X2 X6 : Bool → ZQI) (y129 : (Option Addr)) (y130 : Sl) (y131 : Int) (y132 : Addr) (y127 : Bool) (y128 : Int) (H_6 : Hp) : Prop :=
(y127 = true → (∃ a135, y129 = some a135 ∧ (
 ∃ x138, cell H_6 (Addr.add a135 3) = some (Sl.v x138) ∧ (
 ∃ a139, (x138).b = some a139 ∧ (0 : Int) ≤ y131 ∧ y131 < ((x138).n : Int) ∧ (
 ∃ x144, cell H_6 (Addr.add a139 (y131.toNat * 1)) = some (Sl.v x144) ∧ (
 ((decide (y128 < ((x144).n : Int))) = true → (∀ H146, H146 = Array.push H_6 (.cells #[(sv bE), (iv 0)] 83) → (
 mayw H146 (bk H_6) 2 0 ∧ ∀ H148, H148 = sets H146 (bk H_6) [(sv bE), (iv (IntKind.i64.wrap (77 + y128)))] 0 → (
 ∃ x158, cell H148 (Addr.add y132 1) = some (Sl.v x158) ∧ (
 ((decide (y128 < ((x158).n : Int))) = true → (∃ x161, cell H148 (Addr.add y132 1) = some (Sl.v x161) ∧ (
 ∃ a162, (x161).b = some a162 ∧ (0 : Int) ≤ y128 ∧ y128 < ((x161).n : Int) ∧ (
 ∃ x167 x168, cells H148 (Addr.add a162 (y128.toNat * 2)) [(sv x167), (iv x168)] 0 ∧ (
 mayw H148 (bk H_6) 2 0 ∧ ∀ H169, H169 = sets H148 (bk H_6) [(sv x167), (iv x168)] 0 → (
 F53_7 Q X2 X6 y129 y130 y131 y132 y128 (bk H_6) H169)))))) ∧
 ((decide (y128 < ((x158).n : Int))) = false → (F53_7 Q X2 X6 y129 y130 y131 y132 y128 (bk H_6) H148))))))) ∧
 ((decide (y128 < ((x144).n : Int))) = false → (F53_3 Q X2 y129 y130 y131 y127 H_6)))))))) ∧
 (y127 = false → (F53_3 Q X2 y129 y130 y131 y127 H_6))
def F53_L6 (Q : ZQB) (X2 : Bool → ZQI) (y129 : (Option Addr)) (y130 : Sl) (y131 : Int) (y132 : Addr) (y127 : Bool) (y128 : Int) (H_6 : Hp) : Prop :=
 ∀ X6 : Bool → ZQI, (∀ (y127 : Bool) (y128 : Int) (H_6 : Hp), F53_L6b Q X2 X6 y129 y130 y131 y132 y127 y128 H_6 → X6 y127 y128 H_6) → X6 y127 y128 H_6
def F53_5 (Q : ZQB) (X2 : Bool → ZQI) (y98 : (Option Addr)) (y99 : Sl) (y100 : Int) (y101 : Addr) (y126 : Bool) (H_5 : Hp) : Prop :=
F53_L6 Q X2 y98 y99 y100 y101 y126 0 H_5
def F53_4 (Q : ZQB) (X2 : Bool → ZQI) (y39 : (Option Addr)) (y40 : Sl) (y41 : Int) (y78 y79 : Addr) (H_4 : Hp) : Prop :=
∃ x103, cell H_4 y78 = some (sv x103) ∧ (
 ∃ x105, cell H_4 y79 = some (sv x105) ∧ (
 ((seq x103 x105) = true → (∃ x109, cell H_4 (Addr.add y78 1) = some (Sl.v x109) ∧ (
 ∃ x111, cell H_4 (Addr.add y79 1) = some (Sl.v x111) ∧ (
 ((decide (((x109).n : Int) = ((x111).n : Int))) = true → (∃ a114, y39 = some a114 ∧ (
 ∃ x117, cell H_4 (Addr.add a114 3) = some (Sl.v x117) ∧ (
 ∃ a118, (x117).b = some a118 ∧ (0 : Int) ≤ y41 ∧ y41 < ((x117).n : Int) ∧ (
 ∃ x123, cell H_4 (Addr.add a118 (y41.toNat * 1)) = some (Sl.v x123) ∧ (
 ∃ x125, cell H_4 (Addr.add y78 1) = some (Sl.v x125) ∧ (
 F53_5 Q X2 y39 y40 y41 y78 (decide (((x125).n : Int) < ((x123).n : Int))) H_4))))))) ∧
 ((decide (((x109).n : Int) = ((x111).n : Int))) = false → (F53_5 Q X2 y39 y40 y41 y78 false H_4)))))) ∧
 ((seq x103 x105) = false → (F53_5 Q X2 y39 y40 y41 y78 false H_4))))
def F53_L2b (Q : ZQB) (X2 : Bool → ZQI) (y3 : (Option Addr)) (y4 : Sl) (y1 : Bool) (y2 : Int) (H_2 : Hp) : Prop :=
∃ a5, y3 = some a5 ∧ (
 ∃ x8, cell H_2 (Addr.add a5 6) = some (Sl.v x8) ∧ (
 ((decide (y2 < ((x8).n : Int))) = true → ((y1 = true → (((decide (((y4).n : Int) ≤ y2)) = true → (∃ a16, y3 = some a16 ∧ (
 ∃ x19, cell H_2 (Addr.add a16 6) = some (Sl.v x19) ∧ (
 ∃ a20, (x19).b = some a20 ∧ (0 : Int) ≤ y2 ∧ y2 < ((x19).n : Int) ∧ (
 ∃ x25, cell H_2 (Addr.add a20 (y2.toNat * 2)) = some (sv x25) ∧ (
 ((seq x25 S_mark) = true → (∃ a28, y3 = some a28 ∧ (
 ∃ x31, cell H_2 (Addr.add a28 6) = some (Sl.v x31) ∧ (
 ∃ a32, (x31).b = some a32 ∧ (0 : Int) ≤ y2 ∧ y2 < ((x31).n : Int) ∧ (
 ∃ x37, cell H_2 (Addr.add (Addr.add a32 (y2.toNat * 2)) 1) = some (Sl.v x37) ∧ (
 F53_3 Q X2 y3 y4 y2 (decide (((x37).n : Int) = 0)) H_2)))))) ∧
 ((seq x25 S_mark) = false → (F53_3 Q X2 y3 y4 y2 false H_2)))))))) ∧
 ((decide (((y4).n : Int) ≤ y2)) = false → (∃ a42, (y4).b = some a42 ∧ (0 : Int) ≤ y2 ∧ y2 < ((y4).n : Int) ∧ (
 ∃ x47 x48, cells H_2 (Addr.add a42 (y2.toNat * 2)) [(sv x47), (Sl.v x48)] 0 ∧ (
 ∃ a49, y3 = some a49 ∧ (
 ∃ x52, cell H_2 (Addr.add a49 6) = some (Sl.v x52) ∧ (
 ∃ a53, (x52).b = some a53 ∧ (0 : Int) ≤ y2 ∧ y2 < ((x52).n : Int) ∧ (
 ∃ x58 x59, cells H_2 (Addr.add a53 (y2.toNat * 2)) [(sv x58), (Sl.v x59)] 0 ∧ (
 (∀ H60, H60 = Array.push H_2 (.cells #[(sv bE), sN] 86) → (
 cells H60 (Addr.add a53 (y2.toNat * 2)) [(sv x58), (Sl.v x59)] 0 ∧ cell H60 (Addr.add a49 6) = some (Sl.v x52) ∧ cells H60 (Addr.add a42 (y2.toNat * 2)) [(sv x47), (Sl.v x48)] 0 ∧ (
 ∀ H65, H65 = Array.push H60 (.cells #[(sv bE), sN] 86) → (
 cells H65 (Addr.add a53 (y2.toNat * 2)) [(sv x58), (Sl.v x59)] 0 ∧ cell H65 (Addr.add a49 6) = some (Sl.v x52) ∧ cells H65 (Addr.add a42 (y2.toNat * 2)) [(sv x47), (Sl.v x48)] 0 ∧ (
 mayw H65 (bk H_2) 2 0 ∧ ∀ H70, H70 = sets H65 (bk H_2) [(sv x47), (Sl.v x48)] 0 → (
 cells H70 (Addr.add a53 (y2.toNat * 2)) [(sv x58), (Sl.v x59)] 0 ∧ cell H70 (Addr.add a49 6) = some (Sl.v x52) ∧ (
 mayw H70 (bk H60) 2 0 ∧ ∀ H75, H75 = sets H70 (bk H60) [(sv x58), (Sl.v x59)] 0 → (
 F53_4 Q X2 y3 y4 y2 (bk H_2) (bk H60) H75)))))))) ∧
 (∀ H80, H80 = Array.push H_2 (.cells #[(sv bE), sN] 86) → (
 cells H80 (Addr.add a53 (y2.toNat * 2)) [(sv x58), (Sl.v x59)] 0 ∧ cell H80 (Addr.add a49 6) = some (Sl.v x52) ∧ cells H80 (Addr.add a42 (y2.toNat * 2)) [(sv x47), (Sl.v x48)] 0 ∧ (
 ∀ H85, H85 = Array.push H80 (.cells #[(sv bE), sN] 86) → (
 cells H85 (Addr.add a53 (y2.toNat * 2)) [(sv x58), (Sl.v x59)] 0 ∧ cell H85 (Addr.add a49 6) = some (Sl.v x52) ∧ cells H85 (Addr.add a42 (y2.toNat * 2)) [(sv x47), (Sl.v x48)] 0 ∧ (
 mayw H85 (bk H80) 2 0 ∧ ∀ H90, H90 = sets H85 (bk H80) [(sv x47), (Sl.v x48)] 0 → (
 cells H90 (Addr.add a53 (y2.toNat * 2)) [(sv x58), (Sl.v x59)] 0 ∧ cell H90 (Addr.add a49 6) = some (Sl.v x52) ∧ (
 mayw H90 (bk H_2) 2 0 ∧ ∀ H95, H95 = sets H90 (bk H_2) [(sv x58), (Sl.v x59)] 0 → (
 F53_4 Q X2 y3 y4 y2 (bk H80) (bk H_2) H95)))))))))))))))))) ∧
 (y1 = false → (F53_1 Q y1 H_2)))) ∧
 ((decide (y2 < ((x8).n : Int))) = false → (F53_1 Q y1 H_2))))
def F53_L2 (Q : ZQB) (y3 : (Option Addr)) (y4 : Sl) (y1 : Bool) (y2 : Int) (H_2 : Hp) : Prop :=
 ∀ X2 : Bool → ZQI, (∀ (y1 : Bool) (y2 : Int) (H_2 : Hp), F53_L2b Q X2 y3 y4 y1 y2 H_2 → X2 y1 y2 H_2) → X2 y1 y2 H_2
def F53 (p0 : (Option Addr)) (p1 : Sl) (H : Hp) (Q : ZQB) : Prop :=
F53_L2 Q p0 p1 true 0 H
theorem walk53 {w0 : World} {p0 : (Option Addr)} {p1 : Sl} {H : Hp} {Q : ZQB} (h : F53 p0 p1 H Q) :
  Good prog w0 53 #[(.pointer p0), (Sl.v p1)] H (fun v H => ∃ r0, v = (bv r0) ∧ Q r0 H) := by
 unfold F53 at h
 refine Good.enter' (fn := f53) func53 rfl rfl rfl (ws (wr_ (hv (v := bv false) rfl (av rfl) (hn (nt (ws ?_))))))
 refine wr_ (hv (v := bv true) rfl (av rfl) (hn (nt (wc (fun ρ H_1 => ∃ y192, Env.Is ρ [(5, (bv y192))] ∧ F53_1 Q y192 H_1) ?_ ?_))))
 ·refine ws (wr_ (hv (v := iv 0) rfl (av rfl) (hn (nt (wb (HW.loop' (fun L2 hL2 => ?_)))))))
  obtain ⟨X2, hX2⟩ : ∃ X2 : Bool → ZQI, ∀ (y1 : Bool) (y2 : Int) (H_2 : Hp), X2 y1 y2 H_2 ↔ ∀ ρ, Env.Is ρ [(0, (.pointer p0)), (1, (Sl.v p1)), (5, (bv y1)), (6, (iv y2))] → L2 ρ H_2 := ⟨_, fun _ _ _ => Iff.rfl⟩
  refine (hX2 _ _ _).1 (h X2 ?_) _ ?_
  rotate_left
  ·exact (isp rfl)
  clear h
  intro y1 y2 H_2 h
  refine (hX2 _ _ _).2 fun ρ hI => ?_
  obtain ⟨ρ0, rfl⟩ := hI.ex
  clear hI; unfold F53_L2b at h; refine hL2 _ _ ?_
  refine ws (ws (wr_ (hv (v := iv y2) rfl (mv rfl) (hv (v := .pointer p0) rfl (mv rfl) ?_))))
  obtain ⟨a5, e6, h⟩ := h
  refine hv (v := pp a5) rfl (HVal.nilCheck (congrArg Value.pointer e6)) (hv (v := pp (Addr.add a5 6)) rfl (fa runUnderlying32 rfl rfl sizeOf30 rfl) ?_)
  obtain ⟨x8, c7, h⟩ := h
  refine hv (v := Sl.v x8) rfl (l1 isAgg30 rfl c7) (hv (v := iv ((x8).n : Int)) rfl (HVal.len runUnderlying30 rfl) (hv (v := bv (decide (y2 < ((x8).n : Int)))) rfl (HVal.lss rfl rfl) ?_))
  refine hv (v := bv (decide (y2 < ((x8).n : Int)))) rfl (mv rfl) ?_
  obtain ⟨hT, hF⟩ := h
  rcases Bool.eq_false_or_eq_true (decide (y2 < ((x8).n : Int))) with hb9 | hb10
  ·have h := hT hb9
   refine hg (v := bv y1) rfl rfl rfl rfl (cB hb9) (mv rfl) (hv (v := bv y1) rfl (pt_ rfl hb9 rfl) (hn (nt ?_)))
   obtain ⟨hT, hF⟩ := h
   refine wk y1 rfl (fun hb11 => ?_) (fun hb11 => ?_)
   ·have h := hT hb11
    refine wp_ (nt (wc (fun ρ H_3 => ∃ y38, Env.Is ρ [(0, (.pointer p0)), (1, (Sl.v p1)), (6, (iv y2)), (5, (bv y38))] ∧ F53_3 Q X2 p0 p1 y2 y38 H_3) ?_ ?_))
    ·refine wb (ws (ws (wr_ (hv (v := iv y2) rfl (mv rfl) (hv (v := Sl.v p1) rfl (mv rfl) (hv (v := iv ((p1).n : Int)) rfl (HVal.len runUnderlying30 rfl) ?_))))))
     refine hv (v := bv (decide (((p1).n : Int) ≤ y2))) rfl (HVal.geq rfl rfl) (hn (nt ?_))
     obtain ⟨hT, hF⟩ := h
     refine wk (decide (((p1).n : Int) ≤ y2)) rfl (fun hb15 => ?_) (fun hb15 => ?_)
     ·have h := hT hb15
      refine ws (wr_ (hv (v := .pointer p0) rfl (mv rfl) ?_))
      obtain ⟨a16, e17, h⟩ := h
      refine hv (v := pp a16) rfl (HVal.nilCheck (congrArg Value.pointer e17)) (hv (v := pp (Addr.add a16 6)) rfl (fa runUnderlying32 rfl rfl sizeOf30 rfl) ?_)
      obtain ⟨x19, c18, h⟩ := h
      refine hv (v := Sl.v x19) rfl (l1 isAgg30 rfl c18) (hv (v := iv y2) rfl (mv rfl) ?_)
      obtain ⟨a20, e21, b22, b23, h⟩ := h
      refine hv (v := pp (Addr.add a20 (y2.toNat * 2))) rfl (ia runUnderlying30 sizeOf86 (Sl.v_some rfl e21) rfl b22 b23) ?_
      refine hv (v := pp (Addr.add a20 (y2.toNat * 2))) rfl (HVal.fieldAddr0 runUnderlying86 rfl rfl sizeOf9 rfl) ?_
      obtain ⟨x25, c24, h⟩ := h
      refine hv (v := sv x25) rfl (l1 isAgg9 rfl c24) (hv (v := bv (seq x25 S_mark)) rfl (HVal.eqlS rfl rfl) (hv (v := bv (seq x25 S_mark)) rfl (mv rfl) ?_))
      obtain ⟨hT, hF⟩ := h
      rcases Bool.eq_false_or_eq_true (seq x25 S_mark) with hb26 | hb27
      ·have h := hT hb26
       refine hg (v := .pointer p0) rfl rfl rfl rfl (cB hb26) (mv rfl) ?_
       obtain ⟨a28, e29, h⟩ := h
       refine hg (v := pp a28) rfl rfl rfl rfl (cB hb26) (HVal.nilCheck (congrArg Value.pointer e29)) (hg (v := pp (Addr.add a28 6)) rfl rfl rfl rfl (cB hb26) (fa runUnderlying32 rfl rfl sizeOf30 rfl) ?_)
       obtain ⟨x31, c30, h⟩ := h
       refine hg (v := Sl.v x31) rfl rfl rfl rfl (cB hb26) (l1 isAgg30 rfl c30) (hg (v := iv y2) rfl rfl rfl rfl (cB hb26) (mv rfl) ?_)
       obtain ⟨a32, e33, b34, b35, h⟩ := h
       refine hg (v := pp (Addr.add a32 (y2.toNat * 2))) rfl rfl rfl rfl (cB hb26) (ia runUnderlying30 sizeOf86 (Sl.v_some rfl e33) rfl b34 b35) ?_
       refine hg (v := pp (Addr.add (Addr.add a32 (y2.toNat * 2)) 1)) rfl rfl rfl rfl (cB hb26) (fa runUnderlying86 rfl rfl sizeOf84 rfl) ?_
       obtain ⟨x37, c36, h⟩ := h
       refine hg (v := Sl.v x37) rfl rfl rfl rfl (cB hb26) (l1 isAgg84 rfl c36) (hg (v := iv ((x37).n : Int)) rfl rfl rfl rfl (cB hb26) (HVal.len runUnderlying84 rfl) ?_)
       refine hg (v := bv (decide (((x37).n : Int) = 0))) rfl rfl rfl rfl (cB hb26) (HVal.eqlI rfl rfl) (hv (v := bv (decide (((x37).n : Int) = 0))) rfl (pt_ rfl hb26 rfl) ?_)
       refine hv (v := bv (decide (((x37).n : Int) = 0))) rfl (av rfl) (hn (nt (we (te (be (nt ?_))))))
       exact ⟨(decide (((x37).n : Int) = 0)), (isp rfl), h⟩
      have h := hF hb27
      refine hs_ rfl rfl rfl rfl (cB hb27) (hs_ rfl rfl rfl rfl (cB hb27) (hs_ rfl rfl rfl rfl (cB hb27) (hs_ rfl rfl rfl rfl (cB hb27) ?_)))
      refine hs_ rfl rfl rfl rfl (cB hb27) (hs_ rfl rfl rfl rfl (cB hb27) (hs_ rfl rfl rfl rfl (cB hb27) (hs_ rfl rfl rfl rfl (cB hb27) ?_)))
      refine hs_ rfl rfl rfl rfl (cB hb27) (hs_ rfl rfl rfl rfl (cB hb27) (hv (v := bv false) rfl (pf_ rfl hb27 rfl) (hv (v := bv false) rfl (av rfl) ?_)))
      refine hn (nt (we (te (be (nt ?_)))))
      exact ⟨false, (isp rfl), h⟩
     have h := hF hb15
     refine wp_ (nt (wc (fun ρ H_4 => ∃ y78 y79, Env.Is ρ [(0, (.pointer p0)), (1, (Sl.v p1)), (6, (iv y2)), (7, (pp y78)), (8, (pp y79))] ∧ F53_4 Q X2 p0 p1 y2 y78 y79 H_4) ?_ ?_))
     ·refine HW.draw mixed [(0, some []), (1, some []), (2, some []), (3, some [13, 14]), (4, some []), (5, some []), (6, some []), (7, some [14]), (8, some []), (9, some []), (10, some [14]), (15, none), (15, none), (15, none), (15, none)] rfl (by kernel_rfl) (by kernel_rfl) ?_
      refine pv (v := Sl.v p1) rfl rfl (fun _ => mv rfl) (pv (v := iv y2) rfl rfl (fun _ => mv rfl) ?_)
      obtain ⟨a42, e43, b44, b45, h⟩ := h
      refine pv (v := pp (Addr.add a42 (y2.toNat * 2))) rfl rfl (fun _ => ia runUnderlying30 sizeOf86 (Sl.v_some rfl e43) rfl b44 b45) ?_
      obtain ⟨x47, x48, c46, h⟩ := h
      refine pl (v := .agg #[(sv x47), (Sl.v x48)]) (fun X => cells X (Addr.add a42 (y2.toNat * 2)) [(sv x47), (Sl.v x48)] 0) rfl rfl (fun _ hX => ln [(sv x47), (Sl.v x48)] isAgg86 sizeOf86 rfl hX) c46 ?_
      refine pv (v := .pointer p0) rfl rfl (fun _ => mv rfl) ?_
      obtain ⟨a49, e50, h⟩ := h
      refine pv (v := pp a49) rfl rfl (fun _ => HVal.nilCheck (congrArg Value.pointer e50)) (pv (v := pp (Addr.add a49 6)) rfl rfl (fun _ => fa runUnderlying32 rfl rfl sizeOf30 rfl) ?_)
      obtain ⟨x52, c51, h⟩ := h
      refine pl (v := Sl.v x52) (fun X => cell X (Addr.add a49 6) = some (Sl.v x52)) rfl rfl (fun _ hX => l1 isAgg30 rfl hX) c51 (pv (v := iv y2) rfl rfl (fun _ => mv rfl) ?_)
      obtain ⟨a53, e54, b55, b56, h⟩ := h
      refine pv (v := pp (Addr.add a53 (y2.toNat * 2))) rfl rfl (fun _ => ia runUnderlying30 sizeOf86 (Sl.v_some rfl e54) rfl b55 b56) ?_
      obtain ⟨x58, x59, c57, h⟩ := h
      refine pl (v := .agg #[(sv x58), (Sl.v x59)]) (fun X => cells X (Addr.add a53 (y2.toNat * 2)) [(sv x58), (Sl.v x59)] 0) rfl rfl (fun _ hX => ln [(sv x58), (Sl.v x59)] isAgg86 sizeOf86 rfl hX) c57 ?_
      obtain ⟨hB11, hB12⟩ := h
      refine HPlan.fork2 (i := 11) (j := 12) (by kernel_rfl) ?_ ?_
      ·have h := hB11
       clear hB11 hB12
       refine HBr.ops' [(12, none), (13, none), (14, none)] rfl (by kernel_rfl) (by kernel_rfl) rfl rfl rfl (HOp.alloc zeroValue86) ?_
       rintro _ H60 ⟨rfl, e61⟩
       replace h := h H60 e61
       obtain ⟨s62, s63, s64, h⟩ := h
       refine ⟨SC_of ⟨fun _ => s62, fun _ => s63, fun _ => s64, trivial⟩, ?_⟩
       refine po rfl rfl (HOp.alloc zeroValue86) ?_
       rintro _ H65 ⟨rfl, e66⟩
       replace h := h H65 e66
       obtain ⟨s67, s68, s69, h⟩ := h
       refine ⟨SC_of ⟨fun _ => s67, fun _ => s68, fun _ => s69, trivial⟩, ?_⟩
       obtain ⟨z72, h⟩ := h
       refine pn rfl (HOp.storeN' (l := [(sv x47), (Sl.v x48)]) sizeOf86 rfl rfl rfl z72) ?_
       rintro _ H70 e71
       replace h := h H70 e71
       obtain ⟨s73, s74, h⟩ := h
       refine ⟨SC_of ⟨fun _ => s73, fun _ => s74, nofun, trivial⟩, ?_⟩
       obtain ⟨z77, h⟩ := h
       refine pn rfl (HOp.storeN' (l := [(sv x58), (Sl.v x59)]) sizeOf86 rfl rfl rfl z77) ?_
       rintro _ H75 e76
       replace h := h H75 e76
       refine ⟨SC_of ⟨nofun, nofun, nofun, trivial⟩, ?_⟩
       refine HPlan.done (nt ?_)
       exact ⟨(bk H_2), (bk H60), (isp rfl), h⟩
      have h := hB12
      clear hB11 hB12
      refine HBr.ops' [(11, none), (13, none), (14, none)] rfl (by kernel_rfl) (by kernel_rfl) rfl rfl rfl (HOp.alloc zeroValue86) ?_
      rintro _ H80 ⟨rfl, e81⟩
      replace h := h H80 e81
      obtain ⟨s82, s83, s84, h⟩ := h
      refine ⟨SC_of ⟨fun _ => s82, fun _ => s83, fun _ => s84, trivial⟩, ?_⟩
      refine po rfl rfl (HOp.alloc zeroValue86) ?_
      rintro _ H85 ⟨rfl, e86⟩
      replace h := h H85 e86
      obtain ⟨s87, s88, s89, h⟩ := h
      refine ⟨SC_of ⟨fun _ => s87, fun _ => s88, fun _ => s89, trivial⟩, ?_⟩
      obtain ⟨z92, h⟩ := h
      refine pn rfl (HOp.storeN' (l := [(sv x47), (Sl.v x48)]) sizeOf86 rfl rfl rfl z92) ?_
      rintro _ H90 e91
      replace h := h H90 e91
      obtain ⟨s93, s94, h⟩ := h
      refine ⟨SC_of ⟨fun _ => s93, fun _ => s94, nofun, trivial⟩, ?_⟩
      obtain ⟨z97, h⟩ := h
      refine pn rfl (HOp.storeN' (l := [(sv x58), (Sl.v x59)]) sizeOf86 rfl rfl rfl z97) ?_
      rintro _ H95 e96
      replace h := h H95 e96
      refine ⟨SC_of ⟨nofun, nofun, nofun, trivial⟩, ?_⟩
      refine HPlan.done (nt ?_)
      exact ⟨(bk H80), (bk H_2), (isp rfl), h⟩
     rintro ρ H_4 ⟨y78, y79, hI, h⟩
     obtain ⟨ρ0, rfl⟩ := hI.ex
     clear hI; unfold F53_4 at h
     refine wc (fun ρ H_5 => ∃ y126, Env.Is ρ [(0, (.pointer p0)), (1, (Sl.v p1)), (6, (iv y2)), (7, (pp y78)), (5, (bv y126))] ∧ F53_5 Q X2 p0 p1 y2 y78 y126 H_5) ?_ ?_
     ·refine HW.draw mixed [(0, some []), (1, some []), (2, some []), (3, some []), (4, some []), (5, some []), (6, some []), (7, some []), (8, some []), (9, some []), (10, some []), (11, some []), (12, some []), (13, some []), (14, some []), (15, some []), (16, some []), (17, some []), (18, some []), (19, some []), (20, some []), (21, some []), (22, some []), (23, some []), (24, some []), (25, some []), (26, some []), (27, some []), (28, some [])] rfl (by kernel_rfl) (by kernel_rfl) ?_
      refine pv (v := pp y78) rfl rfl (fun _ => HVal.fieldAddr0 runUnderlying86 rfl rfl sizeOf9 rfl) ?_
      obtain ⟨x103, c102, h⟩ := h
      refine pl (v := sv x103) (fun X => cell X y78 = some (sv x103)) rfl rfl (fun _ hX => l1 isAgg9 rfl hX) c102 (pv (v := pp y79) rfl rfl (fun _ => HVal.fieldAddr0 runUnderlying86 rfl rfl sizeOf9 rfl) ?_)
      obtain ⟨x105, c104, h⟩ := h
      refine pl (v := sv x105) (fun X => cell X y79 = some (sv x105)) rfl rfl (fun _ hX => l1 isAgg9 rfl hX) c104 (pv (v := bv (seq x103 x105)) rfl rfl (fun _ => HVal.eqlS rfl rfl) ?_)
      refine pv (v := bv (seq x103 x105)) rfl rfl (fun _ => mv rfl) ?_
      obtain ⟨hT, hF⟩ := h
      rcases Bool.eq_false_or_eq_true (seq x103 x105) with hb106 | hb107
      ·have h := hT hb106
       refine HPlan.gtakev (v := pp (Addr.add y78 1)) rfl rfl rfl rfl rfl (cB hb106) (fun _ => fa runUnderlying86 rfl rfl sizeOf84 rfl) ?_
       obtain ⟨x109, c108, h⟩ := h
       refine HPlan.gtakel (v := Sl.v x109) (fun X => cell X (Addr.add y78 1) = some (Sl.v x109)) rfl rfl rfl rfl rfl (cB hb106) (fun _ hX => l1 isAgg84 rfl hX) c108 ?_
       refine HPlan.gtakev (v := iv ((x109).n : Int)) rfl rfl rfl rfl rfl (cB hb106) (fun _ => HVal.len runUnderlying84 rfl) (HPlan.gtakev (v := pp (Addr.add y79 1)) rfl rfl rfl rfl rfl (cB hb106) (fun _ => fa runUnderlying86 rfl rfl sizeOf84 rfl) ?_)
       obtain ⟨x111, c110, h⟩ := h
       refine HPlan.gtakel (v := Sl.v x111) (fun X => cell X (Addr.add y79 1) = some (Sl.v x111)) rfl rfl rfl rfl rfl (cB hb106) (fun _ hX => l1 isAgg84 rfl hX) c110 ?_
       refine HPlan.gtakev (v := iv ((x111).n : Int)) rfl rfl rfl rfl rfl (cB hb106) (fun _ => HVal.len runUnderlying84 rfl) (HPlan.gtakev (v := bv (decide (((x109).n : Int) = ((x111).n : Int)))) rfl rfl rfl rfl rfl (cB hb106) (fun _ => HVal.eqlI rfl rfl) ?_)
       refine pv (v := bv (decide (((x109).n : Int) = ((x111).n : Int)))) rfl rfl (fun _ => pt_ rfl hb106 rfl) (pv (v := bv (decide (((x109).n : Int) = ((x111).n : Int)))) rfl rfl (fun _ => mv rfl) ?_)
       obtain ⟨hT, hF⟩ := h
       rcases Bool.eq_false_or_eq_true (decide (((x109).n : Int) = ((x111).n : Int))) with hb112 | hb113
       ·have h := hT hb112
        refine HPlan.gtakev (v := .pointer p0) rfl rfl rfl rfl rfl (cB hb112) (fun _ => mv rfl) ?_
        obtain ⟨a114, e115, h⟩ := h
        refine HPlan.gtakev (v := pp a114) rfl rfl rfl rfl rfl (cB hb112) (fun _ => HVal.nilCheck (congrArg Value.pointer e115)) (HPlan.gtakev (v := pp (Addr.add a114 3)) rfl rfl rfl rfl rfl (cB hb112) (fun _ => fa runUnderlying32 rfl rfl sizeOf28 rfl) ?_)
        obtain ⟨x117, c116, h⟩ := h
        refine HPlan.gtakel (v := Sl.v x117) (fun X => cell X (Addr.add a114 3) = some (Sl.v x117)) rfl rfl rfl rfl rfl (cB hb112) (fun _ hX => l1 isAgg28 rfl hX) c116 ?_
        refine HPlan.gtakev (v := iv y2) rfl rfl rfl rfl rfl (cB hb112) (fun _ => mv rfl) ?_
        obtain ⟨a118, e119, b120, b121, h⟩ := h
        refine HPlan.gtakev (v := pp (Addr.add a118 (y2.toNat * 1))) rfl rfl rfl rfl rfl (cB hb112) (fun _ => ia runUnderlying28 sizeOf84 (Sl.v_some rfl e119) rfl b120 b121) ?_
        obtain ⟨x123, c122, h⟩ := h
        refine HPlan.gtakel (v := Sl.v x123) (fun X => cell X (Addr.add a118 (y2.toNat * 1)) = some (Sl.v x123)) rfl rfl rfl rfl rfl (cB hb112) (fun _ hX => l1 isAgg84 rfl hX) c122 ?_
        refine HPlan.gtakev (v := iv ((x123).n : Int)) rfl rfl rfl rfl rfl (cB hb112) (fun _ => HVal.len runUnderlying84 rfl) (HPlan.gtakev (v := pp (Addr.add y78 1)) rfl rfl rfl rfl rfl (cB hb112) (fun _ => fa runUnderlying86 rfl rfl sizeOf84 rfl) ?_)
        obtain ⟨x125, c124, h⟩ := h
        refine HPlan.gtakel (v := Sl.v x125) (fun X => cell X (Addr.add y78 1) = some (Sl.v x125)) rfl rfl rfl rfl rfl (cB hb112) (fun _ hX => l1 isAgg84 rfl hX) c124 ?_
        refine HPlan.gtakev (v := iv ((x125).n : Int)) rfl rfl rfl rfl rfl (cB hb112) (fun _ => HVal.len runUnderlying84 rfl) (HPlan.gtakev (v := bv (decide (((x125).n : Int) < ((x123).n : Int)))) rfl rfl rfl rfl rfl (cB hb112) (fun _ => HVal.gtr rfl rfl) ?_)
        refine pv (v := bv (decide (((x125).n : Int) < ((x123).n : Int)))) rfl rfl (fun _ => pt_ rfl hb112 rfl) (pv (v := bv (decide (((x125).n : Int) < ((x123).n : Int)))) rfl rfl (fun _ => av rfl) ?_)
        refine HPlan.done (nt ?_)
        exact ⟨(decide (((x125).n : Int) < ((x123).n : Int))), (isp rfl), h⟩
       have h := hF hb113
       refine pg rfl rfl rfl rfl (cB hb113) (pg rfl rfl rfl rfl (cB hb113) (pg rfl rfl rfl rfl (cB hb113) (pg rfl rfl rfl rfl (cB hb113) ?_)))
       refine pg rfl rfl rfl rfl (cB hb113) (pg rfl rfl rfl rfl (cB hb113) (pg rfl rfl rfl rfl (cB hb113) (pg rfl rfl rfl rfl (cB hb113) ?_)))
       refine pg rfl rfl rfl rfl (cB hb113) (pg rfl rfl rfl rfl (cB hb113) (pg rfl rfl rfl rfl (cB hb113) (pg rfl rfl rfl rfl (cB hb113) ?_)))
       refine pv (v := bv false) rfl rfl (fun _ => pf_ rfl hb113 rfl) (pv (v := bv false) rfl rfl (fun _ => av rfl) (HPlan.done ?_))
       refine nt ?_
       exact ⟨false, (isp rfl), h⟩
      have h := hF hb107
      refine pg rfl rfl rfl rfl (cB hb107) (pg rfl rfl rfl rfl (cB hb107) (pg rfl rfl rfl rfl (cB hb107) (pg rfl rfl rfl rfl (cB hb107) ?_)))
      refine pg rfl rfl rfl rfl (cB hb107) (pg rfl rfl rfl rfl (cB hb107) (pg rfl rfl rfl rfl (cB hb107) (pv (v := bv false) rfl rfl (fun _ => pf_ rfl hb107 rfl) ?_)))
      refine pv (v := bv false) rfl rfl (fun _ => mv rfl) (pg rfl rfl rfl rfl rfl (pg rfl rfl rfl rfl rfl (pg rfl rfl rfl rfl rfl ?_)))
      refine pg rfl rfl rfl rfl rfl (pg rfl rfl rfl rfl rfl (pg rfl rfl rfl rfl rfl (pg rfl rfl rfl rfl rfl ?_)))
      refine pg rfl rfl rfl rfl rfl (pg rfl rfl rfl rfl rfl (pg rfl rfl rfl rfl rfl (pg rfl rfl rfl rfl rfl ?_)))
      refine pg rfl rfl rfl rfl rfl (pv (v := bv false) rfl rfl (fun _ => pf_ rfl rfl rfl) (pv (v := bv false) rfl rfl (fun _ => av rfl) ?_))
      refine HPlan.done (nt ?_)
      exact ⟨false, (isp rfl), h⟩
     rintro ρ H_5 ⟨y126, hI, h⟩
     obtain ⟨ρ0, rfl⟩ := hI.ex
     clear hI; unfold F53_5 at h
     refine ws (wr_ (hv (v := iv 0) rfl (av rfl) (hn (nt (wb (HW.loop' (fun L6 hL6 => ?_)))))))
     obtain ⟨X6, hX6⟩ : ∃ X6 : Bool → ZQI, ∀ (y127 : Bool) (y128 : Int) (H_6 : Hp), X6 y127 y128 H_6 ↔ ∀ ρ, Env.Is ρ [(0, (.pointer p0)), (1, (Sl.v p1)), (6, (iv y2)), (7, (pp y78)), (5, (bv y127)), (9, (iv y128))] → L6 ρ H_6 := ⟨_, fun _ _ _ => Iff.rfl⟩
     refine (hX6 _ _ _).1 (h X6 ?_) _ ?_
     rotate_left
     ·exact (isp rfl)
     clear h
     intro y127 y128 H_6 h
     refine (hX6 _ _ _).2 fun ρ hI => ?_
     obtain ⟨ρ0, rfl⟩ := hI.ex
     clear hI; unfold F53_L6b at h; refine hL6 _ _ ?_
     refine ws (ws (wr_ (hv (v := bv y127) rfl (mv rfl) (hv (v := bv y127) rfl (mv rfl) ?_))))
     obtain ⟨hT, hF⟩ := h
     rcases Bool.eq_false_or_eq_true y127 with hb133 | hb134
     ·have h := hT hb133
      refine hg (v := iv y128) rfl rfl rfl rfl (cB hb133) (mv rfl) (hg (v := .pointer p0) rfl rfl rfl rfl (cB hb133) (mv rfl) ?_)
      obtain ⟨a135, e136, h⟩ := h
      refine hg (v := pp a135) rfl rfl rfl rfl (cB hb133) (HVal.nilCheck (congrArg Value.pointer e136)) (hg (v := pp (Addr.add a135 3)) rfl rfl rfl rfl (cB hb133) (fa runUnderlying32 rfl rfl sizeOf28 rfl) ?_)
      obtain ⟨x138, c137, h⟩ := h
      refine hg (v := Sl.v x138) rfl rfl rfl rfl (cB hb133) (l1 isAgg28 rfl c137) (hg (v := iv y2) rfl rfl rfl rfl (cB hb133) (mv rfl) ?_)
      obtain ⟨a139, e140, b141, b142, h⟩ := h
      refine hg (v := pp (Addr.add a139 (y2.toNat * 1))) rfl rfl rfl rfl (cB hb133) (ia runUnderlying28 sizeOf84 (Sl.v_some rfl e140) rfl b141 b142) ?_
      obtain ⟨x144, c143, h⟩ := h
      refine hg (v := Sl.v x144) rfl rfl rfl rfl (cB hb133) (l1 isAgg84 rfl c143) (hg (v := iv ((x144).n : Int)) rfl rfl rfl rfl (cB hb133) (HVal.len runUnderlying84 rfl) ?_)
      refine hg (v := bv (decide (y128 < ((x144).n : Int)))) rfl rfl rfl rfl (cB hb133) (HVal.lss rfl rfl) (hv (v := bv (decide (y128 < ((x144).n : Int)))) rfl (pt_ rfl hb133 rfl) ?_)
      refine hn (nt ?_)
      obtain ⟨hT, hF⟩ := h
      refine wk (decide (y128 < ((x144).n : Int))) rfl (fun hb145 => ?_) (fun hb145 => ?_)
      ·have h := hT hb145
       refine wp_ (nt (ws (wb (ws (wr_ (hv (v := iv y128) rfl (mv rfl) (hv (v := iv (IntKind.i64.wrap (77 + y128))) rfl (HVal.add rfl rfl) ?_)))))))
       refine hv (v := .agg #[(sv bE), (iv (IntKind.i64.wrap (77 + y128)))]) rfl (HVal.build' (cs := [(sv bE), (iv (IntKind.i64.wrap (77 + y128)))]) runUnderlying83 zeroValue83 places83 rfl) ?_
       refine ho rfl (HOp.alloc zeroValue83) ?_
       rintro _ H146 ⟨rfl, e147⟩
       replace h := h H146 e147
       obtain ⟨z150, h⟩ := h
       refine hq (HOp.storeN' (l := [(sv bE), (iv (IntKind.i64.wrap (77 + y128)))]) sizeOf83 rfl rfl rfl z150) ?_
       rintro _ H148 e149
       replace h := h H148 e149
       refine hn (nt (wc (fun ρ H_7 => Env.Is ρ [(0, (.pointer p0)), (1, (Sl.v p1)), (6, (iv y2)), (7, (pp y78)), (9, (iv y128)), (10, (pp (bk H_6)))] ∧ F53_7 Q X2 X6 p0 p1 y2 y78 y128 (bk H_6) H_7) ?_ ?_))
       ·refine ws (wr_ (hv (v := iv y128) rfl (mv rfl) (hv (v := pp (Addr.add y78 1)) rfl (fa runUnderlying86 rfl rfl sizeOf84 rfl) ?_)))
        obtain ⟨x158, c157, h⟩ := h
        refine hv (v := Sl.v x158) rfl (l1 isAgg84 rfl c157) (hv (v := iv ((x158).n : Int)) rfl (HVal.len runUnderlying84 rfl) ?_)
        refine hv (v := bv (decide (y128 < ((x158).n : Int)))) rfl (HVal.lss rfl rfl) (hn (nt ?_))
        obtain ⟨hT, hF⟩ := h
        refine wk (decide (y128 < ((x158).n : Int))) rfl (fun hb159 => ?_) (fun hb159 => ?_)
        ·have h := hT hb159
         refine wr_ (hv (v := pp (Addr.add y78 1)) rfl (fa runUnderlying86 rfl rfl sizeOf84 rfl) ?_)
         obtain ⟨x161, c160, h⟩ := h
         refine hv (v := Sl.v x161) rfl (l1 isAgg84 rfl c160) (hv (v := iv y128) rfl (mv rfl) ?_)
         obtain ⟨a162, e163, b164, b165, h⟩ := h
         refine hv (v := pp (Addr.add a162 (y128.toNat * 2))) rfl (ia runUnderlying84 sizeOf83 (Sl.v_some rfl e163) rfl b164 b165) ?_
         obtain ⟨x167, x168, c166, h⟩ := h
         refine hv (v := .agg #[(sv x167), (iv x168)]) rfl (ln [(sv x167), (iv x168)] isAgg83 sizeOf83 rfl c166) ?_
         obtain ⟨z171, h⟩ := h
         refine hq (HOp.storeN' (l := [(sv x167), (iv x168)]) sizeOf83 rfl rfl rfl z171) ?_
         rintro _ H169 e170
         replace h := h H169 e170
         refine hn (nt ?_)
         exact ⟨(isp rfl), h⟩
        have h := hF hb159
        refine wp_ (nt ?_)
        exact ⟨(isp rfl), h⟩
       rintro ρ H_7 ⟨hI, h⟩
       obtain ⟨ρ0, rfl⟩ := hI.ex
       clear hI; unfold F53_7 at h
       refine HW.draw mixed [(0, some []), (1, some []), (2, some []), (3, some []), (4, some []), (5, some []), (6, some []), (7, some []), (8, some []), (9, some []), (10, some []), (11, some []), (12, some [])] rfl (by kernel_rfl) (by kernel_rfl) ?_
       refine pv (v := .pointer p0) rfl rfl (fun _ => mv rfl) ?_
       obtain ⟨a172, e173, h⟩ := h
       refine pv (v := pp a172) rfl rfl (fun _ => HVal.nilCheck (congrArg Value.pointer e173)) (pv (v := pp (Addr.add a172 3)) rfl rfl (fun _ => fa runUnderlying32 rfl rfl sizeOf28 rfl) ?_)
       obtain ⟨x175, c174, h⟩ := h
       refine pl (v := Sl.v x175) (fun X => cell X (Addr.add a172 3) = some (Sl.v x175)) rfl rfl (fun _ hX => l1 isAgg28 rfl hX) c174 ?_
       refine pv (v := iv y2) rfl rfl (fun _ => mv rfl) ?_
       obtain ⟨a176, e177, b178, b179, h⟩ := h
       refine pv (v := pp (Addr.add a176 (y2.toNat * 1))) rfl rfl (fun _ => ia runUnderlying28 sizeOf84 (Sl.v_some rfl e177) rfl b178 b179) ?_
       obtain ⟨x181, c180, h⟩ := h
       refine pl (v := Sl.v x181) (fun X => cell X (Addr.add a176 (y2.toNat * 1)) = some (Sl.v x181)) rfl rfl (fun _ hX => l1 isAgg84 rfl hX) c180 ?_
       refine pv (v := iv y128) rfl rfl (fun _ => mv rfl) ?_
       obtain ⟨a182, e183, b184, b185, h⟩ := h
       refine pv (v := pp (Addr.add a182 (y128.toNat * 2))) rfl rfl (fun _ => ia runUnderlying84 sizeOf83 (Sl.v_some rfl e183) rfl b184 b185) ?_
       obtain ⟨x187, x188, c186, h⟩ := h
       refine pl (v := .agg #[(sv x187), (iv x188)]) (fun X => cells X (Addr.add a182 (y128.toNat * 2)) [(sv x187), (iv x188)] 0) rfl rfl (fun _ hX => ln [(sv x187), (iv x188)] isAgg83 sizeOf83 rfl hX) c186 ?_
       obtain ⟨x190, x191, c189, h⟩ := h
       refine pl (v := .agg #[(sv x190), (iv x191)]) (fun X => cells X (bk H_6) [(sv x190), (iv x191)] 0) rfl rfl (fun _ hX => ln [(sv x190), (iv x191)] isAgg83 sizeOf83 rfl hX) c189 ?_
       refine pv (v := bv (seq x187 x190 && decide (x188 = x191))) rfl rfl (fun _ => eqs83_eql rfl rfl) (pv (v := bv (seq x187 x190 && decide (x188 = x191))) rfl rfl (fun _ => av rfl) ?_)
       refine HPlan.done (nb (nt (wr_ (hv (v := iv y128) rfl (mv rfl) (hv (v := iv (IntKind.i64.wrap (y128 + 1))) rfl (HVal.add rfl rfl) ?_)))))
       refine hv (v := iv (IntKind.i64.wrap (y128 + 1))) rfl (av rfl) (hn (nt ?_))
       exact (hX6 _ _ _).1 h _ (isp rfl)
      have h := hF hb145
      refine we (te (te (be (nb (nt ?_)))))
      exact ⟨y127, (isp rfl), h⟩
     have h := hF hb134
     refine hs_ rfl rfl rfl rfl (cB hb134) (hs_ rfl rfl rfl rfl (cB hb134) (hs_ rfl rfl rfl rfl (cB hb134) (hs_ rfl rfl rfl rfl (cB hb134) ?_)))
     refine hs_ rfl rfl rfl rfl (cB hb134) (hs_ rfl rfl rfl rfl (cB hb134) (hs_ rfl rfl rfl rfl (cB hb134) (hs_ rfl rfl rfl rfl (cB hb134) ?_)))
     refine hs_ rfl rfl rfl rfl (cB hb134) (hs_ rfl rfl rfl rfl (cB hb134) (hv (v := bv false) rfl (pf_ rfl hb134 rfl) (hn (nt ?_))))
     refine HW.condF false rfl rfl (we (te (te (be (nb (nt ?_))))))
     exact ⟨y127, (isp rfl), h⟩
    rintro ρ H_3 ⟨y38, hI, h⟩
    obtain ⟨ρ0, rfl⟩ := hI.ex
    clear hI; unfold F53_3 at h
    refine wr_ (hv (v := iv y2) rfl (mv rfl) (hv (v := iv (IntKind.i64.wrap (y2 + 1))) rfl (HVal.add rfl rfl) (hv (v := iv (IntKind.i64.wrap (y2 + 1))) rfl (av rfl) ?_)))
    refine hn (nt ?_)
    exact (hX2 _ _ _).1 h _ (isp rfl)
   have h := hF hb11
   refine we (te (te (be (nt ?_))))
   exact ⟨y1, ⟨rfl, trivial⟩, h⟩
  have h := hF hb10
  refine hs_ rfl rfl rfl rfl (cB hb10) (hv (v := bv false) rfl (pf_ rfl hb10 rfl) (hn (nt (HW.condF false rfl rfl (we ?_)))))
  refine te (te (be (nt ?_)))
  exact ⟨y1, ⟨rfl, trivial⟩, h⟩
 rintro ρ H_1 ⟨y192, hI, h⟩
 obtain ⟨ρ0, rfl⟩ := hI.ex
 clear hI; unfold F53_1 at h
 refine ws (wr_ (hv (v := bv y192) rfl (mv rfl) (hv (v := bv y192) rfl (av rfl) (hn (nt (HW.ret ?_))))))
 exact ⟨_, resOf1 rfl Res1.t, ⟨y192, rfl, h⟩⟩

def F54_3 (Q : ZQB) (X2 : ZQI) (y17 : Sl) (y18 : Int) (y19 : Sl) (y20 : Int) (y31 : Bool) (H_3 : Hp) : Prop :=
(y31 = true → (Q false H_3)) ∧
 (y31 = false → (X2 (IntKind.i64.wrap (y20 + 1)) H_3))
def F54_L2b (Q : ZQB) (X2 : ZQI) (y13 : Sl) (y14 : Int) (y15 : Sl) (y12 : Int) (H_2 : Hp) : Prop :=
((decide (y12 < ((y15).n : Int))) = true → ((decide (y14 ≤ y12) = true → (∃ a23, (y15).b = some a23 ∧ (0 : Int) ≤ y12 ∧ y12 < ((y15).n : Int) ∧ (
 ∃ x28, cell H_2 (Addr.add a23 (y12.toNat * 3)) = some (sv x28) ∧ (
 ((!(seq x28 S_mark)) = true → (F54_3 Q X2 y13 y14 y15 y12 true H_2)) ∧
 ((!(seq x28 S_mark)) = false → (∃ a32, (y15).b = some a32 ∧ (0 : Int) ≤ y12 ∧ y12 < ((y15).n : Int) ∧ (
 ∃ x37, cell H_2 (Addr.add (Addr.add a32 (y12.toNat * 3)) 1) = some (iv x37) ∧ (
 (decide (x37 ≠ 0) = true → (F54_3 Q X2 y13 y14 y15 y12 true H_2)) ∧
 (decide (x37 ≠ 0) = false → (∃ a40, (y15).b = some a40 ∧ (0 : Int) ≤ y12 ∧ y12 < ((y15).n : Int) ∧ (
 ∃ x45, cell H_2 (Addr.add (Addr.add a40 (y12.toNat * 3)) 2) = some (Sl.v x45) ∧ (
 ((decide (((x45).n : Int) ≠ 0)) = true → (F54_3 Q X2 y13 y14 y15 y12 true H_2)) ∧
 ((decide (((x45).n : Int) ≠ 0)) = false → ((decide (y12 < y14) = true → (∃ a50, (y13).b = some a50 ∧ (0 : Int) ≤ y12 ∧ y12 < ((y13).n : Int) ∧ (
 ∃ x55 x56 x57, cells H_2 (Addr.add a50 (y12.toNat * 3)) (tR x55 x56 x57) 0 ∧ (
 ∃ a58, (y15).b = some a58 ∧ (0 : Int) ≤ y12 ∧ y12 < ((y15).n : Int) ∧ (
 ∃ x63 x64 x65, cells H_2 (Addr.add a58 (y12.toNat * 3)) (tR x63 x64 x65) 0 ∧ (
 F30 x55 x56 x57 x63 x64 x65 H_2 (fun r68 H66 =>
 cell H66 (Addr.add (Addr.add a40 (y12.toNat * 3)) 2) = some (Sl.v x45) ∧ cell H66 (Addr.add (Addr.add a32 (y12.toNat * 3)) 1) = some (iv x37) ∧ cell H66 (Addr.add a23 (y12.toNat * 3)) = some (sv x28) ∧ (
 F54_3 Q X2 y13 y14 y15 y12 (!r68) H66)))))))) ∧
 (decide (y12 < y14) = false → (F54_3 Q X2 y13 y14 y15 y12 false H_2)))))))))))))))) ∧
 (decide (y14 ≤ y12) = false → ((decide (y12 < y14) = true → (∃ a74, (y13).b = some a74 ∧ (0 : Int) ≤ y12 ∧ y12 < ((y13).n : Int) ∧ (
 ∃ x79 x80 x81, cells H_2 (Addr.add a74 (y12.toNat * 3)) (tR x79 x80 x81) 0 ∧ (
 ∃ a82, (y15).b = some a82 ∧ (0 : Int) ≤ y12 ∧ y12 < ((y15).n : Int) ∧ (
 ∃ x87 x88 x89, cells H_2 (Addr.add a82 (y12.toNat * 3)) (tR x87 x88 x89) 0 ∧ (
 F30 x79 x80 x81 x87 x88 x89 H_2 (fun r92 H90 =>
 F54_3 Q X2 y13 y14 y15 y12 (!r92) H90))))))) ∧
 (decide (y12 < y14) = false → (F54_3 Q X2 y13 y14 y15 y12 false H_2)))))) ∧
 ((decide (y12 < ((y15).n : Int))) = false → (Q true H_2))
def F54_L2 (Q : ZQB) (y13 : Sl) (y14 : Int) (y15 : Sl) (y12 : Int) (H_2 : Hp) : Prop :=
 ∀ X2 : ZQI, (∀ (y12 : Int) (H_2 : Hp), F54_L2b Q X2 y13 y14 y15 y12 H_2 → X2 y12 H_2) → X2 y12 H_2
def F54_1 (Q : ZQB) (y1 y2 : Sl) (y3 : Int) (y6 : Bool) (H_1 : Hp) : Prop :=
(y6 = true → (Q false H_1)) ∧
 (y6 = false → ((0 : Int) ≤ ((y2).c : Int) ∧ 0 ≤ ((y2).c : Int).toNat ∧ ((y2).c : Int).toNat ≤ (y2).c ∧ (y2).c ≤ (y2).c ∧ (
 F54_L2 Q y1 y3 (Sl.cut y2 3 0 (((y2).c : Int).toNat) ((y2).c)) 0 H_1)))
def F54 (p0 p1 : Sl) (H : Hp) (Q : ZQB) : Prop :=
((decide (((p1).n : Int) ≠ ((p0).n : Int))) = true → (F54_1 Q p0 p1 ((p0).n : Int) true H)) ∧
 ((decide (((p1).n : Int) ≠ ((p0).n : Int))) = false → (F54_1 Q p0 p1 ((p0).n : Int) (decide (((p1).c : Int) ≤ ((p0).n : Int))) H))
theorem walk54 {w0 : World} {p0 p1 : Sl} {H : Hp} {Q : ZQB} (h : F54 p0 p1 H Q) :
  Good prog w0 54 #[(Sl.v p0), (Sl.v p1)] H (fun v H => ∃ r0, v = (bv r0) ∧ Q r0 H) := by
 unfold F54 at h
 refine Good.enter' (fn := f54) func54 rfl rfl rfl (ws (wr_ (hv (v := bv false) rfl (av rfl) (hn (nt (ws ?_))))))
 refine wr_ (hv (v := Sl.v p0) rfl (mv rfl) (hv (v := iv ((p0).n : Int)) rfl (HVal.len runUnderlying49 rfl) (hv (v := iv ((p0).n : Int)) rfl (av rfl) ?_)))
 refine hn (nt (ws (wc (fun ρ H_1 => ∃ y6, Env.Is ρ [(0, (Sl.v p0)), (1, (Sl.v p1)), (5, (iv ((p0).n : Int))), (19, (bv y6))] ∧ F54_1 Q p0 p1 ((p0).n : Int) y6 H_1) ?_ ?_)))
 ·refine wr_ (hv (v := Sl.v p1) rfl (mv rfl) (hv (v := iv ((p1).n : Int)) rfl (HVal.len runUnderlying49 rfl) (hv (v := iv ((p0).n : Int)) rfl (mv rfl) ?_)))
  refine hv (v := bv (decide (((p1).n : Int) ≠ ((p0).n : Int)))) rfl (HVal.neqI rfl rfl) (hv (v := bv (decide (((p1).n : Int) ≠ ((p0).n : Int)))) rfl (mv rfl) ?_)
  obtain ⟨hT, hF⟩ := h
  rcases Bool.eq_false_or_eq_true (decide (((p1).n : Int) ≠ ((p0).n : Int))) with hb4 | hb5
  ·have h := hT hb4
   refine hs_ rfl rfl rfl rfl (cB hb4) (hs_ rfl rfl rfl rfl (cB hb4) (hs_ rfl rfl rfl rfl (cB hb4) (hs_ rfl rfl rfl rfl (cB hb4) ?_)))
   refine hv (v := bv true) rfl (pt_ rfl hb4 rfl) (hn (nt ?_))
   exact ⟨true, (isp rfl), h⟩
  have h := hF hb5
  refine hg (v := Sl.v p1) rfl rfl rfl rfl (cB hb5) (mv rfl) (hg (v := iv ((p1).c : Int)) rfl rfl rfl rfl (cB hb5) (HVal.cap runUnderlying49 rfl) ?_)
  refine hg (v := iv ((p0).n : Int)) rfl rfl rfl rfl (cB hb5) (mv rfl) (hg (v := bv (decide (((p1).c : Int) ≤ ((p0).n : Int)))) rfl rfl rfl rfl (cB hb5) (HVal.leq rfl rfl) ?_)
  refine hv (v := bv (decide (((p1).c : Int) ≤ ((p0).n : Int)))) rfl (pf_ rfl hb5 rfl) (hn (nt ?_))
  exact ⟨(decide (((p1).c : Int) ≤ ((p0).n : Int))), (isp rfl), h⟩
 rintro ρ H_1 ⟨y6, hI, h⟩
 obtain ⟨ρ0, rfl⟩ := hI.ex
 clear hI; unfold F54_1 at h
 obtain ⟨hT, hF⟩ := h
 refine wk y6 rfl (fun hb7 => ?_) (fun hb7 => ?_)
 ·have h := hT hb7
  refine ws (wr_ (hv (v := bv false) rfl (av rfl) (hn (nt (HW.ret (tr ?_))))))
  exact ⟨_, resOf1 rfl Res1.t, ⟨false, rfl, h⟩⟩
 have h := hF hb7
 refine wp_ (nt (ws (wr_ (hv (v := Sl.v p1) rfl (mv rfl) (hv (v := Sl.v p1) rfl (mv rfl) (hv (v := iv ((p1).c : Int)) rfl (HVal.cap runUnderlying49 rfl) ?_))))))
 obtain ⟨z8, z9, z10, z11, h⟩ := h
 refine hv (v := Sl.v (Sl.cut p1 3 0 (((p1).c : Int).toNat) ((p1).c))) rfl (HVal.slice _ _ _ runUnderlying49 sizeOf36 rfl rfl ⟨_, _, rfl, z8, rfl⟩ rfl (by decide) z9 z10 z11) ?_
 refine hv (v := Sl.v (Sl.cut p1 3 0 (((p1).c : Int).toNat) ((p1).c))) rfl (av rfl) (hn (nt (ws (ws (wr_ (hv (v := iv 0) rfl (av rfl) ?_))))))
 refine hn (nt (wb (HW.loop' (fun L2 hL2 => ?_))))
 obtain ⟨X2, hX2⟩ : ∃ X2 : ZQI, ∀ (y12 : Int) (H_2 : Hp), X2 y12 H_2 ↔ ∀ ρ, Env.Is ρ [(0, (Sl.v p0)), (5, (iv ((p0).n : Int))), (6, (Sl.v (Sl.cut p1 3 0 (((p1).c : Int).toNat) ((p1).c)))), (7, (iv y12))] → L2 ρ H_2 := ⟨_, fun _ _ => Iff.rfl⟩
 refine (hX2 _ _).1 (h X2 ?_) _ ?_
 rotate_left
 ·exact (isp rfl)
 clear h
 intro y12 H_2 h
 refine (hX2 _ _).2 fun ρ hI => ?_
 obtain ⟨ρ0, rfl⟩ := hI.ex
 clear hI; unfold F54_L2b at h; refine hL2 _ _ ?_
 refine ws (ws (wr_ (hv (v := iv y12) rfl (mv rfl) (hv (v := Sl.v (Sl.cut p1 3 0 (((p1).c : Int).toNat) ((p1).c))) rfl (mv rfl) ?_))))
 refine hv (v := iv (((Sl.cut p1 3 0 (((p1).c : Int).toNat) ((p1).c))).n : Int)) rfl (HVal.len runUnderlying49 rfl) (hv (v := bv (decide (y12 < (((Sl.cut p1 3 0 (((p1).c : Int).toNat) ((p1).c))).n : Int)))) rfl (HVal.lss rfl rfl) ?_)
 refine hn (nt ?_)
 obtain ⟨hT, hF⟩ := h
 refine wk (decide (y12 < (((Sl.cut p1 3 0 (((p1).c : Int).toNat) ((p1).c))).n : Int))) rfl (fun hb16 => ?_) (fun hb16 => ?_)
 ·have h := hT hb16
  refine wp_ (nt (ws (wb (wc (fun ρ H_3 => ∃ y31, Env.Is ρ [(0, (Sl.v p0)), (5, (iv ((p0).n : Int))), (6, (Sl.v (Sl.cut p1 3 0 (((p1).c : Int).toNat) ((p1).c)))), (7, (iv y12)), (74, (bv y31))] ∧ F54_3 Q X2 p0 ((p0).n : Int) (Sl.cut p1 3 0 (((p1).c : Int).toNat) ((p1).c)) y12 y31 H_3) ?_ ?_))))
  ·refine HW.draw mixed [(0, some []), (1, some []), (2, some []), (3, some []), (4, some []), (5, some []), (6, some []), (7, some []), (8, some []), (9, some []), (10, some []), (11, some []), (12, some []), (13, some []), (14, some []), (15, some []), (16, some []), (17, some []), (18, some []), (19, some []), (20, some []), (21, some []), (22, some []), (23, some []), (24, some []), (25, some []), (26, some []), (27, some []), (28, some []), (29, some []), (30, some []), (31, some []), (32, some []), (33, some []), (34, some []), (35, some []), (36, some [41]), (37, some []), (38, some []), (39, some []), (40, some [41]), (41, none), (42, some []), (43, some []), (44, some [])] rfl (by kernel_rfl) (by kernel_rfl) ?_
   refine pv (v := iv y12) rfl rfl (fun _ => mv rfl) (pv (v := iv ((p0).n : Int)) rfl rfl (fun _ => mv rfl) (pv (v := bv (decide (((p0).n : Int) ≤ y12))) rfl rfl (fun _ => HVal.geq rfl rfl) ?_))
   refine pv (v := bv (decide (((p0).n : Int) ≤ y12))) rfl rfl (fun _ => mv rfl) ?_
   obtain ⟨hT, hF⟩ := h
   rcases Bool.eq_false_or_eq_true (decide (((p0).n : Int) ≤ y12)) with hb21 | hb22
   ·have h := hT hb21
    refine HPlan.gtakev (v := Sl.v (Sl.cut p1 3 0 (((p1).c : Int).toNat) ((p1).c))) rfl rfl rfl rfl rfl (cB hb21) (fun _ => mv rfl) (HPlan.gtakev (v := iv y12) rfl rfl rfl rfl rfl (cB hb21) (fun _ => mv rfl) ?_)
    obtain ⟨a23, e24, b25, b26, h⟩ := h
    refine HPlan.gtakev (v := pp (Addr.add a23 (y12.toNat * 3))) rfl rfl rfl rfl rfl (cB hb21) (fun _ => ia runUnderlying49 sizeOf36 (Sl.v_some rfl e24) rfl b25 b26) ?_
    refine HPlan.gtakev (v := pp (Addr.add a23 (y12.toNat * 3))) rfl rfl rfl rfl rfl (cB hb21) (fun _ => HVal.fieldAddr0 runUnderlying36 rfl rfl sizeOf9 rfl) ?_
    obtain ⟨x28, c27, h⟩ := h
    refine HPlan.gtakel (v := sv x28) (fun X => cell X (Addr.add a23 (y12.toNat * 3)) = some (sv x28)) rfl rfl rfl rfl rfl (cB hb21) (fun _ hX => l1 isAgg9 rfl hX) c27 ?_
    refine HPlan.gtakev (v := bv (!(seq x28 S_mark))) rfl rfl rfl rfl rfl (cB hb21) (fun _ => HVal.neqS rfl rfl) (HPlan.gtakev (v := bv (!(seq x28 S_mark))) rfl rfl rfl rfl rfl (cB hb21) (fun _ => mv rfl) ?_)
    obtain ⟨hT, hF⟩ := h
    rcases Bool.eq_false_or_eq_true (!(seq x28 S_mark)) with hb29 | hb30
    ·have h := hT hb29
     refine pg rfl rfl rfl rfl (cB hb29) (pg rfl rfl rfl rfl (cB hb29) (pg rfl rfl rfl rfl (cB hb29) (pg rfl rfl rfl rfl (cB hb29) ?_)))
     refine pg rfl rfl rfl rfl (cB hb29) (pg rfl rfl rfl rfl (cB hb29) (HPlan.gtakev (v := bv true) rfl rfl rfl rfl rfl (cB hb21) (fun _ => pt_ rfl hb29 rfl) ?_))
     refine HPlan.gtakev (v := bv true) rfl rfl rfl rfl rfl (cB hb21) (fun _ => mv rfl) (pg rfl rfl rfl rfl rfl (pg rfl rfl rfl rfl rfl ?_))
     refine pg rfl rfl rfl rfl rfl (pg rfl rfl rfl rfl rfl (pg rfl rfl rfl rfl rfl (pg rfl rfl rfl rfl rfl ?_)))
     refine pg rfl rfl rfl rfl rfl (HPlan.gtakev (v := bv true) rfl rfl rfl rfl rfl (cB hb21) (fun _ => pt_ rfl rfl rfl) (pv (v := bv true) rfl rfl (fun _ => pt_ rfl hb21 rfl) ?_))
     refine pv (v := bv true) rfl rfl (fun _ => mv rfl) (pg rfl rfl rfl rfl rfl (pg rfl rfl rfl rfl rfl (pg rfl rfl rfl rfl rfl ?_)))
     refine pg rfl rfl rfl rfl rfl (HPlan.takeuskip rfl rfl rfl rfl rfl (HPlan.takeuskip rfl rfl rfl rfl rfl (HPlan.takeuskip rfl rfl rfl rfl rfl ?_)))
     refine HPlan.takeuskip rfl rfl rfl rfl rfl (HPlan.takeuskip rfl rfl rfl rfl rfl (HPlan.takeuskip rfl rfl rfl rfl rfl (HPlan.takeuskip rfl rfl rfl rfl rfl ?_)))
     refine HPlan.takeuskip rfl rfl rfl rfl rfl (HPlan.opuskip rfl rfl rfl rfl rfl (HPlan.takeuskip rfl rfl rfl rfl rfl (pg rfl rfl rfl rfl rfl ?_)))
     refine pv (v := bv true) rfl rfl (fun _ => pt_ rfl rfl rfl) (HPlan.done (nt ?_))
     exact ⟨true, (isp rfl), h⟩
    have h := hF hb30
    refine HPlan.gtakev (v := Sl.v (Sl.cut p1 3 0 (((p1).c : Int).toNat) ((p1).c))) rfl rfl rfl rfl rfl (cB hb30) (fun _ => mv rfl) (HPlan.gtakev (v := iv y12) rfl rfl rfl rfl rfl (cB hb30) (fun _ => mv rfl) ?_)
    obtain ⟨a32, e33, b34, b35, h⟩ := h
    refine HPlan.gtakev (v := pp (Addr.add a32 (y12.toNat * 3))) rfl rfl rfl rfl rfl (cB hb30) (fun _ => ia runUnderlying49 sizeOf36 (Sl.v_some rfl e33) rfl b34 b35) ?_
    refine HPlan.gtakev (v := pp (Addr.add (Addr.add a32 (y12.toNat * 3)) 1)) rfl rfl rfl rfl rfl (cB hb30) (fun _ => fa runUnderlying36 rfl rfl sizeOf2 rfl) ?_
    obtain ⟨x37, c36, h⟩ := h
    refine HPlan.gtakel (v := iv x37) (fun X => cell X (Addr.add (Addr.add a32 (y12.toNat * 3)) 1) = some (iv x37)) rfl rfl rfl rfl rfl (cB hb30) (fun _ hX => l1 isAgg2 rfl hX) c36 ?_
    refine HPlan.gtakev (v := bv (decide (x37 ≠ 0))) rfl rfl rfl rfl rfl (cB hb30) (fun _ => HVal.neqI rfl rfl) (HPlan.gtakev (v := bv (decide (x37 ≠ 0))) rfl rfl rfl rfl rfl (cB hb21) (fun _ => pf_ rfl hb30 rfl) ?_)
    refine HPlan.gtakev (v := bv (decide (x37 ≠ 0))) rfl rfl rfl rfl rfl (cB hb21) (fun _ => mv rfl) ?_
    obtain ⟨hT, hF⟩ := h
    rcases Bool.eq_false_or_eq_true (decide (x37 ≠ 0)) with hb38 | hb39
    ·have h := hT hb38
     refine pg rfl rfl rfl rfl (cB hb38) (pg rfl rfl rfl rfl (cB hb38) (pg rfl rfl rfl rfl (cB hb38) (pg rfl rfl rfl rfl (cB hb38) ?_)))
     refine pg rfl rfl rfl rfl (cB hb38) (pg rfl rfl rfl rfl (cB hb38) (pg rfl rfl rfl rfl (cB hb38) (HPlan.gtakev (v := bv true) rfl rfl rfl rfl rfl (cB hb21) (fun _ => pt_ rfl hb38 rfl) ?_)))
     refine pv (v := bv true) rfl rfl (fun _ => pt_ rfl hb21 rfl) (pv (v := bv true) rfl rfl (fun _ => mv rfl) (pg rfl rfl rfl rfl rfl ?_))
     refine pg rfl rfl rfl rfl rfl (pg rfl rfl rfl rfl rfl (pg rfl rfl rfl rfl rfl (HPlan.takeuskip rfl rfl rfl rfl rfl ?_)))
     refine HPlan.takeuskip rfl rfl rfl rfl rfl (HPlan.takeuskip rfl rfl rfl rfl rfl (HPlan.takeuskip rfl rfl rfl rfl rfl (HPlan.takeuskip rfl rfl rfl rfl rfl ?_)))
     refine HPlan.takeuskip rfl rfl rfl rfl rfl (HPlan.takeuskip rfl rfl rfl rfl rfl (HPlan.takeuskip rfl rfl rfl rfl rfl (HPlan.opuskip rfl rfl rfl rfl rfl ?_)))
     refine HPlan.takeuskip rfl rfl rfl rfl rfl (pg rfl rfl rfl rfl rfl (pv (v := bv true) rfl rfl (fun _ => pt_ rfl rfl rfl) ?_))
     refine HPlan.done (nt ?_)
     exact ⟨true, (isp rfl), h⟩
    have h := hF hb39
    refine HPlan.gtakev (v := Sl.v (Sl.cut p1 3 0 (((p1).c : Int).toNat) ((p1).c))) rfl rfl rfl rfl rfl (cB hb39) (fun _ => mv rfl) (HPlan.gtakev (v := iv y12) rfl rfl rfl rfl rfl (cB hb39) (fun _ => mv rfl) ?_)
    obtain ⟨a40, e41, b42, b43, h⟩ := h
    refine HPlan.gtakev (v := pp (Addr.add a40 (y12.toNat * 3))) rfl rfl rfl rfl rfl (cB hb39) (fun _ => ia runUnderlying49 sizeOf36 (Sl.v_some rfl e41) rfl b42 b43) ?_
    refine HPlan.gtakev (v := pp (Addr.add (Addr.add a40 (y12.toNat * 3)) 2)) rfl rfl rfl rfl rfl (cB hb39) (fun _ => fa runUnderlying36 rfl rfl sizeOf34 rfl) ?_
    obtain ⟨x45, c44, h⟩ := h
    refine HPlan.gtakel (v := Sl.v x45) (fun X => cell X (Addr.add (Addr.add a40 (y12.toNat * 3)) 2) = some (Sl.v x45)) rfl rfl rfl rfl rfl (cB hb39) (fun _ hX => l1 isAgg34 rfl hX) c44 ?_
    refine HPlan.gtakev (v := iv ((x45).n : Int)) rfl rfl rfl rfl rfl (cB hb39) (fun _ => HVal.len runUnderlying34 rfl) (HPlan.gtakev (v := bv (decide (((x45).n : Int) ≠ 0))) rfl rfl rfl rfl rfl (cB hb39) (fun _ => HVal.neqI rfl rfl) ?_)
    refine HPlan.gtakev (v := bv (decide (((x45).n : Int) ≠ 0))) rfl rfl rfl rfl rfl (cB hb21) (fun _ => pf_ rfl hb39 rfl) (pv (v := bv (decide (((x45).n : Int) ≠ 0))) rfl rfl (fun _ => pt_ rfl hb21 rfl) ?_)
    refine pv (v := bv (decide (((x45).n : Int) ≠ 0))) rfl rfl (fun _ => mv rfl) ?_
    obtain ⟨hT, hF⟩ := h
    rcases Bool.eq_false_or_eq_true (decide (((x45).n : Int) ≠ 0)) with hb46 | hb47
    ·have h := hT hb46
     refine pg rfl rfl rfl rfl (cB hb46) (pg rfl rfl rfl rfl (cB hb46) (pg rfl rfl rfl rfl (cB hb46) (pg rfl rfl rfl rfl (cB hb46) ?_)))
     refine HPlan.takeuskip rfl rfl rfl rfl rfl (HPlan.takeuskip rfl rfl rfl rfl rfl (HPlan.takeuskip rfl rfl rfl rfl rfl (HPlan.takeuskip rfl rfl rfl rfl rfl ?_)))
     refine HPlan.takeuskip rfl rfl rfl rfl rfl (HPlan.takeuskip rfl rfl rfl rfl rfl (HPlan.takeuskip rfl rfl rfl rfl rfl (HPlan.takeuskip rfl rfl rfl rfl rfl ?_)))
     refine HPlan.opuskip rfl rfl rfl rfl rfl (HPlan.takeuskip rfl rfl rfl rfl rfl (pg rfl rfl rfl rfl (cB hb46) (pv (v := bv true) rfl rfl (fun _ => pt_ rfl hb46 rfl) ?_)))
     refine HPlan.done (nt ?_)
     exact ⟨true, (isp rfl), h⟩
    have h := hF hb47
    refine HPlan.gtakev (v := iv y12) rfl rfl rfl rfl rfl (cB hb47) (fun _ => mv rfl) (HPlan.gtakev (v := iv ((p0).n : Int)) rfl rfl rfl rfl rfl (cB hb47) (fun _ => mv rfl) ?_)
    refine HPlan.gtakev (v := bv (decide (y12 < ((p0).n : Int)))) rfl rfl rfl rfl rfl (cB hb47) (fun _ => HVal.lss rfl rfl) (HPlan.gtakev (v := bv (decide (y12 < ((p0).n : Int)))) rfl rfl rfl rfl rfl (cB hb47) (fun _ => mv rfl) ?_)
    obtain ⟨hT, hF⟩ := h
    rcases Bool.eq_false_or_eq_true (decide (y12 < ((p0).n : Int))) with hb48 | hb49
    ·have h := hT hb48
     refine HPlan.gtakev (v := Sl.v p0) rfl rfl rfl rfl rfl (cB hb48) (fun _ => mv rfl) (HPlan.gtakev (v := iv y12) rfl rfl rfl rfl rfl (cB hb48) (fun _ => mv rfl) ?_)
     obtain ⟨a50, e51, b52, b53, h⟩ := h
     refine HPlan.gtakev (v := pp (Addr.add a50 (y12.toNat * 3))) rfl rfl rfl rfl rfl (cB hb48) (fun _ => ia runUnderlying49 sizeOf36 (Sl.v_some rfl e51) rfl b52 b53) ?_
     obtain ⟨x55, x56, x57, c54, h⟩ := h
     refine HPlan.gtakel (v := .agg (tR x55 x56 x57).toArray) (fun X => cells X (Addr.add a50 (y12.toNat * 3)) (tR x55 x56 x57) 0) rfl rfl rfl rfl rfl (cB hb48) (fun _ hX => ln (tR x55 x56 x57) isAgg36 sizeOf36 rfl hX) c54 ?_
     refine HPlan.gtakev (v := Sl.v (Sl.cut p1 3 0 (((p1).c : Int).toNat) ((p1).c))) rfl rfl rfl rfl rfl (cB hb48) (fun _ => mv rfl) (HPlan.gtakev (v := iv y12) rfl rfl rfl rfl rfl (cB hb48) (fun _ => mv rfl) ?_)
     obtain ⟨a58, e59, b60, b61, h⟩ := h
     refine HPlan.gtakev (v := pp (Addr.add a58 (y12.toNat * 3))) rfl rfl rfl rfl rfl (cB hb48) (fun _ => ia runUnderlying49 sizeOf36 (Sl.v_some rfl e59) rfl b60 b61) ?_
     obtain ⟨x63, x64, x65, c62, h⟩ := h
     refine HPlan.gtakel (v := .agg (tR x63 x64 x65).toArray) (fun X => cells X (Addr.add a58 (y12.toNat * 3)) (tR x63 x64 x65) 0) rfl rfl rfl rfl rfl (cB hb48) (fun _ hX => ln (tR x63 x64 x65) isAgg36 sizeOf36 rfl hX) c62 ?_
     refine HPlan.gops rfl rfl rfl rfl rfl (cB hb48) (HOp.call' 30 [(.agg (tR x55 x56 x57).toArray), (.agg (tR x63 x64 x65).toArray)] (cap := []) rfl rfl call30 (walk30 h)) ?_
     rintro _ H66 ⟨r68, rfl, h⟩
     obtain ⟨s69, s70, s71, h⟩ := h
     refine ⟨SC_of ⟨nofun, nofun, fun _ => s69, fun _ => s70, fun _ => s71, trivial⟩, ?_⟩
     refine HPlan.gtakev (v := bv (!r68)) rfl rfl rfl rfl rfl (cB hb48) (fun _ => HVal.not rfl) (HPlan.gtakev (v := bv (!r68)) rfl rfl rfl rfl rfl (cB hb47) (fun _ => pt_ rfl hb48 rfl) ?_)
     refine pv (v := bv (!r68)) rfl rfl (fun _ => pf_ rfl hb47 rfl) (HPlan.done (nt ?_))
     exact ⟨(!r68), (isp rfl), h⟩
    have h := hF hb49
    refine pg rfl rfl rfl rfl (cB hb49) (pg rfl rfl rfl rfl (cB hb49) (pg rfl rfl rfl rfl (cB hb49) (pg rfl rfl rfl rfl (cB hb49) ?_)))
    refine pg rfl rfl rfl rfl (cB hb49) (pg rfl rfl rfl rfl (cB hb49) (pg rfl rfl rfl rfl (cB hb49) (pg rfl rfl rfl rfl (cB hb49) ?_)))
    refine HPlan.opgskip rfl rfl rfl rfl (cB hb49) (pg rfl rfl rfl rfl (cB hb49) (HPlan.gtakev (v := bv false) rfl rfl rfl rfl rfl (cB hb47) (fun _ => pf_ rfl hb49 rfl) ?_))
    refine pv (v := bv false) rfl rfl (fun _ => pf_ rfl hb47 rfl) (HPlan.done (nt ?_))
    exact ⟨false, (isp rfl), h⟩
   have h := hF hb22
   refine pg rfl rfl rfl rfl (cB hb22) (pg rfl rfl rfl rfl (cB hb22) (pg rfl rfl rfl rfl (cB hb22) (pg rfl rfl rfl rfl (cB hb22) ?_)))
   refine pg rfl rfl rfl rfl (cB hb22) (pg rfl rfl rfl rfl (cB hb22) (pg rfl rfl rfl rfl (cB hb22) (HPlan.takeuskip rfl rfl rfl rfl rfl ?_)))
   refine HPlan.takeuskip rfl rfl rfl rfl rfl (HPlan.takeuskip rfl rfl rfl rfl rfl (HPlan.takeuskip rfl rfl rfl rfl rfl (HPlan.takeuskip rfl rfl rfl rfl rfl ?_)))
   refine HPlan.takeuskip rfl rfl rfl rfl rfl (pg rfl rfl rfl rfl (cB hb22) (pg rfl rfl rfl rfl (cB hb22) (HPlan.takeuskip rfl rfl rfl rfl rfl ?_)))
   refine HPlan.takeuskip rfl rfl rfl rfl rfl (HPlan.takeuskip rfl rfl rfl rfl rfl (HPlan.takeuskip rfl rfl rfl rfl rfl (HPlan.takeuskip rfl rfl rfl rfl rfl ?_)))
   refine HPlan.takeuskip rfl rfl rfl rfl rfl (HPlan.takeuskip rfl rfl rfl rfl rfl (pg rfl rfl rfl rfl (cB hb22) (pv (v := bv false) rfl rfl (fun _ => pf_ rfl hb22 rfl) ?_)))
   refine pv (v := bv false) rfl rfl (fun _ => mv rfl) (HPlan.gtakev (v := iv y12) rfl rfl rfl rfl rfl rfl (fun _ => mv rfl) (HPlan.gtakev (v := iv ((p0).n : Int)) rfl rfl rfl rfl rfl rfl (fun _ => mv rfl) ?_))
   refine HPlan.gtakev (v := bv (decide (y12 < ((p0).n : Int)))) rfl rfl rfl rfl rfl rfl (fun _ => HVal.lss rfl rfl) (HPlan.gtakev (v := bv (decide (y12 < ((p0).n : Int)))) rfl rfl rfl rfl rfl rfl (fun _ => mv rfl) ?_)
   obtain ⟨hT, hF⟩ := h
   rcases Bool.eq_false_or_eq_true (decide (y12 < ((p0).n : Int))) with hb72 | hb73
   ·have h := hT hb72
    refine HPlan.gtakev (v := Sl.v p0) rfl rfl rfl rfl rfl (cB hb72) (fun _ => mv rfl) (HPlan.gtakev (v := iv y12) rfl rfl rfl rfl rfl (cB hb72) (fun _ => mv rfl) ?_)
    obtain ⟨a74, e75, b76, b77, h⟩ := h
    refine HPlan.gtakev (v := pp (Addr.add a74 (y12.toNat * 3))) rfl rfl rfl rfl rfl (cB hb72) (fun _ => ia runUnderlying49 sizeOf36 (Sl.v_some rfl e75) rfl b76 b77) ?_
    obtain ⟨x79, x80, x81, c78, h⟩ := h
    refine HPlan.gtakel (v := .agg (tR x79 x80 x81).toArray) (fun X => cells X (Addr.add a74 (y12.toNat * 3)) (tR x79 x80 x81) 0) rfl rfl rfl rfl rfl (cB hb72) (fun _ hX => ln (tR x79 x80 x81) isAgg36 sizeOf36 rfl hX) c78 ?_
    refine HPlan.gtakev (v := Sl.v (Sl.cut p1 3 0 (((p1).c : Int).toNat) ((p1).c))) rfl rfl rfl rfl rfl (cB hb72) (fun _ => mv rfl) (HPlan.gtakev (v := iv y12) rfl rfl rfl rfl rfl (cB hb72) (fun _ => mv rfl) ?_)
    obtain ⟨a82, e83, b84, b85, h⟩ := h
    refine HPlan.gtakev (v := pp (Addr.add a82 (y12.toNat * 3))) rfl rfl rfl rfl rfl (cB hb72) (fun _ => ia runUnderlying49 sizeOf36 (Sl.v_some rfl e83) rfl b84 b85) ?_
    obtain ⟨x87, x88, x89, c86, h⟩ := h
    refine HPlan.gtakel (v := .agg (tR x87 x88 x89).toArray) (fun X => cells X (Addr.add a82 (y12.toNat * 3)) (tR x87 x88 x89) 0) rfl rfl rfl rfl rfl (cB hb72) (fun _ hX => ln (tR x87 x88 x89) isAgg36 sizeOf36 rfl hX) c86 ?_
    refine HPlan.gops rfl rfl rfl rfl rfl (cB hb72) (HOp.call' 30 [(.agg (tR x79 x80 x81).toArray), (.agg (tR x87 x88 x89).toArray)] (cap := []) rfl rfl call30 (walk30 h)) ?_
    rintro _ H90 ⟨r92, rfl, h⟩
    refine ⟨SC_of ⟨nofun, nofun, trivial⟩, ?_⟩
    refine HPlan.gtakev (v := bv (!r92)) rfl rfl rfl rfl rfl (cB hb72) (fun _ => HVal.not rfl) (HPlan.gtakev (v := bv (!r92)) rfl rfl rfl rfl rfl rfl (fun _ => pt_ rfl hb72 rfl) ?_)
    refine pv (v := bv (!r92)) rfl rfl (fun _ => pf_ rfl rfl rfl) (HPlan.done (nt ?_))
    exact ⟨(!r92), (isp rfl), h⟩
   have h := hF hb73
   refine pg rfl rfl rfl rfl (cB hb73) (pg rfl rfl rfl rfl (cB hb73) (pg rfl rfl rfl rfl (cB hb73) (pg rfl rfl rfl rfl (cB hb73) ?_)))
   refine pg rfl rfl rfl rfl (cB hb73) (pg rfl rfl rfl rfl (cB hb73) (pg rfl rfl rfl rfl (cB hb73) (pg rfl rfl rfl rfl (cB hb73) ?_)))
   refine HPlan.opgskip rfl rfl rfl rfl (cB hb73) (pg rfl rfl rfl rfl (cB hb73) (HPlan.gtakev (v := bv false) rfl rfl rfl rfl rfl rfl (fun _ => pf_ rfl hb73 rfl) ?_))
   refine pv (v := bv false) rfl rfl (fun _ => pf_ rfl rfl rfl) (HPlan.done (nt ?_))
   exact ⟨false, (isp rfl), h⟩
  rintro ρ H_3 ⟨y31, hI, h⟩
  obtain ⟨ρ0, rfl⟩ := hI.ex
  clear hI; unfold F54_3 at h
  obtain ⟨hT, hF⟩ := h
  refine wk y31 rfl (fun hb93 => ?_) (fun hb93 => ?_)
  ·have h := hT hb93
   refine ws (wr_ (hv (v := bv false) rfl (av rfl) (hn (nt (HW.ret (br (tr (tr (br (tr ?_))))))))))
   exact ⟨_, resOf1 rfl Res1.t, ⟨false, rfl, h⟩⟩
  have h := hF hb93
  refine wp_ (nb (nt (wr_ (hv (v := iv y12) rfl (mv rfl) (hv (v := iv (IntKind.i64.wrap (y12 + 1))) rfl (HVal.add rfl rfl) ?_)))))
  refine hv (v := iv (IntKind.i64.wrap (y12 + 1))) rfl (av rfl) (hn (nt ?_))
  exact (hX2 _ _).1 h _ (isp rfl)
 have h := hF hb16
 refine we (te (te (be (nt (ws (wr_ (hv (v := bv true) rfl (av rfl) (hn (nt (HW.ret ?_))))))))))
 exact ⟨_, resOf1 rfl Res1.t, ⟨true, rfl, h⟩⟩

def F35_6 (Q : ZQB) (y145 : Bool) (H_6 : Hp) : Prop :=
Q y145 H_6
def F35_8 (Q : ZQB) (X7 : Bool → ZQI) (y87 : (Option Addr)) (y88 : Addr) (y89 : Int) (y116 : Bool) (H_8 : Hp) : Prop :=
X7 y116 (IntKind.i64.wrap (y89 + 1)) H_8
def F35_L7b (Q : ZQB) (X7 : Bool → ZQI) (y78 : (Option Addr)) (y79 : Addr) (y76 : Bool) (y77 : Int) (H_7 : Hp) : Prop :=
∃ a80, y78 = some a80 ∧ (
 ∃ x83, cell H_7 (Addr.add a80 5) = some (Sl.v x83) ∧ (
 ((decide (y77 < ((x83).n : Int))) = true → ((y76 = true → (∃ x91, cell H_7 (Addr.add y79 1) = some (Sl.v x91) ∧ (
 ((decide (y77 < ((x91).n : Int))) = true → (∃ x94, cell H_7 (Addr.add y79 1) = some (Sl.v x94) ∧ (
 ∃ a95, (x94).b = some a95 ∧ (0 : Int) ≤ y77 ∧ y77 < ((x94).n : Int) ∧ (
 ∃ x100, cell H_7 (Addr.add a95 (y77.toNat * 1)) = some (Sl.v x100) ∧ (
 ∃ a101, y78 = some a101 ∧ (
 ∃ x104, cell H_7 (Addr.add a101 5) = some (Sl.v x104) ∧ (
 ∃ a105, (x104).b = some a105 ∧ (0 : Int) ≤ y77 ∧ y77 < ((x104).n : Int) ∧ (
 ∃ x110, cell H_7 (Addr.add a105 (y77.toNat * 1)) = some (Sl.v x110) ∧ (
 F54 x100 x110 H_7 (fun r113 H111 =>
 cell H111 (Addr.add a101 5) = some (Sl.v x104) ∧ cell H111 (Addr.add y79 1) = some (Sl.v x94) ∧ (
 F35_8 Q X7 y78 y79 y77 r113 H111))))))))))) ∧
 ((decide (y77 < ((x91).n : Int))) = false → (∃ a117, y78 = some a117 ∧ (
 ∃ x120, cell H_7 (Addr.add a117 5) = some (Sl.v x120) ∧ (
 ∃ a121, (x120).b = some a121 ∧ (0 : Int) ≤ y77 ∧ y77 < ((x120).n : Int) ∧ (
 ∃ x126, cell H_7 (Addr.add a121 (y77.toNat * 1)) = some (Sl.v x126) ∧ (
 ((decide (((x126).n : Int) = 1)) = true → (∃ a129, y78 = some a129 ∧ (
 ∃ x132, cell H_7 (Addr.add a129 5) = some (Sl.v x132) ∧ (
 ∃ a133, (x132).b = some a133 ∧ (0 : Int) ≤ y77 ∧ y77 < ((x132).n : Int) ∧ (
 ∃ x138, cell H_7 (Addr.add a133 (y77.toNat * 1)) = some (Sl.v x138) ∧ (
 ∃ a139, (x138).b = some a139 ∧ (0 : Int) ≤ 0 ∧ (0 : Int) < ((x138).n : Int) ∧ (
 ∃ x144, cell H_7 (Addr.add a139 ((0 : Int).toNat * 3)) = some (sv x144) ∧ (
 F35_8 Q X7 y78 y79 y77 (seq x144 S_mark) H_7)))))))) ∧
 ((decide (((x126).n : Int) = 1)) = false → (F35_8 Q X7 y78 y79 y77 false H_7))))))))))) ∧
 (y76 = false → (F35_6 Q y76 H_7)))) ∧
 ((decide (y77 < ((x83).n : Int))) = false → (F35_6 Q y76 H_7))))
def F35_L7 (Q : ZQB) (y78 : (Option Addr)) (y79 : Addr) (y76 : Bool) (y77 : Int) (H_7 : Hp) : Prop :=
 ∀ X7 : Bool → ZQI, (∀ (y76 : Bool) (y77 : Int) (H_7 : Hp), F35_L7b Q X7 y78 y79 y76 y77 H_7 → X7 y76 y77 H_7) → X7 y76 y77 H_7
def F35_2 (Q : ZQB) (y32 : (Option Addr)) (y33 : Addr) (y75 : Bool) (H_2 : Hp) : Prop :=
F35_L7 Q y32 y33 y75 0 H_2
def F35_4 (Q : ZQB) (X3 : Bool → ZQI) (y43 : (Option Addr)) (y44 : Addr) (y45 : Int) (y74 : Bool) (H_4 : Hp) : Prop :=
X3 y74 (IntKind.i64.wrap (y45 + 1)) H_4
def F35_5 (Q : ZQB) (X3 : Bool → ZQI) (y46 : (Option Addr)) (y47 : Addr) (y48 : Bool) (y49 : Int) (y61 : ByteArray) (H_5 : Hp) : Prop :=
(y48 = true → (∃ a64, y46 = some a64 ∧ (
 ∃ x67, cell H_5 (Addr.add a64 4) = some (Sl.v x67) ∧ (
 ∃ a68, (x67).b = some a68 ∧ (0 : Int) ≤ y49 ∧ y49 < ((x67).n : Int) ∧ (
 ∃ x73, cell H_5 (Addr.add a68 (y49.toNat * 1)) = some (sv x73) ∧ (
 F35_4 Q X3 y46 y47 y49 (seq x73 y61) H_5)))))) ∧
 (y48 = false → (F35_4 Q X3 y46 y47 y49 false H_5))
def F35_L3b (Q : ZQB) (X3 : Bool → ZQI) (y36 : (Option Addr)) (y37 : Addr) (y34 : Bool) (y35 : Int) (H_3 : Hp) : Prop :=
∃ a38, y36 = some a38 ∧ (
 ∃ x41, cell H_3 (Addr.add a38 4) = some (Sl.v x41) ∧ (
 ((decide (y35 < ((x41).n : Int))) = true → (∃ x51, cell H_3 y37 = some (Sl.v x51) ∧ (
 ((decide (y35 < ((x51).n : Int))) = true → (∃ x54, cell H_3 y37 = some (Sl.v x54) ∧ (
 ∃ a55, (x54).b = some a55 ∧ (0 : Int) ≤ y35 ∧ y35 < ((x54).n : Int) ∧ (
 ∃ x60, cell H_3 (Addr.add a55 (y35.toNat * 1)) = some (sv x60) ∧ (
 F35_5 Q X3 y36 y37 y34 y35 x60 H_3))))) ∧
 ((decide (y35 < ((x51).n : Int))) = false → (F35_5 Q X3 y36 y37 y34 y35 S_mark H_3))))) ∧
 ((decide (y35 < ((x41).n : Int))) = false → (F35_2 Q y36 y37 y34 H_3))))
def F35_L3 (Q : ZQB) (y36 : (Option Addr)) (y37 : Addr) (y34 : Bool) (y35 : Int) (H_3 : Hp) : Prop :=
 ∀ X3 : Bool → ZQI, (∀ (y34 : Bool) (y35 : Int) (H_3 : Hp), F35_L3b Q X3 y36 y37 y34 y35 H_3 → X3 y34 y35 H_3) → X3 y34 y35 H_3
def F35_1 (Q : ZQB) (y5 : (Option Addr)) (y6 : Addr) (y31 : Bool) (H_1 : Hp) : Prop :=
F35_L3 Q y5 y6 y31 0 H_1
def F35 (p0 : (Option Addr)) (p1_0 p1_1 : Sl) (p1_2 p1_3 : ByteArray) (p1_4 : Int) (p1_5 p1_6 p2_0 p2_1 : Sl) (p2_2 p2_3 : ByteArray) (p2_4 : Int) (p2_5 p2_6 : Sl) (H : Hp) (Q : ZQB) : Prop :=
∀ H1, H1 = Array.push H (.cells (xR p1_0 p1_1 p1_2 p1_3 p1_4 p1_5 p1_6).toArray 43) → (
 ∀ H3, H3 = Array.push H1 (.cells (xR p2_0 p2_1 p2_2 p2_3 p2_4 p2_5 p2_6).toArray 43) → (
 ∃ x8, cell H3 (Addr.add (bk H) 2) = some (sv x8) ∧ (
 ∃ x10, cell H3 (Addr.add (bk H1) 2) = some (sv x10) ∧ (
 ((seq x8 x10) = true → (∃ x14 x15 x16, cells H3 (Addr.add (bk H) 3) (tR x14 x15 x16) 0 ∧ (
 ∃ x18 x19 x20, cells H3 (Addr.add (bk H1) 3) (tR x18 x19 x20) 0 ∧ (
 F30 x14 x15 x16 x18 x19 x20 H3 (fun r23 H21 =>
 (r23 = true → (∃ x27, cell H21 (Addr.add (bk H) 6) = some (Sl.v x27) ∧ (
 F53 p0 x27 H21 (fun r30 H28 =>
 F35_1 Q p0 (bk H) r30 H28)))) ∧
 (r23 = false → (F35_1 Q p0 (bk H) false H21))))))) ∧
 ((seq x8 x10) = false → (F35_1 Q p0 (bk H) false H3))))))
theorem walk35 {w0 : World} {p0 : (Option Addr)} {p1_0 p1_1 : Sl} {p1_2 p1_3 : ByteArray} {p1_4 : Int} {p1_5 p1_6 p2_0 p2_1 : Sl} {p2_2 p2_3 : ByteArray} {p2_4 : Int} {p2_5 p2_6 : Sl} {H : Hp} {Q : ZQB} (h : F35 p0 p1_0 p1_1 p1_2 p1_3 p1_4 p1_5 p1_6 p2_0 p2_1 p2_2 p2_3 p2_4 p2_5 p2_6 H Q) :
  Good prog w0 35 #[(.pointer p0), (.agg (xR p1_0 p1_1 p1_2 p1_3 p1_4 p1_5 p1_6).toArray), (.agg (xR p2_0 p2_1 p2_2 p2_3 p2_4 p2_5 p2_6).toArray)] H (fun v H => ∃ r0, v = (bv r0) ∧ Q r0 H) := by
 unfold F35 at h
 refine Good.enter' (fn := f35) func35 rfl rfl rfl (ws (wr_ (ho rfl (ob (v := .agg (xR p1_0 p1_1 p1_2 p1_3 p1_4 p1_5 p1_6).toArray) rfl) ?_)))
 rintro _ H1 ⟨rfl, e2⟩
 replace h := h H1 e2
 refine ho rfl (ob (v := .agg (xR p2_0 p2_1 p2_2 p2_3 p2_4 p2_5 p2_6).toArray) rfl) ?_
 rintro _ H3 ⟨rfl, e4⟩
 replace h := h H3 e4
 refine hv (v := bv false) rfl (av rfl) (hn (nt (wc (fun ρ H_1 => ∃ y31, Env.Is ρ [(0, (.pointer p0)), (4, (pp (bk H))), (7, (bv y31))] ∧ F35_1 Q p0 (bk H) y31 H_1) ?_ ?_)))
 ·refine wr_ (hv (v := pp (Addr.add (bk H) 2)) rfl (fa runUnderlying43 rfl rfl sizeOf9 rfl) ?_)
  obtain ⟨x8, c7, h⟩ := h
  refine hv (v := sv x8) rfl (l1 isAgg9 rfl c7) (hv (v := pp (Addr.add (bk H1) 2)) rfl (fa runUnderlying43 rfl rfl sizeOf9 rfl) ?_)
  obtain ⟨x10, c9, h⟩ := h
  refine hv (v := sv x10) rfl (l1 isAgg9 rfl c9) (hv (v := bv (seq x8 x10)) rfl (HVal.eqlS rfl rfl) (hv (v := bv (seq x8 x10)) rfl (mv rfl) ?_))
  obtain ⟨hT, hF⟩ := h
  rcases Bool.eq_false_or_eq_true (seq x8 x10) with hb11 | hb12
  ·have h := hT hb11
   refine hg (v := pp (Addr.add (bk H) 3)) rfl rfl rfl rfl (cB hb11) (fa runUnderlying43 rfl rfl sizeOf36 rfl) ?_
   obtain ⟨x14, x15, x16, c13, h⟩ := h
   refine hg (v := .agg (tR x14 x15 x16).toArray) rfl rfl rfl rfl (cB hb11) (ln (tR x14 x15 x16) isAgg36 sizeOf36 rfl c13) (hg (v := pp (Addr.add (bk H1) 3)) rfl rfl rfl rfl (cB hb11) (fa runUnderlying43 rfl rfl sizeOf36 rfl) ?_)
   obtain ⟨x18, x19, x20, c17, h⟩ := h
   refine hg (v := .agg (tR x18 x19 x20).toArray) rfl rfl rfl rfl (cB hb11) (ln (tR x18 x19 x20) isAgg36 sizeOf36 rfl c17) (HList.gops rfl rfl rfl rfl (cB hb11) (HOp.call' 30 [(.agg (tR x14 x15 x16).toArray), (.agg (tR x18 x19 x20).toArray)] (cap := []) rfl rfl call30 (walk30 h)) ?_)
   rintro _ H21 ⟨r23, rfl, h⟩
   refine hv (v := bv r23) rfl (pt_ rfl hb11 rfl) (hv (v := bv r23) rfl (mv rfl) ?_)
   obtain ⟨hT, hF⟩ := h
   rcases Bool.eq_false_or_eq_true r23 with hb24 | hb25
   ·have h := hT hb24
    refine hg (v := .pointer p0) rfl rfl rfl rfl (cB hb24) (mv rfl) (hg (v := pp (Addr.add (bk H) 6)) rfl rfl rfl rfl (cB hb24) (fa runUnderlying43 rfl rfl sizeOf30 rfl) ?_)
    obtain ⟨x27, c26, h⟩ := h
    refine hg (v := Sl.v x27) rfl rfl rfl rfl (cB hb24) (l1 isAgg30 rfl c26) (HList.gops rfl rfl rfl rfl (cB hb24) (HOp.call' 53 [(.pointer p0), (Sl.v x27)] (cap := []) rfl rfl call53 (walk53 h)) ?_)
    rintro _ H28 ⟨r30, rfl, h⟩
    refine hv (v := bv r30) rfl (pt_ rfl hb24 rfl) (hv (v := bv r30) rfl (av rfl) (hn (nt ?_)))
    exact ⟨r30, (isp rfl), h⟩
   have h := hF hb25
   refine hs_ rfl rfl rfl rfl (cB hb25) (hs_ rfl rfl rfl rfl (cB hb25) (hs_ rfl rfl rfl rfl (cB hb25) (hs_ rfl rfl rfl rfl (cB hb25) ?_)))
   refine hv (v := bv false) rfl (pf_ rfl hb25 rfl) (hv (v := bv false) rfl (av rfl) (hn (nt ?_)))
   exact ⟨false, (isp rfl), h⟩
  have h := hF hb12
  refine hs_ rfl rfl rfl rfl (cB hb12) (hs_ rfl rfl rfl rfl (cB hb12) (hs_ rfl rfl rfl rfl (cB hb12) (hs_ rfl rfl rfl rfl (cB hb12) ?_)))
  refine hs_ rfl rfl rfl rfl (cB hb12) (hv (v := bv false) rfl (pf_ rfl hb12 rfl) (hv (v := bv false) rfl (mv rfl) ?_))
  refine hs_ rfl rfl rfl rfl rfl (hs_ rfl rfl rfl rfl rfl (hs_ rfl rfl rfl rfl rfl (hs_ rfl rfl rfl rfl rfl (hv (v := bv false) rfl (pf_ rfl rfl rfl) ?_))))
  refine hv (v := bv false) rfl (av rfl) (hn (nt ?_))
  exact ⟨false, (isp rfl), h⟩
 rintro ρ H_1 ⟨y31, hI, h⟩
 obtain ⟨ρ0, rfl⟩ := hI.ex
 clear hI; unfold F35_1 at h
 refine wc (fun ρ H_2 => ∃ y75, Env.Is ρ [(0, (.pointer p0)), (4, (pp (bk H))), (7, (bv y75))] ∧ F35_2 Q p0 (bk H) y75 H_2) ?_ ?_
 ·refine ws (wr_ (hv (v := iv 0) rfl (av rfl) (hn (nt (wb (HW.loop' (fun L3 hL3 => ?_)))))))
  obtain ⟨X3, hX3⟩ : ∃ X3 : Bool → ZQI, ∀ (y34 : Bool) (y35 : Int) (H_3 : Hp), X3 y34 y35 H_3 ↔ ∀ ρ, Env.Is ρ [(0, (.pointer p0)), (4, (pp (bk H))), (7, (bv y34)), (8, (iv y35))] → L3 ρ H_3 := ⟨_, fun _ _ _ => Iff.rfl⟩
  refine (hX3 _ _ _).1 (h X3 ?_) _ ?_
  rotate_left
  ·exact (isp rfl)
  clear h
  intro y34 y35 H_3 h
  refine (hX3 _ _ _).2 fun ρ hI => ?_
  obtain ⟨ρ0, rfl⟩ := hI.ex
  clear hI; unfold F35_L3b at h; refine hL3 _ _ ?_
  refine ws (ws (wr_ (hv (v := iv y35) rfl (mv rfl) (hv (v := .pointer p0) rfl (mv rfl) ?_))))
  obtain ⟨a38, e39, h⟩ := h
  refine hv (v := pp a38) rfl (HVal.nilCheck (congrArg Value.pointer e39)) (hv (v := pp (Addr.add a38 4)) rfl (fa runUnderlying32 rfl rfl sizeOf29 rfl) ?_)
  obtain ⟨x41, c40, h⟩ := h
  refine hv (v := Sl.v x41) rfl (l1 isAgg29 rfl c40) (hv (v := iv ((x41).n : Int)) rfl (HVal.len runUnderlying29 rfl) (hv (v := bv (decide (y35 < ((x41).n : Int)))) rfl (HVal.lss rfl rfl) ?_))
  refine hn (nt ?_)
  obtain ⟨hT, hF⟩ := h
  refine wk (decide (y35 < ((x41).n : Int))) rfl (fun hb42 => ?_) (fun hb42 => ?_)
  ·have h := hT hb42
   refine wp_ (nt (wc (fun ρ H_4 => ∃ y74, Env.Is ρ [(0, (.pointer p0)), (4, (pp (bk H))), (8, (iv y35)), (7, (bv y74))] ∧ F35_4 Q X3 p0 (bk H) y35 y74 H_4) ?_ ?_))
   ·refine wb (ws (wr_ (hv (v := sv S_mark) rfl (av rfl) (hn (nt (wc (fun ρ H_5 => ∃ y61, Env.Is ρ [(0, (.pointer p0)), (4, (pp (bk H))), (7, (bv y34)), (8, (iv y35)), (9, (sv y61))] ∧ F35_5 Q X3 p0 (bk H) y34 y35 y61 H_5) ?_ ?_))))))
    ·refine ws (wr_ (hv (v := iv y35) rfl (mv rfl) (hv (v := pp (bk H)) rfl (HVal.fieldAddr0 runUnderlying43 rfl rfl sizeOf29 rfl) ?_)))
     obtain ⟨x51, c50, h⟩ := h
     refine hv (v := Sl.v x51) rfl (l1 isAgg29 rfl c50) (hv (v := iv ((x51).n : Int)) rfl (HVal.len runUnderlying29 rfl) ?_)
     refine hv (v := bv (decide (y35 < ((x51).n : Int)))) rfl (HVal.lss rfl rfl) (hn (nt ?_))
     obtain ⟨hT, hF⟩ := h
     refine wk (decide (y35 < ((x51).n : Int))) rfl (fun hb52 => ?_) (fun hb52 => ?_)
     ·have h := hT hb52
      refine wr_ (hv (v := pp (bk H)) rfl (HVal.fieldAddr0 runUnderlying43 rfl rfl sizeOf29 rfl) ?_)
      obtain ⟨x54, c53, h⟩ := h
      refine hv (v := Sl.v x54) rfl (l1 isAgg29 rfl c53) (hv (v := iv y35) rfl (mv rfl) ?_)
      obtain ⟨a55, e56, b57, b58, h⟩ := h
      refine hv (v := pp (Addr.add a55 (y35.toNat * 1))) rfl (ia runUnderlying29 sizeOf9 (Sl.v_some rfl e56) rfl b57 b58) ?_
      obtain ⟨x60, c59, h⟩ := h
      refine hv (v := sv x60) rfl (l1 isAgg9 rfl c59) (hv (v := sv x60) rfl (av rfl) (hn (nt ?_)))
      exact ⟨x60, (isp rfl), h⟩
     have h := hF hb52
     refine wp_ (nt ?_)
     exact ⟨S_mark, (isp rfl), h⟩
    rintro ρ H_5 ⟨y61, hI, h⟩
    obtain ⟨ρ0, rfl⟩ := hI.ex
    clear hI; unfold F35_5 at h
    refine wr_ (hv (v := bv y34) rfl (mv rfl) (hv (v := bv y34) rfl (mv rfl) ?_))
    obtain ⟨hT, hF⟩ := h
    rcases Bool.eq_false_or_eq_true y34 with hb62 | hb63
    ·have h := hT hb62
     refine hg (v := .pointer p0) rfl rfl rfl rfl (cB hb62) (mv rfl) ?_
     obtain ⟨a64, e65, h⟩ := h
     refine hg (v := pp a64) rfl rfl rfl rfl (cB hb62) (HVal.nilCheck (congrArg Value.pointer e65)) (hg (v := pp (Addr.add a64 4)) rfl rfl rfl rfl (cB hb62) (fa runUnderlying32 rfl rfl sizeOf29 rfl) ?_)
     obtain ⟨x67, c66, h⟩ := h
     refine hg (v := Sl.v x67) rfl rfl rfl rfl (cB hb62) (l1 isAgg29 rfl c66) (hg (v := iv y35) rfl rfl rfl rfl (cB hb62) (mv rfl) ?_)
     obtain ⟨a68, e69, b70, b71, h⟩ := h
     refine hg (v := pp (Addr.add a68 (y35.toNat * 1))) rfl rfl rfl rfl (cB hb62) (ia runUnderlying29 sizeOf9 (Sl.v_some rfl e69) rfl b70 b71) ?_
     obtain ⟨x73, c72, h⟩ := h
     refine hg (v := sv x73) rfl rfl rfl rfl (cB hb62) (l1 isAgg9 rfl c72) (hg (v := sv y61) rfl rfl rfl rfl (cB hb62) (mv rfl) ?_)
     refine hg (v := bv (seq x73 y61)) rfl rfl rfl rfl (cB hb62) (HVal.eqlS rfl rfl) (hv (v := bv (seq x73 y61)) rfl (pt_ rfl hb62 rfl) ?_)
     refine hv (v := bv (seq x73 y61)) rfl (av rfl) (hn (nb (nt ?_)))
     exact ⟨(seq x73 y61), (isp rfl), h⟩
    have h := hF hb63
    refine hs_ rfl rfl rfl rfl (cB hb63) (hs_ rfl rfl rfl rfl (cB hb63) (hs_ rfl rfl rfl rfl (cB hb63) (hs_ rfl rfl rfl rfl (cB hb63) ?_)))
    refine hs_ rfl rfl rfl rfl (cB hb63) (hs_ rfl rfl rfl rfl (cB hb63) (hs_ rfl rfl rfl rfl (cB hb63) (hs_ rfl rfl rfl rfl (cB hb63) ?_)))
    refine hs_ rfl rfl rfl rfl (cB hb63) (hv (v := bv false) rfl (pf_ rfl hb63 rfl) (hv (v := bv false) rfl (av rfl) ?_))
    refine hn (nb (nt ?_))
    exact ⟨false, (isp rfl), h⟩
   rintro ρ H_4 ⟨y74, hI, h⟩
   obtain ⟨ρ0, rfl⟩ := hI.ex
   clear hI; unfold F35_4 at h
   refine wr_ (hv (v := iv y35) rfl (mv rfl) (hv (v := iv (IntKind.i64.wrap (y35 + 1))) rfl (HVal.add rfl rfl) (hv (v := iv (IntKind.i64.wrap (y35 + 1))) rfl (av rfl) ?_)))
   refine hn (nt ?_)
   exact (hX3 _ _ _).1 h _ (isp rfl)
  have h := hF hb42
  refine we (te (te (be (nt ?_))))
  exact ⟨y34, (isp rfl), h⟩
 rintro ρ H_2 ⟨y75, hI, h⟩
 obtain ⟨ρ0, rfl⟩ := hI.ex
 clear hI; unfold F35_2 at h
 refine wc (fun ρ H_6 => ∃ y145, Env.Is ρ [(7, (bv y145))] ∧ F35_6 Q y145 H_6) ?_ ?_
 ·refine ws (wr_ (hv (v := iv 0) rfl (av rfl) (hn (nt (wb (HW.loop' (fun L7 hL7 => ?_)))))))
  obtain ⟨X7, hX7⟩ : ∃ X7 : Bool → ZQI, ∀ (y76 : Bool) (y77 : Int) (H_7 : Hp), X7 y76 y77 H_7 ↔ ∀ ρ, Env.Is ρ [(0, (.pointer p0)), (4, (pp (bk H))), (7, (bv y76)), (10, (iv y77))] → L7 ρ H_7 := ⟨_, fun _ _ _ => Iff.rfl⟩
  refine (hX7 _ _ _).1 (h X7 ?_) _ ?_
  rotate_left
  ·exact (isp rfl)
  clear h
  intro y76 y77 H_7 h
  refine (hX7 _ _ _).2 fun ρ hI => ?_
  obtain ⟨ρ0, rfl⟩ := hI.ex
  clear hI; unfold F35_L7b at h; refine hL7 _ _ ?_
  refine ws (ws (wr_ (hv (v := iv y77) rfl (mv rfl) (hv (v := .pointer p0) rfl (mv rfl) ?_))))
  obtain ⟨a80, e81, h⟩ := h
  refine hv (v := pp a80) rfl (HVal.nilCheck (congrArg Value.pointer e81)) (hv (v := pp (Addr.add a80 5)) rfl (fa runUnderlying32 rfl rfl sizeOf27 rfl) ?_)
  obtain ⟨x83, c82, h⟩ := h
  refine hv (v := Sl.v x83) rfl (l1 isAgg27 rfl c82) (hv (v := iv ((x83).n : Int)) rfl (HVal.len runUnderlying27 rfl) (hv (v := bv (decide (y77 < ((x83).n : Int)))) rfl (HVal.lss rfl rfl) ?_))
  refine hv (v := bv (decide (y77 < ((x83).n : Int)))) rfl (mv rfl) ?_
  obtain ⟨hT, hF⟩ := h
  rcases Bool.eq_false_or_eq_true (decide (y77 < ((x83).n : Int))) with hb84 | hb85
  ·have h := hT hb84
   refine hg (v := bv y76) rfl rfl rfl rfl (cB hb84) (mv rfl) (hv (v := bv y76) rfl (pt_ rfl hb84 rfl) (hn (nt ?_)))
   obtain ⟨hT, hF⟩ := h
   refine wk y76 rfl (fun hb86 => ?_) (fun hb86 => ?_)
   ·have h := hT hb86
    refine wp_ (nt (wc (fun ρ H_8 => ∃ y116, Env.Is ρ [(0, (.pointer p0)), (4, (pp (bk H))), (10, (iv y77)), (7, (bv y116))] ∧ F35_8 Q X7 p0 (bk H) y77 y116 H_8) ?_ ?_))
    ·refine wb (ws (ws (wr_ (hv (v := iv y77) rfl (mv rfl) (hv (v := pp (Addr.add (bk H) 1)) rfl (fa runUnderlying43 rfl rfl sizeOf27 rfl) ?_)))))
     obtain ⟨x91, c90, h⟩ := h
     refine hv (v := Sl.v x91) rfl (l1 isAgg27 rfl c90) (hv (v := iv ((x91).n : Int)) rfl (HVal.len runUnderlying27 rfl) ?_)
     refine hv (v := bv (decide (y77 < ((x91).n : Int)))) rfl (HVal.lss rfl rfl) (hn (nt ?_))
     obtain ⟨hT, hF⟩ := h
     refine wk (decide (y77 < ((x91).n : Int))) rfl (fun hb92 => ?_) (fun hb92 => ?_)
     ·have h := hT hb92
      refine ws (HW.draw mixed [(0, some []), (1, some []), (2, some []), (3, some []), (4, some [12]), (5, some []), (6, some []), (7, some []), (8, some []), (9, some []), (10, some []), (11, some [12]), (12, none), (13, some [])] rfl (by kernel_rfl) (by kernel_rfl) ?_)
      refine pv (v := pp (Addr.add (bk H) 1)) rfl rfl (fun _ => fa runUnderlying43 rfl rfl sizeOf27 rfl) ?_
      obtain ⟨x94, c93, h⟩ := h
      refine pl (v := Sl.v x94) (fun X => cell X (Addr.add (bk H) 1) = some (Sl.v x94)) rfl rfl (fun _ hX => l1 isAgg27 rfl hX) c93 (pv (v := iv y77) rfl rfl (fun _ => mv rfl) ?_)
      obtain ⟨a95, e96, b97, b98, h⟩ := h
      refine pv (v := pp (Addr.add a95 (y77.toNat * 1))) rfl rfl (fun _ => ia runUnderlying27 sizeOf49 (Sl.v_some rfl e96) rfl b97 b98) ?_
      obtain ⟨x100, c99, h⟩ := h
      refine pl (v := Sl.v x100) (fun X => cell X (Addr.add a95 (y77.toNat * 1)) = some (Sl.v x100)) rfl rfl (fun _ hX => l1 isAgg49 rfl hX) c99 ?_
      refine pv (v := .pointer p0) rfl rfl (fun _ => mv rfl) ?_
      obtain ⟨a101, e102, h⟩ := h
      refine pv (v := pp a101) rfl rfl (fun _ => HVal.nilCheck (congrArg Value.pointer e102)) (pv (v := pp (Addr.add a101 5)) rfl rfl (fun _ => fa runUnderlying32 rfl rfl sizeOf27 rfl) ?_)
      obtain ⟨x104, c103, h⟩ := h
      refine pl (v := Sl.v x104) (fun X => cell X (Addr.add a101 5) = some (Sl.v x104)) rfl rfl (fun _ hX => l1 isAgg27 rfl hX) c103 (pv (v := iv y77) rfl rfl (fun _ => mv rfl) ?_)
      obtain ⟨a105, e106, b107, b108, h⟩ := h
      refine pv (v := pp (Addr.add a105 (y77.toNat * 1))) rfl rfl (fun _ => ia runUnderlying27 sizeOf49 (Sl.v_some rfl e106) rfl b107 b108) ?_
      obtain ⟨x110, c109, h⟩ := h
      refine pl (v := Sl.v x110) (fun X => cell X (Addr.add a105 (y77.toNat * 1)) = some (Sl.v x110)) rfl rfl (fun _ hX => l1 isAgg49 rfl hX) c109 ?_
      refine po rfl rfl (HOp.call' 54 [(Sl.v x100), (Sl.v x110)] (cap := []) rfl rfl call54 (walk54 h)) ?_
      rintro _ H111 ⟨r113, rfl, h⟩
      obtain ⟨s114, s115, h⟩ := h
      refine ⟨SC_of ⟨nofun, fun _ => s114, nofun, fun _ => s115, trivial⟩, ?_⟩
      refine pv (v := bv r113) rfl rfl (fun _ => av rfl) (HPlan.done (nt (we (te (be (nt ?_))))))
      exact ⟨r113, (isp rfl), h⟩
     have h := hF hb92
     refine wp_ (nt (wr_ (hv (v := .pointer p0) rfl (mv rfl) ?_)))
     obtain ⟨a117, e118, h⟩ := h
     refine hv (v := pp a117) rfl (HVal.nilCheck (congrArg Value.pointer e118)) (hv (v := pp (Addr.add a117 5)) rfl (fa runUnderlying32 rfl rfl sizeOf27 rfl) ?_)
     obtain ⟨x120, c119, h⟩ := h
     refine hv (v := Sl.v x120) rfl (l1 isAgg27 rfl c119) (hv (v := iv y77) rfl (mv rfl) ?_)
     obtain ⟨a121, e122, b123, b124, h⟩ := h
     refine hv (v := pp (Addr.add a121 (y77.toNat * 1))) rfl (ia runUnderlying27 sizeOf49 (Sl.v_some rfl e122) rfl b123 b124) ?_
     obtain ⟨x126, c125, h⟩ := h
     refine hv (v := Sl.v x126) rfl (l1 isAgg49 rfl c125) (hv (v := iv ((x126).n : Int)) rfl (HVal.len runUnderlying49 rfl) ?_)
     refine hv (v := bv (decide (((x126).n : Int) = 1))) rfl (HVal.eqlI rfl rfl) (hv (v := bv (decide (((x126).n : Int) = 1))) rfl (mv rfl) ?_)
     obtain ⟨hT, hF⟩ := h
     rcases Bool.eq_false_or_eq_true (decide (((x126).n : Int) = 1)) with hb127 | hb128
     ·have h := hT hb127
      refine hg (v := .pointer p0) rfl rfl rfl rfl (cB hb127) (mv rfl) ?_
      obtain ⟨a129, e130, h⟩ := h
      refine hg (v := pp a129) rfl rfl rfl rfl (cB hb127) (HVal.nilCheck (congrArg Value.pointer e130)) (hg (v := pp (Addr.add a129 5)) rfl rfl rfl rfl (cB hb127) (fa runUnderlying32 rfl rfl sizeOf27 rfl) ?_)
      obtain ⟨x132, c131, h⟩ := h
      refine hg (v := Sl.v x132) rfl rfl rfl rfl (cB hb127) (l1 isAgg27 rfl c131) (hg (v := iv y77) rfl rfl rfl rfl (cB hb127) (mv rfl) ?_)
      obtain ⟨a133, e134, b135, b136, h⟩ := h
      refine hg (v := pp (Addr.add a133 (y77.toNat * 1))) rfl rfl rfl rfl (cB hb127) (ia runUnderlying27 sizeOf49 (Sl.v_some rfl e134) rfl b135 b136) ?_
      obtain ⟨x138, c137, h⟩ := h
      refine hg (v := Sl.v x138) rfl rfl rfl rfl (cB hb127) (l1 isAgg49 rfl c137) ?_
      obtain ⟨a139, e140, b141, b142, h⟩ := h
      refine hg (v := pp (Addr.add a139 ((0 : Int).toNat * 3))) rfl rfl rfl rfl (cB hb127) (ia runUnderlying49 sizeOf36 (Sl.v_some rfl e140) rfl b141 b142) ?_
      refine hg (v := pp (Addr.add a139 ((0 : Int).toNat * 3))) rfl rfl rfl rfl (cB hb127) (HVal.fieldAddr0 runUnderlying36 rfl rfl sizeOf9 rfl) ?_
      obtain ⟨x144, c143, h⟩ := h
      refine hg (v := sv x144) rfl rfl rfl rfl (cB hb127) (l1 isAgg9 rfl c143) (hg (v := bv (seq x144 S_mark)) rfl rfl rfl rfl (cB hb127) (HVal.eqlS rfl rfl) ?_)
      refine hv (v := bv (seq x144 S_mark)) rfl (pt_ rfl hb127 rfl) (hv (v := bv (seq x144 S_mark)) rfl (av rfl) (hn ?_))
      refine nb (nt ?_)
      exact ⟨(seq x144 S_mark), (isp rfl), h⟩
     have h := hF hb128
     refine hs_ rfl rfl rfl rfl (cB hb128) (hs_ rfl rfl rfl rfl (cB hb128) (hs_ rfl rfl rfl rfl (cB hb128) (hs_ rfl rfl rfl rfl (cB hb128) ?_)))
     refine hs_ rfl rfl rfl rfl (cB hb128) (hs_ rfl rfl rfl rfl (cB hb128) (hs_ rfl rfl rfl rfl (cB hb128) (hs_ rfl rfl rfl rfl (cB hb128) ?_)))
     refine hs_ rfl rfl rfl rfl (cB hb128) (hs_ rfl rfl rfl rfl (cB hb128) (hs_ rfl rfl rfl rfl (cB hb128) (hv (v := bv false) rfl (pf_ rfl hb128 rfl) ?_)))
     refine hv (v := bv false) rfl (av rfl) (hn (nb (nt ?_)))
     exact ⟨false, (isp rfl), h⟩
    rintro ρ H_8 ⟨y116, hI, h⟩
    obtain ⟨ρ0, rfl⟩ := hI.ex
    clear hI; unfold F35_8 at h
    refine wr_ (hv (v := iv y77) rfl (mv rfl) (hv (v := iv (IntKind.i64.wrap (y77 + 1))) rfl (HVal.add rfl rfl) (hv (v := iv (IntKind.i64.wrap (y77 + 1))) rfl (av rfl) ?_)))
    refine hn (nt ?_)
    exact (hX7 _ _ _).1 h _ (isp rfl)
   have h := hF hb86
   refine we (te (te (be (nt ?_))))
   exact ⟨y76, ⟨rfl, trivial⟩, h⟩
  have h := hF hb85
  refine hs_ rfl rfl rfl rfl (cB hb85) (hv (v := bv false) rfl (pf_ rfl hb85 rfl) (hn (nt (HW.condF false rfl rfl (we ?_)))))
  refine te (te (be (nt ?_)))
  exact ⟨y76, ⟨rfl, trivial⟩, h⟩
 rintro ρ H_6 ⟨y145, hI, h⟩
 obtain ⟨ρ0, rfl⟩ := hI.ex
 clear hI; unfold F35_6 at h
 refine ws (wr_ (hv (v := bv y145) rfl (mv rfl) (hv (v := bv y145) rfl (av rfl) (hn (nt (HW.ret ?_))))))
 exact ⟨_, resOf1 rfl Res1.t, ⟨y145, rfl, h⟩⟩

def F36_21 (Q : Hp → Prop) (y205 : (Option Addr)) (H_21 : Hp) : Prop :=
∃ a224, y205 = some a224 ∧ (
 (cell H_21 (Addr.add a224 7)).isSome = true ∧ frz H_21 (Addr.add a224 7) = false ∧ ∀ H226, H226 = setc H_21 (Addr.add a224 7) (iv 0) → (
 ∃ a230, y205 = some a230 ∧ (
 (cell H226 (Addr.add a230 8)).isSome = true ∧ frz H226 (Addr.add a230 8) = false ∧ ∀ H232, H232 = setc H226 (Addr.add a230 8) (iv 0) → (
 ∃ a236, y205 = some a236 ∧ (
 (cell H232 (Addr.add a236 9)).isSome = true ∧ frz H232 (Addr.add a236 9) = false ∧ ∀ H238, H238 = setc H232 (Addr.add a236 9) (iv 0) → (
 ∃ a242, y205 = some a242 ∧ (
 (cell H238 (Addr.add a242 10)).isSome = true ∧ frz H238 (Addr.add a242 10) = false ∧ ∀ H244, H244 = setc H238 (Addr.add a242 10) (iv 0) → (
 Q H244))))))))
def F36_L22b (Q : Hp → Prop) (X22 : ZQI) (y207 : (Option Addr)) (y206 : Int) (H_22 : Hp) : Prop :=
∃ a208, y207 = some a208 ∧ (
 ∃ x211, cell H_22 (Addr.add a208 6) = some (Sl.v x211) ∧ (
 ((decide (y206 < ((x211).n : Int))) = true → (∃ a213, y207 = some a213 ∧ (
 ∃ x216, cell H_22 (Addr.add a213 6) = some (Sl.v x216) ∧ (
 ∃ a217, (x216).b = some a217 ∧ (0 : Int) ≤ y206 ∧ y206 < ((x216).n : Int) ∧ (
 mayw H_22 (Addr.add a217 (y206.toNat * 2)) 2 0 ∧ ∀ H221, H221 = sets H_22 (Addr.add a217 (y206.toNat * 2)) [(sv S_kept), sN] 0 → (
 X22 (IntKind.i64.wrap (y206 + 1)) H221)))))) ∧
 ((decide (y206 < ((x211).n : Int))) = false → (F36_21 Q y207 H_22))))
def F36_L22 (Q : Hp → Prop) (y207 : (Option Addr)) (y206 : Int) (H_22 : Hp) : Prop :=
 ∀ X22 : ZQI, (∀ (y206 : Int) (H_22 : Hp), F36_L22b Q X22 y207 y206 H_22 → X22 y206 H_22) → X22 y206 H_22
def F36_19 (Q : Hp → Prop) (y185 : (Option Addr)) (H_19 : Hp) : Prop :=
F36_L22 Q y185 0 H_19
def F36_L20b (Q : Hp → Prop) (X20 : ZQI) (y187 : (Option Addr)) (y186 : Int) (H_20 : Hp) : Prop :=
∃ a188, y187 = some a188 ∧ (
 ∃ x191, cell H_20 (Addr.add a188 5) = some (Sl.v x191) ∧ (
 ((decide (y186 < ((x191).n : Int))) = true → (∃ a193, y187 = some a193 ∧ (
 ∃ x196, cell H_20 (Addr.add a193 5) = some (Sl.v x196) ∧ (
 ∃ a197, (x196).b = some a197 ∧ (0 : Int) ≤ y186 ∧ y186 < ((x196).n : Int) ∧ (
 (cell H_20 (Addr.add a197 (y186.toNat * 1))).isSome = true ∧ frz H_20 (Addr.add a197 (y186.toNat * 1)) = false ∧ ∀ H201, H201 = setc H_20 (Addr.add a197 (y186.toNat * 1)) sN → (
 X20 (IntKind.i64.wrap (y186 + 1)) H201)))))) ∧
 ((decide (y186 < ((x191).n : Int))) = false → (F36_19 Q y187 H_20))))
def F36_L20 (Q : Hp → Prop) (y187 : (Option Addr)) (y186 : Int) (H_20 : Hp) : Prop :=
 ∀ X20 : ZQI, (∀ (y186 : Int) (H_20 : Hp), F36_L20b Q X20 y187 y186 H_20 → X20 y186 H_20) → X20 y186 H_20
def F36_17 (Q : Hp → Prop) (y165 : (Option Addr)) (H_17 : Hp) : Prop :=
F36_L20 Q y165 0 H_17
def F36_L18b (Q : Hp → Prop) (X18 : ZQI) (y167 : (Option Addr)) (y166 : Int) (H_18 : Hp) : Prop :=
∃ a168, y167 = some a168 ∧ (
 ∃ x171, cell H_18 (Addr.add a168 4) = some (Sl.v x171) ∧ (
 ((decide (y166 < ((x171).n : Int))) = true → (∃ a173, y167 = some a173 ∧ (
 ∃ x176, cell H_18 (Addr.add a173 4) = some (Sl.v x176) ∧ (
 ∃ a177, (x176).b = some a177 ∧ (0 : Int) ≤ y166 ∧ y166 < ((x176).n : Int) ∧ (
 (cell H_18 (Addr.add a177 (y166.toNat * 1))).isSome = true ∧ frz H_18 (Addr.add a177 (y166.toNat * 1)) = false ∧ ∀ H181, H181 = setc H_18 (Addr.add a177 (y166.toNat * 1)) (sv S_kept) → (
 X18 (IntKind.i64.wrap (y166 + 1)) H181)))))) ∧
 ((decide (y166 < ((x171).n : Int))) = false → (F36_17 Q y167 H_18))))
def F36_L18 (Q : Hp → Prop) (y167 : (Option Addr)) (y166 : Int) (H_18 : Hp) : Prop :=
 ∀ X18 : ZQI, (∀ (y166 : Int) (H_18 : Hp), F36_L18b Q X18 y167 y166 H_18 → X18 y166 H_18) → X18 y166 H_18
def F36_13 (Q : Hp → Prop) (y124 : (Option Addr)) (H_13 : Hp) : Prop :=
F36_L18 Q y124 0 H_13
def F36_15 (Q : Hp → Prop) (X14 : ZQI) (y132 : (Option Addr)) (y133 : Int) (H_15 : Hp) : Prop :=
X14 (IntKind.i64.wrap (y133 + 1)) H_15
def F36_L16b (Q : Hp → Prop) (X14 X16 : ZQI) (y135 : (Option Addr)) (y136 y134 : Int) (H_16 : Hp) : Prop :=
∃ a137, y135 = some a137 ∧ (
 ∃ x140, cell H_16 (Addr.add a137 3) = some (Sl.v x140) ∧ (
 ∃ a141, (x140).b = some a141 ∧ (0 : Int) ≤ y136 ∧ y136 < ((x140).n : Int) ∧ (
 ∃ x146, cell H_16 (Addr.add a141 (y136.toNat * 1)) = some (Sl.v x146) ∧ (
 ((decide (y134 < ((x146).n : Int))) = true → (∃ a148, y135 = some a148 ∧ (
 ∃ x151, cell H_16 (Addr.add a148 3) = some (Sl.v x151) ∧ (
 ∃ a152, (x151).b = some a152 ∧ (0 : Int) ≤ y136 ∧ y136 < ((x151).n : Int) ∧ (
 ∃ x157, cell H_16 (Addr.add a152 (y136.toNat * 1)) = some (Sl.v x157) ∧ (
 ∃ a158, (x157).b = some a158 ∧ (0 : Int) ≤ y134 ∧ y134 < ((x157).n : Int) ∧ (
 mayw H_16 (Addr.add a158 (y134.toNat * 2)) 2 0 ∧ ∀ H162, H162 = sets H_16 (Addr.add a158 (y134.toNat * 2)) [(sv S_kept), (iv 2)] 0 → (
 X16 (IntKind.i64.wrap (y134 + 1)) H162)))))))) ∧
 ((decide (y134 < ((x146).n : Int))) = false → (F36_15 Q X14 y135 y136 H_16))))))
def F36_L16 (Q : Hp → Prop) (X14 : ZQI) (y135 : (Option Addr)) (y136 y134 : Int) (H_16 : Hp) : Prop :=
 ∀ X16 : ZQI, (∀ (y134 : Int) (H_16 : Hp), F36_L16b Q X14 X16 y135 y136 y134 H_16 → X16 y134 H_16) → X16 y134 H_16
def F36_L14b (Q : Hp → Prop) (X14 : ZQI) (y126 : (Option Addr)) (y125 : Int) (H_14 : Hp) : Prop :=
∃ a127, y126 = some a127 ∧ (
 ∃ x130, cell H_14 (Addr.add a127 10) = some (iv x130) ∧ (
 (decide (y125 < x130) = true → (F36_L16 Q X14 y126 y125 0 H_14)) ∧
 (decide (y125 < x130) = false → (F36_13 Q y126 H_14))))
def F36_L14 (Q : Hp → Prop) (y126 : (Option Addr)) (y125 : Int) (H_14 : Hp) : Prop :=
 ∀ X14 : ZQI, (∀ (y125 : Int) (H_14 : Hp), F36_L14b Q X14 y126 y125 H_14 → X14 y125 H_14) → X14 y125 H_14
def F36_9 (Q : Hp → Prop) (y83 : (Option Addr)) (H_9 : Hp) : Prop :=
F36_L14 Q y83 0 H_9
def F36_11 (Q : Hp → Prop) (X10 : ZQI) (y91 : (Option Addr)) (y92 : Int) (H_11 : Hp) : Prop :=
X10 (IntKind.i64.wrap (y92 + 1)) H_11
def F36_L12b (Q : Hp → Prop) (X10 X12 : ZQI) (y94 : (Option Addr)) (y95 y93 : Int) (H_12 : Hp) : Prop :=
∃ a96, y94 = some a96 ∧ (
 ∃ x99, cell H_12 (Addr.add a96 2) = some (Sl.v x99) ∧ (
 ∃ a100, (x99).b = some a100 ∧ (0 : Int) ≤ y95 ∧ y95 < ((x99).n : Int) ∧ (
 ∃ x105, cell H_12 (Addr.add a100 (y95.toNat * 1)) = some (Sl.v x105) ∧ (
 ((decide (y93 < ((x105).n : Int))) = true → (∃ a107, y94 = some a107 ∧ (
 ∃ x110, cell H_12 (Addr.add a107 2) = some (Sl.v x110) ∧ (
 ∃ a111, (x110).b = some a111 ∧ (0 : Int) ≤ y95 ∧ y95 < ((x110).n : Int) ∧ (
 ∃ x116, cell H_12 (Addr.add a111 (y95.toNat * 1)) = some (Sl.v x116) ∧ (
 ∃ a117, (x116).b = some a117 ∧ (0 : Int) ≤ y93 ∧ y93 < ((x116).n : Int) ∧ (
 mayw H_12 (Addr.add a117 (y93.toNat * 3)) 3 0 ∧ ∀ H121, H121 = sets H_12 (Addr.add a117 (y93.toNat * 3)) (tR S_kept 0 Sl.nil) 0 → (
 X12 (IntKind.i64.wrap (y93 + 1)) H121)))))))) ∧
 ((decide (y93 < ((x105).n : Int))) = false → (F36_11 Q X10 y94 y95 H_12))))))
def F36_L12 (Q : Hp → Prop) (X10 : ZQI) (y94 : (Option Addr)) (y95 y93 : Int) (H_12 : Hp) : Prop :=
 ∀ X12 : ZQI, (∀ (y93 : Int) (H_12 : Hp), F36_L12b Q X10 X12 y94 y95 y93 H_12 → X12 y93 H_12) → X12 y93 H_12
def F36_L10b (Q : Hp → Prop) (X10 : ZQI) (y85 : (Option Addr)) (y84 : Int) (H_10 : Hp) : Prop :=
∃ a86, y85 = some a86 ∧ (
 ∃ x89, cell H_10 (Addr.add a86 9) = some (iv x89) ∧ (
 (decide (y84 < x89) = true → (F36_L12 Q X10 y85 y84 0 H_10)) ∧
 (decide (y84 < x89) = false → (F36_9 Q y85 H_10))))
def F36_L10 (Q : Hp → Prop) (y85 : (Option Addr)) (y84 : Int) (H_10 : Hp) : Prop :=
 ∀ X10 : ZQI, (∀ (y84 : Int) (H_10 : Hp), F36_L10b Q X10 y85 y84 H_10 → X10 y84 H_10) → X10 y84 H_10
def F36_5 (Q : Hp → Prop) (y42 : (Option Addr)) (H_5 : Hp) : Prop :=
F36_L10 Q y42 0 H_5
def F36_7 (Q : Hp → Prop) (X6 : ZQI) (y50 : (Option Addr)) (y51 : Int) (H_7 : Hp) : Prop :=
X6 (IntKind.i64.wrap (y51 + 1)) H_7
def F36_L8b (Q : Hp → Prop) (X6 X8 : ZQI) (y53 : (Option Addr)) (y54 y52 : Int) (H_8 : Hp) : Prop :=
∃ a55, y53 = some a55 ∧ (
 ∃ x58, cell H_8 (Addr.add a55 1) = some (Sl.v x58) ∧ (
 ∃ a59, (x58).b = some a59 ∧ (0 : Int) ≤ y54 ∧ y54 < ((x58).n : Int) ∧ (
 ∃ x64, cell H_8 (Addr.add a59 (y54.toNat * 1)) = some (Sl.v x64) ∧ (
 ((decide (y52 < ((x64).n : Int))) = true → (∃ a66, y53 = some a66 ∧ (
 ∃ x69, cell H_8 (Addr.add a66 1) = some (Sl.v x69) ∧ (
 ∃ a70, (x69).b = some a70 ∧ (0 : Int) ≤ y54 ∧ y54 < ((x69).n : Int) ∧ (
 ∃ x75, cell H_8 (Addr.add a70 (y54.toNat * 1)) = some (Sl.v x75) ∧ (
 ∃ a76, (x75).b = some a76 ∧ (0 : Int) ≤ y52 ∧ y52 < ((x75).n : Int) ∧ (
 mayw H_8 (Addr.add a76 (y52.toNat * 4)) 4 0 ∧ ∀ H80, H80 = sets H_8 (Addr.add a76 (y52.toNat * 4)) (vR 99 0 bE false) 0 → (
 X8 (IntKind.i64.wrap (y52 + 1)) H80)))))))) ∧
 ((decide (y52 < ((x64).n : Int))) = false → (F36_7 Q X6 y53 y54 H_8))))))
def F36_L8 (Q : Hp → Prop) (X6 : ZQI) (y53 : (Option Addr)) (y54 y52 : Int) (H_8 : Hp) : Prop :=
 ∀ X8 : ZQI, (∀ (y52 : Int) (H_8 : Hp), F36_L8b Q X6 X8 y53 y54 y52 H_8 → X8 y52 H_8) → X8 y52 H_8
def F36_L6b (Q : Hp → Prop) (X6 : ZQI) (y44 : (Option Addr)) (y43 : Int) (H_6 : Hp) : Prop :=
∃ a45, y44 = some a45 ∧ (
 ∃ x48, cell H_6 (Addr.add a45 8) = some (iv x48) ∧ (
 (decide (y43 < x48) = true → (F36_L8 Q X6 y44 y43 0 H_6)) ∧
 (decide (y43 < x48) = false → (F36_5 Q y44 H_6))))
def F36_L6 (Q : Hp → Prop) (y44 : (Option Addr)) (y43 : Int) (H_6 : Hp) : Prop :=
 ∀ X6 : ZQI, (∀ (y43 : Int) (H_6 : Hp), F36_L6b Q X6 y44 y43 H_6 → X6 y43 H_6) → X6 y43 H_6
def F36_1 (Q : Hp → Prop) (y1 : (Option Addr)) (H_1 : Hp) : Prop :=
F36_L6 Q y1 0 H_1
def F36_3 (Q : Hp → Prop) (X2 : ZQI) (y9 : (Option Addr)) (y10 : Int) (H_3 : Hp) : Prop :=
X2 (IntKind.i64.wrap (y10 + 1)) H_3
def F36_L4b (Q : Hp → Prop) (X2 X4 : ZQI) (y12 : (Option Addr)) (y13 y11 : Int) (H_4 : Hp) : Prop :=
∃ a14, y12 = some a14 ∧ (
 ∃ x17, cell H_4 a14 = some (Sl.v x17) ∧ (
 ∃ a18, (x17).b = some a18 ∧ (0 : Int) ≤ y13 ∧ y13 < ((x17).n : Int) ∧ (
 ∃ x23, cell H_4 (Addr.add a18 (y13.toNat * 1)) = some (Sl.v x23) ∧ (
 ((decide (y11 < ((x23).n : Int))) = true → (∃ a25, y12 = some a25 ∧ (
 ∃ x28, cell H_4 a25 = some (Sl.v x28) ∧ (
 ∃ a29, (x28).b = some a29 ∧ (0 : Int) ≤ y13 ∧ y13 < ((x28).n : Int) ∧ (
 ∃ x34, cell H_4 (Addr.add a29 (y13.toNat * 1)) = some (Sl.v x34) ∧ (
 ∃ a35, (x34).b = some a35 ∧ (0 : Int) ≤ y11 ∧ y11 < ((x34).n : Int) ∧ (
 mayw H_4 (Addr.add a35 (y11.toNat * 10)) 10 0 ∧ ∀ H39, H39 = sets H_4 (Addr.add a35 (y11.toNat * 10)) (eR 99 0 0 0 bE false bE 0 bE Sl.nil) 0 → (
 X4 (IntKind.i64.wrap (y11 + 1)) H39)))))))) ∧
 ((decide (y11 < ((x23).n : Int))) = false → (F36_3 Q X2 y12 y13 H_4))))))
def F36_L4 (Q : Hp → Prop) (X2 : ZQI) (y12 : (Option Addr)) (y13 y11 : Int) (H_4 : Hp) : Prop :=
 ∀ X4 : ZQI, (∀ (y11 : Int) (H_4 : Hp), F36_L4b Q X2 X4 y12 y13 y11 H_4 → X4 y11 H_4) → X4 y11 H_4
def F36_L2b (Q : Hp → Prop) (X2 : ZQI) (y3 : (Option Addr)) (y2 : Int) (H_2 : Hp) : Prop :=
∃ a4, y3 = some a4 ∧ (
 ∃ x7, cell H_2 (Addr.add a4 7) = some (iv x7) ∧ (
 (decide (y2 < x7) = true → (F36_L4 Q X2 y3 y2 0 H_2)) ∧
 (decide (y2 < x7) = false → (F36_1 Q y3 H_2))))
def F36_L2 (Q : Hp → Prop) (y3 : (Option Addr)) (y2 : Int) (H_2 : Hp) : Prop :=
 ∀ X2 : ZQI, (∀ (y2 : Int) (H_2 : Hp), F36_L2b Q X2 y3 y2 H_2 → X2 y2 H_2) → X2 y2 H_2
def F36 (p0 : (Option Addr)) (H : Hp) (Q : Hp → Prop) : Prop :=
F36_L2 Q p0 0 H
theorem walk36 {w0 : World} {p0 : (Option Addr)} {H : Hp} {Q : Hp → Prop} (h : F36 p0 H Q) :
  Good prog w0 36 #[(.pointer p0)] H (fun v H => v = (.tuple #[]) ∧ Q H) := by
 unfold F36 at h
 refine Good.enter' (fn := f36) func36 rfl rfl rfl (wc (fun ρ H_1 => Env.Is ρ [(0, (.pointer p0))] ∧ F36_1 Q p0 H_1) ?_ ?_)
 ·refine ws (wr_ (hv (v := iv 0) rfl (av rfl) (hn (nt (wb (HW.loop' (fun L2 hL2 => ?_)))))))
  obtain ⟨X2, hX2⟩ : ∃ X2 : ZQI, ∀ (y2 : Int) (H_2 : Hp), X2 y2 H_2 ↔ ∀ ρ, Env.Is ρ [(0, (.pointer p0)), (2, (iv y2))] → L2 ρ H_2 := ⟨_, fun _ _ => Iff.rfl⟩
  refine (hX2 _ _).1 (h X2 ?_) _ ?_
  rotate_left
  ·exact (isp rfl)
  clear h
  intro y2 H_2 h
  refine (hX2 _ _).2 fun ρ hI => ?_
  obtain ⟨ρ0, rfl⟩ := hI.ex
  clear hI; unfold F36_L2b at h; refine hL2 _ _ ?_
  refine ws (ws (wr_ (hv (v := iv y2) rfl (mv rfl) (hv (v := .pointer p0) rfl (mv rfl) ?_))))
  obtain ⟨a4, e5, h⟩ := h
  refine hv (v := pp a4) rfl (HVal.nilCheck (congrArg Value.pointer e5)) (hv (v := pp (Addr.add a4 7)) rfl (fa runUnderlying32 rfl rfl sizeOf3 rfl) ?_)
  obtain ⟨x7, c6, h⟩ := h
  refine hv (v := iv x7) rfl (l1 isAgg3 rfl c6) (hv (v := bv (decide (y2 < x7))) rfl (HVal.lss rfl rfl) (hn (nt ?_)))
  obtain ⟨hT, hF⟩ := h
  refine wk (decide (y2 < x7)) rfl (fun hb8 => ?_) (fun hb8 => ?_)
  ·have h := hT hb8
   refine wp_ (nt (wc (fun ρ H_3 => Env.Is ρ [(0, (.pointer p0)), (2, (iv y2))] ∧ F36_3 Q X2 p0 y2 H_3) ?_ ?_))
   ·refine wb (ws (wr_ (hv (v := iv 0) rfl (av rfl) (hn (nt (wb (HW.loop' (fun L4 hL4 => ?_))))))))
    obtain ⟨X4, hX4⟩ : ∃ X4 : ZQI, ∀ (y11 : Int) (H_4 : Hp), X4 y11 H_4 ↔ ∀ ρ, Env.Is ρ [(0, (.pointer p0)), (2, (iv y2)), (3, (iv y11))] → L4 ρ H_4 := ⟨_, fun _ _ => Iff.rfl⟩
    refine (hX4 _ _).1 (h X4 ?_) _ ?_
    rotate_left
    ·exact (isp rfl)
    clear h
    intro y11 H_4 h
    refine (hX4 _ _).2 fun ρ hI => ?_
    obtain ⟨ρ0, rfl⟩ := hI.ex
    clear hI; unfold F36_L4b at h; refine hL4 _ _ ?_
    refine ws (ws (wr_ (hv (v := iv y11) rfl (mv rfl) (hv (v := .pointer p0) rfl (mv rfl) ?_))))
    obtain ⟨a14, e15, h⟩ := h
    refine hv (v := pp a14) rfl (HVal.nilCheck (congrArg Value.pointer e15)) (hv (v := pp a14) rfl (HVal.fieldAddr0 runUnderlying32 rfl rfl sizeOf25 rfl) ?_)
    obtain ⟨x17, c16, h⟩ := h
    refine hv (v := Sl.v x17) rfl (l1 isAgg25 rfl c16) (hv (v := iv y2) rfl (mv rfl) ?_)
    obtain ⟨a18, e19, b20, b21, h⟩ := h
    refine hv (v := pp (Addr.add a18 (y2.toNat * 1))) rfl (ia runUnderlying25 sizeOf39 (Sl.v_some rfl e19) rfl b20 b21) ?_
    obtain ⟨x23, c22, h⟩ := h
    refine hv (v := Sl.v x23) rfl (l1 isAgg39 rfl c22) (hv (v := iv ((x23).n : Int)) rfl (HVal.len runUnderlying39 rfl) ?_)
    refine hv (v := bv (decide (y11 < ((x23).n : Int)))) rfl (HVal.lss rfl rfl) (hn (nt ?_))
    obtain ⟨hT, hF⟩ := h
    refine wk (decide (y11 < ((x23).n : Int))) rfl (fun hb24 => ?_) (fun hb24 => ?_)
    ·have h := hT hb24
     refine wp_ (nt (ws (wb (wr_ (hv (v := .pointer p0) rfl (mv rfl) ?_)))))
     obtain ⟨a25, e26, h⟩ := h
     refine hv (v := pp a25) rfl (HVal.nilCheck (congrArg Value.pointer e26)) (hv (v := pp a25) rfl (HVal.fieldAddr0 runUnderlying32 rfl rfl sizeOf25 rfl) ?_)
     obtain ⟨x28, c27, h⟩ := h
     refine hv (v := Sl.v x28) rfl (l1 isAgg25 rfl c27) (hv (v := iv y2) rfl (mv rfl) ?_)
     obtain ⟨a29, e30, b31, b32, h⟩ := h
     refine hv (v := pp (Addr.add a29 (y2.toNat * 1))) rfl (ia runUnderlying25 sizeOf39 (Sl.v_some rfl e30) rfl b31 b32) ?_
     obtain ⟨x34, c33, h⟩ := h
     refine hv (v := Sl.v x34) rfl (l1 isAgg39 rfl c33) (hv (v := iv y11) rfl (mv rfl) (hv (v := .agg (eR 99 0 0 0 bE false bE 0 bE Sl.nil).toArray) rfl (HVal.build' (cs := (eR 99 0 0 0 bE false bE 0 bE Sl.nil)) runUnderlying41 zeroValue41 places41 (by kernel_rfl)) ?_))
     obtain ⟨a35, e36, b37, b38, h⟩ := h
     refine hv (v := pp (Addr.add a35 (y11.toNat * 10))) rfl (ia runUnderlying39 sizeOf41 (Sl.v_some rfl e36) rfl b37 b38) ?_
     obtain ⟨z41, h⟩ := h
     refine hq (HOp.storeN' (l := (eR 99 0 0 0 bE false bE 0 bE Sl.nil)) sizeOf41 rfl rfl rfl z41) ?_
     rintro _ H39 e40
     replace h := h H39 e40
     refine hn (nb (nt (wr_ (hv (v := iv y11) rfl (mv rfl) (hv (v := iv (IntKind.i64.wrap (y11 + 1))) rfl (HVal.add rfl rfl) ?_)))))
     refine hv (v := iv (IntKind.i64.wrap (y11 + 1))) rfl (av rfl) (hn (nt ?_))
     exact (hX4 _ _).1 h _ (isp rfl)
    have h := hF hb24
    refine we (te (te (be (nb (nt ?_)))))
    exact ⟨(isp rfl), h⟩
   rintro ρ H_3 ⟨hI, h⟩
   obtain ⟨ρ0, rfl⟩ := hI.ex
   clear hI; unfold F36_3 at h
   refine wr_ (hv (v := iv y2) rfl (mv rfl) (hv (v := iv (IntKind.i64.wrap (y2 + 1))) rfl (HVal.add rfl rfl) (hv (v := iv (IntKind.i64.wrap (y2 + 1))) rfl (av rfl) ?_)))
   refine hn (nt ?_)
   exact (hX2 _ _).1 h _ (isp rfl)
  have h := hF hb8
  refine we (te (te (be (nt ?_))))
  exact ⟨⟨rfl, trivial⟩, h⟩
 rintro ρ H_1 ⟨hI, h⟩
 obtain ⟨ρ0, rfl⟩ := hI.ex
 clear hI; unfold F36_1 at h
 refine wc (fun ρ H_5 => Env.Is ρ [(0, (.pointer p0))] ∧ F36_5 Q p0 H_5) ?_ ?_
 ·refine ws (wr_ (hv (v := iv 0) rfl (av rfl) (hn (nt (wb (HW.loop' (fun L6 hL6 => ?_)))))))
  obtain ⟨X6, hX6⟩ : ∃ X6 : ZQI, ∀ (y43 : Int) (H_6 : Hp), X6 y43 H_6 ↔ ∀ ρ, Env.Is ρ [(0, (.pointer p0)), (4, (iv y43))] → L6 ρ H_6 := ⟨_, fun _ _ => Iff.rfl⟩
  refine (hX6 _ _).1 (h X6 ?_) _ ?_
  rotate_left
  ·exact (isp rfl)
  clear h
  intro y43 H_6 h
  refine (hX6 _ _).2 fun ρ hI => ?_
  obtain ⟨ρ0, rfl⟩ := hI.ex
  clear hI; unfold F36_L6b at h; refine hL6 _ _ ?_
  refine ws (ws (wr_ (hv (v := iv y43) rfl (mv rfl) (hv (v := .pointer p0) rfl (mv rfl) ?_))))
  obtain ⟨a45, e46, h⟩ := h
  refine hv (v := pp a45) rfl (HVal.nilCheck (congrArg Value.pointer e46)) (hv (v := pp (Addr.add a45 8)) rfl (fa runUnderlying32 rfl rfl sizeOf3 rfl) ?_)
  obtain ⟨x48, c47, h⟩ := h
  refine hv (v := iv x48) rfl (l1 isAgg3 rfl c47) (hv (v := bv (decide (y43 < x48))) rfl (HVal.lss rfl rfl) (hn (nt ?_)))
  obtain ⟨hT, hF⟩ := h
  refine wk (decide (y43 < x48)) rfl (fun hb49 => ?_) (fun hb49 => ?_)
  ·have h := hT hb49
   refine wp_ (nt (wc (fun ρ H_7 => Env.Is ρ [(0, (.pointer p0)), (4, (iv y43))] ∧ F36_7 Q X6 p0 y43 H_7) ?_ ?_))
   ·refine wb (ws (wr_ (hv (v := iv 0) rfl (av rfl) (hn (nt (wb (HW.loop' (fun L8 hL8 => ?_))))))))
    obtain ⟨X8, hX8⟩ : ∃ X8 : ZQI, ∀ (y52 : Int) (H_8 : Hp), X8 y52 H_8 ↔ ∀ ρ, Env.Is ρ [(0, (.pointer p0)), (4, (iv y43)), (5, (iv y52))] → L8 ρ H_8 := ⟨_, fun _ _ => Iff.rfl⟩
    refine (hX8 _ _).1 (h X8 ?_) _ ?_
    rotate_left
    ·exact (isp rfl)
    clear h
    intro y52 H_8 h
    refine (hX8 _ _).2 fun ρ hI => ?_
    obtain ⟨ρ0, rfl⟩ := hI.ex
    clear hI; unfold F36_L8b at h; refine hL8 _ _ ?_
    refine ws (ws (wr_ (hv (v := iv y52) rfl (mv rfl) (hv (v := .pointer p0) rfl (mv rfl) ?_))))
    obtain ⟨a55, e56, h⟩ := h
    refine hv (v := pp a55) rfl (HVal.nilCheck (congrArg Value.pointer e56)) (hv (v := pp (Addr.add a55 1)) rfl (fa runUnderlying32 rfl rfl sizeOf26 rfl) ?_)
    obtain ⟨x58, c57, h⟩ := h
    refine hv (v := Sl.v x58) rfl (l1 isAgg26 rfl c57) (hv (v := iv y43) rfl (mv rfl) ?_)
    obtain ⟨a59, e60, b61, b62, h⟩ := h
    refine hv (v := pp (Addr.add a59 (y43.toNat * 1))) rfl (ia runUnderlying26 sizeOf34 (Sl.v_some rfl e60) rfl b61 b62) ?_
    obtain ⟨x64, c63, h⟩ := h
    refine hv (v := Sl.v x64) rfl (l1 isAgg34 rfl c63) (hv (v := iv ((x64).n : Int)) rfl (HVal.len runUnderlying34 rfl) ?_)
    refine hv (v := bv (decide (y52 < ((x64).n : Int)))) rfl (HVal.lss rfl rfl) (hn (nt ?_))
    obtain ⟨hT, hF⟩ := h
    refine wk (decide (y52 < ((x64).n : Int))) rfl (fun hb65 => ?_) (fun hb65 => ?_)
    ·have h := hT hb65
     refine wp_ (nt (ws (wb (wr_ (hv (v := .pointer p0) rfl (mv rfl) ?_)))))
     obtain ⟨a66, e67, h⟩ := h
     refine hv (v := pp a66) rfl (HVal.nilCheck (congrArg Value.pointer e67)) (hv (v := pp (Addr.add a66 1)) rfl (fa runUnderlying32 rfl rfl sizeOf26 rfl) ?_)
     obtain ⟨x69, c68, h⟩ := h
     refine hv (v := Sl.v x69) rfl (l1 isAgg26 rfl c68) (hv (v := iv y43) rfl (mv rfl) ?_)
     obtain ⟨a70, e71, b72, b73, h⟩ := h
     refine hv (v := pp (Addr.add a70 (y43.toNat * 1))) rfl (ia runUnderlying26 sizeOf34 (Sl.v_some rfl e71) rfl b72 b73) ?_
     obtain ⟨x75, c74, h⟩ := h
     refine hv (v := Sl.v x75) rfl (l1 isAgg34 rfl c74) (hv (v := iv y52) rfl (mv rfl) (hv (v := .agg (vR 99 0 bE false).toArray) rfl (HVal.build' (cs := (vR 99 0 bE false)) runUnderlying38 zeroValue38 places38 rfl) ?_))
     obtain ⟨a76, e77, b78, b79, h⟩ := h
     refine hv (v := pp (Addr.add a76 (y52.toNat * 4))) rfl (ia runUnderlying34 sizeOf38 (Sl.v_some rfl e77) rfl b78 b79) ?_
     obtain ⟨z82, h⟩ := h
     refine hq (HOp.storeN' (l := (vR 99 0 bE false)) sizeOf38 rfl rfl rfl z82) ?_
     rintro _ H80 e81
     replace h := h H80 e81
     refine hn (nb (nt (wr_ (hv (v := iv y52) rfl (mv rfl) (hv (v := iv (IntKind.i64.wrap (y52 + 1))) rfl (HVal.add rfl rfl) ?_)))))
     refine hv (v := iv (IntKind.i64.wrap (y52 + 1))) rfl (av rfl) (hn (nt ?_))
     exact (hX8 _ _).1 h _ (isp rfl)
    have h := hF hb65
    refine we (te (te (be (nb (nt ?_)))))
    exact ⟨(isp rfl), h⟩
   rintro ρ H_7 ⟨hI, h⟩
   obtain ⟨ρ0, rfl⟩ := hI.ex
   clear hI; unfold F36_7 at h
   refine wr_ (hv (v := iv y43) rfl (mv rfl) (hv (v := iv (IntKind.i64.wrap (y43 + 1))) rfl (HVal.add rfl rfl) (hv (v := iv (IntKind.i64.wrap (y43 + 1))) rfl (av rfl) ?_)))
   refine hn (nt ?_)
   exact (hX6 _ _).1 h _ (isp rfl)
  have h := hF hb49
  refine we (te (te (be (nt ?_))))
  exact ⟨⟨rfl, trivial⟩, h⟩
 rintro ρ H_5 ⟨hI, h⟩
 obtain ⟨ρ0, rfl⟩ := hI.ex
 clear hI; unfold F36_5 at h
 refine wc (fun ρ H_9 => Env.Is ρ [(0, (.pointer p0))] ∧ F36_9 Q p0 H_9) ?_ ?_
 ·refine ws (wr_ (hv (v := iv 0) rfl (av rfl) (hn (nt (wb (HW.loop' (fun L10 hL10 => ?_)))))))
  obtain ⟨X10, hX10⟩ : ∃ X10 : ZQI, ∀ (y84 : Int) (H_10 : Hp), X10 y84 H_10 ↔ ∀ ρ, Env.Is ρ [(0, (.pointer p0)), (6, (iv y84))] → L10 ρ H_10 := ⟨_, fun _ _ => Iff.rfl⟩
  refine (hX10 _ _).1 (h X10 ?_) _ ?_
  rotate_left
  ·exact (isp rfl)
  clear h
  intro y84 H_10 h
  refine (hX10 _ _).2 fun ρ hI => ?_
  obtain ⟨ρ0, rfl⟩ := hI.ex
  clear hI; unfold F36_L10b at h; refine hL10 _ _ ?_
  refine ws (ws (wr_ (hv (v := iv y84) rfl (mv rfl) (hv (v := .pointer p0) rfl (mv rfl) ?_))))
  obtain ⟨a86, e87, h⟩ := h
  refine hv (v := pp a86) rfl (HVal.nilCheck (congrArg Value.pointer e87)) (hv (v := pp (Addr.add a86 9)) rfl (fa runUnderlying32 rfl rfl sizeOf3 rfl) ?_)
  obtain ⟨x89, c88, h⟩ := h
  refine hv (v := iv x89) rfl (l1 isAgg3 rfl c88) (hv (v := bv (decide (y84 < x89))) rfl (HVal.lss rfl rfl) (hn (nt ?_)))
  obtain ⟨hT, hF⟩ := h
  refine wk (decide (y84 < x89)) rfl (fun hb90 => ?_) (fun hb90 => ?_)
  ·have h := hT hb90
   refine wp_ (nt (wc (fun ρ H_11 => Env.Is ρ [(0, (.pointer p0)), (6, (iv y84))] ∧ F36_11 Q X10 p0 y84 H_11) ?_ ?_))
   ·refine wb (ws (wr_ (hv (v := iv 0) rfl (av rfl) (hn (nt (wb (HW.loop' (fun L12 hL12 => ?_))))))))
    obtain ⟨X12, hX12⟩ : ∃ X12 : ZQI, ∀ (y93 : Int) (H_12 : Hp), X12 y93 H_12 ↔ ∀ ρ, Env.Is ρ [(0, (.pointer p0)), (6, (iv y84)), (7, (iv y93))] → L12 ρ H_12 := ⟨_, fun _ _ => Iff.rfl⟩
    refine (hX12 _ _).1 (h X12 ?_) _ ?_
    rotate_left
    ·exact (isp rfl)
    clear h
    intro y93 H_12 h
    refine (hX12 _ _).2 fun ρ hI => ?_
    obtain ⟨ρ0, rfl⟩ := hI.ex
    clear hI; unfold F36_L12b at h; refine hL12 _ _ ?_
    refine ws (ws (wr_ (hv (v := iv y93) rfl (mv rfl) (hv (v := .pointer p0) rfl (mv rfl) ?_))))
    obtain ⟨a96, e97, h⟩ := h
    refine hv (v := pp a96) rfl (HVal.nilCheck (congrArg Value.pointer e97)) (hv (v := pp (Addr.add a96 2)) rfl (fa runUnderlying32 rfl rfl sizeOf27 rfl) ?_)
    obtain ⟨x99, c98, h⟩ := h
    refine hv (v := Sl.v x99) rfl (l1 isAgg27 rfl c98) (hv (v := iv y84) rfl (mv rfl) ?_)
    obtain ⟨a100, e101, b102, b103, h⟩ := h
    refine hv (v := pp (Addr.add a100 (y84.toNat * 1))) rfl (ia runUnderlying27 sizeOf49 (Sl.v_some rfl e101) rfl b102 b103) ?_
    obtain ⟨x105, c104, h⟩ := h
    refine hv (v := Sl.v x105) rfl (l1 isAgg49 rfl c104) (hv (v := iv ((x105).n : Int)) rfl (HVal.len runUnderlying49 rfl) ?_)
    refine hv (v := bv (decide (y93 < ((x105).n : Int)))) rfl (HVal.lss rfl rfl) (hn (nt ?_))
    obtain ⟨hT, hF⟩ := h
    refine wk (decide (y93 < ((x105).n : Int))) rfl (fun hb106 => ?_) (fun hb106 => ?_)
    ·have h := hT hb106
     refine wp_ (nt (ws (wb (wr_ (hv (v := .pointer p0) rfl (mv rfl) ?_)))))
     obtain ⟨a107, e108, h⟩ := h
     refine hv (v := pp a107) rfl (HVal.nilCheck (congrArg Value.pointer e108)) (hv (v := pp (Addr.add a107 2)) rfl (fa runUnderlying32 rfl rfl sizeOf27 rfl) ?_)
     obtain ⟨x110, c109, h⟩ := h
     refine hv (v := Sl.v x110) rfl (l1 isAgg27 rfl c109) (hv (v := iv y84) rfl (mv rfl) ?_)
     obtain ⟨a111, e112, b113, b114, h⟩ := h
     refine hv (v := pp (Addr.add a111 (y84.toNat * 1))) rfl (ia runUnderlying27 sizeOf49 (Sl.v_some rfl e112) rfl b113 b114) ?_
     obtain ⟨x116, c115, h⟩ := h
     refine hv (v := Sl.v x116) rfl (l1 isAgg49 rfl c115) (hv (v := iv y93) rfl (mv rfl) (hv (v := .agg (tR S_kept 0 Sl.nil).toArray) rfl (HVal.build' (cs := (tR S_kept 0 Sl.nil)) runUnderlying36 zeroValue36 places36 rfl) ?_))
     obtain ⟨a117, e118, b119, b120, h⟩ := h
     refine hv (v := pp (Addr.add a117 (y93.toNat * 3))) rfl (ia runUnderlying49 sizeOf36 (Sl.v_some rfl e118) rfl b119 b120) ?_
     obtain ⟨z123, h⟩ := h
     refine hq (HOp.storeN' (l := (tR S_kept 0 Sl.nil)) sizeOf36 rfl rfl rfl z123) ?_
     rintro _ H121 e122
     replace h := h H121 e122
     refine hn (nb (nt (wr_ (hv (v := iv y93) rfl (mv rfl) (hv (v := iv (IntKind.i64.wrap (y93 + 1))) rfl (HVal.add rfl rfl) ?_)))))
     refine hv (v := iv (IntKind.i64.wrap (y93 + 1))) rfl (av rfl) (hn (nt ?_))
     exact (hX12 _ _).1 h _ (isp rfl)
    have h := hF hb106
    refine we (te (te (be (nb (nt ?_)))))
    exact ⟨(isp rfl), h⟩
   rintro ρ H_11 ⟨hI, h⟩
   obtain ⟨ρ0, rfl⟩ := hI.ex
   clear hI; unfold F36_11 at h
   refine wr_ (hv (v := iv y84) rfl (mv rfl) (hv (v := iv (IntKind.i64.wrap (y84 + 1))) rfl (HVal.add rfl rfl) (hv (v := iv (IntKind.i64.wrap (y84 + 1))) rfl (av rfl) ?_)))
   refine hn (nt ?_)
   exact (hX10 _ _).1 h _ (isp rfl)
  have h := hF hb90
  refine we (te (te (be (nt ?_))))
  exact ⟨⟨rfl, trivial⟩, h⟩
 rintro ρ H_9 ⟨hI, h⟩
 obtain ⟨ρ0, rfl⟩ := hI.ex
 clear hI; unfold F36_9 at h
 refine wc (fun ρ H_13 => Env.Is ρ [(0, (.pointer p0))] ∧ F36_13 Q p0 H_13) ?_ ?_
 ·refine ws (wr_ (hv (v := iv 0) rfl (av rfl) (hn (nt (wb (HW.loop' (fun L14 hL14 => ?_)))))))
  obtain ⟨X14, hX14⟩ : ∃ X14 : ZQI, ∀ (y125 : Int) (H_14 : Hp), X14 y125 H_14 ↔ ∀ ρ, Env.Is ρ [(0, (.pointer p0)), (8, (iv y125))] → L14 ρ H_14 := ⟨_, fun _ _ => Iff.rfl⟩
  refine (hX14 _ _).1 (h X14 ?_) _ ?_
  rotate_left
  ·exact (isp rfl)
  clear h
  intro y125 H_14 h
  refine (hX14 _ _).2 fun ρ hI => ?_
  obtain ⟨ρ0, rfl⟩ := hI.ex
  clear hI; unfold F36_L14b at h; refine hL14 _ _ ?_
  refine ws (ws (wr_ (hv (v := iv y125) rfl (mv rfl) (hv (v := .pointer p0) rfl (mv rfl) ?_))))
  obtain ⟨a127, e128, h⟩ := h
  refine hv (v := pp a127) rfl (HVal.nilCheck (congrArg Value.pointer e128)) (hv (v := pp (Addr.add a127 10)) rfl (fa runUnderlying32 rfl rfl sizeOf3 rfl) ?_)
  obtain ⟨x130, c129, h⟩ := h
  refine hv (v := iv x130) rfl (l1 isAgg3 rfl c129) (hv (v := bv (decide (y125 < x130))) rfl (HVal.lss rfl rfl) (hn (nt ?_)))
  obtain ⟨hT, hF⟩ := h
  refine wk (decide (y125 < x130)) rfl (fun hb131 => ?_) (fun hb131 => ?_)
  ·have h := hT hb131
   refine wp_ (nt (wc (fun ρ H_15 => Env.Is ρ [(0, (.pointer p0)), (8, (iv y125))] ∧ F36_15 Q X14 p0 y125 H_15) ?_ ?_))
   ·refine wb (ws (wr_ (hv (v := iv 0) rfl (av rfl) (hn (nt (wb (HW.loop' (fun L16 hL16 => ?_))))))))
    obtain ⟨X16, hX16⟩ : ∃ X16 : ZQI, ∀ (y134 : Int) (H_16 : Hp), X16 y134 H_16 ↔ ∀ ρ, Env.Is ρ [(0, (.pointer p0)), (8, (iv y125)), (9, (iv y134))] → L16 ρ H_16 := ⟨_, fun _ _ => Iff.rfl⟩
    refine (hX16 _ _).1 (h X16 ?_) _ ?_
    rotate_left
    ·exact (isp rfl)
    clear h
    intro y134 H_16 h
    refine (hX16 _ _).2 fun ρ hI => ?_
    obtain ⟨ρ0, rfl⟩ := hI.ex
    clear hI; unfold F36_L16b at h; refine hL16 _ _ ?_
    refine ws (ws (wr_ (hv (v := iv y134) rfl (mv rfl) (hv (v := .pointer p0) rfl (mv rfl) ?_))))
    obtain ⟨a137, e138, h⟩ := h
    refine hv (v := pp a137) rfl (HVal.nilCheck (congrArg Value.pointer e138)) (hv (v := pp (Addr.add a137 3)) rfl (fa runUnderlying32 rfl rfl sizeOf28 rfl) ?_)
    obtain ⟨x140, c139, h⟩ := h
    refine hv (v := Sl.v x140) rfl (l1 isAgg28 rfl c139) (hv (v := iv y125) rfl (mv rfl) ?_)
    obtain ⟨a141, e142, b143, b144, h⟩ := h
    refine hv (v := pp (Addr.add a141 (y125.toNat * 1))) rfl (ia runUnderlying28 sizeOf84 (Sl.v_some rfl e142) rfl b143 b144) ?_
    obtain ⟨x146, c145, h⟩ := h
    refine hv (v := Sl.v x146) rfl (l1 isAgg84 rfl c145) (hv (v := iv ((x146).n : Int)) rfl (HVal.len runUnderlying84 rfl) ?_)
    refine hv (v := bv (decide (y134 < ((x146).n : Int)))) rfl (HVal.lss rfl rfl) (hn (nt ?_))
    obtain ⟨hT, hF⟩ := h
    refine wk (decide (y134 < ((x146).n : Int))) rfl (fun hb147 => ?_) (fun hb147 => ?_)
    ·have h := hT hb147
     refine wp_ (nt (ws (wb (wr_ (hv (v := .pointer p0) rfl (mv rfl) ?_)))))
     obtain ⟨a148, e149, h⟩ := h
     refine hv (v := pp a148) rfl (HVal.nilCheck (congrArg Value.pointer e149)) (hv (v := pp (Addr.add a148 3)) rfl (fa runUnderlying32 rfl rfl sizeOf28 rfl) ?_)
     obtain ⟨x151, c150, h⟩ := h
     refine hv (v := Sl.v x151) rfl (l1 isAgg28 rfl c150) (hv (v := iv y125) rfl (mv rfl) ?_)
     obtain ⟨a152, e153, b154, b155, h⟩ := h
     refine hv (v := pp (Addr.add a152 (y125.toNat * 1))) rfl (ia runUnderlying28 sizeOf84 (Sl.v_some rfl e153) rfl b154 b155) ?_
     obtain ⟨x157, c156, h⟩ := h
     refine hv (v := Sl.v x157) rfl (l1 isAgg84 rfl c156) (hv (v := iv y134) rfl (mv rfl) (hv (v := .agg #[(sv S_kept), (iv 2)]) rfl (HVal.build' (cs := [(sv S_kept), (iv 2)]) runUnderlying83 zeroValue83 places83 rfl) ?_))
     obtain ⟨a158, e159, b160, b161, h⟩ := h
     refine hv (v := pp (Addr.add a158 (y134.toNat * 2))) rfl (ia runUnderlying84 sizeOf83 (Sl.v_some rfl e159) rfl b160 b161) ?_
     obtain ⟨z164, h⟩ := h
     refine hq (HOp.storeN' (l := [(sv S_kept), (iv 2)]) sizeOf83 rfl rfl rfl z164) ?_
     rintro _ H162 e163
     replace h := h H162 e163
     refine hn (nb (nt (wr_ (hv (v := iv y134) rfl (mv rfl) (hv (v := iv (IntKind.i64.wrap (y134 + 1))) rfl (HVal.add rfl rfl) ?_)))))
     refine hv (v := iv (IntKind.i64.wrap (y134 + 1))) rfl (av rfl) (hn (nt ?_))
     exact (hX16 _ _).1 h _ (isp rfl)
    have h := hF hb147
    refine we (te (te (be (nb (nt ?_)))))
    exact ⟨(isp rfl), h⟩
   rintro ρ H_15 ⟨hI, h⟩
   obtain ⟨ρ0, rfl⟩ := hI.ex
   clear hI; unfold F36_15 at h
   refine wr_ (hv (v := iv y125) rfl (mv rfl) (hv (v := iv (IntKind.i64.wrap (y125 + 1))) rfl (HVal.add rfl rfl) (hv (v := iv (IntKind.i64.wrap (y125 + 1))) rfl (av rfl) ?_)))
   refine hn (nt ?_)
   exact (hX14 _ _).1 h _ (isp rfl)
  have h := hF hb131
  refine we (te (te (be (nt ?_))))
  exact ⟨⟨rfl, trivial⟩, h⟩
 rintro ρ H_13 ⟨hI, h⟩
 obtain ⟨ρ0, rfl⟩ := hI.ex
 clear hI; unfold F36_13 at h
 refine wc (fun ρ H_17 => Env.Is ρ [(0, (.pointer p0))] ∧ F36_17 Q p0 H_17) ?_ ?_
 ·refine ws (wr_ (hv (v := iv 0) rfl (av rfl) (hn (nt (wb (HW.loop' (fun L18 hL18 => ?_)))))))
  obtain ⟨X18, hX18⟩ : ∃ X18 : ZQI, ∀ (y166 : Int) (H_18 : Hp), X18 y166 H_18 ↔ ∀ ρ, Env.Is ρ [(0, (.pointer p0)), (10, (iv y166))] → L18 ρ H_18 := ⟨_, fun _ _ => Iff.rfl⟩
  refine (hX18 _ _).1 (h X18 ?_) _ ?_
  rotate_left
  ·exact (isp rfl)
  clear h
  intro y166 H_18 h
  refine (hX18 _ _).2 fun ρ hI => ?_
  obtain ⟨ρ0, rfl⟩ := hI.ex
  clear hI; unfold F36_L18b at h; refine hL18 _ _ ?_
  refine ws (ws (wr_ (hv (v := iv y166) rfl (mv rfl) (hv (v := .pointer p0) rfl (mv rfl) ?_))))
  obtain ⟨a168, e169, h⟩ := h
  refine hv (v := pp a168) rfl (HVal.nilCheck (congrArg Value.pointer e169)) (hv (v := pp (Addr.add a168 4)) rfl (fa runUnderlying32 rfl rfl sizeOf29 rfl) ?_)
  obtain ⟨x171, c170, h⟩ := h
  refine hv (v := Sl.v x171) rfl (l1 isAgg29 rfl c170) (hv (v := iv ((x171).n : Int)) rfl (HVal.len runUnderlying29 rfl) ?_)
  refine hv (v := bv (decide (y166 < ((x171).n : Int)))) rfl (HVal.lss rfl rfl) (hn (nt ?_))
  obtain ⟨hT, hF⟩ := h
  refine wk (decide (y166 < ((x171).n : Int))) rfl (fun hb172 => ?_) (fun hb172 => ?_)
  ·have h := hT hb172
   refine wp_ (nt (ws (wb (wr_ (hv (v := .pointer p0) rfl (mv rfl) ?_)))))
   obtain ⟨a173, e174, h⟩ := h
   refine hv (v := pp a173) rfl (HVal.nilCheck (congrArg Value.pointer e174)) (hv (v := pp (Addr.add a173 4)) rfl (fa runUnderlying32 rfl rfl sizeOf29 rfl) ?_)
   obtain ⟨x176, c175, h⟩ := h
   refine hv (v := Sl.v x176) rfl (l1 isAgg29 rfl c175) (hv (v := iv y166) rfl (mv rfl) ?_)
   obtain ⟨a177, e178, b179, b180, h⟩ := h
   refine hv (v := pp (Addr.add a177 (y166.toNat * 1))) rfl (ia runUnderlying29 sizeOf9 (Sl.v_some rfl e178) rfl b179 b180) ?_
   obtain ⟨z183, z184, h⟩ := h
   refine hq (HOp.store1 sizeOf9 rfl rfl rfl z183 z184) ?_
   rintro _ H181 e182
   replace h := h H181 e182
   refine hn (nb (nt (wr_ (hv (v := iv y166) rfl (mv rfl) (hv (v := iv (IntKind.i64.wrap (y166 + 1))) rfl (HVal.add rfl rfl) ?_)))))
   refine hv (v := iv (IntKind.i64.wrap (y166 + 1))) rfl (av rfl) (hn (nt ?_))
   exact (hX18 _ _).1 h _ (isp rfl)
  have h := hF hb172
  refine we (te (te (be (nt ?_))))
  exact ⟨⟨rfl, trivial⟩, h⟩
 rintro ρ H_17 ⟨hI, h⟩
 obtain ⟨ρ0, rfl⟩ := hI.ex
 clear hI; unfold F36_17 at h
 refine wc (fun ρ H_19 => Env.Is ρ [(0, (.pointer p0))] ∧ F36_19 Q p0 H_19) ?_ ?_
 ·refine ws (wr_ (hv (v := iv 0) rfl (av rfl) (hn (nt (wb (HW.loop' (fun L20 hL20 => ?_)))))))
  obtain ⟨X20, hX20⟩ : ∃ X20 : ZQI, ∀ (y186 : Int) (H_20 : Hp), X20 y186 H_20 ↔ ∀ ρ, Env.Is ρ [(0, (.pointer p0)), (11, (iv y186))] → L20 ρ H_20 := ⟨_, fun _ _ => Iff.rfl⟩
  refine (hX20 _ _).1 (h X20 ?_) _ ?_
  rotate_left
  ·exact (isp rfl)
  clear h
  intro y186 H_20 h
  refine (hX20 _ _).2 fun ρ hI => ?_
  obtain ⟨ρ0, rfl⟩ := hI.ex
  clear hI; unfold F36_L20b at h; refine hL20 _ _ ?_
  refine ws (ws (wr_ (hv (v := iv y186) rfl (mv rfl) (hv (v := .pointer p0) rfl (mv rfl) ?_))))
  obtain ⟨a188, e189, h⟩ := h
  refine hv (v := pp a188) rfl (HVal.nilCheck (congrArg Value.pointer e189)) (hv (v := pp (Addr.add a188 5)) rfl (fa runUnderlying32 rfl rfl sizeOf27 rfl) ?_)
  obtain ⟨x191, c190, h⟩ := h
  refine hv (v := Sl.v x191) rfl (l1 isAgg27 rfl c190) (hv (v := iv ((x191).n : Int)) rfl (HVal.len runUnderlying27 rfl) ?_)
  refine hv (v := bv (decide (y186 < ((x191).n : Int)))) rfl (HVal.lss rfl rfl) (hn (nt ?_))
  obtain ⟨hT, hF⟩ := h
  refine wk (decide (y186 < ((x191).n : Int))) rfl (fun hb192 => ?_) (fun hb192 => ?_)
  ·have h := hT hb192
   refine wp_ (nt (ws (wb (wr_ (hv (v := .pointer p0) rfl (mv rfl) ?_)))))
   obtain ⟨a193, e194, h⟩ := h
   refine hv (v := pp a193) rfl (HVal.nilCheck (congrArg Value.pointer e194)) (hv (v := pp (Addr.add a193 5)) rfl (fa runUnderlying32 rfl rfl sizeOf27 rfl) ?_)
   obtain ⟨x196, c195, h⟩ := h
   refine hv (v := Sl.v x196) rfl (l1 isAgg27 rfl c195) (hv (v := iv y186) rfl (mv rfl) ?_)
   obtain ⟨a197, e198, b199, b200, h⟩ := h
   refine hv (v := pp (Addr.add a197 (y186.toNat * 1))) rfl (ia runUnderlying27 sizeOf49 (Sl.v_some rfl e198) rfl b199 b200) ?_
   obtain ⟨z203, z204, h⟩ := h
   refine hq (HOp.store1 sizeOf49 rfl rfl rfl z203 z204) ?_
   rintro _ H201 e202
   replace h := h H201 e202
   refine hn (nb (nt (wr_ (hv (v := iv y186) rfl (mv rfl) (hv (v := iv (IntKind.i64.wrap (y186 + 1))) rfl (HVal.add rfl rfl) ?_)))))
   refine hv (v := iv (IntKind.i64.wrap (y186 + 1))) rfl (av rfl) (hn (nt ?_))
   exact (hX20 _ _).1 h _ (isp rfl)
  have h := hF hb192
  refine we (te (te (be (nt ?_))))
  exact ⟨⟨rfl, trivial⟩, h⟩
 rintro ρ H_19 ⟨hI, h⟩
 obtain ⟨ρ0, rfl⟩ := hI.ex
 clear hI; unfold F36_19 at h
 refine wc (fun ρ H_21 => Env.Is ρ [(0, (.pointer p0))] ∧ F36_21 Q p0 H_21) ?_ ?_
 ·refine ws (wr_ (hv (v := iv 0) rfl (av rfl) (hn (nt (wb (HW.loop' (fun L22 hL22 => ?_)))))))
  obtain ⟨X22, hX22⟩ : ∃ X22 : ZQI, ∀ (y206 : Int) (H_22 : Hp), X22 y206 H_22 ↔ ∀ ρ, Env.Is ρ [(0, (.pointer p0)), (12, (iv y206))] → L22 ρ H_22 := ⟨_, fun _ _ => Iff.rfl⟩
  refine (hX22 _ _).1 (h X22 ?_) _ ?_
  rotate_left
  ·exact (isp rfl)
  clear h
  intro y206 H_22 h
  refine (hX22 _ _).2 fun ρ hI => ?_
  obtain ⟨ρ0, rfl⟩ := hI.ex
  clear hI; unfold F36_L22b at h; refine hL22 _ _ ?_
  refine ws (ws (wr_ (hv (v := iv y206) rfl (mv rfl) (hv (v := .pointer p0) rfl (mv rfl) ?_))))
  obtain ⟨a208, e209, h⟩ := h
  refine hv (v := pp a208) rfl (HVal.nilCheck (congrArg Value.pointer e209)) (hv (v := pp (Addr.add a208 6)) rfl (fa runUnderlying32 rfl rfl sizeOf30 rfl) ?_)
  obtain ⟨x211, c210, h⟩ := h
  refine hv (v := Sl.v x211) rfl (l1 isAgg30 rfl c210) (hv (v := iv ((x211).n : Int)) rfl (HVal.len runUnderlying30 rfl) ?_)
  refine hv (v := bv (decide (y206 < ((x211).n : Int)))) rfl (HVal.lss rfl rfl) (hn (nt ?_))
  obtain ⟨hT, hF⟩ := h
  refine wk (decide (y206 < ((x211).n : Int))) rfl (fun hb212 => ?_) (fun hb212 => ?_)
  ·have h := hT hb212
   refine wp_ (nt (ws (wb (wr_ (hv (v := .pointer p0) rfl (mv rfl) ?_)))))
   obtain ⟨a213, e214, h⟩ := h
   refine hv (v := pp a213) rfl (HVal.nilCheck (congrArg Value.pointer e214)) (hv (v := pp (Addr.add a213 6)) rfl (fa runUnderlying32 rfl rfl sizeOf30 rfl) ?_)
   obtain ⟨x216, c215, h⟩ := h
   refine hv (v := Sl.v x216) rfl (l1 isAgg30 rfl c215) (hv (v := iv y206) rfl (mv rfl) (hv (v := .agg #[(sv S_kept), sN]) rfl (HVal.build' (cs := [(sv S_kept), sN]) runUnderlying86 zeroValue86 places86 rfl) ?_))
   obtain ⟨a217, e218, b219, b220, h⟩ := h
   refine hv (v := pp (Addr.add a217 (y206.toNat * 2))) rfl (ia runUnderlying30 sizeOf86 (Sl.v_some rfl e218) rfl b219 b220) ?_
   obtain ⟨z223, h⟩ := h
   refine hq (HOp.storeN' (l := [(sv S_kept), sN]) sizeOf86 rfl rfl rfl z223) ?_
   rintro _ H221 e222
   replace h := h H221 e222
   refine hn (nb (nt (wr_ (hv (v := iv y206) rfl (mv rfl) (hv (v := iv (IntKind.i64.wrap (y206 + 1))) rfl (HVal.add rfl rfl) ?_)))))
   refine hv (v := iv (IntKind.i64.wrap (y206 + 1))) rfl (av rfl) (hn (nt ?_))
   exact (hX22 _ _).1 h _ (isp rfl)
  have h := hF hb212
  refine we (te (te (be (nt ?_))))
  exact ⟨⟨rfl, trivial⟩, h⟩
 rintro ρ H_21 ⟨hI, h⟩
 obtain ⟨ρ0, rfl⟩ := hI.ex
 clear hI; unfold F36_21 at h
 refine ws (wr_ (hv (v := .pointer p0) rfl (mv rfl) ?_))
 obtain ⟨a224, e225, h⟩ := h
 refine hv (v := pp a224) rfl (HVal.nilCheck (congrArg Value.pointer e225)) (hv (v := pp (Addr.add a224 7)) rfl (fa runUnderlying32 rfl rfl sizeOf3 rfl) ?_)
 obtain ⟨z228, z229, h⟩ := h
 refine hq (HOp.store1 sizeOf3 rfl rfl rfl z228 z229) ?_
 rintro _ H226 e227
 replace h := h H226 e227
 refine hn (nt (ws (wr_ (hv (v := .pointer p0) rfl (mv rfl) ?_))))
 obtain ⟨a230, e231, h⟩ := h
 refine hv (v := pp a230) rfl (HVal.nilCheck (congrArg Value.pointer e231)) (hv (v := pp (Addr.add a230 8)) rfl (fa runUnderlying32 rfl rfl sizeOf3 rfl) ?_)
 obtain ⟨z234, z235, h⟩ := h
 refine hq (HOp.store1 sizeOf3 rfl rfl rfl z234 z235) ?_
 rintro _ H232 e233
 replace h := h H232 e233
 refine hn (nt (ws (wr_ (hv (v := .pointer p0) rfl (mv rfl) ?_))))
 obtain ⟨a236, e237, h⟩ := h
 refine hv (v := pp a236) rfl (HVal.nilCheck (congrArg Value.pointer e237)) (hv (v := pp (Addr.add a236 9)) rfl (fa runUnderlying32 rfl rfl sizeOf3 rfl) ?_)
 obtain ⟨z240, z241, h⟩ := h
 refine hq (HOp.store1 sizeOf3 rfl rfl rfl z240 z241) ?_
 rintro _ H238 e239
 replace h := h H238 e239
 refine hn (nt (wr_ (hv (v := .pointer p0) rfl (mv rfl) ?_)))
 obtain ⟨a242, e243, h⟩ := h
 refine hv (v := pp a242) rfl (HVal.nilCheck (congrArg Value.pointer e243)) (hv (v := pp (Addr.add a242 10)) rfl (fa runUnderlying32 rfl rfl sizeOf3 rfl) ?_)
 obtain ⟨z246, z247, h⟩ := h
 refine hq (HOp.store1 sizeOf3 rfl rfl rfl z246 z247) ?_
 rintro _ H244 e245
 replace h := h H244 e245
 refine hn ?_
 exact ⟨_, resOf0 rfl , ⟨rfl, h⟩⟩

def F43 (p0_0 : ByteArray) (p0_1 : Sl) (p1 : Addr) (H : Hp) (Q : ZQB) : Prop :=
∀ H1, H1 = Array.push H (.cells #[(sv p0_0), (Sl.v p0_1)] 86) → (
 ∃ x4, cell H1 (bk H) = some (sv x4) ∧ (
 ∃ x6, cell H1 p1 = some (sv x6) ∧ (
 Q (seq x4 x6) H1)))
theorem walk43 {w0 : World} {p0_0 : ByteArray} {p0_1 : Sl} {p1 : Addr} {H : Hp} {Q : ZQB} (h : F43 p0_0 p0_1 p1 H Q) :
  Good prog w0 43 #[(.agg #[(sv p0_0), (Sl.v p0_1)]), (pp p1)] H (fun v H => ∃ r0, v = (bv r0) ∧ Q r0 H) := by
 unfold F43 at h
 refine Good.enter' (fn := f43) func43 rfl rfl rfl (ws (wr_ (ho rfl (ob (v := .agg #[(sv p0_0), (Sl.v p0_1)]) rfl) ?_)))
 rintro _ H1 ⟨rfl, e2⟩
 replace h := h H1 e2
 refine hv (v := bv false) rfl (av rfl) (hn (nt (ws (wr_ (hv (v := pp (bk H)) rfl (HVal.fieldAddr0 runUnderlying86 rfl rfl sizeOf9 rfl) ?_)))))
 obtain ⟨x4, c3, h⟩ := h
 refine hv (v := sv x4) rfl (l1 isAgg9 rfl c3) (hv (v := pp p1) rfl (HVal.fieldAddr0 runUnderlying36 rfl rfl sizeOf9 rfl) ?_)
 obtain ⟨x6, c5, h⟩ := h
 refine hv (v := sv x6) rfl (l1 isAgg9 rfl c5) (hv (v := bv (seq x4 x6)) rfl (HVal.eqlS rfl rfl) (hv (v := bv (seq x4 x6)) rfl (av rfl) ?_))
 refine hn (nt (HW.ret ?_))
 exact ⟨_, resOf1 rfl Res1.t, ⟨(seq x4 x6), rfl, h⟩⟩

def F42_43_L1b (Q X1 : ZQI) (y2 : Sl) (y3 : Addr) (y4 y1 : Int) (H_1 : Hp) : Prop :=
(decide (y1 < y4) = true → (∃ a6, (y2).b = some a6 ∧ (0 : Int) ≤ y1 ∧ y1 < ((y2).n : Int) ∧ (
 ∃ x11 x12, cells H_1 (Addr.add a6 (y1.toNat * 2)) [(sv x11), (Sl.v x12)] 0 ∧ (
 F43 x11 x12 y3 H_1 (fun r15 H13 =>
 (r15 = true → (Q y1 H13)) ∧
 (r15 = false → (X1 (IntKind.i64.wrap (y1 + 1)) H13))))))) ∧
 (decide (y1 < y4) = false → (Q (-1) H_1))
def F42_43_L1 (Q : ZQI) (y2 : Sl) (y3 : Addr) (y4 y1 : Int) (H_1 : Hp) : Prop :=
 ∀ X1 : ZQI, (∀ (y1 : Int) (H_1 : Hp), F42_43_L1b Q X1 y2 y3 y4 y1 H_1 → X1 y1 H_1) → X1 y1 H_1
def F42_43 (p0 : Sl) (p1 : Addr) (H : Hp) (Q : ZQI) : Prop :=
F42_43_L1 Q p0 p1 ((p0).n : Int) 0 H
theorem walk42_43 {w0 : World} {p0 : Sl} {p1 : Addr} {H : Hp} {Q : ZQI} (h : F42_43 p0 p1 H Q) :
  Good prog w0 42 #[(Sl.v p0), (.func (.func 43) #[] #[(pp p1)])] H (fun v H => ∃ r0, v = (iv r0) ∧ Q r0 H) := by
 unfold F42_43 at h
 refine Good.enter' (fn := f42) func42 rfl rfl rfl (ws (wr_ (hv (v := iv 0) rfl (av rfl) (hn (nt (ws ?_))))))
 refine ws (wr_ (hv (v := Sl.v p0) rfl (mv rfl) (hv (v := iv ((p0).n : Int)) rfl (HVal.len runUnderlying30 rfl) ?_)))
 refine hv (v := iv 0) rfl (mv rfl) (hn (nt (wb (HW.loop' (fun L1 hL1 => ?_)))))
 obtain ⟨X1, hX1⟩ : ∃ X1 : ZQI, ∀ (y1 : Int) (H_1 : Hp), X1 y1 H_1 ↔ ∀ ρ, Env.Is ρ [(0, (Sl.v p0)), (1, (.func (.func 43) #[] #[(pp p1)])), (7, (iv ((p0).n : Int))), (8, (iv y1))] → L1 ρ H_1 := ⟨_, fun _ _ => Iff.rfl⟩
 refine (hX1 _ _).1 (h X1 ?_) _ ?_
 rotate_left
 ·exact (isp rfl)
 clear h
 intro y1 H_1 h
 refine (hX1 _ _).2 fun ρ hI => ?_
 obtain ⟨ρ0, rfl⟩ := hI.ex
 clear hI; unfold F42_43_L1b at h; refine hL1 _ _ ?_
 refine ws (wr_ (hv (v := bv (decide (y1 < ((p0).n : Int)))) rfl (HVal.lss rfl rfl) (hn (nt (ws ?_)))))
 obtain ⟨hT, hF⟩ := h
 refine wk (decide (y1 < ((p0).n : Int))) rfl (fun hb5 => ?_) (fun hb5 => ?_)
 ·have h := hT hb5
  refine wp_ (nt (ws (wb (ws (wr_ (hv (v := iv y1) rfl (mv rfl) (hv (v := iv y1) rfl (av rfl) ?_)))))))
  refine hn (nt (ws (wr_ (hv (v := .func (.func 43) #[] #[(pp p1)]) rfl (mv rfl) (hv (v := Sl.v p0) rfl (mv rfl) ?_)))))
  refine hv (v := iv y1) rfl (mv rfl) ?_
  obtain ⟨a6, e7, b8, b9, h⟩ := h
  refine hv (v := pp (Addr.add a6 (y1.toNat * 2))) rfl (ia runUnderlying30 sizeOf86 (Sl.v_some rfl e7) rfl b8 b9) ?_
  obtain ⟨x11, x12, c10, h⟩ := h
  refine hv (v := .agg #[(sv x11), (Sl.v x12)]) rfl (ln [(sv x11), (Sl.v x12)] isAgg86 sizeOf86 rfl c10) (ho rfl (HOp.call' 43 [(.agg #[(sv x11), (Sl.v x12)]), (pp p1)] (cap := [(pp p1)]) rfl rfl call43 (walk43 h)) ?_)
  rintro _ H13 ⟨r15, rfl, h⟩
  refine hn (nt ?_)
  obtain ⟨hT, hF⟩ := h
  refine wk r15 rfl (fun hb16 => ?_) (fun hb16 => ?_)
  ·have h := hT hb16
   refine ws (wr_ (hv (v := iv y1) rfl (mv rfl) (hv (v := iv y1) rfl (av rfl) (hn (nt (HW.ret (br ?_)))))))
   refine tr (tr (br (tr ?_)))
   exact ⟨_, resOf1 rfl Res1.t, ⟨y1, rfl, h⟩⟩
  have h := hF hb16
  refine wp_ (nb (nt (wr_ (hv (v := iv (IntKind.i64.wrap (y1 + 1))) rfl (HVal.add rfl rfl) (hv (v := iv (IntKind.i64.wrap (y1 + 1))) rfl (mv rfl) ?_)))))
  refine hn (nt ?_)
  exact (hX1 _ _).1 h _ (isp rfl)
 have h := hF hb5
 refine we (te (te (be (nt (ws (wr_ (hv (v := iv (-1)) rfl (av rfl) (hn (nt (HW.ret ?_))))))))))
 exact ⟨_, resOf1 rfl Res1.t, ⟨(-1), rfl, h⟩⟩

end Go.Hw
