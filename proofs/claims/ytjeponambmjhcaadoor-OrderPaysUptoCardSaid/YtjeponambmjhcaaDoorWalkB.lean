/- The walks of this seat, printed by a program of this session (wip/tools/gen.py): of each function what it does to the heap, and that it does so. -/
import Derived.Test.YtjeponambmjhcaaDoorHwG
import Derived.Test.YtjeponambmjhcaaDoorProg
import Derived.Test.YtjeponambmjhcaaDoorWAux
import Derived.Test.YtjeponambmjhcaaDoorWalkA
set_option linter.unusedVariables false
set_option linter.unusedSimpArgs false
namespace Go.Hw
open Go Go.Proofs
def F12_4 (Q : Int → Hp → Prop) (y20 : Int) (y23 : Bool) (H_4 : Hp) : Prop :=
(y23 = true → (Q (-1) H_4)) ∧
 (y23 = false → (Q y20 H_4))
def F12_1 (Q : Int → Hp → Prop) (y1 : ByteArray) (y19 : Int) (H_1 : Hp) : Prop :=
((decide (y19 < 0)) = true → (F12_4 Q y19 true H_1)) ∧
 ((decide (y19 < 0)) = false → (F9 y19 H_1 (fun (r26 : ByteArray) (H24 : Hp) => 
 F12_4 Q y19 (!(seq r26 y1)) H24)))
def F12_3 (Q : Int → Hp → Prop) (X2 : Int → Int → Hp → Prop) (y6 : ByteArray) (y7 : Int) (y8 : Int) (y13 : Bool) (H_3 : Hp) : Prop :=
(y13 = true → (Q (-1) H_3)) ∧
 (y13 = false → ((0 : Int) ≤ y8 ∧ y8.toNat < (y6).size ∧ (
 X2 (IntKind.i64.wrap ((IntKind.i64.wrap (y7 * 10)) + (IntKind.i64.wrap (IntKind.u8.wrap ((bt y6 y8.toNat) - 48))))) (IntKind.i64.wrap (y8 + 1)) H_3)))
def F12_L2b (Q : Int → Hp → Prop) (X2 : Int → Int → Hp → Prop) (y4 : ByteArray) (y2 : Int) (y3 : Int) (H_2 : Hp) : Prop :=
((decide (y3 < ((y4).size : Int))) = true → ((0 : Int) ≤ y3 ∧ y3.toNat < (y4).size ∧ (
 ((decide ((bt y4 y3.toNat) < 48)) = true → (F12_3 Q X2 y4 y2 y3 true H_2)) ∧
 ((decide ((bt y4 y3.toNat) < 48)) = false → ((0 : Int) ≤ y3 ∧ y3.toNat < (y4).size ∧ (
 F12_3 Q X2 y4 y2 y3 (decide ((57 : Int) < (bt y4 y3.toNat))) H_2)))))) ∧
 ((decide (y3 < ((y4).size : Int))) = false → (F12_1 Q y4 y2 H_2))
def F12_L2 (Q : Int → Hp → Prop) (y4 : ByteArray) (y2 : Int) (y3 : Int) (H_2 : Hp) : Prop :=
  ∀ X2 : Int → Int → Hp → Prop, (∀ (y2 : Int) (y3 : Int) (H_2 : Hp), F12_L2b Q X2 y4 y2 y3 H_2 → X2 y2 y3 H_2) → X2 y2 y3 H_2
def F12 (p0 : ByteArray) (H : Hp) (Q : Int → Hp → Prop) : Prop :=
F12_L2 Q p0 0 0 H
set_option maxRecDepth 100000 in
set_option maxHeartbeats 4000000 in
theorem walk12 {w0 : World} {p0 : ByteArray} {H : Hp} {Q : Int → Hp → Prop} (h : F12 p0 H Q) :
    Good Tryd.prog w0 12 #[(.string p0)] H (fun v H => ∃ (r0 : Int) , v = (.int .i64 r0) ∧ Q r0 H) := by
  unfold F12 at h
  refine Good.enter' (fn := Tryd.f12) Tryd.func12 rfl rfl rfl ?_
  refine HW.seq ?_
  refine HW.region ?_
  refine HList.vals (v := (.int .i64 0)) rfl (HVal.assign' rfl) ?_
  refine HList.nil ?_
  refine nt ?_
  refine HW.seq ?_
  refine HW.region ?_
  refine HList.vals (v := (.int .i64 0)) rfl (HVal.assign' rfl) ?_
  refine HList.nil ?_
  refine nt ?_
  refine HW.cut (fun ρ H_1 => ∃ (y19 : Int), Env.Is ρ [(0, (.string p0)), (3, (.int .i64 y19))] ∧ F12_1 Q p0 y19 H_1) ?_ ?_
  · refine HW.seq ?_
    refine HW.region ?_
    refine HList.vals (v := (.int .i64 0)) rfl (HVal.assign' rfl) ?_
    refine HList.nil ?_
    refine nt ?_
    refine HW.block ?_
    refine HW.loop' (fun L2 hL2 => ?_)
    obtain ⟨X2, hX2⟩ : ∃ X2 : Int → Int → Hp → Prop, ∀ (y2 : Int) (y3 : Int) (H_2 : Hp), X2 y2 y3 H_2 ↔ ∀ ρ, Env.Is ρ [(0, (.string p0)), (3, (.int .i64 y2)), (4, (.int .i64 y3))] → L2 ρ H_2 := ⟨_, fun _ _ _ => Iff.rfl⟩
    refine (hX2 _ _ _).1 (h X2 ?_) _ ?_
    rotate_left
    · exact ⟨rfl, rfl, rfl, trivial⟩
    clear h
    intro y2 y3 H_2 h
    refine (hX2 _ _ _).2 fun ρ hI => ?_
    obtain ⟨ρ0, rfl⟩ : ∃ ρ0, ρ = (Env.set (Env.set (Env.set ρ0 4 (.int .i64 y3)) 3 (.int .i64 y2)) 0 (.string p0)) := ⟨ρ, hI.eq⟩
    clear hI; unfold F12_L2b at h; refine hL2 _ _ ?_
    refine HW.seq ?_
    refine HW.seq ?_
    refine HW.region ?_
    refine HList.vals (v := (.int .i64 y3)) rfl (HVal.move' rfl) ?_
    refine HList.vals (v := (.string p0)) rfl (HVal.move' rfl) ?_
    refine HList.vals (v := (.int .i64 ((p0).size : Int))) rfl (HVal.lenS Tryd.runUnderlying9 rfl) ?_
    refine HList.vals (v := (.bool (decide (y3 < ((p0).size : Int))))) rfl (HVal.lss rfl rfl) ?_
    refine HList.nil ?_
    refine nt ?_
    obtain ⟨hT, hF⟩ := h
    refine HW.cond (decide (y3 < ((p0).size : Int))) rfl (fun hb5 => ?_) (fun hb5 => ?_)
    · have h := hT hb5
      clear hT hF
      refine HW.skip ?_
      refine nt ?_
      refine HW.seq ?_
      refine HW.block ?_
      refine HW.seq ?_
      refine HW.cut (fun ρ H_3 => ∃ (y13 : Bool), Env.Is ρ [(0, (.string p0)), (3, (.int .i64 y2)), (4, (.int .i64 y3)), (20, (.bool y13))] ∧ F12_3 Q X2 p0 y2 y3 y13 H_3) ?_ ?_
      · refine HW.region ?_
        refine HList.vals (v := (.string p0)) rfl (HVal.move' rfl) ?_
        refine HList.vals (v := (.int .i64 y3)) rfl (HVal.move' rfl) ?_
        obtain ⟨b9, b10, h⟩ := h
        refine HList.vals (v := (.int .u8 (bt p0 y3.toNat))) rfl (HVal.indexS' Tryd.runUnderlying9 rfl rfl b9 b10) ?_
        refine HList.vals (v := (.bool (decide ((bt p0 y3.toNat) < 48)))) rfl (HVal.lss rfl rfl) ?_
        refine HList.vals (v := (.bool (decide ((bt p0 y3.toNat) < 48)))) rfl (HVal.move' rfl) ?_
        obtain ⟨hT, hF⟩ := h
        rcases Bool.eq_false_or_eq_true (decide ((bt p0 y3.toNat) < 48)) with hb11 | hb12
        · have h := hT hb11
          clear hT hF
          refine HList.gskips rfl rfl rfl rfl (congrArg Value.bool hb11) ?_
          refine HList.gskips rfl rfl rfl rfl (congrArg Value.bool hb11) ?_
          refine HList.gskips rfl rfl rfl rfl (congrArg Value.bool hb11) ?_
          refine HList.gskips rfl rfl rfl rfl (congrArg Value.bool hb11) ?_
          refine HList.vals (v := (.bool true)) rfl (HVal.pickT rfl hb11 rfl) ?_
          refine HList.nil ?_
          refine nt ?_
          exact ⟨true, ⟨rfl, rfl, rfl, rfl, trivial⟩, h⟩
        · have h := hF hb12
          clear hT hF
          refine HList.gvals (v := (.string p0)) rfl rfl rfl rfl (congrArg Value.bool hb12) (HVal.move' rfl) ?_
          refine HList.gvals (v := (.int .i64 y3)) rfl rfl rfl rfl (congrArg Value.bool hb12) (HVal.move' rfl) ?_
          obtain ⟨b14, b15, h⟩ := h
          refine HList.gvals (v := (.int .u8 (bt p0 y3.toNat))) rfl rfl rfl rfl (congrArg Value.bool hb12) (HVal.indexS' Tryd.runUnderlying9 rfl rfl b14 b15) ?_
          refine HList.gvals (v := (.bool (decide ((57 : Int) < (bt p0 y3.toNat))))) rfl rfl rfl rfl (congrArg Value.bool hb12) (HVal.gtr rfl rfl) ?_
          refine HList.vals (v := (.bool (decide ((57 : Int) < (bt p0 y3.toNat))))) rfl (HVal.pickF rfl hb12 rfl) ?_
          refine HList.nil ?_
          refine nt ?_
          exact ⟨(decide ((57 : Int) < (bt p0 y3.toNat))), ⟨rfl, rfl, rfl, rfl, trivial⟩, h⟩
      · rintro ρ H_3 ⟨y13, hI, h⟩
        obtain ⟨ρ0, rfl⟩ : ∃ ρ0, ρ = (Env.set (Env.set (Env.set (Env.set ρ0 20 (.bool y13)) 4 (.int .i64 y3)) 3 (.int .i64 y2)) 0 (.string p0)) := ⟨ρ, hI.eq⟩
        clear hI; unfold F12_3 at h
        obtain ⟨hT, hF⟩ := h
        refine HW.cond y13 rfl (fun hb16 => ?_) (fun hb16 => ?_)
        · have h := hT hb16
          clear hT hF
          refine HW.seq ?_
          refine HW.region ?_
          refine HList.vals (v := (.int .i64 (-1))) rfl (HVal.assign' rfl) ?_
          refine HList.nil ?_
          refine nt ?_
          refine HW.ret ?_
          refine tr ?_
          refine br ?_
          refine tr ?_
          refine tr ?_
          refine br ?_
          refine tr ?_
          exact ⟨_, resOf1 rfl Res1.t, ⟨(-1), rfl, h⟩⟩
        · have h := hF hb16
          clear hT hF
          refine HW.skip ?_
          refine nt ?_
          refine HW.region ?_
          refine HList.vals (v := (.int .i64 y2)) rfl (HVal.move' rfl) ?_
          refine HList.vals (v := (.int .i64 (IntKind.i64.wrap (y2 * 10)))) rfl (HVal.mul rfl rfl) ?_
          refine HList.vals (v := (.string p0)) rfl (HVal.move' rfl) ?_
          refine HList.vals (v := (.int .i64 y3)) rfl (HVal.move' rfl) ?_
          obtain ⟨b17, b18, h⟩ := h
          refine HList.vals (v := (.int .u8 (bt p0 y3.toNat))) rfl (HVal.indexS' Tryd.runUnderlying9 rfl rfl b17 b18) ?_
          refine HList.vals (v := (.int .u8 (IntKind.u8.wrap ((bt p0 y3.toNat) - 48)))) rfl (HVal.sub rfl rfl) ?_
          refine HList.vals (v := (.int .i64 (IntKind.i64.wrap (IntKind.u8.wrap ((bt p0 y3.toNat) - 48))))) rfl (HVal.convI Tryd.runUnderlying5 Tryd.runUnderlying3 rfl) ?_
          refine HList.vals (v := (.int .i64 (IntKind.i64.wrap ((IntKind.i64.wrap (y2 * 10)) + (IntKind.i64.wrap (IntKind.u8.wrap ((bt p0 y3.toNat) - 48))))))) rfl (HVal.add rfl rfl) ?_
          refine HList.vals (v := (.int .i64 (IntKind.i64.wrap ((IntKind.i64.wrap (y2 * 10)) + (IntKind.i64.wrap (IntKind.u8.wrap ((bt p0 y3.toNat) - 48))))))) rfl (HVal.assign' rfl) ?_
          refine HList.nil ?_
          refine nb ?_
          refine nt ?_
          refine HW.region ?_
          refine HList.vals (v := (.int .i64 y3)) rfl (HVal.move' rfl) ?_
          refine HList.vals (v := (.int .i64 (IntKind.i64.wrap (y3 + 1)))) rfl (HVal.add rfl rfl) ?_
          refine HList.vals (v := (.int .i64 (IntKind.i64.wrap (y3 + 1)))) rfl (HVal.assign' rfl) ?_
          refine HList.nil ?_
          refine nt ?_
          exact (hX2 _ _ _).1 h _ ⟨rfl, rfl, rfl, trivial⟩
    · have h := hF hb5
      clear hT hF
      refine HW.exit ?_
      refine te ?_
      refine te ?_
      refine be ?_
      refine nt ?_
      exact ⟨y2, ⟨rfl, rfl, trivial⟩, h⟩
  · rintro ρ H_1 ⟨y19, hI, h⟩
    obtain ⟨ρ0, rfl⟩ : ∃ ρ0, ρ = (Env.set (Env.set ρ0 3 (.int .i64 y19)) 0 (.string p0)) := ⟨ρ, hI.eq⟩
    clear hI; unfold F12_1 at h
    refine HW.seq ?_
    refine HW.cut (fun ρ H_4 => ∃ (y23 : Bool), Env.Is ρ [(3, (.int .i64 y19)), (36, (.bool y23))] ∧ F12_4 Q y19 y23 H_4) ?_ ?_
    · refine HW.region ?_
      refine HList.vals (v := (.int .i64 y19)) rfl (HVal.move' rfl) ?_
      refine HList.vals (v := (.bool (decide (y19 < 0)))) rfl (HVal.lss rfl rfl) ?_
      refine HList.vals (v := (.bool (decide (y19 < 0)))) rfl (HVal.move' rfl) ?_
      obtain ⟨hT, hF⟩ := h
      rcases Bool.eq_false_or_eq_true (decide (y19 < 0)) with hb21 | hb22
      · have h := hT hb21
        clear hT hF
        refine HList.gskips rfl rfl rfl rfl (congrArg Value.bool hb21) ?_
        refine HList.gskips rfl rfl rfl rfl (congrArg Value.bool hb21) ?_
        refine HList.gskips rfl rfl rfl rfl (congrArg Value.bool hb21) ?_
        refine HList.gskips rfl rfl rfl rfl (congrArg Value.bool hb21) ?_
        refine HList.vals (v := (.bool true)) rfl (HVal.pickT rfl hb21 rfl) ?_
        refine HList.nil ?_
        refine nt ?_
        exact ⟨true, ⟨rfl, rfl, trivial⟩, h⟩
      · have h := hF hb22
        clear hT hF
        refine HList.gvals (v := (.int .i64 y19)) rfl rfl rfl rfl (congrArg Value.bool hb22) (HVal.move' rfl) ?_
        refine HList.gops rfl rfl rfl rfl (congrArg Value.bool hb22) (HOp.call' 9 [(.int .i64 y19)] (cap := []) rfl rfl Tryd.call9 (walk9 h)) ?_
        rintro _ H24 ⟨r26, rfl, h⟩
        refine HList.gvals (v := (.string p0)) rfl rfl rfl rfl (congrArg Value.bool hb22) (HVal.move' rfl) ?_
        refine HList.gvals (v := (.bool (!(seq r26 p0)))) rfl rfl rfl rfl (congrArg Value.bool hb22) (HVal.neqS rfl rfl) ?_
        refine HList.vals (v := (.bool (!(seq r26 p0)))) rfl (HVal.pickF rfl hb22 rfl) ?_
        refine HList.nil ?_
        refine nt ?_
        exact ⟨(!(seq r26 p0)), ⟨rfl, rfl, trivial⟩, h⟩
    · rintro ρ H_4 ⟨y23, hI, h⟩
      obtain ⟨ρ0, rfl⟩ : ∃ ρ0, ρ = (Env.set (Env.set ρ0 36 (.bool y23)) 3 (.int .i64 y19)) := ⟨ρ, hI.eq⟩
      clear hI; unfold F12_4 at h
      obtain ⟨hT, hF⟩ := h
      refine HW.cond y23 rfl (fun hb27 => ?_) (fun hb27 => ?_)
      · have h := hT hb27
        clear hT hF
        refine HW.seq ?_
        refine HW.region ?_
        refine HList.vals (v := (.int .i64 (-1))) rfl (HVal.assign' rfl) ?_
        refine HList.nil ?_
        refine nt ?_
        refine HW.ret ?_
        refine tr ?_
        exact ⟨_, resOf1 rfl Res1.t, ⟨(-1), rfl, h⟩⟩
      · have h := hF hb27
        clear hT hF
        refine HW.skip ?_
        refine nt ?_
        refine HW.seq ?_
        refine HW.region ?_
        refine HList.vals (v := (.int .i64 y19)) rfl (HVal.move' rfl) ?_
        refine HList.vals (v := (.int .i64 y19)) rfl (HVal.assign' rfl) ?_
        refine HList.nil ?_
        refine nt ?_
        refine HW.ret ?_
        exact ⟨_, resOf1 rfl Res1.t, ⟨y19, rfl, h⟩⟩

def F3_12 (Q : Bool → Hp → Prop) (X10 : Int → Int → Hp → Prop) (y174 : Sl) (y175 : Sl) (y176 : Sl) (y177 : Int) (y178 : Int) (y195 : Bool) (H_12 : Hp) : Prop :=
(y195 = true → (Q false H_12)) ∧
 (y195 = false → (∃ a211 : Addr, (y176).b = some a211 ∧ (0 : Int) ≤ y178 ∧ y178 < ((y176).n : Int) ∧ (
 (cell H_12 (Addr.add a211 (y178.toNat * 1))).isSome = true ∧ frz H_12 (Addr.add a211 (y178.toNat * 1)) = false ∧ ∀ H215 : Hp, H215 = setc H_12 (Addr.add a211 (y178.toNat * 1)) (.bool true) → (
 X10 y178 (IntKind.i64.wrap (y177 + 1)) H215))))
def F3_11 (Q : Bool → Hp → Prop) (X10 : Int → Int → Hp → Prop) (y142 : Sl) (y143 : Sl) (y144 : Sl) (y145 : Int) (y146 : Int) (y147 : Int) (y150 : Bool) (H_11 : Hp) : Prop :=
(y150 = true → (Q false H_11)) ∧
 (y150 = false → (((decide ((0 : Int) ≤ y145)) = true → (∃ a181 : Addr, (y142).b = some a181 ∧ (0 : Int) ≤ y147 ∧ y147 < ((y142).n : Int) ∧ (
 ∃ x186 : Int, cell H_11 (Addr.add a181 (y147.toNat * 1)) = some (.int .i64 x186) ∧ (
 ∃ a187 : Addr, (y142).b = some a187 ∧ (0 : Int) ≤ y145 ∧ y145 < ((y142).n : Int) ∧ (
 ∃ x192 : Int, cell H_11 (Addr.add a187 (y145.toNat * 1)) = some (.int .i64 x192) ∧ (
 ((decide (x186 < x192)) = true → (F3_12 Q X10 y142 y143 y144 y146 y147 true H_11)) ∧
 ((decide (x186 < x192)) = false → (∃ a196 : Addr, (y142).b = some a196 ∧ (0 : Int) ≤ y147 ∧ y147 < ((y142).n : Int) ∧ (
 ∃ x201 : Int, cell H_11 (Addr.add a196 (y147.toNat * 1)) = some (.int .i64 x201) ∧ (
 ∃ a202 : Addr, (y142).b = some a202 ∧ (0 : Int) ≤ y145 ∧ y145 < ((y142).n : Int) ∧ (
 ∃ x207 : Int, cell H_11 (Addr.add a202 (y145.toNat * 1)) = some (.int .i64 x207) ∧ (
 ((decide (x201 = x207)) = true → (F3_12 Q X10 y142 y143 y144 y146 y147 (decide (y147 < y145)) H_11)) ∧
 ((decide (x201 = x207)) = false → (F3_12 Q X10 y142 y143 y144 y146 y147 false H_11)))))))))))))) ∧
 ((decide ((0 : Int) ≤ y145)) = false → (F3_12 Q X10 y142 y143 y144 y146 y147 false H_11))))
def F3_L10b (Q : Bool → Hp → Prop) (X10 : Int → Int → Hp → Prop) (y129 : Sl) (y130 : Sl) (y131 : Sl) (y127 : Int) (y128 : Int) (H_10 : Hp) : Prop :=
((decide (y128 < ((y130).n : Int))) = true → (∃ a133 : Addr, (y130).b = some a133 ∧ (0 : Int) ≤ y128 ∧ y128 < ((y130).n : Int) ∧ (
 ∃ x138 : ByteArray, cell H_10 (Addr.add a133 (y128.toNat * 3)) = some (.string x138) ∧ (
 F12 x138 H_10 (fun (r141 : Int) (H139 : Hp) => 
 ((decide (r141 < 0)) = true → (F3_11 Q X10 y129 y130 y131 y127 y128 r141 true H139)) ∧
 ((decide (r141 < 0)) = false → (((decide (((y129).n : Int) ≤ r141)) = true → (F3_11 Q X10 y129 y130 y131 y127 y128 r141 true H139)) ∧
 ((decide (((y129).n : Int) ≤ r141)) = false → (∃ a153 : Addr, (y131).b = some a153 ∧ (0 : Int) ≤ r141 ∧ r141 < ((y131).n : Int) ∧ (
 ∃ x158 : Bool, cell H139 (Addr.add a153 (r141.toNat * 1)) = some (.bool x158) ∧ (
 (x158 = true → (F3_11 Q X10 y129 y130 y131 y127 y128 r141 true H139)) ∧
 (x158 = false → (∃ a161 : Addr, (y130).b = some a161 ∧ (0 : Int) ≤ y128 ∧ y128 < ((y130).n : Int) ∧ (
 ∃ x166 : Int, cell H139 (Addr.add (Addr.add a161 (y128.toNat * 3)) 1) = some (.int .i64 x166) ∧ (
 ∃ a167 : Addr, (y129).b = some a167 ∧ (0 : Int) ≤ r141 ∧ r141 < ((y129).n : Int) ∧ (
 ∃ x172 : Int, cell H139 (Addr.add a167 (r141.toNat * 1)) = some (.int .i64 x172) ∧ (
 F3_11 Q X10 y129 y130 y131 y127 y128 r141 (decide (x166 ≠ x172)) H139))))))))))))))))) ∧
 ((decide (y128 < ((y130).n : Int))) = false → (Q true H_10))
def F3_L10 (Q : Bool → Hp → Prop) (y129 : Sl) (y130 : Sl) (y131 : Sl) (y127 : Int) (y128 : Int) (H_10 : Hp) : Prop :=
  ∀ X10 : Int → Int → Hp → Prop, (∀ (y127 : Int) (y128 : Int) (H_10 : Hp), F3_L10b Q X10 y129 y130 y131 y127 y128 H_10 → X10 y127 y128 H_10) → X10 y127 y128 H_10
def F3_9 (Q : Bool → Hp → Prop) (y112 : Sl) (y113 : Sl) (y116 : Bool) (H_9 : Hp) : Prop :=
(y116 = true → (Q false H_9)) ∧
 (y116 = false → ((0 : Int) ≤ ((y112).n : Int) ∧ ((y112).n : Int) ≤ ((y112).n : Int) ∧ (1 : Nat) * ((y112).n : Int) ≤ 140737488355328 ∧ ((y112).n : Int) ≤ 9223372036854775807 ∧ ∀ H121 : Hp, H121 = Array.push H_9 (.cells (made #[(.bool false)] ((y112).n : Int).toNat) 4) → (
 F3_L10 Q y112 y113 (Sl.mk (some ⟨H_9.size, 0, none⟩) ((y112).n : Int).toNat ((y112).n : Int).toNat) (-1) 0 H121)))
def F3_7 (Q : Bool → Hp → Prop) (y75 : Sl) (y76 : (Option Addr)) (y105 : Sl) (H_7 : Hp) : Prop :=
F10 y76 H_7 (fun (r108 : Sl) (H106 : Hp) => 
 AppendF H106 33 3 48 #[(.string (ByteArray.mk #[])), (.int .i64 0), (Sl.v Sl.nil)] y105 (r108).b (r108).n (fun (r111 : Sl) (H109 : Hp) => 
 ((decide (((r111).n : Int) ≠ ((y75).n : Int))) = true → (F3_9 Q y75 r111 true H109)) ∧
 ((decide (((r111).n : Int) ≠ ((y75).n : Int))) = false → (F11 y76 H109 (fun (r119 : Sl) (H117 : Hp) => 
 F3_9 Q y75 r111 (decide (((r119).n : Int) ≠ 0)) H117)))))
def F3_L8b (Q : Bool → Hp → Prop) (X8 : Sl → Int → Hp → Prop) (y79 : Sl) (y80 : (Option Addr)) (y77 : Sl) (y78 : Int) (H_8 : Hp) : Prop :=
((decide (y78 < ((y79).n : Int))) = true → (∃ a82 : Addr, (y79).b = some a82 ∧ (0 : Int) ≤ y78 ∧ y78 < ((y79).n : Int) ∧ (
 ∃ x87 : Int, cell H_8 (Addr.add a82 (y78.toNat * 1)) = some (.int .i64 x87) ∧ (
 F9 y78 H_8 (fun (r90 : ByteArray) (H88 : Hp) => 
 cell H88 (Addr.add a82 (y78.toNat * 1)) = some (.int .i64 x87) ∧ (
 F8 r90 x87 H88 (fun (r94 : ByteArray) (r95 : Int) (r96 : Sl) (H92 : Hp) => 
 F7 y80 r94 r95 r96 H92 (fun (r99 : Sl) (r100 : Int) (H97 : Hp) => 
 ((decide (r100 ≠ 0)) = true → (Q false H97)) ∧
 ((decide (r100 ≠ 0)) = false → (AppendF H97 33 3 48 #[(.string (ByteArray.mk #[])), (.int .i64 0), (Sl.v Sl.nil)] y77 (r99).b (r99).n (fun (r104 : Sl) (H102 : Hp) => 
 X8 r104 (IntKind.i64.wrap (y78 + 1)) H102))))))))))) ∧
 ((decide (y78 < ((y79).n : Int))) = false → (F3_7 Q y79 y80 y77 H_8))
def F3_L8 (Q : Bool → Hp → Prop) (y79 : Sl) (y80 : (Option Addr)) (y77 : Sl) (y78 : Int) (H_8 : Hp) : Prop :=
  ∀ X8 : Sl → Int → Hp → Prop, (∀ (y77 : Sl) (y78 : Int) (H_8 : Hp), F3_L8b Q X8 y79 y80 y77 y78 H_8 → X8 y77 y78 H_8) → X8 y77 y78 H_8
def F3_6 (Q : Bool → Hp → Prop) (y69 : Sl) (y70 : (Option Addr)) (y73 : Bool) (H_6 : Hp) : Prop :=
(y73 = true → (Q false H_6)) ∧
 (y73 = false → (F3_L8 Q y69 y70 Sl.nil 0 H_6))
def F3_2 (Q : Bool → Hp → Prop) (y13 : Int) (y14 : Sl) (H_2 : Hp) : Prop :=
F6 y13 4096 H_2 (fun (r67 : (Option Addr)) (r68 : Int) (H65 : Hp) => 
 ((r67.isNone) = true → (F3_6 Q y14 r67 true H65)) ∧
 ((r67.isNone) = false → (F3_6 Q y14 r67 (decide (r68 ≠ 0)) H65)))
def F3_4 (Q : Bool → Hp → Prop) (X3 : Int → Int → Hp → Prop) (y20 : Int) (y21 : Sl) (y22 : Int) (y64 : Int) (H_4 : Hp) : Prop :=
X3 y64 (IntKind.i64.wrap (y22 + 1)) H_4
def F3_5 (Q : Bool → Hp → Prop) (X3 : Int → Int → Hp → Prop) (y23 : Int) (y24 : Sl) (y25 : Int) (y26 : Int) (y35 : Bool) (H_5 : Hp) : Prop :=
(y35 = true → (Q true H_5)) ∧
 (y35 = false → (∃ a51 : Addr, (y24).b = some a51 ∧ (0 : Int) ≤ y26 ∧ y26 < ((y24).n : Int) ∧ (
 ∃ x56 : Int, cell H_5 (Addr.add a51 (y26.toNat * 1)) = some (.int .i64 x56) ∧ (
 ((decide (y25 < x56)) = true → (∃ a58 : Addr, (y24).b = some a58 ∧ (0 : Int) ≤ y26 ∧ y26 < ((y24).n : Int) ∧ (
 ∃ x63 : Int, cell H_5 (Addr.add a58 (y26.toNat * 1)) = some (.int .i64 x63) ∧ (
 F3_4 Q X3 y23 y24 y26 x63 H_5)))) ∧
 ((decide (y25 < x56)) = false → (F3_4 Q X3 y23 y24 y26 y25 H_5))))))
def F3_L3b (Q : Bool → Hp → Prop) (X3 : Int → Int → Hp → Prop) (y17 : Int) (y18 : Sl) (y15 : Int) (y16 : Int) (H_3 : Hp) : Prop :=
((decide (y16 < ((y18).n : Int))) = true → (∃ a27 : Addr, (y18).b = some a27 ∧ (0 : Int) ≤ y16 ∧ y16 < ((y18).n : Int) ∧ (
 ∃ x32 : Int, cell H_3 (Addr.add a27 (y16.toNat * 1)) = some (.int .i64 x32) ∧ (
 ((decide (x32 < 0)) = true → (F3_5 Q X3 y17 y18 y15 y16 true H_3)) ∧
 ((decide (x32 < 0)) = false → (∃ a36 : Addr, (y18).b = some a36 ∧ (0 : Int) ≤ y16 ∧ y16 < ((y18).n : Int) ∧ (
 ∃ x41 : Int, cell H_3 (Addr.add a36 (y16.toNat * 1)) = some (.int .i64 x41) ∧ (
 ((decide ((4611686018427387904 : Int) < x41)) = true → (F3_5 Q X3 y17 y18 y15 y16 true H_3)) ∧
 ((decide ((4611686018427387904 : Int) < x41)) = false → (∃ a44 : Addr, (y18).b = some a44 ∧ (0 : Int) ≤ y16 ∧ y16 < ((y18).n : Int) ∧ (
 ∃ x49 : Int, cell H_3 (Addr.add a44 (y16.toNat * 1)) = some (.int .i64 x49) ∧ (
 F3_5 Q X3 y17 y18 y15 y16 (decide (x49 < (IntKind.i64.wrap (y15 - y17)))) H_3)))))))))))) ∧
 ((decide (y16 < ((y18).n : Int))) = false → (F3_2 Q y17 y18 H_3))
def F3_L3 (Q : Bool → Hp → Prop) (y17 : Int) (y18 : Sl) (y15 : Int) (y16 : Int) (H_3 : Hp) : Prop :=
  ∀ X3 : Int → Int → Hp → Prop, (∀ (y15 : Int) (y16 : Int) (H_3 : Hp), F3_L3b Q X3 y17 y18 y15 y16 H_3 → X3 y15 y16 H_3) → X3 y15 y16 H_3
def F3_1 (Q : Bool → Hp → Prop) (y5 : Int) (y6 : Sl) (y9 : Bool) (H_1 : Hp) : Prop :=
(y9 = true → (Q true H_1)) ∧
 (y9 = false → (F3_L3 Q y5 y6 0 0 H_1))
def F3 (p0 : Int) (p1 : Sl) (H : Hp) (Q : Bool → Hp → Prop) : Prop :=
F5 H (fun (r3 : Bool) (H1 : Hp) => 
 ((!r3) = true → (Q false H1)) ∧
 ((!r3) = false → (((decide (p0 < 0)) = true → (F3_1 Q p0 p1 true H1)) ∧
 ((decide (p0 < 0)) = false → (((decide ((4611686018427387904 : Int) < p0)) = true → (F3_1 Q p0 p1 true H1)) ∧
 ((decide ((4611686018427387904 : Int) < p0)) = false → (F3_1 Q p0 p1 (decide ((4096 : Int) < ((p1).n : Int))) H1)))))))
set_option maxRecDepth 100000 in
set_option maxHeartbeats 4000000 in
theorem walk3 {w0 : World} {p0 : Int} {p1 : Sl} {H : Hp} {Q : Bool → Hp → Prop} (h : F3 p0 p1 H Q) :
    Good Tryd.prog w0 3 #[(.int .i64 p0), (Sl.v p1)] H (fun v H => ∃ (r0 : Bool) , v = (.bool r0) ∧ Q r0 H) := by
  unfold F3 at h
  refine Good.enter' (fn := Tryd.f3) Tryd.func3 rfl rfl rfl ?_
  refine HW.seq ?_
  refine HW.region ?_
  refine HList.vals (v := (.bool false)) rfl (HVal.assign' rfl) ?_
  refine HList.nil ?_
  refine nt ?_
  refine HW.seq ?_
  refine HW.seq ?_
  refine HW.region ?_
  refine HList.ops' rfl (HOp.call' 5 [] (cap := []) rfl rfl Tryd.call5 (walk5 h)) ?_
  rintro _ H1 ⟨r3, rfl, h⟩
  refine HList.vals (v := (.bool (!r3))) rfl (HVal.not rfl) ?_
  refine HList.nil ?_
  refine nt ?_
  obtain ⟨hT, hF⟩ := h
  refine HW.cond (!r3) rfl (fun hb4 => ?_) (fun hb4 => ?_)
  · have h := hT hb4
    clear hT hF
    refine HW.seq ?_
    refine HW.region ?_
    refine HList.vals (v := (.bool false)) rfl (HVal.assign' rfl) ?_
    refine HList.nil ?_
    refine nt ?_
    refine HW.ret ?_
    refine tr ?_
    exact ⟨_, resOf1 rfl Res1.t, ⟨false, rfl, h⟩⟩
  · have h := hF hb4
    clear hT hF
    refine HW.skip ?_
    refine nt ?_
    refine HW.seq ?_
    refine HW.cut (fun ρ H_1 => ∃ (y9 : Bool), Env.Is ρ [(0, (.int .i64 p0)), (1, (Sl.v p1)), (29, (.bool y9))] ∧ F3_1 Q p0 p1 y9 H_1) ?_ ?_
    · refine HW.region ?_
      refine HList.vals (v := (.int .i64 p0)) rfl (HVal.move' rfl) ?_
      refine HList.vals (v := (.bool (decide (p0 < 0)))) rfl (HVal.lss rfl rfl) ?_
      refine HList.vals (v := (.bool (decide (p0 < 0)))) rfl (HVal.move' rfl) ?_
      obtain ⟨hT, hF⟩ := h
      rcases Bool.eq_false_or_eq_true (decide (p0 < 0)) with hb7 | hb8
      · have h := hT hb7
        clear hT hF
        refine HList.gskips rfl rfl rfl rfl (congrArg Value.bool hb7) ?_
        refine HList.gskips rfl rfl rfl rfl (congrArg Value.bool hb7) ?_
        refine HList.vals (v := (.bool true)) rfl (HVal.pickT rfl hb7 rfl) ?_
        refine HList.vals (v := (.bool true)) rfl (HVal.move' rfl) ?_
        refine HList.gskips rfl rfl rfl rfl rfl ?_
        refine HList.gskips rfl rfl rfl rfl rfl ?_
        refine HList.gskips rfl rfl rfl rfl rfl ?_
        refine HList.vals (v := (.bool true)) rfl (HVal.pickT rfl rfl rfl) ?_
        refine HList.nil ?_
        refine nt ?_
        exact ⟨true, ⟨rfl, rfl, rfl, trivial⟩, h⟩
      · have h := hF hb8
        clear hT hF
        refine HList.gvals (v := (.int .i64 p0)) rfl rfl rfl rfl (congrArg Value.bool hb8) (HVal.move' rfl) ?_
        refine HList.gvals (v := (.bool (decide ((4611686018427387904 : Int) < p0)))) rfl rfl rfl rfl (congrArg Value.bool hb8) (HVal.gtr rfl rfl) ?_
        refine HList.vals (v := (.bool (decide ((4611686018427387904 : Int) < p0)))) rfl (HVal.pickF rfl hb8 rfl) ?_
        refine HList.vals (v := (.bool (decide ((4611686018427387904 : Int) < p0)))) rfl (HVal.move' rfl) ?_
        obtain ⟨hT, hF⟩ := h
        rcases Bool.eq_false_or_eq_true (decide ((4611686018427387904 : Int) < p0)) with hb10 | hb11
        · have h := hT hb10
          clear hT hF
          refine HList.gskips rfl rfl rfl rfl (congrArg Value.bool hb10) ?_
          refine HList.gskips rfl rfl rfl rfl (congrArg Value.bool hb10) ?_
          refine HList.gskips rfl rfl rfl rfl (congrArg Value.bool hb10) ?_
          refine HList.vals (v := (.bool true)) rfl (HVal.pickT rfl hb10 rfl) ?_
          refine HList.nil ?_
          refine nt ?_
          exact ⟨true, ⟨rfl, rfl, rfl, trivial⟩, h⟩
        · have h := hF hb11
          clear hT hF
          refine HList.gvals (v := (Sl.v p1)) rfl rfl rfl rfl (congrArg Value.bool hb11) (HVal.move' rfl) ?_
          refine HList.gvals (v := (.int .i64 ((p1).n : Int))) rfl rfl rfl rfl (congrArg Value.bool hb11) (HVal.len Tryd.runUnderlying22 rfl) ?_
          refine HList.gvals (v := (.bool (decide ((4096 : Int) < ((p1).n : Int))))) rfl rfl rfl rfl (congrArg Value.bool hb11) (HVal.gtr rfl rfl) ?_
          refine HList.vals (v := (.bool (decide ((4096 : Int) < ((p1).n : Int))))) rfl (HVal.pickF rfl hb11 rfl) ?_
          refine HList.nil ?_
          refine nt ?_
          exact ⟨(decide ((4096 : Int) < ((p1).n : Int))), ⟨rfl, rfl, rfl, trivial⟩, h⟩
    · rintro ρ H_1 ⟨y9, hI, h⟩
      obtain ⟨ρ0, rfl⟩ : ∃ ρ0, ρ = (Env.set (Env.set (Env.set ρ0 29 (.bool y9)) 1 (Sl.v p1)) 0 (.int .i64 p0)) := ⟨ρ, hI.eq⟩
      clear hI; unfold F3_1 at h
      obtain ⟨hT, hF⟩ := h
      refine HW.cond y9 rfl (fun hb12 => ?_) (fun hb12 => ?_)
      · have h := hT hb12
        clear hT hF
        refine HW.seq ?_
        refine HW.region ?_
        refine HList.vals (v := (.bool true)) rfl (HVal.assign' rfl) ?_
        refine HList.nil ?_
        refine nt ?_
        refine HW.ret ?_
        refine tr ?_
        exact ⟨_, resOf1 rfl Res1.t, ⟨true, rfl, h⟩⟩
      · have h := hF hb12
        clear hT hF
        refine HW.skip ?_
        refine nt ?_
        refine HW.seq ?_
        refine HW.region ?_
        refine HList.vals (v := (.int .i64 0)) rfl (HVal.assign' rfl) ?_
        refine HList.nil ?_
        refine nt ?_
        refine HW.cut (fun ρ H_2 => Env.Is ρ [(0, (.int .i64 p0)), (1, (Sl.v p1))] ∧ F3_2 Q p0 p1 H_2) ?_ ?_
        · refine HW.seq ?_
          refine HW.region ?_
          refine HList.vals (v := (.int .i64 0)) rfl (HVal.assign' rfl) ?_
          refine HList.nil ?_
          refine nt ?_
          refine HW.block ?_
          refine HW.loop' (fun L3 hL3 => ?_)
          obtain ⟨X3, hX3⟩ : ∃ X3 : Int → Int → Hp → Prop, ∀ (y15 : Int) (y16 : Int) (H_3 : Hp), X3 y15 y16 H_3 ↔ ∀ ρ, Env.Is ρ [(0, (.int .i64 p0)), (1, (Sl.v p1)), (5, (.int .i64 y15)), (6, (.int .i64 y16))] → L3 ρ H_3 := ⟨_, fun _ _ _ => Iff.rfl⟩
          refine (hX3 _ _ _).1 (h X3 ?_) _ ?_
          rotate_left
          · exact ⟨rfl, rfl, rfl, rfl, trivial⟩
          clear h
          intro y15 y16 H_3 h
          refine (hX3 _ _ _).2 fun ρ hI => ?_
          obtain ⟨ρ0, rfl⟩ : ∃ ρ0, ρ = (Env.set (Env.set (Env.set (Env.set ρ0 6 (.int .i64 y16)) 5 (.int .i64 y15)) 1 (Sl.v p1)) 0 (.int .i64 p0)) := ⟨ρ, hI.eq⟩
          clear hI; unfold F3_L3b at h; refine hL3 _ _ ?_
          refine HW.seq ?_
          refine HW.seq ?_
          refine HW.region ?_
          refine HList.vals (v := (.int .i64 y16)) rfl (HVal.move' rfl) ?_
          refine HList.vals (v := (Sl.v p1)) rfl (HVal.move' rfl) ?_
          refine HList.vals (v := (.int .i64 ((p1).n : Int))) rfl (HVal.len Tryd.runUnderlying22 rfl) ?_
          refine HList.vals (v := (.bool (decide (y16 < ((p1).n : Int))))) rfl (HVal.lss rfl rfl) ?_
          refine HList.nil ?_
          refine nt ?_
          obtain ⟨hT, hF⟩ := h
          refine HW.cond (decide (y16 < ((p1).n : Int))) rfl (fun hb19 => ?_) (fun hb19 => ?_)
          · have h := hT hb19
            clear hT hF
            refine HW.skip ?_
            refine nt ?_
            refine HW.cut (fun ρ H_4 => ∃ (y64 : Int), Env.Is ρ [(0, (.int .i64 p0)), (1, (Sl.v p1)), (6, (.int .i64 y16)), (5, (.int .i64 y64))] ∧ F3_4 Q X3 p0 p1 y16 y64 H_4) ?_ ?_
            · refine HW.block ?_
              refine HW.seq ?_
              refine HW.cut (fun ρ H_5 => ∃ (y35 : Bool), Env.Is ρ [(0, (.int .i64 p0)), (1, (Sl.v p1)), (5, (.int .i64 y15)), (6, (.int .i64 y16)), (57, (.bool y35))] ∧ F3_5 Q X3 p0 p1 y15 y16 y35 H_5) ?_ ?_
              · refine HW.region ?_
                refine HList.vals (v := (Sl.v p1)) rfl (HVal.move' rfl) ?_
                refine HList.vals (v := (.int .i64 y16)) rfl (HVal.move' rfl) ?_
                obtain ⟨a27, e28, b29, b30, h⟩ := h
                refine HList.vals (v := (.pointer (some (Addr.add a27 (y16.toNat * 1))))) rfl (HVal.indexAddr Tryd.runUnderlying22 Tryd.sizeOf2 (Sl.v_some rfl e28) rfl b29 b30) ?_
                obtain ⟨x32, c31, h⟩ := h
                refine HList.vals (v := (.int .i64 x32)) rfl (HVal.load1 Tryd.isAgg2 rfl c31) ?_
                refine HList.vals (v := (.bool (decide (x32 < 0)))) rfl (HVal.lss rfl rfl) ?_
                refine HList.vals (v := (.bool (decide (x32 < 0)))) rfl (HVal.move' rfl) ?_
                obtain ⟨hT, hF⟩ := h
                rcases Bool.eq_false_or_eq_true (decide (x32 < 0)) with hb33 | hb34
                · have h := hT hb33
                  clear hT hF
                  refine HList.gskips rfl rfl rfl rfl (congrArg Value.bool hb33) ?_
                  refine HList.gskips rfl rfl rfl rfl (congrArg Value.bool hb33) ?_
                  refine HList.gskips rfl rfl rfl rfl (congrArg Value.bool hb33) ?_
                  refine HList.gskips rfl rfl rfl rfl (congrArg Value.bool hb33) ?_
                  refine HList.gskips rfl rfl rfl rfl (congrArg Value.bool hb33) ?_
                  refine HList.vals (v := (.bool true)) rfl (HVal.pickT rfl hb33 rfl) ?_
                  refine HList.vals (v := (.bool true)) rfl (HVal.move' rfl) ?_
                  refine HList.gskips rfl rfl rfl rfl rfl ?_
                  refine HList.gskips rfl rfl rfl rfl rfl ?_
                  refine HList.gskips rfl rfl rfl rfl rfl ?_
                  refine HList.gskips rfl rfl rfl rfl rfl ?_
                  refine HList.gskips rfl rfl rfl rfl rfl ?_
                  refine HList.gskips rfl rfl rfl rfl rfl ?_
                  refine HList.gskips rfl rfl rfl rfl rfl ?_
                  refine HList.gskips rfl rfl rfl rfl rfl ?_
                  refine HList.vals (v := (.bool true)) rfl (HVal.pickT rfl rfl rfl) ?_
                  refine HList.nil ?_
                  refine nt ?_
                  exact ⟨true, ⟨rfl, rfl, rfl, rfl, rfl, trivial⟩, h⟩
                · have h := hF hb34
                  clear hT hF
                  refine HList.gvals (v := (Sl.v p1)) rfl rfl rfl rfl (congrArg Value.bool hb34) (HVal.move' rfl) ?_
                  refine HList.gvals (v := (.int .i64 y16)) rfl rfl rfl rfl (congrArg Value.bool hb34) (HVal.move' rfl) ?_
                  obtain ⟨a36, e37, b38, b39, h⟩ := h
                  refine HList.gvals (v := (.pointer (some (Addr.add a36 (y16.toNat * 1))))) rfl rfl rfl rfl (congrArg Value.bool hb34) (HVal.indexAddr Tryd.runUnderlying22 Tryd.sizeOf2 (Sl.v_some rfl e37) rfl b38 b39) ?_
                  obtain ⟨x41, c40, h⟩ := h
                  refine HList.gvals (v := (.int .i64 x41)) rfl rfl rfl rfl (congrArg Value.bool hb34) (HVal.load1 Tryd.isAgg2 rfl c40) ?_
                  refine HList.gvals (v := (.bool (decide ((4611686018427387904 : Int) < x41)))) rfl rfl rfl rfl (congrArg Value.bool hb34) (HVal.gtr rfl rfl) ?_
                  refine HList.vals (v := (.bool (decide ((4611686018427387904 : Int) < x41)))) rfl (HVal.pickF rfl hb34 rfl) ?_
                  refine HList.vals (v := (.bool (decide ((4611686018427387904 : Int) < x41)))) rfl (HVal.move' rfl) ?_
                  obtain ⟨hT, hF⟩ := h
                  rcases Bool.eq_false_or_eq_true (decide ((4611686018427387904 : Int) < x41)) with hb42 | hb43
                  · have h := hT hb42
                    clear hT hF
                    refine HList.gskips rfl rfl rfl rfl (congrArg Value.bool hb42) ?_
                    refine HList.gskips rfl rfl rfl rfl (congrArg Value.bool hb42) ?_
                    refine HList.gskips rfl rfl rfl rfl (congrArg Value.bool hb42) ?_
                    refine HList.gskips rfl rfl rfl rfl (congrArg Value.bool hb42) ?_
                    refine HList.gskips rfl rfl rfl rfl (congrArg Value.bool hb42) ?_
                    refine HList.gskips rfl rfl rfl rfl (congrArg Value.bool hb42) ?_
                    refine HList.gskips rfl rfl rfl rfl (congrArg Value.bool hb42) ?_
                    refine HList.gskips rfl rfl rfl rfl (congrArg Value.bool hb42) ?_
                    refine HList.vals (v := (.bool true)) rfl (HVal.pickT rfl hb42 rfl) ?_
                    refine HList.nil ?_
                    refine nt ?_
                    exact ⟨true, ⟨rfl, rfl, rfl, rfl, rfl, trivial⟩, h⟩
                  · have h := hF hb43
                    clear hT hF
                    refine HList.gvals (v := (Sl.v p1)) rfl rfl rfl rfl (congrArg Value.bool hb43) (HVal.move' rfl) ?_
                    refine HList.gvals (v := (.int .i64 y16)) rfl rfl rfl rfl (congrArg Value.bool hb43) (HVal.move' rfl) ?_
                    obtain ⟨a44, e45, b46, b47, h⟩ := h
                    refine HList.gvals (v := (.pointer (some (Addr.add a44 (y16.toNat * 1))))) rfl rfl rfl rfl (congrArg Value.bool hb43) (HVal.indexAddr Tryd.runUnderlying22 Tryd.sizeOf2 (Sl.v_some rfl e45) rfl b46 b47) ?_
                    obtain ⟨x49, c48, h⟩ := h
                    refine HList.gvals (v := (.int .i64 x49)) rfl rfl rfl rfl (congrArg Value.bool hb43) (HVal.load1 Tryd.isAgg2 rfl c48) ?_
                    refine HList.gvals (v := (.int .i64 y15)) rfl rfl rfl rfl (congrArg Value.bool hb43) (HVal.move' rfl) ?_
                    refine HList.gvals (v := (.int .i64 p0)) rfl rfl rfl rfl (congrArg Value.bool hb43) (HVal.move' rfl) ?_
                    refine HList.gvals (v := (.int .i64 (IntKind.i64.wrap (y15 - p0)))) rfl rfl rfl rfl (congrArg Value.bool hb43) (HVal.sub rfl rfl) ?_
                    refine HList.gvals (v := (.bool (decide (x49 < (IntKind.i64.wrap (y15 - p0)))))) rfl rfl rfl rfl (congrArg Value.bool hb43) (HVal.lss rfl rfl) ?_
                    refine HList.vals (v := (.bool (decide (x49 < (IntKind.i64.wrap (y15 - p0)))))) rfl (HVal.pickF rfl hb43 rfl) ?_
                    refine HList.nil ?_
                    refine nt ?_
                    exact ⟨(decide (x49 < (IntKind.i64.wrap (y15 - p0)))), ⟨rfl, rfl, rfl, rfl, rfl, trivial⟩, h⟩
              · rintro ρ H_5 ⟨y35, hI, h⟩
                obtain ⟨ρ0, rfl⟩ : ∃ ρ0, ρ = (Env.set (Env.set (Env.set (Env.set (Env.set ρ0 57 (.bool y35)) 6 (.int .i64 y16)) 5 (.int .i64 y15)) 1 (Sl.v p1)) 0 (.int .i64 p0)) := ⟨ρ, hI.eq⟩
                clear hI; unfold F3_5 at h
                obtain ⟨hT, hF⟩ := h
                refine HW.cond y35 rfl (fun hb50 => ?_) (fun hb50 => ?_)
                · have h := hT hb50
                  clear hT hF
                  refine HW.seq ?_
                  refine HW.region ?_
                  refine HList.vals (v := (.bool true)) rfl (HVal.assign' rfl) ?_
                  refine HList.nil ?_
                  refine nt ?_
                  refine HW.ret ?_
                  refine tr ?_
                  refine br ?_
                  refine tr ?_
                  refine tr ?_
                  refine br ?_
                  refine tr ?_
                  exact ⟨_, resOf1 rfl Res1.t, ⟨true, rfl, h⟩⟩
                · have h := hF hb50
                  clear hT hF
                  refine HW.skip ?_
                  refine nt ?_
                  refine HW.seq ?_
                  refine HW.region ?_
                  refine HList.vals (v := (Sl.v p1)) rfl (HVal.move' rfl) ?_
                  refine HList.vals (v := (.int .i64 y16)) rfl (HVal.move' rfl) ?_
                  obtain ⟨a51, e52, b53, b54, h⟩ := h
                  refine HList.vals (v := (.pointer (some (Addr.add a51 (y16.toNat * 1))))) rfl (HVal.indexAddr Tryd.runUnderlying22 Tryd.sizeOf2 (Sl.v_some rfl e52) rfl b53 b54) ?_
                  obtain ⟨x56, c55, h⟩ := h
                  refine HList.vals (v := (.int .i64 x56)) rfl (HVal.load1 Tryd.isAgg2 rfl c55) ?_
                  refine HList.vals (v := (.int .i64 y15)) rfl (HVal.move' rfl) ?_
                  refine HList.vals (v := (.bool (decide (y15 < x56)))) rfl (HVal.gtr rfl rfl) ?_
                  refine HList.nil ?_
                  refine nt ?_
                  obtain ⟨hT, hF⟩ := h
                  refine HW.cond (decide (y15 < x56)) rfl (fun hb57 => ?_) (fun hb57 => ?_)
                  · have h := hT hb57
                    clear hT hF
                    refine HW.region ?_
                    refine HList.vals (v := (Sl.v p1)) rfl (HVal.move' rfl) ?_
                    refine HList.vals (v := (.int .i64 y16)) rfl (HVal.move' rfl) ?_
                    obtain ⟨a58, e59, b60, b61, h⟩ := h
                    refine HList.vals (v := (.pointer (some (Addr.add a58 (y16.toNat * 1))))) rfl (HVal.indexAddr Tryd.runUnderlying22 Tryd.sizeOf2 (Sl.v_some rfl e59) rfl b60 b61) ?_
                    obtain ⟨x63, c62, h⟩ := h
                    refine HList.vals (v := (.int .i64 x63)) rfl (HVal.load1 Tryd.isAgg2 rfl c62) ?_
                    refine HList.vals (v := (.int .i64 x63)) rfl (HVal.assign' rfl) ?_
                    refine HList.nil ?_
                    refine nb ?_
                    refine nt ?_
                    exact ⟨x63, ⟨rfl, rfl, rfl, rfl, trivial⟩, h⟩
                  · have h := hF hb57
                    clear hT hF
                    refine HW.skip ?_
                    refine nb ?_
                    refine nt ?_
                    exact ⟨y15, ⟨rfl, rfl, rfl, rfl, trivial⟩, h⟩
            · rintro ρ H_4 ⟨y64, hI, h⟩
              obtain ⟨ρ0, rfl⟩ : ∃ ρ0, ρ = (Env.set (Env.set (Env.set (Env.set ρ0 5 (.int .i64 y64)) 6 (.int .i64 y16)) 1 (Sl.v p1)) 0 (.int .i64 p0)) := ⟨ρ, hI.eq⟩
              clear hI; unfold F3_4 at h
              refine HW.region ?_
              refine HList.vals (v := (.int .i64 y16)) rfl (HVal.move' rfl) ?_
              refine HList.vals (v := (.int .i64 (IntKind.i64.wrap (y16 + 1)))) rfl (HVal.add rfl rfl) ?_
              refine HList.vals (v := (.int .i64 (IntKind.i64.wrap (y16 + 1)))) rfl (HVal.assign' rfl) ?_
              refine HList.nil ?_
              refine nt ?_
              exact (hX3 _ _ _).1 h _ ⟨rfl, rfl, rfl, rfl, trivial⟩
          · have h := hF hb19
            clear hT hF
            refine HW.exit ?_
            refine te ?_
            refine te ?_
            refine be ?_
            refine nt ?_
            exact ⟨⟨rfl, rfl, trivial⟩, h⟩
        · rintro ρ H_2 ⟨hI, h⟩
          obtain ⟨ρ0, rfl⟩ : ∃ ρ0, ρ = (Env.set (Env.set ρ0 1 (Sl.v p1)) 0 (.int .i64 p0)) := ⟨ρ, hI.eq⟩
          clear hI; unfold F3_2 at h
          refine HW.seq ?_
          refine HW.region ?_
          refine HList.vals (v := (.int .i64 p0)) rfl (HVal.move' rfl) ?_
          refine HList.ops' rfl (HOp.call' 6 [(.int .i64 p0), (.int .i64 4096)] (cap := []) rfl rfl Tryd.call6 (walk6 h)) ?_
          rintro _ H65 ⟨r67, r68, rfl, h⟩
          refine HList.vals (v := (.tuple #[(.pointer r67), (.int .i64 r68)])) rfl (HVal.move' rfl) ?_
          refine HList.vals (v := (.pointer r67)) rfl (HVal.extract rfl rfl) ?_
          refine HList.vals (v := (.int .i64 r68)) rfl (HVal.extract rfl rfl) ?_
          refine HList.vals (v := (.pointer r67)) rfl (HVal.assign' rfl) ?_
          refine HList.vals (v := (.int .i64 r68)) rfl (HVal.assign' rfl) ?_
          refine HList.nil ?_
          refine nt ?_
          refine HW.seq ?_
          refine HW.cut (fun ρ H_6 => ∃ (y73 : Bool), Env.Is ρ [(1, (Sl.v p1)), (7, (.pointer r67)), (78, (.bool y73))] ∧ F3_6 Q p1 r67 y73 H_6) ?_ ?_
          · refine HW.region ?_
            refine HList.vals (v := (.pointer r67)) rfl (HVal.move' rfl) ?_
            refine HList.vals (v := (.bool (r67.isNone))) rfl (HVal.eqlPN Tryd.underlying24 rfl rfl) ?_
            refine HList.vals (v := (.bool (r67.isNone))) rfl (HVal.move' rfl) ?_
            obtain ⟨hT, hF⟩ := h
            rcases Bool.eq_false_or_eq_true (r67.isNone) with hb71 | hb72
            · have h := hT hb71
              clear hT hF
              refine HList.gskips rfl rfl rfl rfl (congrArg Value.bool hb71) ?_
              refine HList.gskips rfl rfl rfl rfl (congrArg Value.bool hb71) ?_
              refine HList.vals (v := (.bool true)) rfl (HVal.pickT rfl hb71 rfl) ?_
              refine HList.nil ?_
              refine nt ?_
              exact ⟨true, ⟨rfl, rfl, rfl, trivial⟩, h⟩
            · have h := hF hb72
              clear hT hF
              refine HList.gvals (v := (.int .i64 r68)) rfl rfl rfl rfl (congrArg Value.bool hb72) (HVal.move' rfl) ?_
              refine HList.gvals (v := (.bool (decide (r68 ≠ 0)))) rfl rfl rfl rfl (congrArg Value.bool hb72) (HVal.neqI rfl rfl) ?_
              refine HList.vals (v := (.bool (decide (r68 ≠ 0)))) rfl (HVal.pickF rfl hb72 rfl) ?_
              refine HList.nil ?_
              refine nt ?_
              exact ⟨(decide (r68 ≠ 0)), ⟨rfl, rfl, rfl, trivial⟩, h⟩
          · rintro ρ H_6 ⟨y73, hI, h⟩
            obtain ⟨ρ0, rfl⟩ : ∃ ρ0, ρ = (Env.set (Env.set (Env.set ρ0 78 (.bool y73)) 7 (.pointer r67)) 1 (Sl.v p1)) := ⟨ρ, hI.eq⟩
            clear hI; unfold F3_6 at h
            obtain ⟨hT, hF⟩ := h
            refine HW.cond y73 rfl (fun hb74 => ?_) (fun hb74 => ?_)
            · have h := hT hb74
              clear hT hF
              refine HW.seq ?_
              refine HW.region ?_
              refine HList.vals (v := (.bool false)) rfl (HVal.assign' rfl) ?_
              refine HList.nil ?_
              refine nt ?_
              refine HW.ret ?_
              refine tr ?_
              exact ⟨_, resOf1 rfl Res1.t, ⟨false, rfl, h⟩⟩
            · have h := hF hb74
              clear hT hF
              refine HW.skip ?_
              refine nt ?_
              refine HW.seq ?_
              refine HW.region ?_
              refine HList.vals (v := (Sl.v Sl.nil)) rfl (HVal.assign' rfl) ?_
              refine HList.nil ?_
              refine nt ?_
              refine HW.cut (fun ρ H_7 => ∃ (y105 : Sl), Env.Is ρ [(1, (Sl.v p1)), (7, (.pointer r67)), (9, (Sl.v y105))] ∧ F3_7 Q p1 r67 y105 H_7) ?_ ?_
              · refine HW.seq ?_
                refine HW.region ?_
                refine HList.vals (v := (.int .i64 0)) rfl (HVal.assign' rfl) ?_
                refine HList.nil ?_
                refine nt ?_
                refine HW.block ?_
                refine HW.loop' (fun L8 hL8 => ?_)
                obtain ⟨X8, hX8⟩ : ∃ X8 : Sl → Int → Hp → Prop, ∀ (y77 : Sl) (y78 : Int) (H_8 : Hp), X8 y77 y78 H_8 ↔ ∀ ρ, Env.Is ρ [(1, (Sl.v p1)), (7, (.pointer r67)), (9, (Sl.v y77)), (10, (.int .i64 y78))] → L8 ρ H_8 := ⟨_, fun _ _ _ => Iff.rfl⟩
                refine (hX8 _ _ _).1 (h X8 ?_) _ ?_
                rotate_left
                · exact ⟨rfl, rfl, rfl, rfl, trivial⟩
                clear h
                intro y77 y78 H_8 h
                refine (hX8 _ _ _).2 fun ρ hI => ?_
                obtain ⟨ρ0, rfl⟩ : ∃ ρ0, ρ = (Env.set (Env.set (Env.set (Env.set ρ0 10 (.int .i64 y78)) 9 (Sl.v y77)) 7 (.pointer r67)) 1 (Sl.v p1)) := ⟨ρ, hI.eq⟩
                clear hI; unfold F3_L8b at h; refine hL8 _ _ ?_
                refine HW.seq ?_
                refine HW.seq ?_
                refine HW.region ?_
                refine HList.vals (v := (.int .i64 y78)) rfl (HVal.move' rfl) ?_
                refine HList.vals (v := (Sl.v p1)) rfl (HVal.move' rfl) ?_
                refine HList.vals (v := (.int .i64 ((p1).n : Int))) rfl (HVal.len Tryd.runUnderlying22 rfl) ?_
                refine HList.vals (v := (.bool (decide (y78 < ((p1).n : Int))))) rfl (HVal.lss rfl rfl) ?_
                refine HList.nil ?_
                refine nt ?_
                obtain ⟨hT, hF⟩ := h
                refine HW.cond (decide (y78 < ((p1).n : Int))) rfl (fun hb81 => ?_) (fun hb81 => ?_)
                · have h := hT hb81
                  clear hT hF
                  refine HW.skip ?_
                  refine nt ?_
                  refine HW.seq ?_
                  refine HW.block ?_
                  refine HW.seq ?_
                  refine HW.draw mixed [(0, some []), (1, some []), (3, some []), (4, some []), (5, some []), (6, some [7]), (2, none), (7, none), (8, none), (9, some []), (10, some []), (11, some []), (12, some []), (13, some [])] rfl (by kernel_rfl) (by kernel_rfl) ?_
                  refine HPlan.takev (v := (.pointer r67)) rfl rfl (fun _ => HVal.move' rfl) ?_
                  refine HPlan.takev (v := (.int .i64 y78)) rfl rfl (fun _ => HVal.move' rfl) ?_
                  refine HPlan.takev (v := (Sl.v p1)) rfl rfl (fun _ => HVal.move' rfl) ?_
                  refine HPlan.takev (v := (.int .i64 y78)) rfl rfl (fun _ => HVal.move' rfl) ?_
                  obtain ⟨a82, e83, b84, b85, h⟩ := h
                  refine HPlan.takev (v := (.pointer (some (Addr.add a82 (y78.toNat * 1))))) rfl rfl (fun _ => HVal.indexAddr Tryd.runUnderlying22 Tryd.sizeOf2 (Sl.v_some rfl e83) rfl b84 b85) ?_
                  obtain ⟨x87, c86, h⟩ := h
                  refine HPlan.takel (v := (.int .i64 x87)) (fun X => cell X (Addr.add a82 (y78.toNat * 1)) = some (.int .i64 x87)) rfl rfl (fun _ hX => HVal.load1 Tryd.isAgg2 rfl hX) c86 ?_
                  refine HPlan.ops' rfl rfl (HOp.call' 9 [(.int .i64 y78)] (cap := []) rfl rfl Tryd.call9 (walk9 h)) ?_
                  rintro _ H88 ⟨r90, rfl, h⟩
                  obtain ⟨s91, h⟩ := h
                  refine ⟨SC_of ⟨fun _ => s91, trivial⟩, ?_⟩
                  refine HPlan.ops' rfl rfl (HOp.call' 8 [(.string r90), (.int .i64 x87)] (cap := []) rfl rfl Tryd.call8 (walk8 h)) ?_
                  rintro _ H92 ⟨r94, r95, r96, rfl, h⟩
                  refine ⟨SC_of ⟨fun e => absurd e (by decide), trivial⟩, ?_⟩
                  refine HPlan.ops' rfl rfl (HOp.call' 7 [(.pointer r67), (.agg #[(.string r94), (.int .i64 r95), (Sl.v r96)])] (cap := []) rfl rfl Tryd.call7 (walk7 h)) ?_
                  rintro _ H97 ⟨r99, r100, rfl, h⟩
                  refine ⟨SC_of ⟨fun e => absurd e (by decide), trivial⟩, ?_⟩
                  refine HPlan.takev (v := (.tuple #[(Sl.v r99), (.int .i64 r100)])) rfl rfl (fun _ => HVal.move' rfl) ?_
                  refine HPlan.takev (v := (Sl.v r99)) rfl rfl (fun _ => HVal.extract rfl rfl) ?_
                  refine HPlan.takev (v := (.int .i64 r100)) rfl rfl (fun _ => HVal.extract rfl rfl) ?_
                  refine HPlan.takev (v := (Sl.v r99)) rfl rfl (fun _ => HVal.assign' rfl) ?_
                  refine HPlan.takev (v := (.int .i64 r100)) rfl rfl (fun _ => HVal.assign' rfl) ?_
                  refine HPlan.done ?_
                  refine nt ?_
                  refine HW.seq ?_
                  refine HW.seq ?_
                  refine HW.region ?_
                  refine HList.vals (v := (.int .i64 r100)) rfl (HVal.move' rfl) ?_
                  refine HList.vals (v := (.bool (decide (r100 ≠ 0)))) rfl (HVal.neqI rfl rfl) ?_
                  refine HList.nil ?_
                  refine nt ?_
                  obtain ⟨hT, hF⟩ := h
                  refine HW.cond (decide (r100 ≠ 0)) rfl (fun hb101 => ?_) (fun hb101 => ?_)
                  · have h := hT hb101
                    clear hT hF
                    refine HW.seq ?_
                    refine HW.region ?_
                    refine HList.vals (v := (.bool false)) rfl (HVal.assign' rfl) ?_
                    refine HList.nil ?_
                    refine nt ?_
                    refine HW.ret ?_
                    refine tr ?_
                    refine br ?_
                    refine tr ?_
                    refine tr ?_
                    refine br ?_
                    refine tr ?_
                    exact ⟨_, resOf1 rfl Res1.t, ⟨false, rfl, h⟩⟩
                  · have h := hF hb101
                    clear hT hF
                    refine HW.skip ?_
                    refine nt ?_
                    refine HW.region ?_
                    refine HList.vals (v := (Sl.v y77)) rfl (HVal.move' rfl) ?_
                    refine HList.vals (v := (Sl.v r99)) rfl (HVal.move' rfl) ?_
                    refine HList.ops' rfl (HOp.append (k := 3) (b := 48) Tryd.runUnderlying28 Tryd.runUnderlying28 Tryd.typeInfo33 rfl rfl Tryd.zeroValue33 rfl rfl h) ?_
                    rintro _ H102 ⟨r104, rfl, h⟩
                    refine HList.vals (v := (Sl.v r104)) rfl (HVal.assign' rfl) ?_
                    refine HList.nil ?_
                    refine nb ?_
                    refine nt ?_
                    refine HW.region ?_
                    refine HList.vals (v := (.int .i64 y78)) rfl (HVal.move' rfl) ?_
                    refine HList.vals (v := (.int .i64 (IntKind.i64.wrap (y78 + 1)))) rfl (HVal.add rfl rfl) ?_
                    refine HList.vals (v := (.int .i64 (IntKind.i64.wrap (y78 + 1)))) rfl (HVal.assign' rfl) ?_
                    refine HList.nil ?_
                    refine nt ?_
                    exact (hX8 _ _ _).1 h _ ⟨rfl, rfl, rfl, rfl, trivial⟩
                · have h := hF hb81
                  clear hT hF
                  refine HW.exit ?_
                  refine te ?_
                  refine te ?_
                  refine be ?_
                  refine nt ?_
                  exact ⟨y77, ⟨rfl, rfl, rfl, trivial⟩, h⟩
              · rintro ρ H_7 ⟨y105, hI, h⟩
                obtain ⟨ρ0, rfl⟩ : ∃ ρ0, ρ = (Env.set (Env.set (Env.set ρ0 9 (Sl.v y105)) 7 (.pointer r67)) 1 (Sl.v p1)) := ⟨ρ, hI.eq⟩
                clear hI; unfold F3_7 at h
                refine HW.seq ?_
                refine HW.region ?_
                refine HList.vals (v := (Sl.v y105)) rfl (HVal.move' rfl) ?_
                refine HList.vals (v := (.pointer r67)) rfl (HVal.move' rfl) ?_
                refine HList.ops' rfl (HOp.call' 10 [(.pointer r67)] (cap := []) rfl rfl Tryd.call10 (walk10 h)) ?_
                rintro _ H106 ⟨r108, rfl, h⟩
                refine HList.ops' rfl (HOp.append (k := 3) (b := 48) Tryd.runUnderlying28 Tryd.runUnderlying28 Tryd.typeInfo33 rfl rfl Tryd.zeroValue33 rfl rfl h) ?_
                rintro _ H109 ⟨r111, rfl, h⟩
                refine HList.vals (v := (Sl.v r111)) rfl (HVal.assign' rfl) ?_
                refine HList.nil ?_
                refine nt ?_
                refine HW.seq ?_
                refine HW.cut (fun ρ H_9 => ∃ (y116 : Bool), Env.Is ρ [(1, (Sl.v p1)), (9, (Sl.v r111)), (116, (.bool y116))] ∧ F3_9 Q p1 r111 y116 H_9) ?_ ?_
                · refine HW.region ?_
                  refine HList.vals (v := (Sl.v r111)) rfl (HVal.move' rfl) ?_
                  refine HList.vals (v := (.int .i64 ((r111).n : Int))) rfl (HVal.len Tryd.runUnderlying28 rfl) ?_
                  refine HList.vals (v := (Sl.v p1)) rfl (HVal.move' rfl) ?_
                  refine HList.vals (v := (.int .i64 ((p1).n : Int))) rfl (HVal.len Tryd.runUnderlying22 rfl) ?_
                  refine HList.vals (v := (.bool (decide (((r111).n : Int) ≠ ((p1).n : Int))))) rfl (HVal.neqI rfl rfl) ?_
                  refine HList.vals (v := (.bool (decide (((r111).n : Int) ≠ ((p1).n : Int))))) rfl (HVal.move' rfl) ?_
                  obtain ⟨hT, hF⟩ := h
                  rcases Bool.eq_false_or_eq_true (decide (((r111).n : Int) ≠ ((p1).n : Int))) with hb114 | hb115
                  · have h := hT hb114
                    clear hT hF
                    refine HList.gskips rfl rfl rfl rfl (congrArg Value.bool hb114) ?_
                    refine HList.gskips rfl rfl rfl rfl (congrArg Value.bool hb114) ?_
                    refine HList.gskips rfl rfl rfl rfl (congrArg Value.bool hb114) ?_
                    refine HList.gskips rfl rfl rfl rfl (congrArg Value.bool hb114) ?_
                    refine HList.vals (v := (.bool true)) rfl (HVal.pickT rfl hb114 rfl) ?_
                    refine HList.nil ?_
                    refine nt ?_
                    exact ⟨true, ⟨rfl, rfl, rfl, trivial⟩, h⟩
                  · have h := hF hb115
                    clear hT hF
                    refine HList.gvals (v := (.pointer r67)) rfl rfl rfl rfl (congrArg Value.bool hb115) (HVal.move' rfl) ?_
                    refine HList.gops rfl rfl rfl rfl (congrArg Value.bool hb115) (HOp.call' 11 [(.pointer r67)] (cap := []) rfl rfl Tryd.call11 (walk11 h)) ?_
                    rintro _ H117 ⟨r119, rfl, h⟩
                    refine HList.gvals (v := (.int .i64 ((r119).n : Int))) rfl rfl rfl rfl (congrArg Value.bool hb115) (HVal.len Tryd.runUnderlying28 rfl) ?_
                    refine HList.gvals (v := (.bool (decide (((r119).n : Int) ≠ 0)))) rfl rfl rfl rfl (congrArg Value.bool hb115) (HVal.neqI rfl rfl) ?_
                    refine HList.vals (v := (.bool (decide (((r119).n : Int) ≠ 0)))) rfl (HVal.pickF rfl hb115 rfl) ?_
                    refine HList.nil ?_
                    refine nt ?_
                    exact ⟨(decide (((r119).n : Int) ≠ 0)), ⟨rfl, rfl, rfl, trivial⟩, h⟩
                · rintro ρ H_9 ⟨y116, hI, h⟩
                  obtain ⟨ρ0, rfl⟩ : ∃ ρ0, ρ = (Env.set (Env.set (Env.set ρ0 116 (.bool y116)) 9 (Sl.v r111)) 1 (Sl.v p1)) := ⟨ρ, hI.eq⟩
                  clear hI; unfold F3_9 at h
                  obtain ⟨hT, hF⟩ := h
                  refine HW.cond y116 rfl (fun hb120 => ?_) (fun hb120 => ?_)
                  · have h := hT hb120
                    clear hT hF
                    refine HW.seq ?_
                    refine HW.region ?_
                    refine HList.vals (v := (.bool false)) rfl (HVal.assign' rfl) ?_
                    refine HList.nil ?_
                    refine nt ?_
                    refine HW.ret ?_
                    refine tr ?_
                    exact ⟨_, resOf1 rfl Res1.t, ⟨false, rfl, h⟩⟩
                  · have h := hF hb120
                    clear hT hF
                    refine HW.skip ?_
                    refine nt ?_
                    refine HW.seq ?_
                    refine HW.region ?_
                    refine HList.vals (v := (Sl.v p1)) rfl (HVal.move' rfl) ?_
                    refine HList.vals (v := (.int .i64 ((p1).n : Int))) rfl (HVal.len Tryd.runUnderlying22 rfl) ?_
                    obtain ⟨z123, z124, z125, z126, h⟩ := h
                    refine HList.ops' rfl (HOp.makeSlice' (b := 1) Tryd.runUnderlying37 Tryd.typeInfo4 rfl Tryd.zeroValue4 Tryd.sizeOf4 rfl rfl z123 z124 z125 z126) ?_
                    rintro _ H121 ⟨rfl, e122⟩
                    replace h := h H121 e122
                    refine HList.vals (v := (Sl.v (Sl.mk (some ⟨H_9.size, 0, none⟩) ((p1).n : Int).toNat ((p1).n : Int).toNat))) rfl (HVal.assign' rfl) ?_
                    refine HList.nil ?_
                    refine nt ?_
                    refine HW.seq ?_
                    refine HW.region ?_
                    refine HList.vals (v := (.int .i64 (-1))) rfl (HVal.assign' rfl) ?_
                    refine HList.nil ?_
                    refine nt ?_
                    refine HW.seq ?_
                    refine HW.seq ?_
                    refine HW.region ?_
                    refine HList.vals (v := (.int .i64 0)) rfl (HVal.assign' rfl) ?_
                    refine HList.nil ?_
                    refine nt ?_
                    refine HW.block ?_
                    refine HW.loop' (fun L10 hL10 => ?_)
                    obtain ⟨X10, hX10⟩ : ∃ X10 : Int → Int → Hp → Prop, ∀ (y127 : Int) (y128 : Int) (H_10 : Hp), X10 y127 y128 H_10 ↔ ∀ ρ, Env.Is ρ [(1, (Sl.v p1)), (9, (Sl.v r111)), (13, (Sl.v (Sl.mk (some ⟨H_9.size, 0, none⟩) ((p1).n : Int).toNat ((p1).n : Int).toNat))), (14, (.int .i64 y127)), (15, (.int .i64 y128))] → L10 ρ H_10 := ⟨_, fun _ _ _ => Iff.rfl⟩
                    refine (hX10 _ _ _).1 (h X10 ?_) _ ?_
                    rotate_left
                    · exact ⟨rfl, rfl, rfl, rfl, rfl, trivial⟩
                    clear h
                    intro y127 y128 H_10 h
                    refine (hX10 _ _ _).2 fun ρ hI => ?_
                    obtain ⟨ρ0, rfl⟩ : ∃ ρ0, ρ = (Env.set (Env.set (Env.set (Env.set (Env.set ρ0 15 (.int .i64 y128)) 14 (.int .i64 y127)) 13 (Sl.v (Sl.mk (some ⟨H_9.size, 0, none⟩) ((p1).n : Int).toNat ((p1).n : Int).toNat))) 9 (Sl.v r111)) 1 (Sl.v p1)) := ⟨ρ, hI.eq⟩
                    clear hI; unfold F3_L10b at h; refine hL10 _ _ ?_
                    refine HW.seq ?_
                    refine HW.seq ?_
                    refine HW.region ?_
                    refine HList.vals (v := (.int .i64 y128)) rfl (HVal.move' rfl) ?_
                    refine HList.vals (v := (Sl.v r111)) rfl (HVal.move' rfl) ?_
                    refine HList.vals (v := (.int .i64 ((r111).n : Int))) rfl (HVal.len Tryd.runUnderlying28 rfl) ?_
                    refine HList.vals (v := (.bool (decide (y128 < ((r111).n : Int))))) rfl (HVal.lss rfl rfl) ?_
                    refine HList.nil ?_
                    refine nt ?_
                    obtain ⟨hT, hF⟩ := h
                    refine HW.cond (decide (y128 < ((r111).n : Int))) rfl (fun hb132 => ?_) (fun hb132 => ?_)
                    · have h := hT hb132
                      clear hT hF
                      refine HW.skip ?_
                      refine nt ?_
                      refine HW.seq ?_
                      refine HW.block ?_
                      refine HW.seq ?_
                      refine HW.region ?_
                      refine HList.vals (v := (Sl.v r111)) rfl (HVal.move' rfl) ?_
                      refine HList.vals (v := (.int .i64 y128)) rfl (HVal.move' rfl) ?_
                      obtain ⟨a133, e134, b135, b136, h⟩ := h
                      refine HList.vals (v := (.pointer (some (Addr.add a133 (y128.toNat * 3))))) rfl (HVal.indexAddr Tryd.runUnderlying28 Tryd.sizeOf33 (Sl.v_some rfl e134) rfl b135 b136) ?_
                      refine HList.vals (v := (.pointer (some (Addr.add a133 (y128.toNat * 3))))) rfl (HVal.fieldAddr0 Tryd.runUnderlying33 rfl rfl Tryd.sizeOf9 rfl) ?_
                      obtain ⟨x138, c137, h⟩ := h
                      refine HList.vals (v := (.string x138)) rfl (HVal.load1 Tryd.isAgg9 rfl c137) ?_
                      refine HList.ops' rfl (HOp.call' 12 [(.string x138)] (cap := []) rfl rfl Tryd.call12 (walk12 h)) ?_
                      rintro _ H139 ⟨r141, rfl, h⟩
                      refine HList.vals (v := (.int .i64 r141)) rfl (HVal.assign' rfl) ?_
                      refine HList.nil ?_
                      refine nt ?_
                      refine HW.seq ?_
                      refine HW.cut (fun ρ H_11 => ∃ (y150 : Bool), Env.Is ρ [(1, (Sl.v p1)), (9, (Sl.v r111)), (13, (Sl.v (Sl.mk (some ⟨H_9.size, 0, none⟩) ((p1).n : Int).toNat ((p1).n : Int).toNat))), (14, (.int .i64 y127)), (15, (.int .i64 y128)), (16, (.int .i64 r141)), (157, (.bool y150))] ∧ F3_11 Q X10 p1 r111 (Sl.mk (some ⟨H_9.size, 0, none⟩) ((p1).n : Int).toNat ((p1).n : Int).toNat) y127 y128 r141 y150 H_11) ?_ ?_
                      · refine HW.draw mixed [(0, some []), (1, some []), (2, some []), (3, some []), (4, some []), (5, some []), (6, some []), (7, some []), (8, some []), (9, some []), (10, some []), (11, some []), (12, some []), (13, some []), (14, some []), (15, some []), (16, some []), (17, some []), (18, some []), (19, some []), (20, some []), (21, some []), (22, some []), (23, some []), (24, some []), (25, some [])] rfl (by kernel_rfl) (by kernel_rfl) ?_
                        refine HPlan.takev (v := (.int .i64 r141)) rfl rfl (fun _ => HVal.move' rfl) ?_
                        refine HPlan.takev (v := (.bool (decide (r141 < 0)))) rfl rfl (fun _ => HVal.lss rfl rfl) ?_
                        refine HPlan.takev (v := (.bool (decide (r141 < 0)))) rfl rfl (fun _ => HVal.move' rfl) ?_
                        obtain ⟨hT, hF⟩ := h
                        rcases Bool.eq_false_or_eq_true (decide (r141 < 0)) with hb148 | hb149
                        · have h := hT hb148
                          clear hT hF
                          refine HPlan.takegskip rfl rfl rfl rfl (congrArg Value.bool hb148) ?_
                          refine HPlan.takegskip rfl rfl rfl rfl (congrArg Value.bool hb148) ?_
                          refine HPlan.takegskip rfl rfl rfl rfl (congrArg Value.bool hb148) ?_
                          refine HPlan.takegskip rfl rfl rfl rfl (congrArg Value.bool hb148) ?_
                          refine HPlan.takev (v := (.bool true)) rfl rfl (fun _ => HVal.pickT rfl hb148 rfl) ?_
                          refine HPlan.takev (v := (.bool true)) rfl rfl (fun _ => HVal.move' rfl) ?_
                          refine HPlan.takegskip rfl rfl rfl rfl rfl ?_
                          refine HPlan.takegskip rfl rfl rfl rfl rfl ?_
                          refine HPlan.takegskip rfl rfl rfl rfl rfl ?_
                          refine HPlan.takegskip rfl rfl rfl rfl rfl ?_
                          refine HPlan.takev (v := (.bool true)) rfl rfl (fun _ => HVal.pickT rfl rfl rfl) ?_
                          refine HPlan.takev (v := (.bool true)) rfl rfl (fun _ => HVal.move' rfl) ?_
                          refine HPlan.takegskip rfl rfl rfl rfl rfl ?_
                          refine HPlan.takegskip rfl rfl rfl rfl rfl ?_
                          refine HPlan.takegskip rfl rfl rfl rfl rfl ?_
                          refine HPlan.takegskip rfl rfl rfl rfl rfl ?_
                          refine HPlan.takegskip rfl rfl rfl rfl rfl ?_
                          refine HPlan.takegskip rfl rfl rfl rfl rfl ?_
                          refine HPlan.takegskip rfl rfl rfl rfl rfl ?_
                          refine HPlan.takegskip rfl rfl rfl rfl rfl ?_
                          refine HPlan.takegskip rfl rfl rfl rfl rfl ?_
                          refine HPlan.takegskip rfl rfl rfl rfl rfl ?_
                          refine HPlan.takev (v := (.bool true)) rfl rfl (fun _ => HVal.pickT rfl rfl rfl) ?_
                          refine HPlan.done ?_
                          refine nt ?_
                          exact ⟨true, ⟨rfl, rfl, rfl, rfl, rfl, rfl, rfl, trivial⟩, h⟩
                        · have h := hF hb149
                          clear hT hF
                          refine HPlan.gtakev (v := (.int .i64 r141)) rfl rfl rfl rfl rfl (congrArg Value.bool hb149) (fun _ => HVal.move' rfl) ?_
                          refine HPlan.gtakev (v := (Sl.v p1)) rfl rfl rfl rfl rfl (congrArg Value.bool hb149) (fun _ => HVal.move' rfl) ?_
                          refine HPlan.gtakev (v := (.int .i64 ((p1).n : Int))) rfl rfl rfl rfl rfl (congrArg Value.bool hb149) (fun _ => HVal.len Tryd.runUnderlying22 rfl) ?_
                          refine HPlan.gtakev (v := (.bool (decide (((p1).n : Int) ≤ r141)))) rfl rfl rfl rfl rfl (congrArg Value.bool hb149) (fun _ => HVal.geq rfl rfl) ?_
                          refine HPlan.takev (v := (.bool (decide (((p1).n : Int) ≤ r141)))) rfl rfl (fun _ => HVal.pickF rfl hb149 rfl) ?_
                          refine HPlan.takev (v := (.bool (decide (((p1).n : Int) ≤ r141)))) rfl rfl (fun _ => HVal.move' rfl) ?_
                          obtain ⟨hT, hF⟩ := h
                          rcases Bool.eq_false_or_eq_true (decide (((p1).n : Int) ≤ r141)) with hb151 | hb152
                          · have h := hT hb151
                            clear hT hF
                            refine HPlan.takegskip rfl rfl rfl rfl (congrArg Value.bool hb151) ?_
                            refine HPlan.takegskip rfl rfl rfl rfl (congrArg Value.bool hb151) ?_
                            refine HPlan.takegskip rfl rfl rfl rfl (congrArg Value.bool hb151) ?_
                            refine HPlan.takegskip rfl rfl rfl rfl (congrArg Value.bool hb151) ?_
                            refine HPlan.takev (v := (.bool true)) rfl rfl (fun _ => HVal.pickT rfl hb151 rfl) ?_
                            refine HPlan.takev (v := (.bool true)) rfl rfl (fun _ => HVal.move' rfl) ?_
                            refine HPlan.takegskip rfl rfl rfl rfl rfl ?_
                            refine HPlan.takegskip rfl rfl rfl rfl rfl ?_
                            refine HPlan.takegskip rfl rfl rfl rfl rfl ?_
                            refine HPlan.takegskip rfl rfl rfl rfl rfl ?_
                            refine HPlan.takegskip rfl rfl rfl rfl rfl ?_
                            refine HPlan.takegskip rfl rfl rfl rfl rfl ?_
                            refine HPlan.takegskip rfl rfl rfl rfl rfl ?_
                            refine HPlan.takegskip rfl rfl rfl rfl rfl ?_
                            refine HPlan.takegskip rfl rfl rfl rfl rfl ?_
                            refine HPlan.takegskip rfl rfl rfl rfl rfl ?_
                            refine HPlan.takev (v := (.bool true)) rfl rfl (fun _ => HVal.pickT rfl rfl rfl) ?_
                            refine HPlan.done ?_
                            refine nt ?_
                            exact ⟨true, ⟨rfl, rfl, rfl, rfl, rfl, rfl, rfl, trivial⟩, h⟩
                          · have h := hF hb152
                            clear hT hF
                            refine HPlan.gtakev (v := (Sl.v (Sl.mk (some ⟨H_9.size, 0, none⟩) ((p1).n : Int).toNat ((p1).n : Int).toNat))) rfl rfl rfl rfl rfl (congrArg Value.bool hb152) (fun _ => HVal.move' rfl) ?_
                            refine HPlan.gtakev (v := (.int .i64 r141)) rfl rfl rfl rfl rfl (congrArg Value.bool hb152) (fun _ => HVal.move' rfl) ?_
                            obtain ⟨a153, e154, b155, b156, h⟩ := h
                            refine HPlan.gtakev (v := (.pointer (some (Addr.add a153 (r141.toNat * 1))))) rfl rfl rfl rfl rfl (congrArg Value.bool hb152) (fun _ => HVal.indexAddr Tryd.runUnderlying37 Tryd.sizeOf4 (Sl.v_some rfl e154) rfl b155 b156) ?_
                            obtain ⟨x158, c157, h⟩ := h
                            refine HPlan.gtakel (v := (.bool x158)) (fun X => cell X (Addr.add a153 (r141.toNat * 1)) = some (.bool x158)) rfl rfl rfl rfl rfl (congrArg Value.bool hb152) (fun _ hX => HVal.load1 Tryd.isAgg4 rfl hX) c157 ?_
                            refine HPlan.takev (v := (.bool x158)) rfl rfl (fun _ => HVal.pickF rfl hb152 rfl) ?_
                            refine HPlan.takev (v := (.bool x158)) rfl rfl (fun _ => HVal.move' rfl) ?_
                            obtain ⟨hT, hF⟩ := h
                            rcases Bool.eq_false_or_eq_true x158 with hb159 | hb160
                            · have h := hT hb159
                              clear hT hF
                              refine HPlan.takegskip rfl rfl rfl rfl (congrArg Value.bool hb159) ?_
                              refine HPlan.takegskip rfl rfl rfl rfl (congrArg Value.bool hb159) ?_
                              refine HPlan.takegskip rfl rfl rfl rfl (congrArg Value.bool hb159) ?_
                              refine HPlan.takegskip rfl rfl rfl rfl (congrArg Value.bool hb159) ?_
                              refine HPlan.takegskip rfl rfl rfl rfl (congrArg Value.bool hb159) ?_
                              refine HPlan.takegskip rfl rfl rfl rfl (congrArg Value.bool hb159) ?_
                              refine HPlan.takegskip rfl rfl rfl rfl (congrArg Value.bool hb159) ?_
                              refine HPlan.takegskip rfl rfl rfl rfl (congrArg Value.bool hb159) ?_
                              refine HPlan.takegskip rfl rfl rfl rfl (congrArg Value.bool hb159) ?_
                              refine HPlan.takegskip rfl rfl rfl rfl (congrArg Value.bool hb159) ?_
                              refine HPlan.takev (v := (.bool true)) rfl rfl (fun _ => HVal.pickT rfl hb159 rfl) ?_
                              refine HPlan.done ?_
                              refine nt ?_
                              exact ⟨true, ⟨rfl, rfl, rfl, rfl, rfl, rfl, rfl, trivial⟩, h⟩
                            · have h := hF hb160
                              clear hT hF
                              refine HPlan.gtakev (v := (Sl.v r111)) rfl rfl rfl rfl rfl (congrArg Value.bool hb160) (fun _ => HVal.move' rfl) ?_
                              refine HPlan.gtakev (v := (.int .i64 y128)) rfl rfl rfl rfl rfl (congrArg Value.bool hb160) (fun _ => HVal.move' rfl) ?_
                              obtain ⟨a161, e162, b163, b164, h⟩ := h
                              refine HPlan.gtakev (v := (.pointer (some (Addr.add a161 (y128.toNat * 3))))) rfl rfl rfl rfl rfl (congrArg Value.bool hb160) (fun _ => HVal.indexAddr Tryd.runUnderlying28 Tryd.sizeOf33 (Sl.v_some rfl e162) rfl b163 b164) ?_
                              refine HPlan.gtakev (v := (.pointer (some (Addr.add (Addr.add a161 (y128.toNat * 3)) 1)))) rfl rfl rfl rfl rfl (congrArg Value.bool hb160) (fun _ => HVal.fieldAddr' Tryd.runUnderlying33 rfl rfl Tryd.sizeOf2 rfl) ?_
                              obtain ⟨x166, c165, h⟩ := h
                              refine HPlan.gtakel (v := (.int .i64 x166)) (fun X => cell X (Addr.add (Addr.add a161 (y128.toNat * 3)) 1) = some (.int .i64 x166)) rfl rfl rfl rfl rfl (congrArg Value.bool hb160) (fun _ hX => HVal.load1 Tryd.isAgg2 rfl hX) c165 ?_
                              refine HPlan.gtakev (v := (Sl.v p1)) rfl rfl rfl rfl rfl (congrArg Value.bool hb160) (fun _ => HVal.move' rfl) ?_
                              refine HPlan.gtakev (v := (.int .i64 r141)) rfl rfl rfl rfl rfl (congrArg Value.bool hb160) (fun _ => HVal.move' rfl) ?_
                              obtain ⟨a167, e168, b169, b170, h⟩ := h
                              refine HPlan.gtakev (v := (.pointer (some (Addr.add a167 (r141.toNat * 1))))) rfl rfl rfl rfl rfl (congrArg Value.bool hb160) (fun _ => HVal.indexAddr Tryd.runUnderlying22 Tryd.sizeOf2 (Sl.v_some rfl e168) rfl b169 b170) ?_
                              obtain ⟨x172, c171, h⟩ := h
                              refine HPlan.gtakel (v := (.int .i64 x172)) (fun X => cell X (Addr.add a167 (r141.toNat * 1)) = some (.int .i64 x172)) rfl rfl rfl rfl rfl (congrArg Value.bool hb160) (fun _ hX => HVal.load1 Tryd.isAgg2 rfl hX) c171 ?_
                              refine HPlan.gtakev (v := (.bool (decide (x166 ≠ x172)))) rfl rfl rfl rfl rfl (congrArg Value.bool hb160) (fun _ => HVal.neqI rfl rfl) ?_
                              refine HPlan.takev (v := (.bool (decide (x166 ≠ x172)))) rfl rfl (fun _ => HVal.pickF rfl hb160 rfl) ?_
                              refine HPlan.done ?_
                              refine nt ?_
                              exact ⟨(decide (x166 ≠ x172)), ⟨rfl, rfl, rfl, rfl, rfl, rfl, rfl, trivial⟩, h⟩
                      · rintro ρ H_11 ⟨y150, hI, h⟩
                        obtain ⟨ρ0, rfl⟩ : ∃ ρ0, ρ = (Env.set (Env.set (Env.set (Env.set (Env.set (Env.set (Env.set ρ0 157 (.bool y150)) 16 (.int .i64 r141)) 15 (.int .i64 y128)) 14 (.int .i64 y127)) 13 (Sl.v (Sl.mk (some ⟨H_9.size, 0, none⟩) ((p1).n : Int).toNat ((p1).n : Int).toNat))) 9 (Sl.v r111)) 1 (Sl.v p1)) := ⟨ρ, hI.eq⟩
                        clear hI; unfold F3_11 at h
                        obtain ⟨hT, hF⟩ := h
                        refine HW.cond y150 rfl (fun hb173 => ?_) (fun hb173 => ?_)
                        · have h := hT hb173
                          clear hT hF
                          refine HW.seq ?_
                          refine HW.region ?_
                          refine HList.vals (v := (.bool false)) rfl (HVal.assign' rfl) ?_
                          refine HList.nil ?_
                          refine nt ?_
                          refine HW.ret ?_
                          refine tr ?_
                          refine br ?_
                          refine tr ?_
                          refine tr ?_
                          refine br ?_
                          refine tr ?_
                          exact ⟨_, resOf1 rfl Res1.t, ⟨false, rfl, h⟩⟩
                        · have h := hF hb173
                          clear hT hF
                          refine HW.skip ?_
                          refine nt ?_
                          refine HW.seq ?_
                          refine HW.cut (fun ρ H_12 => ∃ (y195 : Bool), Env.Is ρ [(1, (Sl.v p1)), (9, (Sl.v r111)), (13, (Sl.v (Sl.mk (some ⟨H_9.size, 0, none⟩) ((p1).n : Int).toNat ((p1).n : Int).toNat))), (15, (.int .i64 y128)), (16, (.int .i64 r141)), (186, (.bool y195))] ∧ F3_12 Q X10 p1 r111 (Sl.mk (some ⟨H_9.size, 0, none⟩) ((p1).n : Int).toNat ((p1).n : Int).toNat) y128 r141 y195 H_12) ?_ ?_
                          · refine HW.draw mixed [(0, some []), (1, some []), (2, some []), (3, some []), (4, some []), (5, some []), (6, some []), (7, some []), (8, some []), (9, some []), (10, some []), (11, some []), (12, some []), (13, some []), (14, some []), (15, some []), (16, some []), (17, some []), (18, some []), (19, some []), (20, some []), (21, some []), (22, some []), (23, some []), (24, some []), (25, some []), (26, some []), (27, some []), (28, some [])] rfl (by kernel_rfl) (by kernel_rfl) ?_
                            refine HPlan.takev (v := (.int .i64 y127)) rfl rfl (fun _ => HVal.move' rfl) ?_
                            refine HPlan.takev (v := (.bool (decide ((0 : Int) ≤ y127)))) rfl rfl (fun _ => HVal.geq rfl rfl) ?_
                            refine HPlan.takev (v := (.bool (decide ((0 : Int) ≤ y127)))) rfl rfl (fun _ => HVal.move' rfl) ?_
                            obtain ⟨hT, hF⟩ := h
                            rcases Bool.eq_false_or_eq_true (decide ((0 : Int) ≤ y127)) with hb179 | hb180
                            · have h := hT hb179
                              clear hT hF
                              refine HPlan.gtakev (v := (Sl.v p1)) rfl rfl rfl rfl rfl (congrArg Value.bool hb179) (fun _ => HVal.move' rfl) ?_
                              refine HPlan.gtakev (v := (.int .i64 r141)) rfl rfl rfl rfl rfl (congrArg Value.bool hb179) (fun _ => HVal.move' rfl) ?_
                              obtain ⟨a181, e182, b183, b184, h⟩ := h
                              refine HPlan.gtakev (v := (.pointer (some (Addr.add a181 (r141.toNat * 1))))) rfl rfl rfl rfl rfl (congrArg Value.bool hb179) (fun _ => HVal.indexAddr Tryd.runUnderlying22 Tryd.sizeOf2 (Sl.v_some rfl e182) rfl b183 b184) ?_
                              obtain ⟨x186, c185, h⟩ := h
                              refine HPlan.gtakel (v := (.int .i64 x186)) (fun X => cell X (Addr.add a181 (r141.toNat * 1)) = some (.int .i64 x186)) rfl rfl rfl rfl rfl (congrArg Value.bool hb179) (fun _ hX => HVal.load1 Tryd.isAgg2 rfl hX) c185 ?_
                              refine HPlan.gtakev (v := (Sl.v p1)) rfl rfl rfl rfl rfl (congrArg Value.bool hb179) (fun _ => HVal.move' rfl) ?_
                              refine HPlan.gtakev (v := (.int .i64 y127)) rfl rfl rfl rfl rfl (congrArg Value.bool hb179) (fun _ => HVal.move' rfl) ?_
                              obtain ⟨a187, e188, b189, b190, h⟩ := h
                              refine HPlan.gtakev (v := (.pointer (some (Addr.add a187 (y127.toNat * 1))))) rfl rfl rfl rfl rfl (congrArg Value.bool hb179) (fun _ => HVal.indexAddr Tryd.runUnderlying22 Tryd.sizeOf2 (Sl.v_some rfl e188) rfl b189 b190) ?_
                              obtain ⟨x192, c191, h⟩ := h
                              refine HPlan.gtakel (v := (.int .i64 x192)) (fun X => cell X (Addr.add a187 (y127.toNat * 1)) = some (.int .i64 x192)) rfl rfl rfl rfl rfl (congrArg Value.bool hb179) (fun _ hX => HVal.load1 Tryd.isAgg2 rfl hX) c191 ?_
                              refine HPlan.gtakev (v := (.bool (decide (x186 < x192)))) rfl rfl rfl rfl rfl (congrArg Value.bool hb179) (fun _ => HVal.lss rfl rfl) ?_
                              refine HPlan.gtakev (v := (.bool (decide (x186 < x192)))) rfl rfl rfl rfl rfl (congrArg Value.bool hb179) (fun _ => HVal.move' rfl) ?_
                              obtain ⟨hT, hF⟩ := h
                              rcases Bool.eq_false_or_eq_true (decide (x186 < x192)) with hb193 | hb194
                              · have h := hT hb193
                                clear hT hF
                                refine HPlan.takegskip rfl rfl rfl rfl (congrArg Value.bool hb193) ?_
                                refine HPlan.takegskip rfl rfl rfl rfl (congrArg Value.bool hb193) ?_
                                refine HPlan.takegskip rfl rfl rfl rfl (congrArg Value.bool hb193) ?_
                                refine HPlan.takegskip rfl rfl rfl rfl (congrArg Value.bool hb193) ?_
                                refine HPlan.takegskip rfl rfl rfl rfl (congrArg Value.bool hb193) ?_
                                refine HPlan.takegskip rfl rfl rfl rfl (congrArg Value.bool hb193) ?_
                                refine HPlan.takegskip rfl rfl rfl rfl (congrArg Value.bool hb193) ?_
                                refine HPlan.takegskip rfl rfl rfl rfl (congrArg Value.bool hb193) ?_
                                refine HPlan.takegskip rfl rfl rfl rfl (congrArg Value.bool hb193) ?_
                                refine HPlan.takegskip rfl rfl rfl rfl (congrArg Value.bool hb193) ?_
                                refine HPlan.takeuskip rfl rfl rfl rfl rfl ?_
                                refine HPlan.takeuskip rfl rfl rfl rfl rfl ?_
                                refine HPlan.takeuskip rfl rfl rfl rfl rfl ?_
                                refine HPlan.takegskip rfl rfl rfl rfl (congrArg Value.bool hb193) ?_
                                refine HPlan.gtakev (v := (.bool true)) rfl rfl rfl rfl rfl (congrArg Value.bool hb179) (fun _ => HVal.pickT rfl hb193 rfl) ?_
                                refine HPlan.takev (v := (.bool true)) rfl rfl (fun _ => HVal.pickT rfl hb179 rfl) ?_
                                refine HPlan.done ?_
                                refine nt ?_
                                exact ⟨true, ⟨rfl, rfl, rfl, rfl, rfl, rfl, trivial⟩, h⟩
                              · have h := hF hb194
                                clear hT hF
                                refine HPlan.gtakev (v := (Sl.v p1)) rfl rfl rfl rfl rfl (congrArg Value.bool hb194) (fun _ => HVal.move' rfl) ?_
                                refine HPlan.gtakev (v := (.int .i64 r141)) rfl rfl rfl rfl rfl (congrArg Value.bool hb194) (fun _ => HVal.move' rfl) ?_
                                obtain ⟨a196, e197, b198, b199, h⟩ := h
                                refine HPlan.gtakev (v := (.pointer (some (Addr.add a196 (r141.toNat * 1))))) rfl rfl rfl rfl rfl (congrArg Value.bool hb194) (fun _ => HVal.indexAddr Tryd.runUnderlying22 Tryd.sizeOf2 (Sl.v_some rfl e197) rfl b198 b199) ?_
                                obtain ⟨x201, c200, h⟩ := h
                                refine HPlan.gtakel (v := (.int .i64 x201)) (fun X => cell X (Addr.add a196 (r141.toNat * 1)) = some (.int .i64 x201)) rfl rfl rfl rfl rfl (congrArg Value.bool hb194) (fun _ hX => HVal.load1 Tryd.isAgg2 rfl hX) c200 ?_
                                refine HPlan.gtakev (v := (Sl.v p1)) rfl rfl rfl rfl rfl (congrArg Value.bool hb194) (fun _ => HVal.move' rfl) ?_
                                refine HPlan.gtakev (v := (.int .i64 y127)) rfl rfl rfl rfl rfl (congrArg Value.bool hb194) (fun _ => HVal.move' rfl) ?_
                                obtain ⟨a202, e203, b204, b205, h⟩ := h
                                refine HPlan.gtakev (v := (.pointer (some (Addr.add a202 (y127.toNat * 1))))) rfl rfl rfl rfl rfl (congrArg Value.bool hb194) (fun _ => HVal.indexAddr Tryd.runUnderlying22 Tryd.sizeOf2 (Sl.v_some rfl e203) rfl b204 b205) ?_
                                obtain ⟨x207, c206, h⟩ := h
                                refine HPlan.gtakel (v := (.int .i64 x207)) (fun X => cell X (Addr.add a202 (y127.toNat * 1)) = some (.int .i64 x207)) rfl rfl rfl rfl rfl (congrArg Value.bool hb194) (fun _ hX => HVal.load1 Tryd.isAgg2 rfl hX) c206 ?_
                                refine HPlan.gtakev (v := (.bool (decide (x201 = x207)))) rfl rfl rfl rfl rfl (congrArg Value.bool hb194) (fun _ => HVal.eqlI rfl rfl) ?_
                                refine HPlan.gtakev (v := (.bool (decide (x201 = x207)))) rfl rfl rfl rfl rfl (congrArg Value.bool hb194) (fun _ => HVal.move' rfl) ?_
                                obtain ⟨hT, hF⟩ := h
                                rcases Bool.eq_false_or_eq_true (decide (x201 = x207)) with hb208 | hb209
                                · have h := hT hb208
                                  clear hT hF
                                  refine HPlan.gtakev (v := (.int .i64 r141)) rfl rfl rfl rfl rfl (congrArg Value.bool hb208) (fun _ => HVal.move' rfl) ?_
                                  refine HPlan.gtakev (v := (.int .i64 y127)) rfl rfl rfl rfl rfl (congrArg Value.bool hb208) (fun _ => HVal.move' rfl) ?_
                                  refine HPlan.gtakev (v := (.bool (decide (r141 < y127)))) rfl rfl rfl rfl rfl (congrArg Value.bool hb208) (fun _ => HVal.lss rfl rfl) ?_
                                  refine HPlan.gtakev (v := (.bool (decide (r141 < y127)))) rfl rfl rfl rfl rfl (congrArg Value.bool hb194) (fun _ => HVal.pickT rfl hb208 rfl) ?_
                                  refine HPlan.gtakev (v := (.bool (decide (r141 < y127)))) rfl rfl rfl rfl rfl (congrArg Value.bool hb179) (fun _ => HVal.pickF rfl hb194 rfl) ?_
                                  refine HPlan.takev (v := (.bool (decide (r141 < y127)))) rfl rfl (fun _ => HVal.pickT rfl hb179 rfl) ?_
                                  refine HPlan.done ?_
                                  refine nt ?_
                                  exact ⟨(decide (r141 < y127)), ⟨rfl, rfl, rfl, rfl, rfl, rfl, trivial⟩, h⟩
                                · have h := hF hb209
                                  clear hT hF
                                  refine HPlan.takegskip rfl rfl rfl rfl (congrArg Value.bool hb209) ?_
                                  refine HPlan.takegskip rfl rfl rfl rfl (congrArg Value.bool hb209) ?_
                                  refine HPlan.takegskip rfl rfl rfl rfl (congrArg Value.bool hb209) ?_
                                  refine HPlan.gtakev (v := (.bool false)) rfl rfl rfl rfl rfl (congrArg Value.bool hb194) (fun _ => HVal.pickF rfl hb209 rfl) ?_
                                  refine HPlan.gtakev (v := (.bool false)) rfl rfl rfl rfl rfl (congrArg Value.bool hb179) (fun _ => HVal.pickF rfl hb194 rfl) ?_
                                  refine HPlan.takev (v := (.bool false)) rfl rfl (fun _ => HVal.pickT rfl hb179 rfl) ?_
                                  refine HPlan.done ?_
                                  refine nt ?_
                                  exact ⟨false, ⟨rfl, rfl, rfl, rfl, rfl, rfl, trivial⟩, h⟩
                            · have h := hF hb180
                              clear hT hF
                              refine HPlan.takegskip rfl rfl rfl rfl (congrArg Value.bool hb180) ?_
                              refine HPlan.takegskip rfl rfl rfl rfl (congrArg Value.bool hb180) ?_
                              refine HPlan.takegskip rfl rfl rfl rfl (congrArg Value.bool hb180) ?_
                              refine HPlan.takegskip rfl rfl rfl rfl (congrArg Value.bool hb180) ?_
                              refine HPlan.takegskip rfl rfl rfl rfl (congrArg Value.bool hb180) ?_
                              refine HPlan.takegskip rfl rfl rfl rfl (congrArg Value.bool hb180) ?_
                              refine HPlan.takegskip rfl rfl rfl rfl (congrArg Value.bool hb180) ?_
                              refine HPlan.takegskip rfl rfl rfl rfl (congrArg Value.bool hb180) ?_
                              refine HPlan.takegskip rfl rfl rfl rfl (congrArg Value.bool hb180) ?_
                              refine HPlan.takegskip rfl rfl rfl rfl (congrArg Value.bool hb180) ?_
                              refine HPlan.takeuskip rfl rfl rfl rfl rfl ?_
                              refine HPlan.takeuskip rfl rfl rfl rfl rfl ?_
                              refine HPlan.takeuskip rfl rfl rfl rfl rfl ?_
                              refine HPlan.takeuskip rfl rfl rfl rfl rfl ?_
                              refine HPlan.takeuskip rfl rfl rfl rfl rfl ?_
                              refine HPlan.takeuskip rfl rfl rfl rfl rfl ?_
                              refine HPlan.takeuskip rfl rfl rfl rfl rfl ?_
                              refine HPlan.takeuskip rfl rfl rfl rfl rfl ?_
                              refine HPlan.takeuskip rfl rfl rfl rfl rfl ?_
                              refine HPlan.takeuskip rfl rfl rfl rfl rfl ?_
                              refine HPlan.takeuskip rfl rfl rfl rfl rfl ?_
                              refine HPlan.takeuskip rfl rfl rfl rfl rfl ?_
                              refine HPlan.takeuskip rfl rfl rfl rfl rfl ?_
                              refine HPlan.takeuskip rfl rfl rfl rfl rfl ?_
                              refine HPlan.takegskip rfl rfl rfl rfl (congrArg Value.bool hb180) ?_
                              refine HPlan.takev (v := (.bool false)) rfl rfl (fun _ => HVal.pickF rfl hb180 rfl) ?_
                              refine HPlan.done ?_
                              refine nt ?_
                              exact ⟨false, ⟨rfl, rfl, rfl, rfl, rfl, rfl, trivial⟩, h⟩
                          · rintro ρ H_12 ⟨y195, hI, h⟩
                            obtain ⟨ρ0, rfl⟩ : ∃ ρ0, ρ = (Env.set (Env.set (Env.set (Env.set (Env.set (Env.set ρ0 186 (.bool y195)) 16 (.int .i64 r141)) 15 (.int .i64 y128)) 13 (Sl.v (Sl.mk (some ⟨H_9.size, 0, none⟩) ((p1).n : Int).toNat ((p1).n : Int).toNat))) 9 (Sl.v r111)) 1 (Sl.v p1)) := ⟨ρ, hI.eq⟩
                            clear hI; unfold F3_12 at h
                            obtain ⟨hT, hF⟩ := h
                            refine HW.cond y195 rfl (fun hb210 => ?_) (fun hb210 => ?_)
                            · have h := hT hb210
                              clear hT hF
                              refine HW.seq ?_
                              refine HW.region ?_
                              refine HList.vals (v := (.bool false)) rfl (HVal.assign' rfl) ?_
                              refine HList.nil ?_
                              refine nt ?_
                              refine HW.ret ?_
                              refine tr ?_
                              refine br ?_
                              refine tr ?_
                              refine tr ?_
                              refine br ?_
                              refine tr ?_
                              exact ⟨_, resOf1 rfl Res1.t, ⟨false, rfl, h⟩⟩
                            · have h := hF hb210
                              clear hT hF
                              refine HW.skip ?_
                              refine nt ?_
                              refine HW.seq ?_
                              refine HW.region ?_
                              refine HList.vals (v := (Sl.v (Sl.mk (some ⟨H_9.size, 0, none⟩) ((p1).n : Int).toNat ((p1).n : Int).toNat))) rfl (HVal.move' rfl) ?_
                              refine HList.vals (v := (.int .i64 r141)) rfl (HVal.move' rfl) ?_
                              obtain ⟨a211, e212, b213, b214, h⟩ := h
                              refine HList.vals (v := (.pointer (some (Addr.add a211 (r141.toNat * 1))))) rfl (HVal.indexAddr Tryd.runUnderlying37 Tryd.sizeOf4 (Sl.v_some rfl e212) rfl b213 b214) ?_
                              obtain ⟨z217, z218, h⟩ := h
                              refine HList.opsn (HOp.store1 Tryd.sizeOf4 rfl rfl rfl z217 z218) ?_
                              rintro _ H215 e216
                              replace h := h H215 e216
                              refine HList.nil ?_
                              refine nt ?_
                              refine HW.region ?_
                              refine HList.vals (v := (.int .i64 r141)) rfl (HVal.move' rfl) ?_
                              refine HList.vals (v := (.int .i64 r141)) rfl (HVal.assign' rfl) ?_
                              refine HList.nil ?_
                              refine nb ?_
                              refine nt ?_
                              refine HW.region ?_
                              refine HList.vals (v := (.int .i64 y128)) rfl (HVal.move' rfl) ?_
                              refine HList.vals (v := (.int .i64 (IntKind.i64.wrap (y128 + 1)))) rfl (HVal.add rfl rfl) ?_
                              refine HList.vals (v := (.int .i64 (IntKind.i64.wrap (y128 + 1)))) rfl (HVal.assign' rfl) ?_
                              refine HList.nil ?_
                              refine nt ?_
                              exact (hX10 _ _ _).1 h _ ⟨rfl, rfl, rfl, rfl, rfl, trivial⟩
                    · have h := hF hb132
                      clear hT hF
                      refine HW.exit ?_
                      refine te ?_
                      refine te ?_
                      refine be ?_
                      refine nt ?_
                      refine HW.seq ?_
                      refine HW.region ?_
                      refine HList.vals (v := (.bool true)) rfl (HVal.assign' rfl) ?_
                      refine HList.nil ?_
                      refine nt ?_
                      refine HW.ret ?_
                      exact ⟨_, resOf1 rfl Res1.t, ⟨true, rfl, h⟩⟩

def F28_2 (Q : Int → Hp → Prop) (X1 : Int → Hp → Prop) (y9 : (Option Addr)) (y10 : Int) (y11 : Int) (y34 : Bool) (H_2 : Hp) : Prop :=
(y34 = true → (Q y11 H_2)) ∧
 (y34 = false → (X1 (IntKind.i64.wrap (y11 + 1)) H_2))
def F28_L1b (Q : Int → Hp → Prop) (X1 : Int → Hp → Prop) (y2 : (Option Addr)) (y3 : Int) (y1 : Int) (H_1 : Hp) : Prop :=
∃ a4 : Addr, y2 = some a4 ∧ (
 ∃ x7 : Sl, cell H_1 a4 = some (Sl.v x7) ∧ (
 ((decide (y1 < ((x7).n : Int))) = true → (∃ a12 : Addr, y2 = some a12 ∧ (
 ∃ x15 : Sl, cell H_1 a12 = some (Sl.v x15) ∧ (
 ∃ a16 : Addr, (x15).b = some a16 ∧ (0 : Int) ≤ y1 ∧ y1 < ((x15).n : Int) ∧ (
 ∃ x21 : Int, cell H_1 (Addr.add a16 (y1.toNat * 3)) = some (.int .i64 x21) ∧ (
 ((decide (x21 = y3)) = true → (∃ a24 : Addr, y2 = some a24 ∧ (
 ∃ x27 : Sl, cell H_1 a24 = some (Sl.v x27) ∧ (
 ∃ a28 : Addr, (x27).b = some a28 ∧ (0 : Int) ≤ y1 ∧ y1 < ((x27).n : Int) ∧ (
 ∃ x33 : Bool, cell H_1 (Addr.add (Addr.add a28 (y1.toNat * 3)) 2) = some (.bool x33) ∧ (
 F28_2 Q X1 y2 y3 y1 (!x33) H_1)))))) ∧
 ((decide (x21 = y3)) = false → (F28_2 Q X1 y2 y3 y1 false H_1)))))))) ∧
 ((decide (y1 < ((x7).n : Int))) = false → (Q (-1) H_1))))
def F28_L1 (Q : Int → Hp → Prop) (y2 : (Option Addr)) (y3 : Int) (y1 : Int) (H_1 : Hp) : Prop :=
  ∀ X1 : Int → Hp → Prop, (∀ (y1 : Int) (H_1 : Hp), F28_L1b Q X1 y2 y3 y1 H_1 → X1 y1 H_1) → X1 y1 H_1
def F28 (p0 : (Option Addr)) (p1 : Int) (H : Hp) (Q : Int → Hp → Prop) : Prop :=
F28_L1 Q p0 p1 0 H
set_option maxRecDepth 100000 in
set_option maxHeartbeats 4000000 in
theorem walk28 {w0 : World} {p0 : (Option Addr)} {p1 : Int} {H : Hp} {Q : Int → Hp → Prop} (h : F28 p0 p1 H Q) :
    Good Tryd.prog w0 28 #[(.pointer p0), (.int .i64 p1)] H (fun v H => ∃ (r0 : Int) , v = (.int .i64 r0) ∧ Q r0 H) := by
  unfold F28 at h
  refine Good.enter' (fn := Tryd.f28) Tryd.func28 rfl rfl rfl ?_
  refine HW.seq ?_
  refine HW.region ?_
  refine HList.vals (v := (.int .i64 0)) rfl (HVal.assign' rfl) ?_
  refine HList.nil ?_
  refine nt ?_
  refine HW.seq ?_
  refine HW.seq ?_
  refine HW.region ?_
  refine HList.vals (v := (.int .i64 0)) rfl (HVal.assign' rfl) ?_
  refine HList.nil ?_
  refine nt ?_
  refine HW.block ?_
  refine HW.loop' (fun L1 hL1 => ?_)
  obtain ⟨X1, hX1⟩ : ∃ X1 : Int → Hp → Prop, ∀ (y1 : Int) (H_1 : Hp), X1 y1 H_1 ↔ ∀ ρ, Env.Is ρ [(0, (.pointer p0)), (1, (.int .i64 p1)), (5, (.int .i64 y1))] → L1 ρ H_1 := ⟨_, fun _ _ => Iff.rfl⟩
  refine (hX1 _ _).1 (h X1 ?_) _ ?_
  rotate_left
  · exact ⟨rfl, rfl, rfl, trivial⟩
  clear h
  intro y1 H_1 h
  refine (hX1 _ _).2 fun ρ hI => ?_
  obtain ⟨ρ0, rfl⟩ : ∃ ρ0, ρ = (Env.set (Env.set (Env.set ρ0 5 (.int .i64 y1)) 1 (.int .i64 p1)) 0 (.pointer p0)) := ⟨ρ, hI.eq⟩
  clear hI; unfold F28_L1b at h; refine hL1 _ _ ?_
  refine HW.seq ?_
  refine HW.seq ?_
  refine HW.region ?_
  refine HList.vals (v := (.int .i64 y1)) rfl (HVal.move' rfl) ?_
  refine HList.vals (v := (.pointer p0)) rfl (HVal.move' rfl) ?_
  obtain ⟨a4, e5, h⟩ := h
  refine HList.vals (v := (.pointer (some a4))) rfl (HVal.nilCheck (congrArg Value.pointer e5)) ?_
  refine HList.vals (v := (.pointer (some a4))) rfl (HVal.fieldAddr0 Tryd.runUnderlying46 rfl rfl Tryd.sizeOf42 rfl) ?_
  obtain ⟨x7, c6, h⟩ := h
  refine HList.vals (v := (Sl.v x7)) rfl (HVal.load1 Tryd.isAgg42 rfl c6) ?_
  refine HList.vals (v := (.int .i64 ((x7).n : Int))) rfl (HVal.len Tryd.runUnderlying42 rfl) ?_
  refine HList.vals (v := (.bool (decide (y1 < ((x7).n : Int))))) rfl (HVal.lss rfl rfl) ?_
  refine HList.nil ?_
  refine nt ?_
  obtain ⟨hT, hF⟩ := h
  refine HW.cond (decide (y1 < ((x7).n : Int))) rfl (fun hb8 => ?_) (fun hb8 => ?_)
  · have h := hT hb8
    clear hT hF
    refine HW.skip ?_
    refine nt ?_
    refine HW.seq ?_
    refine HW.block ?_
    refine HW.cut (fun ρ H_2 => ∃ (y34 : Bool), Env.Is ρ [(0, (.pointer p0)), (1, (.int .i64 p1)), (5, (.int .i64 y1)), (35, (.bool y34))] ∧ F28_2 Q X1 p0 p1 y1 y34 H_2) ?_ ?_
    · refine HW.region ?_
      refine HList.vals (v := (.pointer p0)) rfl (HVal.move' rfl) ?_
      obtain ⟨a12, e13, h⟩ := h
      refine HList.vals (v := (.pointer (some a12))) rfl (HVal.nilCheck (congrArg Value.pointer e13)) ?_
      refine HList.vals (v := (.pointer (some a12))) rfl (HVal.fieldAddr0 Tryd.runUnderlying46 rfl rfl Tryd.sizeOf42 rfl) ?_
      obtain ⟨x15, c14, h⟩ := h
      refine HList.vals (v := (Sl.v x15)) rfl (HVal.load1 Tryd.isAgg42 rfl c14) ?_
      refine HList.vals (v := (.int .i64 y1)) rfl (HVal.move' rfl) ?_
      obtain ⟨a16, e17, b18, b19, h⟩ := h
      refine HList.vals (v := (.pointer (some (Addr.add a16 (y1.toNat * 3))))) rfl (HVal.indexAddr Tryd.runUnderlying42 Tryd.sizeOf44 (Sl.v_some rfl e17) rfl b18 b19) ?_
      refine HList.vals (v := (.pointer (some (Addr.add a16 (y1.toNat * 3))))) rfl (HVal.fieldAddr0 Tryd.runUnderlying44 rfl rfl Tryd.sizeOf3 rfl) ?_
      obtain ⟨x21, c20, h⟩ := h
      refine HList.vals (v := (.int .i64 x21)) rfl (HVal.load1 Tryd.isAgg3 rfl c20) ?_
      refine HList.vals (v := (.int .i64 p1)) rfl (HVal.move' rfl) ?_
      refine HList.vals (v := (.bool (decide (x21 = p1)))) rfl (HVal.eqlI rfl rfl) ?_
      refine HList.vals (v := (.bool (decide (x21 = p1)))) rfl (HVal.move' rfl) ?_
      obtain ⟨hT, hF⟩ := h
      rcases Bool.eq_false_or_eq_true (decide (x21 = p1)) with hb22 | hb23
      · have h := hT hb22
        clear hT hF
        refine HList.gvals (v := (.pointer p0)) rfl rfl rfl rfl (congrArg Value.bool hb22) (HVal.move' rfl) ?_
        obtain ⟨a24, e25, h⟩ := h
        refine HList.gvals (v := (.pointer (some a24))) rfl rfl rfl rfl (congrArg Value.bool hb22) (HVal.nilCheck (congrArg Value.pointer e25)) ?_
        refine HList.gvals (v := (.pointer (some a24))) rfl rfl rfl rfl (congrArg Value.bool hb22) (HVal.fieldAddr0 Tryd.runUnderlying46 rfl rfl Tryd.sizeOf42 rfl) ?_
        obtain ⟨x27, c26, h⟩ := h
        refine HList.gvals (v := (Sl.v x27)) rfl rfl rfl rfl (congrArg Value.bool hb22) (HVal.load1 Tryd.isAgg42 rfl c26) ?_
        refine HList.gvals (v := (.int .i64 y1)) rfl rfl rfl rfl (congrArg Value.bool hb22) (HVal.move' rfl) ?_
        obtain ⟨a28, e29, b30, b31, h⟩ := h
        refine HList.gvals (v := (.pointer (some (Addr.add a28 (y1.toNat * 3))))) rfl rfl rfl rfl (congrArg Value.bool hb22) (HVal.indexAddr Tryd.runUnderlying42 Tryd.sizeOf44 (Sl.v_some rfl e29) rfl b30 b31) ?_
        refine HList.gvals (v := (.pointer (some (Addr.add (Addr.add a28 (y1.toNat * 3)) 2)))) rfl rfl rfl rfl (congrArg Value.bool hb22) (HVal.fieldAddr' Tryd.runUnderlying44 rfl rfl Tryd.sizeOf4 rfl) ?_
        obtain ⟨x33, c32, h⟩ := h
        refine HList.gvals (v := (.bool x33)) rfl rfl rfl rfl (congrArg Value.bool hb22) (HVal.load1 Tryd.isAgg4 rfl c32) ?_
        refine HList.gvals (v := (.bool (!x33))) rfl rfl rfl rfl (congrArg Value.bool hb22) (HVal.not rfl) ?_
        refine HList.vals (v := (.bool (!x33))) rfl (HVal.pickT rfl hb22 rfl) ?_
        refine HList.nil ?_
        refine nt ?_
        exact ⟨(!x33), ⟨rfl, rfl, rfl, rfl, trivial⟩, h⟩
      · have h := hF hb23
        clear hT hF
        refine HList.gskips rfl rfl rfl rfl (congrArg Value.bool hb23) ?_
        refine HList.gskips rfl rfl rfl rfl (congrArg Value.bool hb23) ?_
        refine HList.gskips rfl rfl rfl rfl (congrArg Value.bool hb23) ?_
        refine HList.gskips rfl rfl rfl rfl (congrArg Value.bool hb23) ?_
        refine HList.gskips rfl rfl rfl rfl (congrArg Value.bool hb23) ?_
        refine HList.gskips rfl rfl rfl rfl (congrArg Value.bool hb23) ?_
        refine HList.gskips rfl rfl rfl rfl (congrArg Value.bool hb23) ?_
        refine HList.gskips rfl rfl rfl rfl (congrArg Value.bool hb23) ?_
        refine HList.gskips rfl rfl rfl rfl (congrArg Value.bool hb23) ?_
        refine HList.vals (v := (.bool false)) rfl (HVal.pickF rfl hb23 rfl) ?_
        refine HList.nil ?_
        refine nt ?_
        exact ⟨false, ⟨rfl, rfl, rfl, rfl, trivial⟩, h⟩
    · rintro ρ H_2 ⟨y34, hI, h⟩
      obtain ⟨ρ0, rfl⟩ : ∃ ρ0, ρ = (Env.set (Env.set (Env.set (Env.set ρ0 35 (.bool y34)) 5 (.int .i64 y1)) 1 (.int .i64 p1)) 0 (.pointer p0)) := ⟨ρ, hI.eq⟩
      clear hI; unfold F28_2 at h
      obtain ⟨hT, hF⟩ := h
      refine HW.cond y34 rfl (fun hb35 => ?_) (fun hb35 => ?_)
      · have h := hT hb35
        clear hT hF
        refine HW.seq ?_
        refine HW.region ?_
        refine HList.vals (v := (.int .i64 y1)) rfl (HVal.move' rfl) ?_
        refine HList.vals (v := (.int .i64 y1)) rfl (HVal.assign' rfl) ?_
        refine HList.nil ?_
        refine nt ?_
        refine HW.ret ?_
        refine br ?_
        refine tr ?_
        refine tr ?_
        refine br ?_
        refine tr ?_
        exact ⟨_, resOf1 rfl Res1.t, ⟨y1, rfl, h⟩⟩
      · have h := hF hb35
        clear hT hF
        refine HW.skip ?_
        refine nb ?_
        refine nt ?_
        refine HW.region ?_
        refine HList.vals (v := (.int .i64 y1)) rfl (HVal.move' rfl) ?_
        refine HList.vals (v := (.int .i64 (IntKind.i64.wrap (y1 + 1)))) rfl (HVal.add rfl rfl) ?_
        refine HList.vals (v := (.int .i64 (IntKind.i64.wrap (y1 + 1)))) rfl (HVal.assign' rfl) ?_
        refine HList.nil ?_
        refine nt ?_
        exact (hX1 _ _).1 h _ ⟨rfl, rfl, rfl, trivial⟩
  · have h := hF hb8
    clear hT hF
    refine HW.exit ?_
    refine te ?_
    refine te ?_
    refine be ?_
    refine nt ?_
    refine HW.seq ?_
    refine HW.region ?_
    refine HList.vals (v := (.int .i64 (-1))) rfl (HVal.assign' rfl) ?_
    refine HList.nil ?_
    refine nt ?_
    refine HW.ret ?_
    exact ⟨_, resOf1 rfl Res1.t, ⟨(-1), rfl, h⟩⟩

def F15_3 (Q : Bool → Hp → Prop) (X1 : Int → Hp → Prop) (y70 : (Option Addr)) (y71 : Sl) (y72 : Int) (y73 : Int) (y74 : Int) (y75 : Addr) (y90 : Bool) (H_3 : Hp) : Prop :=
(y90 = true → (Q false H_3)) ∧
 (y90 = false → (∃ a106 : Addr, y70 = some a106 ∧ (
 ∃ x109 : Sl, cell H_3 a106 = some (Sl.v x109) ∧ (
 ∃ a110 : Addr, (x109).b = some a110 ∧ (0 : Int) ≤ y74 ∧ y74 < ((x109).n : Int) ∧ (
 (cell H_3 (Addr.add (Addr.add a110 (y74.toNat * 3)) 2)).isSome = true ∧ frz H_3 (Addr.add (Addr.add a110 (y74.toNat * 3)) 2) = false ∧ ∀ H114 : Hp, H114 = setc H_3 (Addr.add (Addr.add a110 (y74.toNat * 3)) 2) (.bool true) → (
 ∃ (x119 : Int) (x120 : Int) (x121 : Bool), cells H114 y75 [(.int .i64 x119), (.int .i64 x120), (.bool x121)] 0 ∧ (
 ∃ a122 : Addr, y70 = some a122 ∧ (
 mayw H114 (Addr.add a122 1) 3 0 ∧ ∀ H124 : Hp, H124 = sets H114 (Addr.add a122 1) [(.int .i64 x119), (.int .i64 x120), (.bool x121)] 0 → (
 ∃ a127 : Addr, y70 = some a127 ∧ (
 (cell H124 (Addr.add a127 4)).isSome = true ∧ frz H124 (Addr.add a127 4) = false ∧ ∀ H129 : Hp, H129 = setc H124 (Addr.add a127 4) (.bool true) → (
 X1 (IntKind.i64.wrap (y73 + 1)) H129)))))))))))
def F15_2 (Q : Bool → Hp → Prop) (X1 : Int → Hp → Prop) (y18 : (Option Addr)) (y19 : Sl) (y20 : Int) (y21 : Int) (y22 : Int) (y25 : Bool) (H_2 : Hp) : Prop :=
(y25 = true → (Q false H_2)) ∧
 (y25 = false → (∃ a53 : Addr, y18 = some a53 ∧ (
 ∃ x56 : Sl, cell H_2 a53 = some (Sl.v x56) ∧ (
 ∃ a57 : Addr, (x56).b = some a57 ∧ (0 : Int) ≤ y22 ∧ y22 < ((x56).n : Int) ∧ (
 ∃ (x62 : Int) (x63 : Int) (x64 : Bool), cells H_2 (Addr.add a57 (y22.toNat * 3)) [(.int .i64 x62), (.int .i64 x63), (.bool x64)] 0 ∧ (
 ∀ H65 : Hp, H65 = Array.push H_2 (.cells #[(.int .i64 0), (.int .i64 0), (.bool false)] 44) → (
 mayw H65 ⟨H_2.size, 0, none⟩ 3 0 ∧ ∀ H67 : Hp, H67 = sets H65 ⟨H_2.size, 0, none⟩ [(.int .i64 x62), (.int .i64 x63), (.bool x64)] 0 → (
 ∃ a76 : Addr, y18 = some a76 ∧ (
 ∃ x79 : Bool, cell H67 (Addr.add a76 4) = some (.bool x79) ∧ (
 (x79 = true → (∃ x83 : Int, cell H67 (Addr.add ⟨H_2.size, 0, none⟩ 1) = some (.int .i64 x83) ∧ (
 ∃ a84 : Addr, y18 = some a84 ∧ (
 ∃ x87 : Int, cell H67 (Addr.add (Addr.add a84 1) 1) = some (.int .i64 x87) ∧ (
 ((decide (x83 < x87)) = true → (F15_3 Q X1 y18 y19 y20 y21 y22 ⟨H_2.size, 0, none⟩ true H67)) ∧
 ((decide (x83 < x87)) = false → (∃ x92 : Int, cell H67 (Addr.add ⟨H_2.size, 0, none⟩ 1) = some (.int .i64 x92) ∧ (
 ∃ a93 : Addr, y18 = some a93 ∧ (
 ∃ x96 : Int, cell H67 (Addr.add (Addr.add a93 1) 1) = some (.int .i64 x96) ∧ (
 ((decide (x92 = x96)) = true → (∃ x100 : Int, cell H67 ⟨H_2.size, 0, none⟩ = some (.int .i64 x100) ∧ (
 ∃ a101 : Addr, y18 = some a101 ∧ (
 ∃ x104 : Int, cell H67 (Addr.add a101 1) = some (.int .i64 x104) ∧ (
 F15_3 Q X1 y18 y19 y20 y21 y22 ⟨H_2.size, 0, none⟩ (decide (x100 < x104)) H67))))) ∧
 ((decide (x92 = x96)) = false → (F15_3 Q X1 y18 y19 y20 y21 y22 ⟨H_2.size, 0, none⟩ false H67)))))))))))) ∧
 (x79 = false → (F15_3 Q X1 y18 y19 y20 y21 y22 ⟨H_2.size, 0, none⟩ false H67))))))))))))
def F15_L1b (Q : Bool → Hp → Prop) (X1 : Int → Hp → Prop) (y2 : (Option Addr)) (y3 : Sl) (y4 : Int) (y1 : Int) (H_1 : Hp) : Prop :=
((decide (y1 < ((y3).n : Int))) = true → (∃ a6 : Addr, (y3).b = some a6 ∧ (0 : Int) ≤ y1 ∧ y1 < ((y3).n : Int) ∧ (
 ∃ x11 : ByteArray, cell H_1 (Addr.add a6 (y1.toNat * 3)) = some (.string x11) ∧ (
 F12 x11 H_1 (fun (r14 : Int) (H12 : Hp) => 
 F28 y2 r14 H12 (fun (r17 : Int) (H15 : Hp) => 
 ((decide (r14 < 0)) = true → (F15_2 Q X1 y2 y3 y4 y1 r17 true H15)) ∧
 ((decide (r14 < 0)) = false → (((decide (r17 < 0)) = true → (F15_2 Q X1 y2 y3 y4 y1 r17 true H15)) ∧
 ((decide (r17 < 0)) = false → (∃ a28 : Addr, y2 = some a28 ∧ (
 ∃ x31 : Sl, cell H15 a28 = some (Sl.v x31) ∧ (
 ∃ a32 : Addr, (x31).b = some a32 ∧ (0 : Int) ≤ r17 ∧ r17 < ((x31).n : Int) ∧ (
 ∃ x37 : Int, cell H15 (Addr.add (Addr.add a32 (r17.toNat * 3)) 1) = some (.int .i64 x37) ∧ (
 ∃ a38 : Addr, (y3).b = some a38 ∧ (0 : Int) ≤ y1 ∧ y1 < ((y3).n : Int) ∧ (
 ∃ x43 : Int, cell H15 (Addr.add (Addr.add a38 (y1.toNat * 3)) 1) = some (.int .i64 x43) ∧ (
 ((decide (x37 ≠ x43)) = true → (F15_2 Q X1 y2 y3 y4 y1 r17 true H15)) ∧
 ((decide (x37 ≠ x43)) = false → (∃ a46 : Addr, (y3).b = some a46 ∧ (0 : Int) ≤ y1 ∧ y1 < ((y3).n : Int) ∧ (
 ∃ x51 : Int, cell H15 (Addr.add (Addr.add a46 (y1.toNat * 3)) 1) = some (.int .i64 x51) ∧ (
 F15_2 Q X1 y2 y3 y4 y1 r17 (decide (y4 < x51)) H15)))))))))))))))))))) ∧
 ((decide (y1 < ((y3).n : Int))) = false → (Q true H_1))
def F15_L1 (Q : Bool → Hp → Prop) (y2 : (Option Addr)) (y3 : Sl) (y4 : Int) (y1 : Int) (H_1 : Hp) : Prop :=
  ∀ X1 : Int → Hp → Prop, (∀ (y1 : Int) (H_1 : Hp), F15_L1b Q X1 y2 y3 y4 y1 H_1 → X1 y1 H_1) → X1 y1 H_1
def F15 (p0 : (Option Addr)) (p1 : Sl) (p2 : Int) (H : Hp) (Q : Bool → Hp → Prop) : Prop :=
F15_L1 Q p0 p1 p2 0 H
set_option maxRecDepth 100000 in
set_option maxHeartbeats 4000000 in
theorem walk15 {w0 : World} {p0 : (Option Addr)} {p1 : Sl} {p2 : Int} {H : Hp} {Q : Bool → Hp → Prop} (h : F15 p0 p1 p2 H Q) :
    Good Tryd.prog w0 15 #[(.pointer p0), (Sl.v p1), (.int .i64 p2)] H (fun v H => ∃ (r0 : Bool) , v = (.bool r0) ∧ Q r0 H) := by
  unfold F15 at h
  refine Good.enter' (fn := Tryd.f15) Tryd.func15 rfl rfl rfl ?_
  refine HW.seq ?_
  refine HW.region ?_
  refine HList.vals (v := (.bool false)) rfl (HVal.assign' rfl) ?_
  refine HList.nil ?_
  refine nt ?_
  refine HW.seq ?_
  refine HW.seq ?_
  refine HW.region ?_
  refine HList.vals (v := (.int .i64 0)) rfl (HVal.assign' rfl) ?_
  refine HList.nil ?_
  refine nt ?_
  refine HW.block ?_
  refine HW.loop' (fun L1 hL1 => ?_)
  obtain ⟨X1, hX1⟩ : ∃ X1 : Int → Hp → Prop, ∀ (y1 : Int) (H_1 : Hp), X1 y1 H_1 ↔ ∀ ρ, Env.Is ρ [(0, (.pointer p0)), (1, (Sl.v p1)), (2, (.int .i64 p2)), (7, (.int .i64 y1))] → L1 ρ H_1 := ⟨_, fun _ _ => Iff.rfl⟩
  refine (hX1 _ _).1 (h X1 ?_) _ ?_
  rotate_left
  · exact ⟨rfl, rfl, rfl, rfl, trivial⟩
  clear h
  intro y1 H_1 h
  refine (hX1 _ _).2 fun ρ hI => ?_
  obtain ⟨ρ0, rfl⟩ : ∃ ρ0, ρ = (Env.set (Env.set (Env.set (Env.set ρ0 7 (.int .i64 y1)) 2 (.int .i64 p2)) 1 (Sl.v p1)) 0 (.pointer p0)) := ⟨ρ, hI.eq⟩
  clear hI; unfold F15_L1b at h; refine hL1 _ _ ?_
  refine HW.seq ?_
  refine HW.seq ?_
  refine HW.region ?_
  refine HList.vals (v := (.int .i64 y1)) rfl (HVal.move' rfl) ?_
  refine HList.vals (v := (Sl.v p1)) rfl (HVal.move' rfl) ?_
  refine HList.vals (v := (.int .i64 ((p1).n : Int))) rfl (HVal.len Tryd.runUnderlying28 rfl) ?_
  refine HList.vals (v := (.bool (decide (y1 < ((p1).n : Int))))) rfl (HVal.lss rfl rfl) ?_
  refine HList.nil ?_
  refine nt ?_
  obtain ⟨hT, hF⟩ := h
  refine HW.cond (decide (y1 < ((p1).n : Int))) rfl (fun hb5 => ?_) (fun hb5 => ?_)
  · have h := hT hb5
    clear hT hF
    refine HW.skip ?_
    refine nt ?_
    refine HW.seq ?_
    refine HW.block ?_
    refine HW.seq ?_
    refine HW.region ?_
    refine HList.vals (v := (Sl.v p1)) rfl (HVal.move' rfl) ?_
    refine HList.vals (v := (.int .i64 y1)) rfl (HVal.move' rfl) ?_
    obtain ⟨a6, e7, b8, b9, h⟩ := h
    refine HList.vals (v := (.pointer (some (Addr.add a6 (y1.toNat * 3))))) rfl (HVal.indexAddr Tryd.runUnderlying28 Tryd.sizeOf33 (Sl.v_some rfl e7) rfl b8 b9) ?_
    refine HList.vals (v := (.pointer (some (Addr.add a6 (y1.toNat * 3))))) rfl (HVal.fieldAddr0 Tryd.runUnderlying33 rfl rfl Tryd.sizeOf9 rfl) ?_
    obtain ⟨x11, c10, h⟩ := h
    refine HList.vals (v := (.string x11)) rfl (HVal.load1 Tryd.isAgg9 rfl c10) ?_
    refine HList.ops' rfl (HOp.call' 12 [(.string x11)] (cap := []) rfl rfl Tryd.call12 (walk12 h)) ?_
    rintro _ H12 ⟨r14, rfl, h⟩
    refine HList.vals (v := (.int .i64 r14)) rfl (HVal.assign' rfl) ?_
    refine HList.nil ?_
    refine nt ?_
    refine HW.seq ?_
    refine HW.region ?_
    refine HList.vals (v := (.pointer p0)) rfl (HVal.move' rfl) ?_
    refine HList.vals (v := (.int .i64 r14)) rfl (HVal.move' rfl) ?_
    refine HList.ops' rfl (HOp.call' 28 [(.pointer p0), (.int .i64 r14)] (cap := []) rfl rfl Tryd.call28 (walk28 h)) ?_
    rintro _ H15 ⟨r17, rfl, h⟩
    refine HList.vals (v := (.int .i64 r17)) rfl (HVal.assign' rfl) ?_
    refine HList.nil ?_
    refine nt ?_
    refine HW.seq ?_
    refine HW.cut (fun ρ H_2 => ∃ (y25 : Bool), Env.Is ρ [(0, (.pointer p0)), (1, (Sl.v p1)), (2, (.int .i64 p2)), (7, (.int .i64 y1)), (9, (.int .i64 r17)), (56, (.bool y25))] ∧ F15_2 Q X1 p0 p1 p2 y1 r17 y25 H_2) ?_ ?_
    · refine HW.draw mixed [(0, some []), (1, some []), (2, some []), (3, some []), (4, some []), (5, some []), (6, some []), (7, some []), (8, some []), (9, some []), (10, some []), (11, some []), (12, some []), (13, some []), (14, some []), (15, some []), (16, some []), (17, some []), (18, some []), (19, some []), (20, some []), (21, some []), (22, some []), (23, some []), (24, some []), (25, some []), (26, some []), (27, some []), (28, some []), (29, some []), (30, some [])] rfl (by kernel_rfl) (by kernel_rfl) ?_
      refine HPlan.takev (v := (.int .i64 r14)) rfl rfl (fun _ => HVal.move' rfl) ?_
      refine HPlan.takev (v := (.bool (decide (r14 < 0)))) rfl rfl (fun _ => HVal.lss rfl rfl) ?_
      refine HPlan.takev (v := (.bool (decide (r14 < 0)))) rfl rfl (fun _ => HVal.move' rfl) ?_
      obtain ⟨hT, hF⟩ := h
      rcases Bool.eq_false_or_eq_true (decide (r14 < 0)) with hb23 | hb24
      · have h := hT hb23
        clear hT hF
        refine HPlan.takegskip rfl rfl rfl rfl (congrArg Value.bool hb23) ?_
        refine HPlan.takegskip rfl rfl rfl rfl (congrArg Value.bool hb23) ?_
        refine HPlan.takev (v := (.bool true)) rfl rfl (fun _ => HVal.pickT rfl hb23 rfl) ?_
        refine HPlan.takev (v := (.bool true)) rfl rfl (fun _ => HVal.move' rfl) ?_
        refine HPlan.takegskip rfl rfl rfl rfl rfl ?_
        refine HPlan.takegskip rfl rfl rfl rfl rfl ?_
        refine HPlan.takegskip rfl rfl rfl rfl rfl ?_
        refine HPlan.takegskip rfl rfl rfl rfl rfl ?_
        refine HPlan.takegskip rfl rfl rfl rfl rfl ?_
        refine HPlan.takegskip rfl rfl rfl rfl rfl ?_
        refine HPlan.takegskip rfl rfl rfl rfl rfl ?_
        refine HPlan.takegskip rfl rfl rfl rfl rfl ?_
        refine HPlan.takegskip rfl rfl rfl rfl rfl ?_
        refine HPlan.takegskip rfl rfl rfl rfl rfl ?_
        refine HPlan.takegskip rfl rfl rfl rfl rfl ?_
        refine HPlan.takegskip rfl rfl rfl rfl rfl ?_
        refine HPlan.takegskip rfl rfl rfl rfl rfl ?_
        refine HPlan.takegskip rfl rfl rfl rfl rfl ?_
        refine HPlan.takev (v := (.bool true)) rfl rfl (fun _ => HVal.pickT rfl rfl rfl) ?_
        refine HPlan.takev (v := (.bool true)) rfl rfl (fun _ => HVal.move' rfl) ?_
        refine HPlan.takegskip rfl rfl rfl rfl rfl ?_
        refine HPlan.takegskip rfl rfl rfl rfl rfl ?_
        refine HPlan.takegskip rfl rfl rfl rfl rfl ?_
        refine HPlan.takegskip rfl rfl rfl rfl rfl ?_
        refine HPlan.takegskip rfl rfl rfl rfl rfl ?_
        refine HPlan.takegskip rfl rfl rfl rfl rfl ?_
        refine HPlan.takegskip rfl rfl rfl rfl rfl ?_
        refine HPlan.takev (v := (.bool true)) rfl rfl (fun _ => HVal.pickT rfl rfl rfl) ?_
        refine HPlan.done ?_
        refine nt ?_
        exact ⟨true, ⟨rfl, rfl, rfl, rfl, rfl, rfl, trivial⟩, h⟩
      · have h := hF hb24
        clear hT hF
        refine HPlan.gtakev (v := (.int .i64 r17)) rfl rfl rfl rfl rfl (congrArg Value.bool hb24) (fun _ => HVal.move' rfl) ?_
        refine HPlan.gtakev (v := (.bool (decide (r17 < 0)))) rfl rfl rfl rfl rfl (congrArg Value.bool hb24) (fun _ => HVal.lss rfl rfl) ?_
        refine HPlan.takev (v := (.bool (decide (r17 < 0)))) rfl rfl (fun _ => HVal.pickF rfl hb24 rfl) ?_
        refine HPlan.takev (v := (.bool (decide (r17 < 0)))) rfl rfl (fun _ => HVal.move' rfl) ?_
        obtain ⟨hT, hF⟩ := h
        rcases Bool.eq_false_or_eq_true (decide (r17 < 0)) with hb26 | hb27
        · have h := hT hb26
          clear hT hF
          refine HPlan.takegskip rfl rfl rfl rfl (congrArg Value.bool hb26) ?_
          refine HPlan.takegskip rfl rfl rfl rfl (congrArg Value.bool hb26) ?_
          refine HPlan.takegskip rfl rfl rfl rfl (congrArg Value.bool hb26) ?_
          refine HPlan.takegskip rfl rfl rfl rfl (congrArg Value.bool hb26) ?_
          refine HPlan.takegskip rfl rfl rfl rfl (congrArg Value.bool hb26) ?_
          refine HPlan.takegskip rfl rfl rfl rfl (congrArg Value.bool hb26) ?_
          refine HPlan.takegskip rfl rfl rfl rfl (congrArg Value.bool hb26) ?_
          refine HPlan.takegskip rfl rfl rfl rfl (congrArg Value.bool hb26) ?_
          refine HPlan.takegskip rfl rfl rfl rfl (congrArg Value.bool hb26) ?_
          refine HPlan.takegskip rfl rfl rfl rfl (congrArg Value.bool hb26) ?_
          refine HPlan.takegskip rfl rfl rfl rfl (congrArg Value.bool hb26) ?_
          refine HPlan.takegskip rfl rfl rfl rfl (congrArg Value.bool hb26) ?_
          refine HPlan.takegskip rfl rfl rfl rfl (congrArg Value.bool hb26) ?_
          refine HPlan.takegskip rfl rfl rfl rfl (congrArg Value.bool hb26) ?_
          refine HPlan.takev (v := (.bool true)) rfl rfl (fun _ => HVal.pickT rfl hb26 rfl) ?_
          refine HPlan.takev (v := (.bool true)) rfl rfl (fun _ => HVal.move' rfl) ?_
          refine HPlan.takegskip rfl rfl rfl rfl rfl ?_
          refine HPlan.takegskip rfl rfl rfl rfl rfl ?_
          refine HPlan.takegskip rfl rfl rfl rfl rfl ?_
          refine HPlan.takegskip rfl rfl rfl rfl rfl ?_
          refine HPlan.takegskip rfl rfl rfl rfl rfl ?_
          refine HPlan.takegskip rfl rfl rfl rfl rfl ?_
          refine HPlan.takegskip rfl rfl rfl rfl rfl ?_
          refine HPlan.takev (v := (.bool true)) rfl rfl (fun _ => HVal.pickT rfl rfl rfl) ?_
          refine HPlan.done ?_
          refine nt ?_
          exact ⟨true, ⟨rfl, rfl, rfl, rfl, rfl, rfl, trivial⟩, h⟩
        · have h := hF hb27
          clear hT hF
          refine HPlan.gtakev (v := (.pointer p0)) rfl rfl rfl rfl rfl (congrArg Value.bool hb27) (fun _ => HVal.move' rfl) ?_
          obtain ⟨a28, e29, h⟩ := h
          refine HPlan.gtakev (v := (.pointer (some a28))) rfl rfl rfl rfl rfl (congrArg Value.bool hb27) (fun _ => HVal.nilCheck (congrArg Value.pointer e29)) ?_
          refine HPlan.gtakev (v := (.pointer (some a28))) rfl rfl rfl rfl rfl (congrArg Value.bool hb27) (fun _ => HVal.fieldAddr0 Tryd.runUnderlying46 rfl rfl Tryd.sizeOf42 rfl) ?_
          obtain ⟨x31, c30, h⟩ := h
          refine HPlan.gtakel (v := (Sl.v x31)) (fun X => cell X a28 = some (Sl.v x31)) rfl rfl rfl rfl rfl (congrArg Value.bool hb27) (fun _ hX => HVal.load1 Tryd.isAgg42 rfl hX) c30 ?_
          refine HPlan.gtakev (v := (.int .i64 r17)) rfl rfl rfl rfl rfl (congrArg Value.bool hb27) (fun _ => HVal.move' rfl) ?_
          obtain ⟨a32, e33, b34, b35, h⟩ := h
          refine HPlan.gtakev (v := (.pointer (some (Addr.add a32 (r17.toNat * 3))))) rfl rfl rfl rfl rfl (congrArg Value.bool hb27) (fun _ => HVal.indexAddr Tryd.runUnderlying42 Tryd.sizeOf44 (Sl.v_some rfl e33) rfl b34 b35) ?_
          refine HPlan.gtakev (v := (.pointer (some (Addr.add (Addr.add a32 (r17.toNat * 3)) 1)))) rfl rfl rfl rfl rfl (congrArg Value.bool hb27) (fun _ => HVal.fieldAddr' Tryd.runUnderlying44 rfl rfl Tryd.sizeOf2 rfl) ?_
          obtain ⟨x37, c36, h⟩ := h
          refine HPlan.gtakel (v := (.int .i64 x37)) (fun X => cell X (Addr.add (Addr.add a32 (r17.toNat * 3)) 1) = some (.int .i64 x37)) rfl rfl rfl rfl rfl (congrArg Value.bool hb27) (fun _ hX => HVal.load1 Tryd.isAgg2 rfl hX) c36 ?_
          refine HPlan.gtakev (v := (Sl.v p1)) rfl rfl rfl rfl rfl (congrArg Value.bool hb27) (fun _ => HVal.move' rfl) ?_
          refine HPlan.gtakev (v := (.int .i64 y1)) rfl rfl rfl rfl rfl (congrArg Value.bool hb27) (fun _ => HVal.move' rfl) ?_
          obtain ⟨a38, e39, b40, b41, h⟩ := h
          refine HPlan.gtakev (v := (.pointer (some (Addr.add a38 (y1.toNat * 3))))) rfl rfl rfl rfl rfl (congrArg Value.bool hb27) (fun _ => HVal.indexAddr Tryd.runUnderlying28 Tryd.sizeOf33 (Sl.v_some rfl e39) rfl b40 b41) ?_
          refine HPlan.gtakev (v := (.pointer (some (Addr.add (Addr.add a38 (y1.toNat * 3)) 1)))) rfl rfl rfl rfl rfl (congrArg Value.bool hb27) (fun _ => HVal.fieldAddr' Tryd.runUnderlying33 rfl rfl Tryd.sizeOf2 rfl) ?_
          obtain ⟨x43, c42, h⟩ := h
          refine HPlan.gtakel (v := (.int .i64 x43)) (fun X => cell X (Addr.add (Addr.add a38 (y1.toNat * 3)) 1) = some (.int .i64 x43)) rfl rfl rfl rfl rfl (congrArg Value.bool hb27) (fun _ hX => HVal.load1 Tryd.isAgg2 rfl hX) c42 ?_
          refine HPlan.gtakev (v := (.bool (decide (x37 ≠ x43)))) rfl rfl rfl rfl rfl (congrArg Value.bool hb27) (fun _ => HVal.neqI rfl rfl) ?_
          refine HPlan.takev (v := (.bool (decide (x37 ≠ x43)))) rfl rfl (fun _ => HVal.pickF rfl hb27 rfl) ?_
          refine HPlan.takev (v := (.bool (decide (x37 ≠ x43)))) rfl rfl (fun _ => HVal.move' rfl) ?_
          obtain ⟨hT, hF⟩ := h
          rcases Bool.eq_false_or_eq_true (decide (x37 ≠ x43)) with hb44 | hb45
          · have h := hT hb44
            clear hT hF
            refine HPlan.takegskip rfl rfl rfl rfl (congrArg Value.bool hb44) ?_
            refine HPlan.takegskip rfl rfl rfl rfl (congrArg Value.bool hb44) ?_
            refine HPlan.takegskip rfl rfl rfl rfl (congrArg Value.bool hb44) ?_
            refine HPlan.takegskip rfl rfl rfl rfl (congrArg Value.bool hb44) ?_
            refine HPlan.takegskip rfl rfl rfl rfl (congrArg Value.bool hb44) ?_
            refine HPlan.takegskip rfl rfl rfl rfl (congrArg Value.bool hb44) ?_
            refine HPlan.takegskip rfl rfl rfl rfl (congrArg Value.bool hb44) ?_
            refine HPlan.takev (v := (.bool true)) rfl rfl (fun _ => HVal.pickT rfl hb44 rfl) ?_
            refine HPlan.done ?_
            refine nt ?_
            exact ⟨true, ⟨rfl, rfl, rfl, rfl, rfl, rfl, trivial⟩, h⟩
          · have h := hF hb45
            clear hT hF
            refine HPlan.gtakev (v := (Sl.v p1)) rfl rfl rfl rfl rfl (congrArg Value.bool hb45) (fun _ => HVal.move' rfl) ?_
            refine HPlan.gtakev (v := (.int .i64 y1)) rfl rfl rfl rfl rfl (congrArg Value.bool hb45) (fun _ => HVal.move' rfl) ?_
            obtain ⟨a46, e47, b48, b49, h⟩ := h
            refine HPlan.gtakev (v := (.pointer (some (Addr.add a46 (y1.toNat * 3))))) rfl rfl rfl rfl rfl (congrArg Value.bool hb45) (fun _ => HVal.indexAddr Tryd.runUnderlying28 Tryd.sizeOf33 (Sl.v_some rfl e47) rfl b48 b49) ?_
            refine HPlan.gtakev (v := (.pointer (some (Addr.add (Addr.add a46 (y1.toNat * 3)) 1)))) rfl rfl rfl rfl rfl (congrArg Value.bool hb45) (fun _ => HVal.fieldAddr' Tryd.runUnderlying33 rfl rfl Tryd.sizeOf2 rfl) ?_
            obtain ⟨x51, c50, h⟩ := h
            refine HPlan.gtakel (v := (.int .i64 x51)) (fun X => cell X (Addr.add (Addr.add a46 (y1.toNat * 3)) 1) = some (.int .i64 x51)) rfl rfl rfl rfl rfl (congrArg Value.bool hb45) (fun _ hX => HVal.load1 Tryd.isAgg2 rfl hX) c50 ?_
            refine HPlan.gtakev (v := (.int .i64 p2)) rfl rfl rfl rfl rfl (congrArg Value.bool hb45) (fun _ => HVal.move' rfl) ?_
            refine HPlan.gtakev (v := (.bool (decide (p2 < x51)))) rfl rfl rfl rfl rfl (congrArg Value.bool hb45) (fun _ => HVal.gtr rfl rfl) ?_
            refine HPlan.takev (v := (.bool (decide (p2 < x51)))) rfl rfl (fun _ => HVal.pickF rfl hb45 rfl) ?_
            refine HPlan.done ?_
            refine nt ?_
            exact ⟨(decide (p2 < x51)), ⟨rfl, rfl, rfl, rfl, rfl, rfl, trivial⟩, h⟩
    · rintro ρ H_2 ⟨y25, hI, h⟩
      obtain ⟨ρ0, rfl⟩ : ∃ ρ0, ρ = (Env.set (Env.set (Env.set (Env.set (Env.set (Env.set ρ0 56 (.bool y25)) 9 (.int .i64 r17)) 7 (.int .i64 y1)) 2 (.int .i64 p2)) 1 (Sl.v p1)) 0 (.pointer p0)) := ⟨ρ, hI.eq⟩
      clear hI; unfold F15_2 at h
      obtain ⟨hT, hF⟩ := h
      refine HW.cond y25 rfl (fun hb52 => ?_) (fun hb52 => ?_)
      · have h := hT hb52
        clear hT hF
        refine HW.seq ?_
        refine HW.region ?_
        refine HList.vals (v := (.bool false)) rfl (HVal.assign' rfl) ?_
        refine HList.nil ?_
        refine nt ?_
        refine HW.ret ?_
        refine tr ?_
        refine br ?_
        refine tr ?_
        refine tr ?_
        refine br ?_
        refine tr ?_
        exact ⟨_, resOf1 rfl Res1.t, ⟨false, rfl, h⟩⟩
      · have h := hF hb52
        clear hT hF
        refine HW.skip ?_
        refine nt ?_
        refine HW.seq ?_
        refine HW.region ?_
        refine HList.vals (v := (.pointer p0)) rfl (HVal.move' rfl) ?_
        obtain ⟨a53, e54, h⟩ := h
        refine HList.vals (v := (.pointer (some a53))) rfl (HVal.nilCheck (congrArg Value.pointer e54)) ?_
        refine HList.vals (v := (.pointer (some a53))) rfl (HVal.fieldAddr0 Tryd.runUnderlying46 rfl rfl Tryd.sizeOf42 rfl) ?_
        obtain ⟨x56, c55, h⟩ := h
        refine HList.vals (v := (Sl.v x56)) rfl (HVal.load1 Tryd.isAgg42 rfl c55) ?_
        refine HList.vals (v := (.int .i64 r17)) rfl (HVal.move' rfl) ?_
        obtain ⟨a57, e58, b59, b60, h⟩ := h
        refine HList.vals (v := (.pointer (some (Addr.add a57 (r17.toNat * 3))))) rfl (HVal.indexAddr Tryd.runUnderlying42 Tryd.sizeOf44 (Sl.v_some rfl e58) rfl b59 b60) ?_
        obtain ⟨x62, x63, x64, c61, h⟩ := h
        refine HList.vals (v := (.agg #[(.int .i64 x62), (.int .i64 x63), (.bool x64)])) rfl (HVal.loadN [(.int .i64 x62), (.int .i64 x63), (.bool x64)] Tryd.isAgg44 Tryd.sizeOf44 rfl c61) ?_
        refine HList.ops' rfl (HOp.alloc Tryd.zeroValue44) ?_
        rintro _ H65 ⟨rfl, e66⟩
        replace h := h H65 e66
        obtain ⟨z69, h⟩ := h
        refine HList.opsn (HOp.storeN' (l := [(.int .i64 x62), (.int .i64 x63), (.bool x64)]) Tryd.sizeOf44 rfl rfl rfl z69) ?_
        rintro _ H67 e68
        replace h := h H67 e68
        refine HList.nil ?_
        refine nt ?_
        refine HW.seq ?_
        refine HW.cut (fun ρ H_3 => ∃ (y90 : Bool), Env.Is ρ [(0, (.pointer p0)), (1, (Sl.v p1)), (2, (.int .i64 p2)), (7, (.int .i64 y1)), (9, (.int .i64 r17)), (10, (.pointer (some ⟨H_2.size, 0, none⟩))), (97, (.bool y90))] ∧ F15_3 Q X1 p0 p1 p2 y1 r17 ⟨H_2.size, 0, none⟩ y90 H_3) ?_ ?_
        · refine HW.draw mixed [(0, some []), (1, some []), (2, some []), (3, some []), (4, some []), (5, some []), (6, some []), (7, some []), (8, some []), (9, some []), (10, some []), (11, some []), (12, some []), (13, some []), (14, some []), (15, some []), (16, some []), (17, some []), (18, some []), (19, some []), (20, some []), (21, some []), (22, some []), (23, some []), (24, some []), (25, some []), (26, some []), (27, some []), (28, some []), (29, some []), (30, some []), (31, some []), (32, some []), (33, some [])] rfl (by kernel_rfl) (by kernel_rfl) ?_
          refine HPlan.takev (v := (.pointer p0)) rfl rfl (fun _ => HVal.move' rfl) ?_
          obtain ⟨a76, e77, h⟩ := h
          refine HPlan.takev (v := (.pointer (some a76))) rfl rfl (fun _ => HVal.nilCheck (congrArg Value.pointer e77)) ?_
          refine HPlan.takev (v := (.pointer (some (Addr.add a76 4)))) rfl rfl (fun _ => HVal.fieldAddr' Tryd.runUnderlying46 rfl rfl Tryd.sizeOf4 rfl) ?_
          obtain ⟨x79, c78, h⟩ := h
          refine HPlan.takel (v := (.bool x79)) (fun X => cell X (Addr.add a76 4) = some (.bool x79)) rfl rfl (fun _ hX => HVal.load1 Tryd.isAgg4 rfl hX) c78 ?_
          refine HPlan.takev (v := (.bool x79)) rfl rfl (fun _ => HVal.move' rfl) ?_
          obtain ⟨hT, hF⟩ := h
          rcases Bool.eq_false_or_eq_true x79 with hb80 | hb81
          · have h := hT hb80
            clear hT hF
            refine HPlan.gtakev (v := (.pointer (some (Addr.add ⟨H_2.size, 0, none⟩ 1)))) rfl rfl rfl rfl rfl (congrArg Value.bool hb80) (fun _ => HVal.fieldAddr' Tryd.runUnderlying44 rfl rfl Tryd.sizeOf2 rfl) ?_
            obtain ⟨x83, c82, h⟩ := h
            refine HPlan.gtakel (v := (.int .i64 x83)) (fun X => cell X (Addr.add ⟨H_2.size, 0, none⟩ 1) = some (.int .i64 x83)) rfl rfl rfl rfl rfl (congrArg Value.bool hb80) (fun _ hX => HVal.load1 Tryd.isAgg2 rfl hX) c82 ?_
            refine HPlan.gtakev (v := (.pointer p0)) rfl rfl rfl rfl rfl (congrArg Value.bool hb80) (fun _ => HVal.move' rfl) ?_
            obtain ⟨a84, e85, h⟩ := h
            refine HPlan.gtakev (v := (.pointer (some a84))) rfl rfl rfl rfl rfl (congrArg Value.bool hb80) (fun _ => HVal.nilCheck (congrArg Value.pointer e85)) ?_
            refine HPlan.gtakev (v := (.pointer (some (Addr.add a84 1)))) rfl rfl rfl rfl rfl (congrArg Value.bool hb80) (fun _ => HVal.fieldAddr' Tryd.runUnderlying46 rfl rfl Tryd.sizeOf44 rfl) ?_
            refine HPlan.gtakev (v := (.pointer (some (Addr.add (Addr.add a84 1) 1)))) rfl rfl rfl rfl rfl (congrArg Value.bool hb80) (fun _ => HVal.fieldAddr' Tryd.runUnderlying44 rfl rfl Tryd.sizeOf2 rfl) ?_
            obtain ⟨x87, c86, h⟩ := h
            refine HPlan.gtakel (v := (.int .i64 x87)) (fun X => cell X (Addr.add (Addr.add a84 1) 1) = some (.int .i64 x87)) rfl rfl rfl rfl rfl (congrArg Value.bool hb80) (fun _ hX => HVal.load1 Tryd.isAgg2 rfl hX) c86 ?_
            refine HPlan.gtakev (v := (.bool (decide (x83 < x87)))) rfl rfl rfl rfl rfl (congrArg Value.bool hb80) (fun _ => HVal.lss rfl rfl) ?_
            refine HPlan.gtakev (v := (.bool (decide (x83 < x87)))) rfl rfl rfl rfl rfl (congrArg Value.bool hb80) (fun _ => HVal.move' rfl) ?_
            obtain ⟨hT, hF⟩ := h
            rcases Bool.eq_false_or_eq_true (decide (x83 < x87)) with hb88 | hb89
            · have h := hT hb88
              clear hT hF
              refine HPlan.takegskip rfl rfl rfl rfl (congrArg Value.bool hb88) ?_
              refine HPlan.takegskip rfl rfl rfl rfl (congrArg Value.bool hb88) ?_
              refine HPlan.takegskip rfl rfl rfl rfl (congrArg Value.bool hb88) ?_
              refine HPlan.takegskip rfl rfl rfl rfl (congrArg Value.bool hb88) ?_
              refine HPlan.takegskip rfl rfl rfl rfl (congrArg Value.bool hb88) ?_
              refine HPlan.takegskip rfl rfl rfl rfl (congrArg Value.bool hb88) ?_
              refine HPlan.takegskip rfl rfl rfl rfl (congrArg Value.bool hb88) ?_
              refine HPlan.takegskip rfl rfl rfl rfl (congrArg Value.bool hb88) ?_
              refine HPlan.takegskip rfl rfl rfl rfl (congrArg Value.bool hb88) ?_
              refine HPlan.takeuskip rfl rfl rfl rfl rfl ?_
              refine HPlan.takeuskip rfl rfl rfl rfl rfl ?_
              refine HPlan.takeuskip rfl rfl rfl rfl rfl ?_
              refine HPlan.takeuskip rfl rfl rfl rfl rfl ?_
              refine HPlan.takeuskip rfl rfl rfl rfl rfl ?_
              refine HPlan.takeuskip rfl rfl rfl rfl rfl ?_
              refine HPlan.takeuskip rfl rfl rfl rfl rfl ?_
              refine HPlan.takeuskip rfl rfl rfl rfl rfl ?_
              refine HPlan.takegskip rfl rfl rfl rfl (congrArg Value.bool hb88) ?_
              refine HPlan.gtakev (v := (.bool true)) rfl rfl rfl rfl rfl (congrArg Value.bool hb80) (fun _ => HVal.pickT rfl hb88 rfl) ?_
              refine HPlan.takev (v := (.bool true)) rfl rfl (fun _ => HVal.pickT rfl hb80 rfl) ?_
              refine HPlan.done ?_
              refine nt ?_
              exact ⟨true, ⟨rfl, rfl, rfl, rfl, rfl, rfl, rfl, trivial⟩, h⟩
            · have h := hF hb89
              clear hT hF
              refine HPlan.gtakev (v := (.pointer (some (Addr.add ⟨H_2.size, 0, none⟩ 1)))) rfl rfl rfl rfl rfl (congrArg Value.bool hb89) (fun _ => HVal.fieldAddr' Tryd.runUnderlying44 rfl rfl Tryd.sizeOf2 rfl) ?_
              obtain ⟨x92, c91, h⟩ := h
              refine HPlan.gtakel (v := (.int .i64 x92)) (fun X => cell X (Addr.add ⟨H_2.size, 0, none⟩ 1) = some (.int .i64 x92)) rfl rfl rfl rfl rfl (congrArg Value.bool hb89) (fun _ hX => HVal.load1 Tryd.isAgg2 rfl hX) c91 ?_
              refine HPlan.gtakev (v := (.pointer p0)) rfl rfl rfl rfl rfl (congrArg Value.bool hb89) (fun _ => HVal.move' rfl) ?_
              obtain ⟨a93, e94, h⟩ := h
              refine HPlan.gtakev (v := (.pointer (some a93))) rfl rfl rfl rfl rfl (congrArg Value.bool hb89) (fun _ => HVal.nilCheck (congrArg Value.pointer e94)) ?_
              refine HPlan.gtakev (v := (.pointer (some (Addr.add a93 1)))) rfl rfl rfl rfl rfl (congrArg Value.bool hb89) (fun _ => HVal.fieldAddr' Tryd.runUnderlying46 rfl rfl Tryd.sizeOf44 rfl) ?_
              refine HPlan.gtakev (v := (.pointer (some (Addr.add (Addr.add a93 1) 1)))) rfl rfl rfl rfl rfl (congrArg Value.bool hb89) (fun _ => HVal.fieldAddr' Tryd.runUnderlying44 rfl rfl Tryd.sizeOf2 rfl) ?_
              obtain ⟨x96, c95, h⟩ := h
              refine HPlan.gtakel (v := (.int .i64 x96)) (fun X => cell X (Addr.add (Addr.add a93 1) 1) = some (.int .i64 x96)) rfl rfl rfl rfl rfl (congrArg Value.bool hb89) (fun _ hX => HVal.load1 Tryd.isAgg2 rfl hX) c95 ?_
              refine HPlan.gtakev (v := (.bool (decide (x92 = x96)))) rfl rfl rfl rfl rfl (congrArg Value.bool hb89) (fun _ => HVal.eqlI rfl rfl) ?_
              refine HPlan.gtakev (v := (.bool (decide (x92 = x96)))) rfl rfl rfl rfl rfl (congrArg Value.bool hb89) (fun _ => HVal.move' rfl) ?_
              obtain ⟨hT, hF⟩ := h
              rcases Bool.eq_false_or_eq_true (decide (x92 = x96)) with hb97 | hb98
              · have h := hT hb97
                clear hT hF
                refine HPlan.gtakev (v := (.pointer (some ⟨H_2.size, 0, none⟩))) rfl rfl rfl rfl rfl (congrArg Value.bool hb97) (fun _ => HVal.fieldAddr0 Tryd.runUnderlying44 rfl rfl Tryd.sizeOf3 rfl) ?_
                obtain ⟨x100, c99, h⟩ := h
                refine HPlan.gtakel (v := (.int .i64 x100)) (fun X => cell X ⟨H_2.size, 0, none⟩ = some (.int .i64 x100)) rfl rfl rfl rfl rfl (congrArg Value.bool hb97) (fun _ hX => HVal.load1 Tryd.isAgg3 rfl hX) c99 ?_
                refine HPlan.gtakev (v := (.pointer p0)) rfl rfl rfl rfl rfl (congrArg Value.bool hb97) (fun _ => HVal.move' rfl) ?_
                obtain ⟨a101, e102, h⟩ := h
                refine HPlan.gtakev (v := (.pointer (some a101))) rfl rfl rfl rfl rfl (congrArg Value.bool hb97) (fun _ => HVal.nilCheck (congrArg Value.pointer e102)) ?_
                refine HPlan.gtakev (v := (.pointer (some (Addr.add a101 1)))) rfl rfl rfl rfl rfl (congrArg Value.bool hb97) (fun _ => HVal.fieldAddr' Tryd.runUnderlying46 rfl rfl Tryd.sizeOf44 rfl) ?_
                refine HPlan.gtakev (v := (.pointer (some (Addr.add a101 1)))) rfl rfl rfl rfl rfl (congrArg Value.bool hb97) (fun _ => HVal.fieldAddr0 Tryd.runUnderlying44 rfl rfl Tryd.sizeOf3 rfl) ?_
                obtain ⟨x104, c103, h⟩ := h
                refine HPlan.gtakel (v := (.int .i64 x104)) (fun X => cell X (Addr.add a101 1) = some (.int .i64 x104)) rfl rfl rfl rfl rfl (congrArg Value.bool hb97) (fun _ hX => HVal.load1 Tryd.isAgg3 rfl hX) c103 ?_
                refine HPlan.gtakev (v := (.bool (decide (x100 < x104)))) rfl rfl rfl rfl rfl (congrArg Value.bool hb97) (fun _ => HVal.lss rfl rfl) ?_
                refine HPlan.gtakev (v := (.bool (decide (x100 < x104)))) rfl rfl rfl rfl rfl (congrArg Value.bool hb89) (fun _ => HVal.pickT rfl hb97 rfl) ?_
                refine HPlan.gtakev (v := (.bool (decide (x100 < x104)))) rfl rfl rfl rfl rfl (congrArg Value.bool hb80) (fun _ => HVal.pickF rfl hb89 rfl) ?_
                refine HPlan.takev (v := (.bool (decide (x100 < x104)))) rfl rfl (fun _ => HVal.pickT rfl hb80 rfl) ?_
                refine HPlan.done ?_
                refine nt ?_
                exact ⟨(decide (x100 < x104)), ⟨rfl, rfl, rfl, rfl, rfl, rfl, rfl, trivial⟩, h⟩
              · have h := hF hb98
                clear hT hF
                refine HPlan.takegskip rfl rfl rfl rfl (congrArg Value.bool hb98) ?_
                refine HPlan.takegskip rfl rfl rfl rfl (congrArg Value.bool hb98) ?_
                refine HPlan.takegskip rfl rfl rfl rfl (congrArg Value.bool hb98) ?_
                refine HPlan.takegskip rfl rfl rfl rfl (congrArg Value.bool hb98) ?_
                refine HPlan.takegskip rfl rfl rfl rfl (congrArg Value.bool hb98) ?_
                refine HPlan.takegskip rfl rfl rfl rfl (congrArg Value.bool hb98) ?_
                refine HPlan.takegskip rfl rfl rfl rfl (congrArg Value.bool hb98) ?_
                refine HPlan.takegskip rfl rfl rfl rfl (congrArg Value.bool hb98) ?_
                refine HPlan.gtakev (v := (.bool false)) rfl rfl rfl rfl rfl (congrArg Value.bool hb89) (fun _ => HVal.pickF rfl hb98 rfl) ?_
                refine HPlan.gtakev (v := (.bool false)) rfl rfl rfl rfl rfl (congrArg Value.bool hb80) (fun _ => HVal.pickF rfl hb89 rfl) ?_
                refine HPlan.takev (v := (.bool false)) rfl rfl (fun _ => HVal.pickT rfl hb80 rfl) ?_
                refine HPlan.done ?_
                refine nt ?_
                exact ⟨false, ⟨rfl, rfl, rfl, rfl, rfl, rfl, rfl, trivial⟩, h⟩
          · have h := hF hb81
            clear hT hF
            refine HPlan.takegskip rfl rfl rfl rfl (congrArg Value.bool hb81) ?_
            refine HPlan.takegskip rfl rfl rfl rfl (congrArg Value.bool hb81) ?_
            refine HPlan.takegskip rfl rfl rfl rfl (congrArg Value.bool hb81) ?_
            refine HPlan.takegskip rfl rfl rfl rfl (congrArg Value.bool hb81) ?_
            refine HPlan.takegskip rfl rfl rfl rfl (congrArg Value.bool hb81) ?_
            refine HPlan.takegskip rfl rfl rfl rfl (congrArg Value.bool hb81) ?_
            refine HPlan.takegskip rfl rfl rfl rfl (congrArg Value.bool hb81) ?_
            refine HPlan.takegskip rfl rfl rfl rfl (congrArg Value.bool hb81) ?_
            refine HPlan.takegskip rfl rfl rfl rfl (congrArg Value.bool hb81) ?_
            refine HPlan.takeuskip rfl rfl rfl rfl rfl ?_
            refine HPlan.takeuskip rfl rfl rfl rfl rfl ?_
            refine HPlan.takeuskip rfl rfl rfl rfl rfl ?_
            refine HPlan.takeuskip rfl rfl rfl rfl rfl ?_
            refine HPlan.takeuskip rfl rfl rfl rfl rfl ?_
            refine HPlan.takeuskip rfl rfl rfl rfl rfl ?_
            refine HPlan.takeuskip rfl rfl rfl rfl rfl ?_
            refine HPlan.takeuskip rfl rfl rfl rfl rfl ?_
            refine HPlan.takeuskip rfl rfl rfl rfl rfl ?_
            refine HPlan.takeuskip rfl rfl rfl rfl rfl ?_
            refine HPlan.takeuskip rfl rfl rfl rfl rfl ?_
            refine HPlan.takeuskip rfl rfl rfl rfl rfl ?_
            refine HPlan.takeuskip rfl rfl rfl rfl rfl ?_
            refine HPlan.takeuskip rfl rfl rfl rfl rfl ?_
            refine HPlan.takeuskip rfl rfl rfl rfl rfl ?_
            refine HPlan.takeuskip rfl rfl rfl rfl rfl ?_
            refine HPlan.takeuskip rfl rfl rfl rfl rfl ?_
            refine HPlan.takeuskip rfl rfl rfl rfl rfl ?_
            refine HPlan.takegskip rfl rfl rfl rfl (congrArg Value.bool hb81) ?_
            refine HPlan.takev (v := (.bool false)) rfl rfl (fun _ => HVal.pickF rfl hb81 rfl) ?_
            refine HPlan.done ?_
            refine nt ?_
            exact ⟨false, ⟨rfl, rfl, rfl, rfl, rfl, rfl, rfl, trivial⟩, h⟩
        · rintro ρ H_3 ⟨y90, hI, h⟩
          obtain ⟨ρ0, rfl⟩ : ∃ ρ0, ρ = (Env.set (Env.set (Env.set (Env.set (Env.set (Env.set (Env.set ρ0 97 (.bool y90)) 10 (.pointer (some ⟨H_2.size, 0, none⟩))) 9 (.int .i64 r17)) 7 (.int .i64 y1)) 2 (.int .i64 p2)) 1 (Sl.v p1)) 0 (.pointer p0)) := ⟨ρ, hI.eq⟩
          clear hI; unfold F15_3 at h
          obtain ⟨hT, hF⟩ := h
          refine HW.cond y90 rfl (fun hb105 => ?_) (fun hb105 => ?_)
          · have h := hT hb105
            clear hT hF
            refine HW.seq ?_
            refine HW.region ?_
            refine HList.vals (v := (.bool false)) rfl (HVal.assign' rfl) ?_
            refine HList.nil ?_
            refine nt ?_
            refine HW.ret ?_
            refine tr ?_
            refine br ?_
            refine tr ?_
            refine tr ?_
            refine br ?_
            refine tr ?_
            exact ⟨_, resOf1 rfl Res1.t, ⟨false, rfl, h⟩⟩
          · have h := hF hb105
            clear hT hF
            refine HW.skip ?_
            refine nt ?_
            refine HW.seq ?_
            refine HW.region ?_
            refine HList.vals (v := (.pointer p0)) rfl (HVal.move' rfl) ?_
            obtain ⟨a106, e107, h⟩ := h
            refine HList.vals (v := (.pointer (some a106))) rfl (HVal.nilCheck (congrArg Value.pointer e107)) ?_
            refine HList.vals (v := (.pointer (some a106))) rfl (HVal.fieldAddr0 Tryd.runUnderlying46 rfl rfl Tryd.sizeOf42 rfl) ?_
            obtain ⟨x109, c108, h⟩ := h
            refine HList.vals (v := (Sl.v x109)) rfl (HVal.load1 Tryd.isAgg42 rfl c108) ?_
            refine HList.vals (v := (.int .i64 r17)) rfl (HVal.move' rfl) ?_
            obtain ⟨a110, e111, b112, b113, h⟩ := h
            refine HList.vals (v := (.pointer (some (Addr.add a110 (r17.toNat * 3))))) rfl (HVal.indexAddr Tryd.runUnderlying42 Tryd.sizeOf44 (Sl.v_some rfl e111) rfl b112 b113) ?_
            refine HList.vals (v := (.pointer (some (Addr.add (Addr.add a110 (r17.toNat * 3)) 2)))) rfl (HVal.fieldAddr' Tryd.runUnderlying44 rfl rfl Tryd.sizeOf4 rfl) ?_
            obtain ⟨z116, z117, h⟩ := h
            refine HList.opsn (HOp.store1 Tryd.sizeOf4 rfl rfl rfl z116 z117) ?_
            rintro _ H114 e115
            replace h := h H114 e115
            refine HList.nil ?_
            refine nt ?_
            refine HW.seq ?_
            refine HW.region ?_
            refine HList.vals (v := (.pointer p0)) rfl (HVal.move' rfl) ?_
            obtain ⟨x119, x120, x121, c118, h⟩ := h
            refine HList.vals (v := (.agg #[(.int .i64 x119), (.int .i64 x120), (.bool x121)])) rfl (HVal.loadN [(.int .i64 x119), (.int .i64 x120), (.bool x121)] Tryd.isAgg44 Tryd.sizeOf44 rfl c118) ?_
            obtain ⟨a122, e123, h⟩ := h
            refine HList.vals (v := (.pointer (some a122))) rfl (HVal.nilCheck (congrArg Value.pointer e123)) ?_
            refine HList.vals (v := (.pointer (some (Addr.add a122 1)))) rfl (HVal.fieldAddr' Tryd.runUnderlying46 rfl rfl Tryd.sizeOf44 rfl) ?_
            obtain ⟨z126, h⟩ := h
            refine HList.opsn (HOp.storeN' (l := [(.int .i64 x119), (.int .i64 x120), (.bool x121)]) Tryd.sizeOf44 rfl rfl rfl z126) ?_
            rintro _ H124 e125
            replace h := h H124 e125
            refine HList.nil ?_
            refine nt ?_
            refine HW.region ?_
            refine HList.vals (v := (.pointer p0)) rfl (HVal.move' rfl) ?_
            obtain ⟨a127, e128, h⟩ := h
            refine HList.vals (v := (.pointer (some a127))) rfl (HVal.nilCheck (congrArg Value.pointer e128)) ?_
            refine HList.vals (v := (.pointer (some (Addr.add a127 4)))) rfl (HVal.fieldAddr' Tryd.runUnderlying46 rfl rfl Tryd.sizeOf4 rfl) ?_
            obtain ⟨z131, z132, h⟩ := h
            refine HList.opsn (HOp.store1 Tryd.sizeOf4 rfl rfl rfl z131 z132) ?_
            rintro _ H129 e130
            replace h := h H129 e130
            refine HList.nil ?_
            refine nb ?_
            refine nt ?_
            refine HW.region ?_
            refine HList.vals (v := (.int .i64 y1)) rfl (HVal.move' rfl) ?_
            refine HList.vals (v := (.int .i64 (IntKind.i64.wrap (y1 + 1)))) rfl (HVal.add rfl rfl) ?_
            refine HList.vals (v := (.int .i64 (IntKind.i64.wrap (y1 + 1)))) rfl (HVal.assign' rfl) ?_
            refine HList.nil ?_
            refine nt ?_
            exact (hX1 _ _).1 h _ ⟨rfl, rfl, rfl, rfl, trivial⟩
  · have h := hF hb5
    clear hT hF
    refine HW.exit ?_
    refine te ?_
    refine te ?_
    refine be ?_
    refine nt ?_
    refine HW.seq ?_
    refine HW.region ?_
    refine HList.vals (v := (.bool true)) rfl (HVal.assign' rfl) ?_
    refine HList.nil ?_
    refine nt ?_
    refine HW.ret ?_
    exact ⟨_, resOf1 rfl Res1.t, ⟨true, rfl, h⟩⟩

def F13_1 (Q : Bool → Hp → Prop) (y19 : (Option Addr)) (y20 : (Option Addr)) (y21 : Int) (y22 : Int) (y23 : Int) (y24 : Int) (y25 : Int) (y26 : Sl) (y27 : Int) (y30 : Bool) (H_1 : Hp) : Prop :=
(y30 = true → (((decide (y27 = 23)) = true → (((decide (((y26).n : Int) = 0)) = true → (F16 y20 H_1 (fun (r38 : Int) (H36 : Hp) => 
 ((decide (r38 = y24)) = true → (F11 y20 H36 (fun (r43 : Sl) (H41 : Hp) => 
 Q (decide (((r43).n : Int) = y25)) H41))) ∧
 ((decide (r38 = y24)) = false → (Q false H36))))) ∧
 ((decide (((y26).n : Int) = 0)) = false → (Q false H_1)))) ∧
 ((decide (y27 = 23)) = false → (Q false H_1)))) ∧
 (y30 = false → (((decide (y22 < y24)) = true → (((decide (y27 = 180)) = true → (((decide (((y26).n : Int) = 0)) = true → (F16 y20 H_1 (fun (r51 : Int) (H49 : Hp) => 
 ((decide (r51 = y24)) = true → (F11 y20 H49 (fun (r56 : Sl) (H54 : Hp) => 
 Q (decide (((r56).n : Int) = y25)) H54))) ∧
 ((decide (r51 = y24)) = false → (Q false H49))))) ∧
 ((decide (((y26).n : Int) = 0)) = false → (Q false H_1)))) ∧
 ((decide (y27 = 180)) = false → (Q false H_1)))) ∧
 ((decide (y22 < y24)) = false → (((decide (y27 ≠ 0)) = true → (((decide (y27 = 4)) = true → (((decide (y25 = y23)) = true → (((decide (((y26).n : Int) = 0)) = true → (F16 y20 H_1 (fun (r66 : Int) (H64 : Hp) => 
 ((decide (r66 = y24)) = true → (F11 y20 H64 (fun (r71 : Sl) (H69 : Hp) => 
 Q (decide (((r71).n : Int) = y25)) H69))) ∧
 ((decide (r66 = y24)) = false → (Q false H64))))) ∧
 ((decide (((y26).n : Int) = 0)) = false → (Q false H_1)))) ∧
 ((decide (y25 = y23)) = false → (Q false H_1)))) ∧
 ((decide (y27 = 4)) = false → (Q false H_1)))) ∧
 ((decide (y27 ≠ 0)) = false → (∃ a72 : Addr, y19 = some a72 ∧ (
 ∃ x75 : Sl, cell H_1 a72 = some (Sl.v x75) ∧ (
 ∀ H76 : Hp, H76 = Array.push H_1 (.cells #[(.int .i64 y21), (.int .i64 y22), (.bool false)] 44) → (
 AppendF H76 44 3 24 #[(.int .i64 0), (.int .i64 0), (.bool false)] x75 ((Sl.mk (some ⟨H_1.size, 0, none⟩) 1 1)).b ((Sl.mk (some ⟨H_1.size, 0, none⟩) 1 1)).n (fun (r80 : Sl) (H78 : Hp) => 
 ∃ a81 : Addr, y19 = some a81 ∧ (
 (cell H78 a81).isSome = true ∧ frz H78 a81 = false ∧ ∀ H83 : Hp, H83 = setc H78 a81 (Sl.v r80) → (
 F16 y20 H83 (fun (r89 : Int) (H87 : Hp) => 
 ((decide (y24 ≤ r89)) = true → (F16 y20 H87 (fun (r94 : Int) (H92 : Hp) => 
 F15 y19 y26 r94 H92 (fun (r97 : Bool) (H95 : Hp) => 
 Q r97 H95)))) ∧
 ((decide (y24 ≤ r89)) = false → (Q false H87)))))))))))))))
def F13 (p0 : (Option Addr)) (p1 : (Option Addr)) (p2 : Int) (p3 : Int) (p4 : Int) (H : Hp) (Q : Bool → Hp → Prop) : Prop :=
F16 p1 H (fun (r3 : Int) (H1 : Hp) => 
 F11 p1 H1 (fun (r6 : Sl) (H4 : Hp) => 
 F9 p2 H4 (fun (r9 : ByteArray) (H7 : Hp) => 
 F8 r9 p3 H7 (fun (r12 : ByteArray) (r13 : Int) (r14 : Sl) (H10 : Hp) => 
 F7 p1 r12 r13 r14 H10 (fun (r17 : Sl) (r18 : Int) (H15 : Hp) => 
 ((decide (p3 < 0)) = true → (F13_1 Q p0 p1 p2 p3 p4 r3 ((r6).n : Int) r17 r18 true H15)) ∧
 ((decide (p3 < 0)) = false → (F13_1 Q p0 p1 p2 p3 p4 r3 ((r6).n : Int) r17 r18 (decide ((4611686018427387904 : Int) < p3)) H15)))))))
set_option maxRecDepth 100000 in
set_option maxHeartbeats 4000000 in
theorem walk13 {w0 : World} {p0 : (Option Addr)} {p1 : (Option Addr)} {p2 : Int} {p3 : Int} {p4 : Int} {H : Hp} {Q : Bool → Hp → Prop} (h : F13 p0 p1 p2 p3 p4 H Q) :
    Good Tryd.prog w0 13 #[(.pointer p0), (.pointer p1), (.int .i64 p2), (.int .i64 p3), (.int .i64 p4)] H (fun v H => ∃ (r0 : Bool) , v = (.bool r0) ∧ Q r0 H) := by
  unfold F13 at h
  refine Good.enter' (fn := Tryd.f13) Tryd.func13 rfl rfl rfl ?_
  refine HW.seq ?_
  refine HW.region ?_
  refine HList.vals (v := (.bool false)) rfl (HVal.assign' rfl) ?_
  refine HList.nil ?_
  refine nt ?_
  refine HW.seq ?_
  refine HW.region ?_
  refine HList.vals (v := (.pointer p1)) rfl (HVal.move' rfl) ?_
  refine HList.ops' rfl (HOp.call' 16 [(.pointer p1)] (cap := []) rfl rfl Tryd.call16 (walk16 h)) ?_
  rintro _ H1 ⟨r3, rfl, h⟩
  refine HList.vals (v := (.int .i64 r3)) rfl (HVal.assign' rfl) ?_
  refine HList.nil ?_
  refine nt ?_
  refine HW.seq ?_
  refine HW.region ?_
  refine HList.vals (v := (.pointer p1)) rfl (HVal.move' rfl) ?_
  refine HList.ops' rfl (HOp.call' 11 [(.pointer p1)] (cap := []) rfl rfl Tryd.call11 (walk11 h)) ?_
  rintro _ H4 ⟨r6, rfl, h⟩
  refine HList.vals (v := (.int .i64 ((r6).n : Int))) rfl (HVal.len Tryd.runUnderlying28 rfl) ?_
  refine HList.vals (v := (.int .i64 ((r6).n : Int))) rfl (HVal.assign' rfl) ?_
  refine HList.nil ?_
  refine nt ?_
  refine HW.seq ?_
  refine HW.region ?_
  refine HList.vals (v := (.pointer p1)) rfl (HVal.move' rfl) ?_
  refine HList.vals (v := (.int .i64 p2)) rfl (HVal.move' rfl) ?_
  refine HList.ops' rfl (HOp.call' 9 [(.int .i64 p2)] (cap := []) rfl rfl Tryd.call9 (walk9 h)) ?_
  rintro _ H7 ⟨r9, rfl, h⟩
  refine HList.vals (v := (.int .i64 p3)) rfl (HVal.move' rfl) ?_
  refine HList.ops' rfl (HOp.call' 8 [(.string r9), (.int .i64 p3)] (cap := []) rfl rfl Tryd.call8 (walk8 h)) ?_
  rintro _ H10 ⟨r12, r13, r14, rfl, h⟩
  refine HList.ops' rfl (HOp.call' 7 [(.pointer p1), (.agg #[(.string r12), (.int .i64 r13), (Sl.v r14)])] (cap := []) rfl rfl Tryd.call7 (walk7 h)) ?_
  rintro _ H15 ⟨r17, r18, rfl, h⟩
  refine HList.vals (v := (.tuple #[(Sl.v r17), (.int .i64 r18)])) rfl (HVal.move' rfl) ?_
  refine HList.vals (v := (Sl.v r17)) rfl (HVal.extract rfl rfl) ?_
  refine HList.vals (v := (.int .i64 r18)) rfl (HVal.extract rfl rfl) ?_
  refine HList.vals (v := (Sl.v r17)) rfl (HVal.assign' rfl) ?_
  refine HList.vals (v := (.int .i64 r18)) rfl (HVal.assign' rfl) ?_
  refine HList.nil ?_
  refine nt ?_
  refine HW.seq ?_
  refine HW.block ?_
  refine HW.cut (fun ρ H_1 => ∃ (y30 : Bool), Env.Is ρ [(0, (.pointer p0)), (1, (.pointer p1)), (2, (.int .i64 p2)), (3, (.int .i64 p3)), (4, (.int .i64 p4)), (11, (.int .i64 r3)), (12, (.int .i64 ((r6).n : Int))), (13, (Sl.v r17)), (14, (.int .i64 r18)), (29, (.bool y30))] ∧ F13_1 Q p0 p1 p2 p3 p4 r3 ((r6).n : Int) r17 r18 y30 H_1) ?_ ?_
  · refine HW.region ?_
    refine HList.vals (v := (.int .i64 p3)) rfl (HVal.move' rfl) ?_
    refine HList.vals (v := (.bool (decide (p3 < 0)))) rfl (HVal.lss rfl rfl) ?_
    refine HList.vals (v := (.bool (decide (p3 < 0)))) rfl (HVal.move' rfl) ?_
    obtain ⟨hT, hF⟩ := h
    rcases Bool.eq_false_or_eq_true (decide (p3 < 0)) with hb28 | hb29
    · have h := hT hb28
      clear hT hF
      refine HList.gskips rfl rfl rfl rfl (congrArg Value.bool hb28) ?_
      refine HList.gskips rfl rfl rfl rfl (congrArg Value.bool hb28) ?_
      refine HList.vals (v := (.bool true)) rfl (HVal.pickT rfl hb28 rfl) ?_
      refine HList.vals (v := (.bool true)) rfl (HVal.assign' rfl) ?_
      refine HList.nil ?_
      refine nt ?_
      exact ⟨true, ⟨rfl, rfl, rfl, rfl, rfl, rfl, rfl, rfl, rfl, rfl, trivial⟩, h⟩
    · have h := hF hb29
      clear hT hF
      refine HList.gvals (v := (.int .i64 p3)) rfl rfl rfl rfl (congrArg Value.bool hb29) (HVal.move' rfl) ?_
      refine HList.gvals (v := (.bool (decide ((4611686018427387904 : Int) < p3)))) rfl rfl rfl rfl (congrArg Value.bool hb29) (HVal.gtr rfl rfl) ?_
      refine HList.vals (v := (.bool (decide ((4611686018427387904 : Int) < p3)))) rfl (HVal.pickF rfl hb29 rfl) ?_
      refine HList.vals (v := (.bool (decide ((4611686018427387904 : Int) < p3)))) rfl (HVal.assign' rfl) ?_
      refine HList.nil ?_
      refine nt ?_
      exact ⟨(decide ((4611686018427387904 : Int) < p3)), ⟨rfl, rfl, rfl, rfl, rfl, rfl, rfl, rfl, rfl, rfl, trivial⟩, h⟩
  · rintro ρ H_1 ⟨y30, hI, h⟩
    obtain ⟨ρ0, rfl⟩ : ∃ ρ0, ρ = (Env.set (Env.set (Env.set (Env.set (Env.set (Env.set (Env.set (Env.set (Env.set (Env.set ρ0 29 (.bool y30)) 14 (.int .i64 r18)) 13 (Sl.v r17)) 12 (.int .i64 ((r6).n : Int))) 11 (.int .i64 r3)) 4 (.int .i64 p4)) 3 (.int .i64 p3)) 2 (.int .i64 p2)) 1 (.pointer p1)) 0 (.pointer p0)) := ⟨ρ, hI.eq⟩
    clear hI; unfold F13_1 at h
    obtain ⟨hT, hF⟩ := h
    refine HW.cond y30 rfl (fun hb31 => ?_) (fun hb31 => ?_)
    · have h := hT hb31
      clear hT hF
      refine HW.seq ?_
      refine HW.region ?_
      refine HList.vals (v := (.int .i64 r18)) rfl (HVal.move' rfl) ?_
      refine HList.vals (v := (.bool (decide (r18 = 23)))) rfl (HVal.eqlI rfl rfl) ?_
      refine HList.vals (v := (.bool (decide (r18 = 23)))) rfl (HVal.move' rfl) ?_
      obtain ⟨hT, hF⟩ := h
      rcases Bool.eq_false_or_eq_true (decide (r18 = 23)) with hb32 | hb33
      · have h := hT hb32
        clear hT hF
        refine HList.gvals (v := (Sl.v r17)) rfl rfl rfl rfl (congrArg Value.bool hb32) (HVal.move' rfl) ?_
        refine HList.gvals (v := (.int .i64 ((r17).n : Int))) rfl rfl rfl rfl (congrArg Value.bool hb32) (HVal.len Tryd.runUnderlying28 rfl) ?_
        refine HList.gvals (v := (.bool (decide (((r17).n : Int) = 0)))) rfl rfl rfl rfl (congrArg Value.bool hb32) (HVal.eqlI rfl rfl) ?_
        refine HList.vals (v := (.bool (decide (((r17).n : Int) = 0)))) rfl (HVal.pickT rfl hb32 rfl) ?_
        refine HList.vals (v := (.bool (decide (((r17).n : Int) = 0)))) rfl (HVal.move' rfl) ?_
        obtain ⟨hT, hF⟩ := h
        rcases Bool.eq_false_or_eq_true (decide (((r17).n : Int) = 0)) with hb34 | hb35
        · have h := hT hb34
          clear hT hF
          refine HList.gvals (v := (.pointer p1)) rfl rfl rfl rfl (congrArg Value.bool hb34) (HVal.move' rfl) ?_
          refine HList.gops rfl rfl rfl rfl (congrArg Value.bool hb34) (HOp.call' 16 [(.pointer p1)] (cap := []) rfl rfl Tryd.call16 (walk16 h)) ?_
          rintro _ H36 ⟨r38, rfl, h⟩
          refine HList.gvals (v := (.int .i64 r3)) rfl rfl rfl rfl (congrArg Value.bool hb34) (HVal.move' rfl) ?_
          refine HList.gvals (v := (.bool (decide (r38 = r3)))) rfl rfl rfl rfl (congrArg Value.bool hb34) (HVal.eqlI rfl rfl) ?_
          refine HList.vals (v := (.bool (decide (r38 = r3)))) rfl (HVal.pickT rfl hb34 rfl) ?_
          refine HList.vals (v := (.bool (decide (r38 = r3)))) rfl (HVal.move' rfl) ?_
          obtain ⟨hT, hF⟩ := h
          rcases Bool.eq_false_or_eq_true (decide (r38 = r3)) with hb39 | hb40
          · have h := hT hb39
            clear hT hF
            refine HList.gvals (v := (.pointer p1)) rfl rfl rfl rfl (congrArg Value.bool hb39) (HVal.move' rfl) ?_
            refine HList.gops rfl rfl rfl rfl (congrArg Value.bool hb39) (HOp.call' 11 [(.pointer p1)] (cap := []) rfl rfl Tryd.call11 (walk11 h)) ?_
            rintro _ H41 ⟨r43, rfl, h⟩
            refine HList.gvals (v := (.int .i64 ((r43).n : Int))) rfl rfl rfl rfl (congrArg Value.bool hb39) (HVal.len Tryd.runUnderlying28 rfl) ?_
            refine HList.gvals (v := (.int .i64 ((r6).n : Int))) rfl rfl rfl rfl (congrArg Value.bool hb39) (HVal.move' rfl) ?_
            refine HList.gvals (v := (.bool (decide (((r43).n : Int) = ((r6).n : Int))))) rfl rfl rfl rfl (congrArg Value.bool hb39) (HVal.eqlI rfl rfl) ?_
            refine HList.vals (v := (.bool (decide (((r43).n : Int) = ((r6).n : Int))))) rfl (HVal.pickT rfl hb39 rfl) ?_
            refine HList.vals (v := (.bool (decide (((r43).n : Int) = ((r6).n : Int))))) rfl (HVal.assign' rfl) ?_
            refine HList.nil ?_
            refine nt ?_
            refine HW.ret ?_
            refine br ?_
            refine tr ?_
            exact ⟨_, resOf1 rfl Res1.t, ⟨(decide (((r43).n : Int) = ((r6).n : Int))), rfl, h⟩⟩
          · have h := hF hb40
            clear hT hF
            refine HList.gskips rfl rfl rfl rfl (congrArg Value.bool hb40) ?_
            refine HList.gskips rfl rfl rfl rfl (congrArg Value.bool hb40) ?_
            refine HList.gskips rfl rfl rfl rfl (congrArg Value.bool hb40) ?_
            refine HList.gskips rfl rfl rfl rfl (congrArg Value.bool hb40) ?_
            refine HList.gskips rfl rfl rfl rfl (congrArg Value.bool hb40) ?_
            refine HList.vals (v := (.bool false)) rfl (HVal.pickF rfl hb40 rfl) ?_
            refine HList.vals (v := (.bool false)) rfl (HVal.assign' rfl) ?_
            refine HList.nil ?_
            refine nt ?_
            refine HW.ret ?_
            refine br ?_
            refine tr ?_
            exact ⟨_, resOf1 rfl Res1.t, ⟨false, rfl, h⟩⟩
        · have h := hF hb35
          clear hT hF
          refine HList.gskips rfl rfl rfl rfl (congrArg Value.bool hb35) ?_
          refine HList.gskips rfl rfl rfl rfl (congrArg Value.bool hb35) ?_
          refine HList.gskips rfl rfl rfl rfl (congrArg Value.bool hb35) ?_
          refine HList.gskips rfl rfl rfl rfl (congrArg Value.bool hb35) ?_
          refine HList.vals (v := (.bool false)) rfl (HVal.pickF rfl hb35 rfl) ?_
          refine HList.vals (v := (.bool false)) rfl (HVal.move' rfl) ?_
          refine HList.gskips rfl rfl rfl rfl rfl ?_
          refine HList.gskips rfl rfl rfl rfl rfl ?_
          refine HList.gskips rfl rfl rfl rfl rfl ?_
          refine HList.gskips rfl rfl rfl rfl rfl ?_
          refine HList.gskips rfl rfl rfl rfl rfl ?_
          refine HList.vals (v := (.bool false)) rfl (HVal.pickF rfl rfl rfl) ?_
          refine HList.vals (v := (.bool false)) rfl (HVal.assign' rfl) ?_
          refine HList.nil ?_
          refine nt ?_
          refine HW.ret ?_
          refine br ?_
          refine tr ?_
          exact ⟨_, resOf1 rfl Res1.t, ⟨false, rfl, h⟩⟩
      · have h := hF hb33
        clear hT hF
        refine HList.gskips rfl rfl rfl rfl (congrArg Value.bool hb33) ?_
        refine HList.gskips rfl rfl rfl rfl (congrArg Value.bool hb33) ?_
        refine HList.gskips rfl rfl rfl rfl (congrArg Value.bool hb33) ?_
        refine HList.vals (v := (.bool false)) rfl (HVal.pickF rfl hb33 rfl) ?_
        refine HList.vals (v := (.bool false)) rfl (HVal.move' rfl) ?_
        refine HList.gskips rfl rfl rfl rfl rfl ?_
        refine HList.gskips rfl rfl rfl rfl rfl ?_
        refine HList.gskips rfl rfl rfl rfl rfl ?_
        refine HList.gskips rfl rfl rfl rfl rfl ?_
        refine HList.vals (v := (.bool false)) rfl (HVal.pickF rfl rfl rfl) ?_
        refine HList.vals (v := (.bool false)) rfl (HVal.move' rfl) ?_
        refine HList.gskips rfl rfl rfl rfl rfl ?_
        refine HList.gskips rfl rfl rfl rfl rfl ?_
        refine HList.gskips rfl rfl rfl rfl rfl ?_
        refine HList.gskips rfl rfl rfl rfl rfl ?_
        refine HList.gskips rfl rfl rfl rfl rfl ?_
        refine HList.vals (v := (.bool false)) rfl (HVal.pickF rfl rfl rfl) ?_
        refine HList.vals (v := (.bool false)) rfl (HVal.assign' rfl) ?_
        refine HList.nil ?_
        refine nt ?_
        refine HW.ret ?_
        refine br ?_
        refine tr ?_
        exact ⟨_, resOf1 rfl Res1.t, ⟨false, rfl, h⟩⟩
    · have h := hF hb31
      clear hT hF
      refine HW.seq ?_
      refine HW.region ?_
      refine HList.vals (v := (.int .i64 p3)) rfl (HVal.move' rfl) ?_
      refine HList.vals (v := (.int .i64 r3)) rfl (HVal.move' rfl) ?_
      refine HList.vals (v := (.bool (decide (p3 < r3)))) rfl (HVal.lss rfl rfl) ?_
      refine HList.vals (v := (.bool (decide (p3 < r3)))) rfl (HVal.assign' rfl) ?_
      refine HList.nil ?_
      refine nt ?_
      obtain ⟨hT, hF⟩ := h
      refine HW.cond (decide (p3 < r3)) rfl (fun hb44 => ?_) (fun hb44 => ?_)
      · have h := hT hb44
        clear hT hF
        refine HW.seq ?_
        refine HW.region ?_
        refine HList.vals (v := (.int .i64 r18)) rfl (HVal.move' rfl) ?_
        refine HList.vals (v := (.bool (decide (r18 = 180)))) rfl (HVal.eqlI rfl rfl) ?_
        refine HList.vals (v := (.bool (decide (r18 = 180)))) rfl (HVal.move' rfl) ?_
        obtain ⟨hT, hF⟩ := h
        rcases Bool.eq_false_or_eq_true (decide (r18 = 180)) with hb45 | hb46
        · have h := hT hb45
          clear hT hF
          refine HList.gvals (v := (Sl.v r17)) rfl rfl rfl rfl (congrArg Value.bool hb45) (HVal.move' rfl) ?_
          refine HList.gvals (v := (.int .i64 ((r17).n : Int))) rfl rfl rfl rfl (congrArg Value.bool hb45) (HVal.len Tryd.runUnderlying28 rfl) ?_
          refine HList.gvals (v := (.bool (decide (((r17).n : Int) = 0)))) rfl rfl rfl rfl (congrArg Value.bool hb45) (HVal.eqlI rfl rfl) ?_
          refine HList.vals (v := (.bool (decide (((r17).n : Int) = 0)))) rfl (HVal.pickT rfl hb45 rfl) ?_
          refine HList.vals (v := (.bool (decide (((r17).n : Int) = 0)))) rfl (HVal.move' rfl) ?_
          obtain ⟨hT, hF⟩ := h
          rcases Bool.eq_false_or_eq_true (decide (((r17).n : Int) = 0)) with hb47 | hb48
          · have h := hT hb47
            clear hT hF
            refine HList.gvals (v := (.pointer p1)) rfl rfl rfl rfl (congrArg Value.bool hb47) (HVal.move' rfl) ?_
            refine HList.gops rfl rfl rfl rfl (congrArg Value.bool hb47) (HOp.call' 16 [(.pointer p1)] (cap := []) rfl rfl Tryd.call16 (walk16 h)) ?_
            rintro _ H49 ⟨r51, rfl, h⟩
            refine HList.gvals (v := (.int .i64 r3)) rfl rfl rfl rfl (congrArg Value.bool hb47) (HVal.move' rfl) ?_
            refine HList.gvals (v := (.bool (decide (r51 = r3)))) rfl rfl rfl rfl (congrArg Value.bool hb47) (HVal.eqlI rfl rfl) ?_
            refine HList.vals (v := (.bool (decide (r51 = r3)))) rfl (HVal.pickT rfl hb47 rfl) ?_
            refine HList.vals (v := (.bool (decide (r51 = r3)))) rfl (HVal.move' rfl) ?_
            obtain ⟨hT, hF⟩ := h
            rcases Bool.eq_false_or_eq_true (decide (r51 = r3)) with hb52 | hb53
            · have h := hT hb52
              clear hT hF
              refine HList.gvals (v := (.pointer p1)) rfl rfl rfl rfl (congrArg Value.bool hb52) (HVal.move' rfl) ?_
              refine HList.gops rfl rfl rfl rfl (congrArg Value.bool hb52) (HOp.call' 11 [(.pointer p1)] (cap := []) rfl rfl Tryd.call11 (walk11 h)) ?_
              rintro _ H54 ⟨r56, rfl, h⟩
              refine HList.gvals (v := (.int .i64 ((r56).n : Int))) rfl rfl rfl rfl (congrArg Value.bool hb52) (HVal.len Tryd.runUnderlying28 rfl) ?_
              refine HList.gvals (v := (.int .i64 ((r6).n : Int))) rfl rfl rfl rfl (congrArg Value.bool hb52) (HVal.move' rfl) ?_
              refine HList.gvals (v := (.bool (decide (((r56).n : Int) = ((r6).n : Int))))) rfl rfl rfl rfl (congrArg Value.bool hb52) (HVal.eqlI rfl rfl) ?_
              refine HList.vals (v := (.bool (decide (((r56).n : Int) = ((r6).n : Int))))) rfl (HVal.pickT rfl hb52 rfl) ?_
              refine HList.vals (v := (.bool (decide (((r56).n : Int) = ((r6).n : Int))))) rfl (HVal.assign' rfl) ?_
              refine HList.nil ?_
              refine nt ?_
              refine HW.ret ?_
              refine br ?_
              refine tr ?_
              exact ⟨_, resOf1 rfl Res1.t, ⟨(decide (((r56).n : Int) = ((r6).n : Int))), rfl, h⟩⟩
            · have h := hF hb53
              clear hT hF
              refine HList.gskips rfl rfl rfl rfl (congrArg Value.bool hb53) ?_
              refine HList.gskips rfl rfl rfl rfl (congrArg Value.bool hb53) ?_
              refine HList.gskips rfl rfl rfl rfl (congrArg Value.bool hb53) ?_
              refine HList.gskips rfl rfl rfl rfl (congrArg Value.bool hb53) ?_
              refine HList.gskips rfl rfl rfl rfl (congrArg Value.bool hb53) ?_
              refine HList.vals (v := (.bool false)) rfl (HVal.pickF rfl hb53 rfl) ?_
              refine HList.vals (v := (.bool false)) rfl (HVal.assign' rfl) ?_
              refine HList.nil ?_
              refine nt ?_
              refine HW.ret ?_
              refine br ?_
              refine tr ?_
              exact ⟨_, resOf1 rfl Res1.t, ⟨false, rfl, h⟩⟩
          · have h := hF hb48
            clear hT hF
            refine HList.gskips rfl rfl rfl rfl (congrArg Value.bool hb48) ?_
            refine HList.gskips rfl rfl rfl rfl (congrArg Value.bool hb48) ?_
            refine HList.gskips rfl rfl rfl rfl (congrArg Value.bool hb48) ?_
            refine HList.gskips rfl rfl rfl rfl (congrArg Value.bool hb48) ?_
            refine HList.vals (v := (.bool false)) rfl (HVal.pickF rfl hb48 rfl) ?_
            refine HList.vals (v := (.bool false)) rfl (HVal.move' rfl) ?_
            refine HList.gskips rfl rfl rfl rfl rfl ?_
            refine HList.gskips rfl rfl rfl rfl rfl ?_
            refine HList.gskips rfl rfl rfl rfl rfl ?_
            refine HList.gskips rfl rfl rfl rfl rfl ?_
            refine HList.gskips rfl rfl rfl rfl rfl ?_
            refine HList.vals (v := (.bool false)) rfl (HVal.pickF rfl rfl rfl) ?_
            refine HList.vals (v := (.bool false)) rfl (HVal.assign' rfl) ?_
            refine HList.nil ?_
            refine nt ?_
            refine HW.ret ?_
            refine br ?_
            refine tr ?_
            exact ⟨_, resOf1 rfl Res1.t, ⟨false, rfl, h⟩⟩
        · have h := hF hb46
          clear hT hF
          refine HList.gskips rfl rfl rfl rfl (congrArg Value.bool hb46) ?_
          refine HList.gskips rfl rfl rfl rfl (congrArg Value.bool hb46) ?_
          refine HList.gskips rfl rfl rfl rfl (congrArg Value.bool hb46) ?_
          refine HList.vals (v := (.bool false)) rfl (HVal.pickF rfl hb46 rfl) ?_
          refine HList.vals (v := (.bool false)) rfl (HVal.move' rfl) ?_
          refine HList.gskips rfl rfl rfl rfl rfl ?_
          refine HList.gskips rfl rfl rfl rfl rfl ?_
          refine HList.gskips rfl rfl rfl rfl rfl ?_
          refine HList.gskips rfl rfl rfl rfl rfl ?_
          refine HList.vals (v := (.bool false)) rfl (HVal.pickF rfl rfl rfl) ?_
          refine HList.vals (v := (.bool false)) rfl (HVal.move' rfl) ?_
          refine HList.gskips rfl rfl rfl rfl rfl ?_
          refine HList.gskips rfl rfl rfl rfl rfl ?_
          refine HList.gskips rfl rfl rfl rfl rfl ?_
          refine HList.gskips rfl rfl rfl rfl rfl ?_
          refine HList.gskips rfl rfl rfl rfl rfl ?_
          refine HList.vals (v := (.bool false)) rfl (HVal.pickF rfl rfl rfl) ?_
          refine HList.vals (v := (.bool false)) rfl (HVal.assign' rfl) ?_
          refine HList.nil ?_
          refine nt ?_
          refine HW.ret ?_
          refine br ?_
          refine tr ?_
          exact ⟨_, resOf1 rfl Res1.t, ⟨false, rfl, h⟩⟩
      · have h := hF hb44
        clear hT hF
        refine HW.seq ?_
        refine HW.region ?_
        refine HList.vals (v := (.int .i64 r18)) rfl (HVal.move' rfl) ?_
        refine HList.vals (v := (.bool (decide (r18 ≠ 0)))) rfl (HVal.neqI rfl rfl) ?_
        refine HList.vals (v := (.bool (decide (r18 ≠ 0)))) rfl (HVal.assign' rfl) ?_
        refine HList.nil ?_
        refine nt ?_
        obtain ⟨hT, hF⟩ := h
        refine HW.cond (decide (r18 ≠ 0)) rfl (fun hb57 => ?_) (fun hb57 => ?_)
        · have h := hT hb57
          clear hT hF
          refine HW.seq ?_
          refine HW.region ?_
          refine HList.vals (v := (.int .i64 r18)) rfl (HVal.move' rfl) ?_
          refine HList.vals (v := (.bool (decide (r18 = 4)))) rfl (HVal.eqlI rfl rfl) ?_
          refine HList.vals (v := (.bool (decide (r18 = 4)))) rfl (HVal.move' rfl) ?_
          obtain ⟨hT, hF⟩ := h
          rcases Bool.eq_false_or_eq_true (decide (r18 = 4)) with hb58 | hb59
          · have h := hT hb58
            clear hT hF
            refine HList.gvals (v := (.int .i64 ((r6).n : Int))) rfl rfl rfl rfl (congrArg Value.bool hb58) (HVal.move' rfl) ?_
            refine HList.gvals (v := (.int .i64 p4)) rfl rfl rfl rfl (congrArg Value.bool hb58) (HVal.move' rfl) ?_
            refine HList.gvals (v := (.bool (decide (((r6).n : Int) = p4)))) rfl rfl rfl rfl (congrArg Value.bool hb58) (HVal.eqlI rfl rfl) ?_
            refine HList.vals (v := (.bool (decide (((r6).n : Int) = p4)))) rfl (HVal.pickT rfl hb58 rfl) ?_
            refine HList.vals (v := (.bool (decide (((r6).n : Int) = p4)))) rfl (HVal.move' rfl) ?_
            obtain ⟨hT, hF⟩ := h
            rcases Bool.eq_false_or_eq_true (decide (((r6).n : Int) = p4)) with hb60 | hb61
            · have h := hT hb60
              clear hT hF
              refine HList.gvals (v := (Sl.v r17)) rfl rfl rfl rfl (congrArg Value.bool hb60) (HVal.move' rfl) ?_
              refine HList.gvals (v := (.int .i64 ((r17).n : Int))) rfl rfl rfl rfl (congrArg Value.bool hb60) (HVal.len Tryd.runUnderlying28 rfl) ?_
              refine HList.gvals (v := (.bool (decide (((r17).n : Int) = 0)))) rfl rfl rfl rfl (congrArg Value.bool hb60) (HVal.eqlI rfl rfl) ?_
              refine HList.vals (v := (.bool (decide (((r17).n : Int) = 0)))) rfl (HVal.pickT rfl hb60 rfl) ?_
              refine HList.vals (v := (.bool (decide (((r17).n : Int) = 0)))) rfl (HVal.move' rfl) ?_
              obtain ⟨hT, hF⟩ := h
              rcases Bool.eq_false_or_eq_true (decide (((r17).n : Int) = 0)) with hb62 | hb63
              · have h := hT hb62
                clear hT hF
                refine HList.gvals (v := (.pointer p1)) rfl rfl rfl rfl (congrArg Value.bool hb62) (HVal.move' rfl) ?_
                refine HList.gops rfl rfl rfl rfl (congrArg Value.bool hb62) (HOp.call' 16 [(.pointer p1)] (cap := []) rfl rfl Tryd.call16 (walk16 h)) ?_
                rintro _ H64 ⟨r66, rfl, h⟩
                refine HList.gvals (v := (.int .i64 r3)) rfl rfl rfl rfl (congrArg Value.bool hb62) (HVal.move' rfl) ?_
                refine HList.gvals (v := (.bool (decide (r66 = r3)))) rfl rfl rfl rfl (congrArg Value.bool hb62) (HVal.eqlI rfl rfl) ?_
                refine HList.vals (v := (.bool (decide (r66 = r3)))) rfl (HVal.pickT rfl hb62 rfl) ?_
                refine HList.vals (v := (.bool (decide (r66 = r3)))) rfl (HVal.move' rfl) ?_
                obtain ⟨hT, hF⟩ := h
                rcases Bool.eq_false_or_eq_true (decide (r66 = r3)) with hb67 | hb68
                · have h := hT hb67
                  clear hT hF
                  refine HList.gvals (v := (.pointer p1)) rfl rfl rfl rfl (congrArg Value.bool hb67) (HVal.move' rfl) ?_
                  refine HList.gops rfl rfl rfl rfl (congrArg Value.bool hb67) (HOp.call' 11 [(.pointer p1)] (cap := []) rfl rfl Tryd.call11 (walk11 h)) ?_
                  rintro _ H69 ⟨r71, rfl, h⟩
                  refine HList.gvals (v := (.int .i64 ((r71).n : Int))) rfl rfl rfl rfl (congrArg Value.bool hb67) (HVal.len Tryd.runUnderlying28 rfl) ?_
                  refine HList.gvals (v := (.int .i64 ((r6).n : Int))) rfl rfl rfl rfl (congrArg Value.bool hb67) (HVal.move' rfl) ?_
                  refine HList.gvals (v := (.bool (decide (((r71).n : Int) = ((r6).n : Int))))) rfl rfl rfl rfl (congrArg Value.bool hb67) (HVal.eqlI rfl rfl) ?_
                  refine HList.vals (v := (.bool (decide (((r71).n : Int) = ((r6).n : Int))))) rfl (HVal.pickT rfl hb67 rfl) ?_
                  refine HList.vals (v := (.bool (decide (((r71).n : Int) = ((r6).n : Int))))) rfl (HVal.assign' rfl) ?_
                  refine HList.nil ?_
                  refine nt ?_
                  refine HW.ret ?_
                  refine br ?_
                  refine tr ?_
                  exact ⟨_, resOf1 rfl Res1.t, ⟨(decide (((r71).n : Int) = ((r6).n : Int))), rfl, h⟩⟩
                · have h := hF hb68
                  clear hT hF
                  refine HList.gskips rfl rfl rfl rfl (congrArg Value.bool hb68) ?_
                  refine HList.gskips rfl rfl rfl rfl (congrArg Value.bool hb68) ?_
                  refine HList.gskips rfl rfl rfl rfl (congrArg Value.bool hb68) ?_
                  refine HList.gskips rfl rfl rfl rfl (congrArg Value.bool hb68) ?_
                  refine HList.gskips rfl rfl rfl rfl (congrArg Value.bool hb68) ?_
                  refine HList.vals (v := (.bool false)) rfl (HVal.pickF rfl hb68 rfl) ?_
                  refine HList.vals (v := (.bool false)) rfl (HVal.assign' rfl) ?_
                  refine HList.nil ?_
                  refine nt ?_
                  refine HW.ret ?_
                  refine br ?_
                  refine tr ?_
                  exact ⟨_, resOf1 rfl Res1.t, ⟨false, rfl, h⟩⟩
              · have h := hF hb63
                clear hT hF
                refine HList.gskips rfl rfl rfl rfl (congrArg Value.bool hb63) ?_
                refine HList.gskips rfl rfl rfl rfl (congrArg Value.bool hb63) ?_
                refine HList.gskips rfl rfl rfl rfl (congrArg Value.bool hb63) ?_
                refine HList.gskips rfl rfl rfl rfl (congrArg Value.bool hb63) ?_
                refine HList.vals (v := (.bool false)) rfl (HVal.pickF rfl hb63 rfl) ?_
                refine HList.vals (v := (.bool false)) rfl (HVal.move' rfl) ?_
                refine HList.gskips rfl rfl rfl rfl rfl ?_
                refine HList.gskips rfl rfl rfl rfl rfl ?_
                refine HList.gskips rfl rfl rfl rfl rfl ?_
                refine HList.gskips rfl rfl rfl rfl rfl ?_
                refine HList.gskips rfl rfl rfl rfl rfl ?_
                refine HList.vals (v := (.bool false)) rfl (HVal.pickF rfl rfl rfl) ?_
                refine HList.vals (v := (.bool false)) rfl (HVal.assign' rfl) ?_
                refine HList.nil ?_
                refine nt ?_
                refine HW.ret ?_
                refine br ?_
                refine tr ?_
                exact ⟨_, resOf1 rfl Res1.t, ⟨false, rfl, h⟩⟩
            · have h := hF hb61
              clear hT hF
              refine HList.gskips rfl rfl rfl rfl (congrArg Value.bool hb61) ?_
              refine HList.gskips rfl rfl rfl rfl (congrArg Value.bool hb61) ?_
              refine HList.gskips rfl rfl rfl rfl (congrArg Value.bool hb61) ?_
              refine HList.vals (v := (.bool false)) rfl (HVal.pickF rfl hb61 rfl) ?_
              refine HList.vals (v := (.bool false)) rfl (HVal.move' rfl) ?_
              refine HList.gskips rfl rfl rfl rfl rfl ?_
              refine HList.gskips rfl rfl rfl rfl rfl ?_
              refine HList.gskips rfl rfl rfl rfl rfl ?_
              refine HList.gskips rfl rfl rfl rfl rfl ?_
              refine HList.vals (v := (.bool false)) rfl (HVal.pickF rfl rfl rfl) ?_
              refine HList.vals (v := (.bool false)) rfl (HVal.move' rfl) ?_
              refine HList.gskips rfl rfl rfl rfl rfl ?_
              refine HList.gskips rfl rfl rfl rfl rfl ?_
              refine HList.gskips rfl rfl rfl rfl rfl ?_
              refine HList.gskips rfl rfl rfl rfl rfl ?_
              refine HList.gskips rfl rfl rfl rfl rfl ?_
              refine HList.vals (v := (.bool false)) rfl (HVal.pickF rfl rfl rfl) ?_
              refine HList.vals (v := (.bool false)) rfl (HVal.assign' rfl) ?_
              refine HList.nil ?_
              refine nt ?_
              refine HW.ret ?_
              refine br ?_
              refine tr ?_
              exact ⟨_, resOf1 rfl Res1.t, ⟨false, rfl, h⟩⟩
          · have h := hF hb59
            clear hT hF
            refine HList.gskips rfl rfl rfl rfl (congrArg Value.bool hb59) ?_
            refine HList.gskips rfl rfl rfl rfl (congrArg Value.bool hb59) ?_
            refine HList.gskips rfl rfl rfl rfl (congrArg Value.bool hb59) ?_
            refine HList.vals (v := (.bool false)) rfl (HVal.pickF rfl hb59 rfl) ?_
            refine HList.vals (v := (.bool false)) rfl (HVal.move' rfl) ?_
            refine HList.gskips rfl rfl rfl rfl rfl ?_
            refine HList.gskips rfl rfl rfl rfl rfl ?_
            refine HList.gskips rfl rfl rfl rfl rfl ?_
            refine HList.vals (v := (.bool false)) rfl (HVal.pickF rfl rfl rfl) ?_
            refine HList.vals (v := (.bool false)) rfl (HVal.move' rfl) ?_
            refine HList.gskips rfl rfl rfl rfl rfl ?_
            refine HList.gskips rfl rfl rfl rfl rfl ?_
            refine HList.gskips rfl rfl rfl rfl rfl ?_
            refine HList.gskips rfl rfl rfl rfl rfl ?_
            refine HList.vals (v := (.bool false)) rfl (HVal.pickF rfl rfl rfl) ?_
            refine HList.vals (v := (.bool false)) rfl (HVal.move' rfl) ?_
            refine HList.gskips rfl rfl rfl rfl rfl ?_
            refine HList.gskips rfl rfl rfl rfl rfl ?_
            refine HList.gskips rfl rfl rfl rfl rfl ?_
            refine HList.gskips rfl rfl rfl rfl rfl ?_
            refine HList.gskips rfl rfl rfl rfl rfl ?_
            refine HList.vals (v := (.bool false)) rfl (HVal.pickF rfl rfl rfl) ?_
            refine HList.vals (v := (.bool false)) rfl (HVal.assign' rfl) ?_
            refine HList.nil ?_
            refine nt ?_
            refine HW.ret ?_
            refine br ?_
            refine tr ?_
            exact ⟨_, resOf1 rfl Res1.t, ⟨false, rfl, h⟩⟩
        · have h := hF hb57
          clear hT hF
          refine HW.skip ?_
          refine nb ?_
          refine nt ?_
          refine HW.seq ?_
          refine HW.region ?_
          refine HList.vals (v := (.pointer p0)) rfl (HVal.move' rfl) ?_
          refine HList.vals (v := (.pointer p0)) rfl (HVal.move' rfl) ?_
          obtain ⟨a72, e73, h⟩ := h
          refine HList.vals (v := (.pointer (some a72))) rfl (HVal.nilCheck (congrArg Value.pointer e73)) ?_
          refine HList.vals (v := (.pointer (some a72))) rfl (HVal.fieldAddr0 Tryd.runUnderlying46 rfl rfl Tryd.sizeOf42 rfl) ?_
          obtain ⟨x75, c74, h⟩ := h
          refine HList.vals (v := (Sl.v x75)) rfl (HVal.load1 Tryd.isAgg42 rfl c74) ?_
          refine HList.vals (v := (.int .i64 p2)) rfl (HVal.move' rfl) ?_
          refine HList.vals (v := (.int .i64 p3)) rfl (HVal.move' rfl) ?_
          refine HList.vals (v := (.agg #[(.int .i64 p2), (.int .i64 p3), (.bool false)])) rfl (HVal.build' (cs := [(.int .i64 p2), (.int .i64 p3), (.bool false)]) Tryd.runUnderlying44 Tryd.zeroValue44 places44 rfl) ?_
          refine HList.ops' rfl (HOp.buildSlice' (zs := [(.int .i64 0), (.int .i64 0), (.bool false)]) (cs := [(.int .i64 p2), (.int .i64 p3), (.bool false)]) Tryd.runUnderlying42 Tryd.sizeOf44 Tryd.zeroValue44 (by decide) (by kernel_rfl) rfl (by decide)) ?_
          rintro _ H76 ⟨rfl, e77⟩
          replace h := h H76 e77
          refine HList.ops' rfl (HOp.append (k := 3) (b := 24) Tryd.runUnderlying42 Tryd.runUnderlying42 Tryd.typeInfo44 rfl rfl Tryd.zeroValue44 rfl rfl h) ?_
          rintro _ H78 ⟨r80, rfl, h⟩
          obtain ⟨a81, e82, h⟩ := h
          refine HList.vals (v := (.pointer (some a81))) rfl (HVal.nilCheck (congrArg Value.pointer e82)) ?_
          refine HList.vals (v := (.pointer (some a81))) rfl (HVal.fieldAddr0 Tryd.runUnderlying46 rfl rfl Tryd.sizeOf42 rfl) ?_
          obtain ⟨z85, z86, h⟩ := h
          refine HList.opsn (HOp.store1 Tryd.sizeOf42 rfl rfl rfl z85 z86) ?_
          rintro _ H83 e84
          replace h := h H83 e84
          refine HList.nil ?_
          refine nt ?_
          refine HW.seq ?_
          refine HW.region ?_
          refine HList.vals (v := (.pointer p1)) rfl (HVal.move' rfl) ?_
          refine HList.ops' rfl (HOp.call' 16 [(.pointer p1)] (cap := []) rfl rfl Tryd.call16 (walk16 h)) ?_
          rintro _ H87 ⟨r89, rfl, h⟩
          refine HList.vals (v := (.int .i64 r3)) rfl (HVal.move' rfl) ?_
          refine HList.vals (v := (.bool (decide (r3 ≤ r89)))) rfl (HVal.geq rfl rfl) ?_
          refine HList.vals (v := (.bool (decide (r3 ≤ r89)))) rfl (HVal.move' rfl) ?_
          obtain ⟨hT, hF⟩ := h
          rcases Bool.eq_false_or_eq_true (decide (r3 ≤ r89)) with hb90 | hb91
          · have h := hT hb90
            clear hT hF
            refine HList.gvals (v := (.pointer p0)) rfl rfl rfl rfl (congrArg Value.bool hb90) (HVal.move' rfl) ?_
            refine HList.gvals (v := (Sl.v r17)) rfl rfl rfl rfl (congrArg Value.bool hb90) (HVal.move' rfl) ?_
            refine HList.gvals (v := (.pointer p1)) rfl rfl rfl rfl (congrArg Value.bool hb90) (HVal.move' rfl) ?_
            refine HList.gops rfl rfl rfl rfl (congrArg Value.bool hb90) (HOp.call' 16 [(.pointer p1)] (cap := []) rfl rfl Tryd.call16 (walk16 h)) ?_
            rintro _ H92 ⟨r94, rfl, h⟩
            refine HList.gops rfl rfl rfl rfl (congrArg Value.bool hb90) (HOp.call' 15 [(.pointer p0), (Sl.v r17), (.int .i64 r94)] (cap := []) rfl rfl Tryd.call15 (walk15 h)) ?_
            rintro _ H95 ⟨r97, rfl, h⟩
            refine HList.vals (v := (.bool r97)) rfl (HVal.pickT rfl hb90 rfl) ?_
            refine HList.vals (v := (.bool r97)) rfl (HVal.assign' rfl) ?_
            refine HList.nil ?_
            refine nt ?_
            refine HW.ret ?_
            exact ⟨_, resOf1 rfl Res1.t, ⟨r97, rfl, h⟩⟩
          · have h := hF hb91
            clear hT hF
            refine HList.gskips rfl rfl rfl rfl (congrArg Value.bool hb91) ?_
            refine HList.gskips rfl rfl rfl rfl (congrArg Value.bool hb91) ?_
            refine HList.gskips rfl rfl rfl rfl (congrArg Value.bool hb91) ?_
            refine HList.gskips rfl rfl rfl rfl (congrArg Value.bool hb91) ?_
            refine HList.gskips rfl rfl rfl rfl (congrArg Value.bool hb91) ?_
            refine HList.vals (v := (.bool false)) rfl (HVal.pickF rfl hb91 rfl) ?_
            refine HList.vals (v := (.bool false)) rfl (HVal.assign' rfl) ?_
            refine HList.nil ?_
            refine nt ?_
            refine HW.ret ?_
            exact ⟨_, resOf1 rfl Res1.t, ⟨false, rfl, h⟩⟩

def F14_1 (Q : Sl → Int → Hp → Prop) (y1 : (Option Addr)) (y2 : Int) (y5 : Bool) (H_1 : Hp) : Prop :=
(y5 = true → (Q Sl.nil 23 H_1)) ∧
 (y5 = false → (F20 y1 y2 H_1 (fun (r9 : Int) (r10 : Int) (H7 : Hp) => 
 ∃ a11 : Addr, y1 = some a11 ∧ (
 (cell H7 (Addr.add a11 3)).isSome = true ∧ frz H7 (Addr.add a11 3) = false ∧ ∀ H13 : Hp, H13 = setc H7 (Addr.add a11 3) (.int .i64 r9) → (
 ∃ a17 : Addr, y1 = some a17 ∧ (
 (cell H13 (Addr.add a17 4)).isSome = true ∧ frz H13 (Addr.add a17 4) = false ∧ ∀ H19 : Hp, H19 = setc H13 (Addr.add a17 4) (.int .i64 r10) → (
 F24 y1 H19 (fun (r25 : Sl) (H23 : Hp) => 
 Q r25 0 H23))))))))
def F14 (p0 : (Option Addr)) (p1 : Int) (H : Hp) (Q : Sl → Int → Hp → Prop) : Prop :=
((decide (p1 < 0)) = true → (F14_1 Q p0 p1 true H)) ∧
 ((decide (p1 < 0)) = false → (F14_1 Q p0 p1 (decide ((4611686018427387904 : Int) < p1)) H))
set_option maxRecDepth 100000 in
set_option maxHeartbeats 4000000 in
theorem walk14 {w0 : World} {p0 : (Option Addr)} {p1 : Int} {H : Hp} {Q : Sl → Int → Hp → Prop} (h : F14 p0 p1 H Q) :
    Good Tryd.prog w0 14 #[(.pointer p0), (.int .i64 p1)] H (fun v H => ∃ (r0 : Sl) (r1 : Int) , v = (.tuple #[(Sl.v r0), (.int .i64 r1)]) ∧ Q r0 r1 H) := by
  unfold F14 at h
  refine Good.enter' (fn := Tryd.f14) Tryd.func14 rfl rfl rfl ?_
  refine HW.seq ?_
  refine HW.region ?_
  refine HList.vals (v := (Sl.v Sl.nil)) rfl (HVal.assign' rfl) ?_
  refine HList.vals (v := (.int .i64 0)) rfl (HVal.assign' rfl) ?_
  refine HList.nil ?_
  refine nt ?_
  refine HW.seq ?_
  refine HW.cut (fun ρ H_1 => ∃ (y5 : Bool), Env.Is ρ [(0, (.pointer p0)), (1, (.int .i64 p1)), (11, (.bool y5))] ∧ F14_1 Q p0 p1 y5 H_1) ?_ ?_
  · refine HW.region ?_
    refine HList.vals (v := (.int .i64 p1)) rfl (HVal.move' rfl) ?_
    refine HList.vals (v := (.bool (decide (p1 < 0)))) rfl (HVal.lss rfl rfl) ?_
    refine HList.vals (v := (.bool (decide (p1 < 0)))) rfl (HVal.move' rfl) ?_
    obtain ⟨hT, hF⟩ := h
    rcases Bool.eq_false_or_eq_true (decide (p1 < 0)) with hb3 | hb4
    · have h := hT hb3
      clear hT hF
      refine HList.gskips rfl rfl rfl rfl (congrArg Value.bool hb3) ?_
      refine HList.gskips rfl rfl rfl rfl (congrArg Value.bool hb3) ?_
      refine HList.vals (v := (.bool true)) rfl (HVal.pickT rfl hb3 rfl) ?_
      refine HList.nil ?_
      refine nt ?_
      exact ⟨true, ⟨rfl, rfl, rfl, trivial⟩, h⟩
    · have h := hF hb4
      clear hT hF
      refine HList.gvals (v := (.int .i64 p1)) rfl rfl rfl rfl (congrArg Value.bool hb4) (HVal.move' rfl) ?_
      refine HList.gvals (v := (.bool (decide ((4611686018427387904 : Int) < p1)))) rfl rfl rfl rfl (congrArg Value.bool hb4) (HVal.gtr rfl rfl) ?_
      refine HList.vals (v := (.bool (decide ((4611686018427387904 : Int) < p1)))) rfl (HVal.pickF rfl hb4 rfl) ?_
      refine HList.nil ?_
      refine nt ?_
      exact ⟨(decide ((4611686018427387904 : Int) < p1)), ⟨rfl, rfl, rfl, trivial⟩, h⟩
  · rintro ρ H_1 ⟨y5, hI, h⟩
    obtain ⟨ρ0, rfl⟩ : ∃ ρ0, ρ = (Env.set (Env.set (Env.set ρ0 11 (.bool y5)) 1 (.int .i64 p1)) 0 (.pointer p0)) := ⟨ρ, hI.eq⟩
    clear hI; unfold F14_1 at h
    obtain ⟨hT, hF⟩ := h
    refine HW.cond y5 rfl (fun hb6 => ?_) (fun hb6 => ?_)
    · have h := hT hb6
      clear hT hF
      refine HW.seq ?_
      refine HW.region ?_
      refine HList.vals (v := (Sl.v Sl.nil)) rfl (HVal.assign' rfl) ?_
      refine HList.vals (v := (.int .i64 23)) rfl (HVal.assign' rfl) ?_
      refine HList.nil ?_
      refine nt ?_
      refine HW.ret ?_
      refine tr ?_
      exact ⟨_, resOf2 rfl Res1.t Res1.t, ⟨Sl.nil, 23, rfl, h⟩⟩
    · have h := hF hb6
      clear hT hF
      refine HW.skip ?_
      refine nt ?_
      refine HW.seq ?_
      refine HW.region ?_
      refine HList.vals (v := (.pointer p0)) rfl (HVal.move' rfl) ?_
      refine HList.vals (v := (.pointer p0)) rfl (HVal.move' rfl) ?_
      refine HList.vals (v := (.pointer p0)) rfl (HVal.move' rfl) ?_
      refine HList.vals (v := (.int .i64 p1)) rfl (HVal.move' rfl) ?_
      refine HList.ops' rfl (HOp.call' 20 [(.pointer p0), (.int .i64 p1)] (cap := []) rfl rfl Tryd.call20 (walk20 h)) ?_
      rintro _ H7 ⟨r9, r10, rfl, h⟩
      refine HList.vals (v := (.tuple #[(.int .i64 r9), (.int .i64 r10)])) rfl (HVal.move' rfl) ?_
      refine HList.vals (v := (.int .i64 r9)) rfl (HVal.extract rfl rfl) ?_
      refine HList.vals (v := (.int .i64 r10)) rfl (HVal.extract rfl rfl) ?_
      obtain ⟨a11, e12, h⟩ := h
      refine HList.vals (v := (.pointer (some a11))) rfl (HVal.nilCheck (congrArg Value.pointer e12)) ?_
      refine HList.vals (v := (.pointer (some (Addr.add a11 3)))) rfl (HVal.fieldAddr' Tryd.runUnderlying63 rfl rfl Tryd.sizeOf2 rfl) ?_
      obtain ⟨z15, z16, h⟩ := h
      refine HList.opsn (HOp.store1 Tryd.sizeOf2 rfl rfl rfl z15 z16) ?_
      rintro _ H13 e14
      replace h := h H13 e14
      obtain ⟨a17, e18, h⟩ := h
      refine HList.vals (v := (.pointer (some a17))) rfl (HVal.nilCheck (congrArg Value.pointer e18)) ?_
      refine HList.vals (v := (.pointer (some (Addr.add a17 4)))) rfl (HVal.fieldAddr' Tryd.runUnderlying63 rfl rfl Tryd.sizeOf2 rfl) ?_
      obtain ⟨z21, z22, h⟩ := h
      refine HList.opsn (HOp.store1 Tryd.sizeOf2 rfl rfl rfl z21 z22) ?_
      rintro _ H19 e20
      replace h := h H19 e20
      refine HList.nil ?_
      refine nt ?_
      refine HW.seq ?_
      refine HW.region ?_
      refine HList.vals (v := (.pointer p0)) rfl (HVal.move' rfl) ?_
      refine HList.ops' rfl (HOp.call' 24 [(.pointer p0)] (cap := []) rfl rfl Tryd.call24 (walk24 h)) ?_
      rintro _ H23 ⟨r25, rfl, h⟩
      refine HList.vals (v := (Sl.v r25)) rfl (HVal.assign' rfl) ?_
      refine HList.vals (v := (.int .i64 0)) rfl (HVal.assign' rfl) ?_
      refine HList.nil ?_
      refine nt ?_
      refine HW.ret ?_
      exact ⟨_, resOf2 rfl Res1.t Res1.t, ⟨r25, 0, rfl, h⟩⟩

def F17_5 (Q : Bool → Hp → Prop) (X4 : Int → Hp → Prop) (y37 : (Option Addr)) (y38 : Sl) (y39 : Int) (y40 : Int) (H_5 : Hp) : Prop :=
X4 (IntKind.i64.wrap (y40 + 1)) H_5
def F17_7 (Q : Bool → Hp → Prop) (X4 : Int → Hp → Prop) (y98 : (Option Addr)) (y99 : Sl) (y100 : Int) (y101 : Int) (y116 : Bool) (H_7 : Hp) : Prop :=
(y116 = true → (Q false H_7)) ∧
 (y116 = false → (F17_5 Q X4 y98 y99 y100 y101 H_7))
def F17_6 (Q : Bool → Hp → Prop) (X4 : Int → Hp → Prop) (y53 : (Option Addr)) (y54 : Sl) (y55 : Int) (y56 : Int) (y57 : Int) (y60 : Bool) (H_6 : Hp) : Prop :=
(y60 = true → (Q false H_6)) ∧
 (y60 = false → (((decide ((0 : Int) < y56)) = true → (∃ a89 : Addr, (y54).b = some a89 ∧ (0 : Int) ≤ (IntKind.i64.wrap (y56 - 1)) ∧ (IntKind.i64.wrap (y56 - 1)) < ((y54).n : Int) ∧ (
 ∃ x94 : ByteArray, cell H_6 (Addr.add a89 ((IntKind.i64.wrap (y56 - 1)).toNat * 3)) = some (.string x94) ∧ (
 F12 x94 H_6 (fun (r97 : Int) (H95 : Hp) => 
 ∃ a102 : Addr, (y54).b = some a102 ∧ (0 : Int) ≤ y56 ∧ y56 < ((y54).n : Int) ∧ (
 ∃ x107 : Int, cell H95 (Addr.add (Addr.add a102 (y56.toNat * 3)) 1) = some (.int .i64 x107) ∧ (
 ∃ a108 : Addr, (y54).b = some a108 ∧ (0 : Int) ≤ (IntKind.i64.wrap (y56 - 1)) ∧ (IntKind.i64.wrap (y56 - 1)) < ((y54).n : Int) ∧ (
 ∃ x113 : Int, cell H95 (Addr.add (Addr.add a108 ((IntKind.i64.wrap (y56 - 1)).toNat * 3)) 1) = some (.int .i64 x113) ∧ (
 ((decide (x107 < x113)) = true → (F17_7 Q X4 y53 y54 y55 y56 true H95)) ∧
 ((decide (x107 < x113)) = false → (∃ a117 : Addr, (y54).b = some a117 ∧ (0 : Int) ≤ y56 ∧ y56 < ((y54).n : Int) ∧ (
 ∃ x122 : Int, cell H95 (Addr.add (Addr.add a117 (y56.toNat * 3)) 1) = some (.int .i64 x122) ∧ (
 ∃ a123 : Addr, (y54).b = some a123 ∧ (0 : Int) ≤ (IntKind.i64.wrap (y56 - 1)) ∧ (IntKind.i64.wrap (y56 - 1)) < ((y54).n : Int) ∧ (
 ∃ x128 : Int, cell H95 (Addr.add (Addr.add a123 ((IntKind.i64.wrap (y56 - 1)).toNat * 3)) 1) = some (.int .i64 x128) ∧ (
 ((decide (x122 = x128)) = true → (F17_7 Q X4 y53 y54 y55 y56 (decide (y57 ≤ r97)) H95)) ∧
 ((decide (x122 = x128)) = false → (F17_7 Q X4 y53 y54 y55 y56 false H95))))))))))))))))) ∧
 ((decide ((0 : Int) < y56)) = false → (F17_5 Q X4 y53 y54 y55 y56 H_6))))
def F17_L4b (Q : Bool → Hp → Prop) (X4 : Int → Hp → Prop) (y33 : (Option Addr)) (y34 : Sl) (y35 : Int) (y32 : Int) (H_4 : Hp) : Prop :=
((decide (y32 < ((y34).n : Int))) = true → (∃ a41 : Addr, (y34).b = some a41 ∧ (0 : Int) ≤ y32 ∧ y32 < ((y34).n : Int) ∧ (
 ∃ x46 : ByteArray, cell H_4 (Addr.add a41 (y32.toNat * 3)) = some (.string x46) ∧ (
 F12 x46 H_4 (fun (r49 : Int) (H47 : Hp) => 
 F28 y33 r49 H47 (fun (r52 : Int) (H50 : Hp) => 
 ((decide (r49 < 0)) = true → (F17_6 Q X4 y33 y34 y35 y32 r49 true H50)) ∧
 ((decide (r49 < 0)) = false → (((decide (r52 < 0)) = true → (F17_6 Q X4 y33 y34 y35 y32 r49 true H50)) ∧
 ((decide (r52 < 0)) = false → (∃ a63 : Addr, y33 = some a63 ∧ (
 ∃ x66 : Sl, cell H50 a63 = some (Sl.v x66) ∧ (
 ∃ a67 : Addr, (x66).b = some a67 ∧ (0 : Int) ≤ r52 ∧ r52 < ((x66).n : Int) ∧ (
 ∃ x72 : Int, cell H50 (Addr.add (Addr.add a67 (r52.toNat * 3)) 1) = some (.int .i64 x72) ∧ (
 ∃ a73 : Addr, (y34).b = some a73 ∧ (0 : Int) ≤ y32 ∧ y32 < ((y34).n : Int) ∧ (
 ∃ x78 : Int, cell H50 (Addr.add (Addr.add a73 (y32.toNat * 3)) 1) = some (.int .i64 x78) ∧ (
 ((decide (x72 ≠ x78)) = true → (F17_6 Q X4 y33 y34 y35 y32 r49 true H50)) ∧
 ((decide (x72 ≠ x78)) = false → (∃ a81 : Addr, (y34).b = some a81 ∧ (0 : Int) ≤ y32 ∧ y32 < ((y34).n : Int) ∧ (
 ∃ x86 : Int, cell H50 (Addr.add (Addr.add a81 (y32.toNat * 3)) 1) = some (.int .i64 x86) ∧ (
 F17_6 Q X4 y33 y34 y35 y32 r49 (decide (x86 ≤ y35)) H50)))))))))))))))))))) ∧
 ((decide (y32 < ((y34).n : Int))) = false → (Q true H_4))
def F17_L4 (Q : Bool → Hp → Prop) (y33 : (Option Addr)) (y34 : Sl) (y35 : Int) (y32 : Int) (H_4 : Hp) : Prop :=
  ∀ X4 : Int → Hp → Prop, (∀ (y32 : Int) (H_4 : Hp), F17_L4b Q X4 y33 y34 y35 y32 H_4 → X4 y32 H_4) → X4 y32 H_4
def F17_1 (Q : Bool → Hp → Prop) (y1 : (Option Addr)) (y2 : Sl) (y3 : Int) (y30 : Int) (H_1 : Hp) : Prop :=
((decide (y30 ≠ ((y2).n : Int))) = true → (Q false H_1)) ∧
 ((decide (y30 ≠ ((y2).n : Int))) = false → (F17_L4 Q y1 y2 y3 0 H_1))
def F17_3 (Q : Bool → Hp → Prop) (X2 : Int → Int → Hp → Prop) (y14 : (Option Addr)) (y15 : Sl) (y16 : Int) (y17 : Int) (y29 : Int) (H_3 : Hp) : Prop :=
X2 y29 (IntKind.i64.wrap (y17 + 1)) H_3
def F17_L2b (Q : Bool → Hp → Prop) (X2 : Int → Int → Hp → Prop) (y6 : (Option Addr)) (y7 : Sl) (y8 : Int) (y4 : Int) (y5 : Int) (H_2 : Hp) : Prop :=
∃ a9 : Addr, y6 = some a9 ∧ (
 ∃ x12 : Sl, cell H_2 a9 = some (Sl.v x12) ∧ (
 ((decide (y5 < ((x12).n : Int))) = true → (∃ a18 : Addr, y6 = some a18 ∧ (
 ∃ x21 : Sl, cell H_2 a18 = some (Sl.v x21) ∧ (
 ∃ a22 : Addr, (x21).b = some a22 ∧ (0 : Int) ≤ y5 ∧ y5 < ((x21).n : Int) ∧ (
 ∃ x27 : Bool, cell H_2 (Addr.add (Addr.add a22 (y5.toNat * 3)) 2) = some (.bool x27) ∧ (
 ((!x27) = true → (F17_3 Q X2 y6 y7 y8 y5 (IntKind.i64.wrap (y4 + 1)) H_2)) ∧
 ((!x27) = false → (F17_3 Q X2 y6 y7 y8 y5 y4 H_2)))))))) ∧
 ((decide (y5 < ((x12).n : Int))) = false → (F17_1 Q y6 y7 y8 y4 H_2))))
def F17_L2 (Q : Bool → Hp → Prop) (y6 : (Option Addr)) (y7 : Sl) (y8 : Int) (y4 : Int) (y5 : Int) (H_2 : Hp) : Prop :=
  ∀ X2 : Int → Int → Hp → Prop, (∀ (y4 : Int) (y5 : Int) (H_2 : Hp), F17_L2b Q X2 y6 y7 y8 y4 y5 H_2 → X2 y4 y5 H_2) → X2 y4 y5 H_2
def F17 (p0 : (Option Addr)) (p1 : Sl) (p2 : Int) (H : Hp) (Q : Bool → Hp → Prop) : Prop :=
F17_L2 Q p0 p1 p2 0 0 H
set_option maxRecDepth 100000 in
set_option maxHeartbeats 4000000 in
theorem walk17 {w0 : World} {p0 : (Option Addr)} {p1 : Sl} {p2 : Int} {H : Hp} {Q : Bool → Hp → Prop} (h : F17 p0 p1 p2 H Q) :
    Good Tryd.prog w0 17 #[(.pointer p0), (Sl.v p1), (.int .i64 p2)] H (fun v H => ∃ (r0 : Bool) , v = (.bool r0) ∧ Q r0 H) := by
  unfold F17 at h
  refine Good.enter' (fn := Tryd.f17) Tryd.func17 rfl rfl rfl ?_
  refine HW.seq ?_
  refine HW.region ?_
  refine HList.vals (v := (.bool false)) rfl (HVal.assign' rfl) ?_
  refine HList.nil ?_
  refine nt ?_
  refine HW.seq ?_
  refine HW.region ?_
  refine HList.vals (v := (.int .i64 0)) rfl (HVal.assign' rfl) ?_
  refine HList.nil ?_
  refine nt ?_
  refine HW.cut (fun ρ H_1 => ∃ (y30 : Int), Env.Is ρ [(0, (.pointer p0)), (1, (Sl.v p1)), (2, (.int .i64 p2)), (7, (.int .i64 y30))] ∧ F17_1 Q p0 p1 p2 y30 H_1) ?_ ?_
  · refine HW.seq ?_
    refine HW.region ?_
    refine HList.vals (v := (.int .i64 0)) rfl (HVal.assign' rfl) ?_
    refine HList.nil ?_
    refine nt ?_
    refine HW.block ?_
    refine HW.loop' (fun L2 hL2 => ?_)
    obtain ⟨X2, hX2⟩ : ∃ X2 : Int → Int → Hp → Prop, ∀ (y4 : Int) (y5 : Int) (H_2 : Hp), X2 y4 y5 H_2 ↔ ∀ ρ, Env.Is ρ [(0, (.pointer p0)), (1, (Sl.v p1)), (2, (.int .i64 p2)), (7, (.int .i64 y4)), (8, (.int .i64 y5))] → L2 ρ H_2 := ⟨_, fun _ _ _ => Iff.rfl⟩
    refine (hX2 _ _ _).1 (h X2 ?_) _ ?_
    rotate_left
    · exact ⟨rfl, rfl, rfl, rfl, rfl, trivial⟩
    clear h
    intro y4 y5 H_2 h
    refine (hX2 _ _ _).2 fun ρ hI => ?_
    obtain ⟨ρ0, rfl⟩ : ∃ ρ0, ρ = (Env.set (Env.set (Env.set (Env.set (Env.set ρ0 8 (.int .i64 y5)) 7 (.int .i64 y4)) 2 (.int .i64 p2)) 1 (Sl.v p1)) 0 (.pointer p0)) := ⟨ρ, hI.eq⟩
    clear hI; unfold F17_L2b at h; refine hL2 _ _ ?_
    refine HW.seq ?_
    refine HW.seq ?_
    refine HW.region ?_
    refine HList.vals (v := (.int .i64 y5)) rfl (HVal.move' rfl) ?_
    refine HList.vals (v := (.pointer p0)) rfl (HVal.move' rfl) ?_
    obtain ⟨a9, e10, h⟩ := h
    refine HList.vals (v := (.pointer (some a9))) rfl (HVal.nilCheck (congrArg Value.pointer e10)) ?_
    refine HList.vals (v := (.pointer (some a9))) rfl (HVal.fieldAddr0 Tryd.runUnderlying46 rfl rfl Tryd.sizeOf42 rfl) ?_
    obtain ⟨x12, c11, h⟩ := h
    refine HList.vals (v := (Sl.v x12)) rfl (HVal.load1 Tryd.isAgg42 rfl c11) ?_
    refine HList.vals (v := (.int .i64 ((x12).n : Int))) rfl (HVal.len Tryd.runUnderlying42 rfl) ?_
    refine HList.vals (v := (.bool (decide (y5 < ((x12).n : Int))))) rfl (HVal.lss rfl rfl) ?_
    refine HList.nil ?_
    refine nt ?_
    obtain ⟨hT, hF⟩ := h
    refine HW.cond (decide (y5 < ((x12).n : Int))) rfl (fun hb13 => ?_) (fun hb13 => ?_)
    · have h := hT hb13
      clear hT hF
      refine HW.skip ?_
      refine nt ?_
      refine HW.cut (fun ρ H_3 => ∃ (y29 : Int), Env.Is ρ [(0, (.pointer p0)), (1, (Sl.v p1)), (2, (.int .i64 p2)), (8, (.int .i64 y5)), (7, (.int .i64 y29))] ∧ F17_3 Q X2 p0 p1 p2 y5 y29 H_3) ?_ ?_
      · refine HW.block ?_
        refine HW.seq ?_
        refine HW.region ?_
        refine HList.vals (v := (.pointer p0)) rfl (HVal.move' rfl) ?_
        obtain ⟨a18, e19, h⟩ := h
        refine HList.vals (v := (.pointer (some a18))) rfl (HVal.nilCheck (congrArg Value.pointer e19)) ?_
        refine HList.vals (v := (.pointer (some a18))) rfl (HVal.fieldAddr0 Tryd.runUnderlying46 rfl rfl Tryd.sizeOf42 rfl) ?_
        obtain ⟨x21, c20, h⟩ := h
        refine HList.vals (v := (Sl.v x21)) rfl (HVal.load1 Tryd.isAgg42 rfl c20) ?_
        refine HList.vals (v := (.int .i64 y5)) rfl (HVal.move' rfl) ?_
        obtain ⟨a22, e23, b24, b25, h⟩ := h
        refine HList.vals (v := (.pointer (some (Addr.add a22 (y5.toNat * 3))))) rfl (HVal.indexAddr Tryd.runUnderlying42 Tryd.sizeOf44 (Sl.v_some rfl e23) rfl b24 b25) ?_
        refine HList.vals (v := (.pointer (some (Addr.add (Addr.add a22 (y5.toNat * 3)) 2)))) rfl (HVal.fieldAddr' Tryd.runUnderlying44 rfl rfl Tryd.sizeOf4 rfl) ?_
        obtain ⟨x27, c26, h⟩ := h
        refine HList.vals (v := (.bool x27)) rfl (HVal.load1 Tryd.isAgg4 rfl c26) ?_
        refine HList.vals (v := (.bool (!x27))) rfl (HVal.not rfl) ?_
        refine HList.nil ?_
        refine nt ?_
        obtain ⟨hT, hF⟩ := h
        refine HW.cond (!x27) rfl (fun hb28 => ?_) (fun hb28 => ?_)
        · have h := hT hb28
          clear hT hF
          refine HW.region ?_
          refine HList.vals (v := (.int .i64 y4)) rfl (HVal.move' rfl) ?_
          refine HList.vals (v := (.int .i64 (IntKind.i64.wrap (y4 + 1)))) rfl (HVal.add rfl rfl) ?_
          refine HList.vals (v := (.int .i64 (IntKind.i64.wrap (y4 + 1)))) rfl (HVal.assign' rfl) ?_
          refine HList.nil ?_
          refine nb ?_
          refine nt ?_
          exact ⟨(IntKind.i64.wrap (y4 + 1)), ⟨rfl, rfl, rfl, rfl, rfl, trivial⟩, h⟩
        · have h := hF hb28
          clear hT hF
          refine HW.skip ?_
          refine nb ?_
          refine nt ?_
          exact ⟨y4, ⟨rfl, rfl, rfl, rfl, rfl, trivial⟩, h⟩
      · rintro ρ H_3 ⟨y29, hI, h⟩
        obtain ⟨ρ0, rfl⟩ : ∃ ρ0, ρ = (Env.set (Env.set (Env.set (Env.set (Env.set ρ0 7 (.int .i64 y29)) 8 (.int .i64 y5)) 2 (.int .i64 p2)) 1 (Sl.v p1)) 0 (.pointer p0)) := ⟨ρ, hI.eq⟩
        clear hI; unfold F17_3 at h
        refine HW.region ?_
        refine HList.vals (v := (.int .i64 y5)) rfl (HVal.move' rfl) ?_
        refine HList.vals (v := (.int .i64 (IntKind.i64.wrap (y5 + 1)))) rfl (HVal.add rfl rfl) ?_
        refine HList.vals (v := (.int .i64 (IntKind.i64.wrap (y5 + 1)))) rfl (HVal.assign' rfl) ?_
        refine HList.nil ?_
        refine nt ?_
        exact (hX2 _ _ _).1 h _ ⟨rfl, rfl, rfl, rfl, rfl, trivial⟩
    · have h := hF hb13
      clear hT hF
      refine HW.exit ?_
      refine te ?_
      refine te ?_
      refine be ?_
      refine nt ?_
      exact ⟨y4, ⟨rfl, rfl, rfl, rfl, trivial⟩, h⟩
  · rintro ρ H_1 ⟨y30, hI, h⟩
    obtain ⟨ρ0, rfl⟩ : ∃ ρ0, ρ = (Env.set (Env.set (Env.set (Env.set ρ0 7 (.int .i64 y30)) 2 (.int .i64 p2)) 1 (Sl.v p1)) 0 (.pointer p0)) := ⟨ρ, hI.eq⟩
    clear hI; unfold F17_1 at h
    refine HW.seq ?_
    refine HW.seq ?_
    refine HW.region ?_
    refine HList.vals (v := (.int .i64 y30)) rfl (HVal.move' rfl) ?_
    refine HList.vals (v := (Sl.v p1)) rfl (HVal.move' rfl) ?_
    refine HList.vals (v := (.int .i64 ((p1).n : Int))) rfl (HVal.len Tryd.runUnderlying28 rfl) ?_
    refine HList.vals (v := (.bool (decide (y30 ≠ ((p1).n : Int))))) rfl (HVal.neqI rfl rfl) ?_
    refine HList.nil ?_
    refine nt ?_
    obtain ⟨hT, hF⟩ := h
    refine HW.cond (decide (y30 ≠ ((p1).n : Int))) rfl (fun hb31 => ?_) (fun hb31 => ?_)
    · have h := hT hb31
      clear hT hF
      refine HW.seq ?_
      refine HW.region ?_
      refine HList.vals (v := (.bool false)) rfl (HVal.assign' rfl) ?_
      refine HList.nil ?_
      refine nt ?_
      refine HW.ret ?_
      refine tr ?_
      exact ⟨_, resOf1 rfl Res1.t, ⟨false, rfl, h⟩⟩
    · have h := hF hb31
      clear hT hF
      refine HW.skip ?_
      refine nt ?_
      refine HW.seq ?_
      refine HW.seq ?_
      refine HW.region ?_
      refine HList.vals (v := (.int .i64 0)) rfl (HVal.assign' rfl) ?_
      refine HList.nil ?_
      refine nt ?_
      refine HW.block ?_
      refine HW.loop' (fun L4 hL4 => ?_)
      obtain ⟨X4, hX4⟩ : ∃ X4 : Int → Hp → Prop, ∀ (y32 : Int) (H_4 : Hp), X4 y32 H_4 ↔ ∀ ρ, Env.Is ρ [(0, (.pointer p0)), (1, (Sl.v p1)), (2, (.int .i64 p2)), (9, (.int .i64 y32))] → L4 ρ H_4 := ⟨_, fun _ _ => Iff.rfl⟩
      refine (hX4 _ _).1 (h X4 ?_) _ ?_
      rotate_left
      · exact ⟨rfl, rfl, rfl, rfl, trivial⟩
      clear h
      intro y32 H_4 h
      refine (hX4 _ _).2 fun ρ hI => ?_
      obtain ⟨ρ0, rfl⟩ : ∃ ρ0, ρ = (Env.set (Env.set (Env.set (Env.set ρ0 9 (.int .i64 y32)) 2 (.int .i64 p2)) 1 (Sl.v p1)) 0 (.pointer p0)) := ⟨ρ, hI.eq⟩
      clear hI; unfold F17_L4b at h; refine hL4 _ _ ?_
      refine HW.seq ?_
      refine HW.seq ?_
      refine HW.region ?_
      refine HList.vals (v := (.int .i64 y32)) rfl (HVal.move' rfl) ?_
      refine HList.vals (v := (Sl.v p1)) rfl (HVal.move' rfl) ?_
      refine HList.vals (v := (.int .i64 ((p1).n : Int))) rfl (HVal.len Tryd.runUnderlying28 rfl) ?_
      refine HList.vals (v := (.bool (decide (y32 < ((p1).n : Int))))) rfl (HVal.lss rfl rfl) ?_
      refine HList.nil ?_
      refine nt ?_
      obtain ⟨hT, hF⟩ := h
      refine HW.cond (decide (y32 < ((p1).n : Int))) rfl (fun hb36 => ?_) (fun hb36 => ?_)
      · have h := hT hb36
        clear hT hF
        refine HW.skip ?_
        refine nt ?_
        refine HW.cut (fun ρ H_5 => Env.Is ρ [(0, (.pointer p0)), (1, (Sl.v p1)), (2, (.int .i64 p2)), (9, (.int .i64 y32))] ∧ F17_5 Q X4 p0 p1 p2 y32 H_5) ?_ ?_
        · refine HW.block ?_
          refine HW.seq ?_
          refine HW.region ?_
          refine HList.vals (v := (Sl.v p1)) rfl (HVal.move' rfl) ?_
          refine HList.vals (v := (.int .i64 y32)) rfl (HVal.move' rfl) ?_
          obtain ⟨a41, e42, b43, b44, h⟩ := h
          refine HList.vals (v := (.pointer (some (Addr.add a41 (y32.toNat * 3))))) rfl (HVal.indexAddr Tryd.runUnderlying28 Tryd.sizeOf33 (Sl.v_some rfl e42) rfl b43 b44) ?_
          refine HList.vals (v := (.pointer (some (Addr.add a41 (y32.toNat * 3))))) rfl (HVal.fieldAddr0 Tryd.runUnderlying33 rfl rfl Tryd.sizeOf9 rfl) ?_
          obtain ⟨x46, c45, h⟩ := h
          refine HList.vals (v := (.string x46)) rfl (HVal.load1 Tryd.isAgg9 rfl c45) ?_
          refine HList.ops' rfl (HOp.call' 12 [(.string x46)] (cap := []) rfl rfl Tryd.call12 (walk12 h)) ?_
          rintro _ H47 ⟨r49, rfl, h⟩
          refine HList.vals (v := (.int .i64 r49)) rfl (HVal.assign' rfl) ?_
          refine HList.nil ?_
          refine nt ?_
          refine HW.seq ?_
          refine HW.region ?_
          refine HList.vals (v := (.pointer p0)) rfl (HVal.move' rfl) ?_
          refine HList.vals (v := (.int .i64 r49)) rfl (HVal.move' rfl) ?_
          refine HList.ops' rfl (HOp.call' 28 [(.pointer p0), (.int .i64 r49)] (cap := []) rfl rfl Tryd.call28 (walk28 h)) ?_
          rintro _ H50 ⟨r52, rfl, h⟩
          refine HList.vals (v := (.int .i64 r52)) rfl (HVal.assign' rfl) ?_
          refine HList.nil ?_
          refine nt ?_
          refine HW.seq ?_
          refine HW.cut (fun ρ H_6 => ∃ (y60 : Bool), Env.Is ρ [(0, (.pointer p0)), (1, (Sl.v p1)), (2, (.int .i64 p2)), (9, (.int .i64 y32)), (10, (.int .i64 r49)), (82, (.bool y60))] ∧ F17_6 Q X4 p0 p1 p2 y32 r49 y60 H_6) ?_ ?_
          · refine HW.draw mixed [(0, some []), (1, some []), (2, some []), (3, some []), (4, some []), (5, some []), (6, some []), (7, some []), (8, some []), (9, some []), (10, some []), (11, some []), (12, some []), (13, some []), (14, some []), (15, some []), (16, some []), (17, some []), (18, some []), (19, some []), (20, some []), (21, some []), (22, some []), (23, some []), (24, some []), (25, some []), (26, some []), (27, some []), (28, some []), (29, some []), (30, some [])] rfl (by kernel_rfl) (by kernel_rfl) ?_
            refine HPlan.takev (v := (.int .i64 r49)) rfl rfl (fun _ => HVal.move' rfl) ?_
            refine HPlan.takev (v := (.bool (decide (r49 < 0)))) rfl rfl (fun _ => HVal.lss rfl rfl) ?_
            refine HPlan.takev (v := (.bool (decide (r49 < 0)))) rfl rfl (fun _ => HVal.move' rfl) ?_
            obtain ⟨hT, hF⟩ := h
            rcases Bool.eq_false_or_eq_true (decide (r49 < 0)) with hb58 | hb59
            · have h := hT hb58
              clear hT hF
              refine HPlan.takegskip rfl rfl rfl rfl (congrArg Value.bool hb58) ?_
              refine HPlan.takegskip rfl rfl rfl rfl (congrArg Value.bool hb58) ?_
              refine HPlan.takev (v := (.bool true)) rfl rfl (fun _ => HVal.pickT rfl hb58 rfl) ?_
              refine HPlan.takev (v := (.bool true)) rfl rfl (fun _ => HVal.move' rfl) ?_
              refine HPlan.takegskip rfl rfl rfl rfl rfl ?_
              refine HPlan.takegskip rfl rfl rfl rfl rfl ?_
              refine HPlan.takegskip rfl rfl rfl rfl rfl ?_
              refine HPlan.takegskip rfl rfl rfl rfl rfl ?_
              refine HPlan.takegskip rfl rfl rfl rfl rfl ?_
              refine HPlan.takegskip rfl rfl rfl rfl rfl ?_
              refine HPlan.takegskip rfl rfl rfl rfl rfl ?_
              refine HPlan.takegskip rfl rfl rfl rfl rfl ?_
              refine HPlan.takegskip rfl rfl rfl rfl rfl ?_
              refine HPlan.takegskip rfl rfl rfl rfl rfl ?_
              refine HPlan.takegskip rfl rfl rfl rfl rfl ?_
              refine HPlan.takegskip rfl rfl rfl rfl rfl ?_
              refine HPlan.takegskip rfl rfl rfl rfl rfl ?_
              refine HPlan.takegskip rfl rfl rfl rfl rfl ?_
              refine HPlan.takev (v := (.bool true)) rfl rfl (fun _ => HVal.pickT rfl rfl rfl) ?_
              refine HPlan.takev (v := (.bool true)) rfl rfl (fun _ => HVal.move' rfl) ?_
              refine HPlan.takegskip rfl rfl rfl rfl rfl ?_
              refine HPlan.takegskip rfl rfl rfl rfl rfl ?_
              refine HPlan.takegskip rfl rfl rfl rfl rfl ?_
              refine HPlan.takegskip rfl rfl rfl rfl rfl ?_
              refine HPlan.takegskip rfl rfl rfl rfl rfl ?_
              refine HPlan.takegskip rfl rfl rfl rfl rfl ?_
              refine HPlan.takegskip rfl rfl rfl rfl rfl ?_
              refine HPlan.takev (v := (.bool true)) rfl rfl (fun _ => HVal.pickT rfl rfl rfl) ?_
              refine HPlan.done ?_
              refine nt ?_
              exact ⟨true, ⟨rfl, rfl, rfl, rfl, rfl, rfl, trivial⟩, h⟩
            · have h := hF hb59
              clear hT hF
              refine HPlan.gtakev (v := (.int .i64 r52)) rfl rfl rfl rfl rfl (congrArg Value.bool hb59) (fun _ => HVal.move' rfl) ?_
              refine HPlan.gtakev (v := (.bool (decide (r52 < 0)))) rfl rfl rfl rfl rfl (congrArg Value.bool hb59) (fun _ => HVal.lss rfl rfl) ?_
              refine HPlan.takev (v := (.bool (decide (r52 < 0)))) rfl rfl (fun _ => HVal.pickF rfl hb59 rfl) ?_
              refine HPlan.takev (v := (.bool (decide (r52 < 0)))) rfl rfl (fun _ => HVal.move' rfl) ?_
              obtain ⟨hT, hF⟩ := h
              rcases Bool.eq_false_or_eq_true (decide (r52 < 0)) with hb61 | hb62
              · have h := hT hb61
                clear hT hF
                refine HPlan.takegskip rfl rfl rfl rfl (congrArg Value.bool hb61) ?_
                refine HPlan.takegskip rfl rfl rfl rfl (congrArg Value.bool hb61) ?_
                refine HPlan.takegskip rfl rfl rfl rfl (congrArg Value.bool hb61) ?_
                refine HPlan.takegskip rfl rfl rfl rfl (congrArg Value.bool hb61) ?_
                refine HPlan.takegskip rfl rfl rfl rfl (congrArg Value.bool hb61) ?_
                refine HPlan.takegskip rfl rfl rfl rfl (congrArg Value.bool hb61) ?_
                refine HPlan.takegskip rfl rfl rfl rfl (congrArg Value.bool hb61) ?_
                refine HPlan.takegskip rfl rfl rfl rfl (congrArg Value.bool hb61) ?_
                refine HPlan.takegskip rfl rfl rfl rfl (congrArg Value.bool hb61) ?_
                refine HPlan.takegskip rfl rfl rfl rfl (congrArg Value.bool hb61) ?_
                refine HPlan.takegskip rfl rfl rfl rfl (congrArg Value.bool hb61) ?_
                refine HPlan.takegskip rfl rfl rfl rfl (congrArg Value.bool hb61) ?_
                refine HPlan.takegskip rfl rfl rfl rfl (congrArg Value.bool hb61) ?_
                refine HPlan.takegskip rfl rfl rfl rfl (congrArg Value.bool hb61) ?_
                refine HPlan.takev (v := (.bool true)) rfl rfl (fun _ => HVal.pickT rfl hb61 rfl) ?_
                refine HPlan.takev (v := (.bool true)) rfl rfl (fun _ => HVal.move' rfl) ?_
                refine HPlan.takegskip rfl rfl rfl rfl rfl ?_
                refine HPlan.takegskip rfl rfl rfl rfl rfl ?_
                refine HPlan.takegskip rfl rfl rfl rfl rfl ?_
                refine HPlan.takegskip rfl rfl rfl rfl rfl ?_
                refine HPlan.takegskip rfl rfl rfl rfl rfl ?_
                refine HPlan.takegskip rfl rfl rfl rfl rfl ?_
                refine HPlan.takegskip rfl rfl rfl rfl rfl ?_
                refine HPlan.takev (v := (.bool true)) rfl rfl (fun _ => HVal.pickT rfl rfl rfl) ?_
                refine HPlan.done ?_
                refine nt ?_
                exact ⟨true, ⟨rfl, rfl, rfl, rfl, rfl, rfl, trivial⟩, h⟩
              · have h := hF hb62
                clear hT hF
                refine HPlan.gtakev (v := (.pointer p0)) rfl rfl rfl rfl rfl (congrArg Value.bool hb62) (fun _ => HVal.move' rfl) ?_
                obtain ⟨a63, e64, h⟩ := h
                refine HPlan.gtakev (v := (.pointer (some a63))) rfl rfl rfl rfl rfl (congrArg Value.bool hb62) (fun _ => HVal.nilCheck (congrArg Value.pointer e64)) ?_
                refine HPlan.gtakev (v := (.pointer (some a63))) rfl rfl rfl rfl rfl (congrArg Value.bool hb62) (fun _ => HVal.fieldAddr0 Tryd.runUnderlying46 rfl rfl Tryd.sizeOf42 rfl) ?_
                obtain ⟨x66, c65, h⟩ := h
                refine HPlan.gtakel (v := (Sl.v x66)) (fun X => cell X a63 = some (Sl.v x66)) rfl rfl rfl rfl rfl (congrArg Value.bool hb62) (fun _ hX => HVal.load1 Tryd.isAgg42 rfl hX) c65 ?_
                refine HPlan.gtakev (v := (.int .i64 r52)) rfl rfl rfl rfl rfl (congrArg Value.bool hb62) (fun _ => HVal.move' rfl) ?_
                obtain ⟨a67, e68, b69, b70, h⟩ := h
                refine HPlan.gtakev (v := (.pointer (some (Addr.add a67 (r52.toNat * 3))))) rfl rfl rfl rfl rfl (congrArg Value.bool hb62) (fun _ => HVal.indexAddr Tryd.runUnderlying42 Tryd.sizeOf44 (Sl.v_some rfl e68) rfl b69 b70) ?_
                refine HPlan.gtakev (v := (.pointer (some (Addr.add (Addr.add a67 (r52.toNat * 3)) 1)))) rfl rfl rfl rfl rfl (congrArg Value.bool hb62) (fun _ => HVal.fieldAddr' Tryd.runUnderlying44 rfl rfl Tryd.sizeOf2 rfl) ?_
                obtain ⟨x72, c71, h⟩ := h
                refine HPlan.gtakel (v := (.int .i64 x72)) (fun X => cell X (Addr.add (Addr.add a67 (r52.toNat * 3)) 1) = some (.int .i64 x72)) rfl rfl rfl rfl rfl (congrArg Value.bool hb62) (fun _ hX => HVal.load1 Tryd.isAgg2 rfl hX) c71 ?_
                refine HPlan.gtakev (v := (Sl.v p1)) rfl rfl rfl rfl rfl (congrArg Value.bool hb62) (fun _ => HVal.move' rfl) ?_
                refine HPlan.gtakev (v := (.int .i64 y32)) rfl rfl rfl rfl rfl (congrArg Value.bool hb62) (fun _ => HVal.move' rfl) ?_
                obtain ⟨a73, e74, b75, b76, h⟩ := h
                refine HPlan.gtakev (v := (.pointer (some (Addr.add a73 (y32.toNat * 3))))) rfl rfl rfl rfl rfl (congrArg Value.bool hb62) (fun _ => HVal.indexAddr Tryd.runUnderlying28 Tryd.sizeOf33 (Sl.v_some rfl e74) rfl b75 b76) ?_
                refine HPlan.gtakev (v := (.pointer (some (Addr.add (Addr.add a73 (y32.toNat * 3)) 1)))) rfl rfl rfl rfl rfl (congrArg Value.bool hb62) (fun _ => HVal.fieldAddr' Tryd.runUnderlying33 rfl rfl Tryd.sizeOf2 rfl) ?_
                obtain ⟨x78, c77, h⟩ := h
                refine HPlan.gtakel (v := (.int .i64 x78)) (fun X => cell X (Addr.add (Addr.add a73 (y32.toNat * 3)) 1) = some (.int .i64 x78)) rfl rfl rfl rfl rfl (congrArg Value.bool hb62) (fun _ hX => HVal.load1 Tryd.isAgg2 rfl hX) c77 ?_
                refine HPlan.gtakev (v := (.bool (decide (x72 ≠ x78)))) rfl rfl rfl rfl rfl (congrArg Value.bool hb62) (fun _ => HVal.neqI rfl rfl) ?_
                refine HPlan.takev (v := (.bool (decide (x72 ≠ x78)))) rfl rfl (fun _ => HVal.pickF rfl hb62 rfl) ?_
                refine HPlan.takev (v := (.bool (decide (x72 ≠ x78)))) rfl rfl (fun _ => HVal.move' rfl) ?_
                obtain ⟨hT, hF⟩ := h
                rcases Bool.eq_false_or_eq_true (decide (x72 ≠ x78)) with hb79 | hb80
                · have h := hT hb79
                  clear hT hF
                  refine HPlan.takegskip rfl rfl rfl rfl (congrArg Value.bool hb79) ?_
                  refine HPlan.takegskip rfl rfl rfl rfl (congrArg Value.bool hb79) ?_
                  refine HPlan.takegskip rfl rfl rfl rfl (congrArg Value.bool hb79) ?_
                  refine HPlan.takegskip rfl rfl rfl rfl (congrArg Value.bool hb79) ?_
                  refine HPlan.takegskip rfl rfl rfl rfl (congrArg Value.bool hb79) ?_
                  refine HPlan.takegskip rfl rfl rfl rfl (congrArg Value.bool hb79) ?_
                  refine HPlan.takegskip rfl rfl rfl rfl (congrArg Value.bool hb79) ?_
                  refine HPlan.takev (v := (.bool true)) rfl rfl (fun _ => HVal.pickT rfl hb79 rfl) ?_
                  refine HPlan.done ?_
                  refine nt ?_
                  exact ⟨true, ⟨rfl, rfl, rfl, rfl, rfl, rfl, trivial⟩, h⟩
                · have h := hF hb80
                  clear hT hF
                  refine HPlan.gtakev (v := (Sl.v p1)) rfl rfl rfl rfl rfl (congrArg Value.bool hb80) (fun _ => HVal.move' rfl) ?_
                  refine HPlan.gtakev (v := (.int .i64 y32)) rfl rfl rfl rfl rfl (congrArg Value.bool hb80) (fun _ => HVal.move' rfl) ?_
                  obtain ⟨a81, e82, b83, b84, h⟩ := h
                  refine HPlan.gtakev (v := (.pointer (some (Addr.add a81 (y32.toNat * 3))))) rfl rfl rfl rfl rfl (congrArg Value.bool hb80) (fun _ => HVal.indexAddr Tryd.runUnderlying28 Tryd.sizeOf33 (Sl.v_some rfl e82) rfl b83 b84) ?_
                  refine HPlan.gtakev (v := (.pointer (some (Addr.add (Addr.add a81 (y32.toNat * 3)) 1)))) rfl rfl rfl rfl rfl (congrArg Value.bool hb80) (fun _ => HVal.fieldAddr' Tryd.runUnderlying33 rfl rfl Tryd.sizeOf2 rfl) ?_
                  obtain ⟨x86, c85, h⟩ := h
                  refine HPlan.gtakel (v := (.int .i64 x86)) (fun X => cell X (Addr.add (Addr.add a81 (y32.toNat * 3)) 1) = some (.int .i64 x86)) rfl rfl rfl rfl rfl (congrArg Value.bool hb80) (fun _ hX => HVal.load1 Tryd.isAgg2 rfl hX) c85 ?_
                  refine HPlan.gtakev (v := (.int .i64 p2)) rfl rfl rfl rfl rfl (congrArg Value.bool hb80) (fun _ => HVal.move' rfl) ?_
                  refine HPlan.gtakev (v := (.bool (decide (x86 ≤ p2)))) rfl rfl rfl rfl rfl (congrArg Value.bool hb80) (fun _ => HVal.leq rfl rfl) ?_
                  refine HPlan.takev (v := (.bool (decide (x86 ≤ p2)))) rfl rfl (fun _ => HVal.pickF rfl hb80 rfl) ?_
                  refine HPlan.done ?_
                  refine nt ?_
                  exact ⟨(decide (x86 ≤ p2)), ⟨rfl, rfl, rfl, rfl, rfl, rfl, trivial⟩, h⟩
          · rintro ρ H_6 ⟨y60, hI, h⟩
            obtain ⟨ρ0, rfl⟩ : ∃ ρ0, ρ = (Env.set (Env.set (Env.set (Env.set (Env.set (Env.set ρ0 82 (.bool y60)) 10 (.int .i64 r49)) 9 (.int .i64 y32)) 2 (.int .i64 p2)) 1 (Sl.v p1)) 0 (.pointer p0)) := ⟨ρ, hI.eq⟩
            clear hI; unfold F17_6 at h
            obtain ⟨hT, hF⟩ := h
            refine HW.cond y60 rfl (fun hb87 => ?_) (fun hb87 => ?_)
            · have h := hT hb87
              clear hT hF
              refine HW.seq ?_
              refine HW.region ?_
              refine HList.vals (v := (.bool false)) rfl (HVal.assign' rfl) ?_
              refine HList.nil ?_
              refine nt ?_
              refine HW.ret ?_
              refine tr ?_
              refine br ?_
              refine tr ?_
              refine tr ?_
              refine br ?_
              refine tr ?_
              exact ⟨_, resOf1 rfl Res1.t, ⟨false, rfl, h⟩⟩
            · have h := hF hb87
              clear hT hF
              refine HW.skip ?_
              refine nt ?_
              refine HW.seq ?_
              refine HW.region ?_
              refine HList.vals (v := (.int .i64 y32)) rfl (HVal.move' rfl) ?_
              refine HList.vals (v := (.bool (decide ((0 : Int) < y32)))) rfl (HVal.gtr rfl rfl) ?_
              refine HList.nil ?_
              refine nt ?_
              obtain ⟨hT, hF⟩ := h
              refine HW.cond (decide ((0 : Int) < y32)) rfl (fun hb88 => ?_) (fun hb88 => ?_)
              · have h := hT hb88
                clear hT hF
                refine HW.seq ?_
                refine HW.region ?_
                refine HList.vals (v := (Sl.v p1)) rfl (HVal.move' rfl) ?_
                refine HList.vals (v := (.int .i64 y32)) rfl (HVal.move' rfl) ?_
                refine HList.vals (v := (.int .i64 (IntKind.i64.wrap (y32 - 1)))) rfl (HVal.sub rfl rfl) ?_
                obtain ⟨a89, e90, b91, b92, h⟩ := h
                refine HList.vals (v := (.pointer (some (Addr.add a89 ((IntKind.i64.wrap (y32 - 1)).toNat * 3))))) rfl (HVal.indexAddr Tryd.runUnderlying28 Tryd.sizeOf33 (Sl.v_some rfl e90) rfl b91 b92) ?_
                refine HList.vals (v := (.pointer (some (Addr.add a89 ((IntKind.i64.wrap (y32 - 1)).toNat * 3))))) rfl (HVal.fieldAddr0 Tryd.runUnderlying33 rfl rfl Tryd.sizeOf9 rfl) ?_
                obtain ⟨x94, c93, h⟩ := h
                refine HList.vals (v := (.string x94)) rfl (HVal.load1 Tryd.isAgg9 rfl c93) ?_
                refine HList.ops' rfl (HOp.call' 12 [(.string x94)] (cap := []) rfl rfl Tryd.call12 (walk12 h)) ?_
                rintro _ H95 ⟨r97, rfl, h⟩
                refine HList.vals (v := (.int .i64 r97)) rfl (HVal.assign' rfl) ?_
                refine HList.nil ?_
                refine nt ?_
                refine HW.cut (fun ρ H_7 => ∃ (y116 : Bool), Env.Is ρ [(0, (.pointer p0)), (1, (Sl.v p1)), (2, (.int .i64 p2)), (9, (.int .i64 y32)), (122, (.bool y116))] ∧ F17_7 Q X4 p0 p1 p2 y32 y116 H_7) ?_ ?_
                · refine HW.draw mixed [(0, some []), (1, some []), (2, some []), (3, some []), (4, some []), (5, some []), (6, some []), (7, some []), (8, some []), (9, some []), (10, some []), (11, some []), (12, some []), (13, some []), (14, some []), (15, some []), (16, some []), (17, some []), (18, some []), (19, some []), (20, some []), (21, some []), (22, some []), (23, some []), (24, some []), (25, some []), (26, some []), (27, some []), (28, some []), (29, some []), (30, some [])] rfl (by kernel_rfl) (by kernel_rfl) ?_
                  refine HPlan.takev (v := (Sl.v p1)) rfl rfl (fun _ => HVal.move' rfl) ?_
                  refine HPlan.takev (v := (.int .i64 y32)) rfl rfl (fun _ => HVal.move' rfl) ?_
                  obtain ⟨a102, e103, b104, b105, h⟩ := h
                  refine HPlan.takev (v := (.pointer (some (Addr.add a102 (y32.toNat * 3))))) rfl rfl (fun _ => HVal.indexAddr Tryd.runUnderlying28 Tryd.sizeOf33 (Sl.v_some rfl e103) rfl b104 b105) ?_
                  refine HPlan.takev (v := (.pointer (some (Addr.add (Addr.add a102 (y32.toNat * 3)) 1)))) rfl rfl (fun _ => HVal.fieldAddr' Tryd.runUnderlying33 rfl rfl Tryd.sizeOf2 rfl) ?_
                  obtain ⟨x107, c106, h⟩ := h
                  refine HPlan.takel (v := (.int .i64 x107)) (fun X => cell X (Addr.add (Addr.add a102 (y32.toNat * 3)) 1) = some (.int .i64 x107)) rfl rfl (fun _ hX => HVal.load1 Tryd.isAgg2 rfl hX) c106 ?_
                  refine HPlan.takev (v := (Sl.v p1)) rfl rfl (fun _ => HVal.move' rfl) ?_
                  refine HPlan.takev (v := (.int .i64 y32)) rfl rfl (fun _ => HVal.move' rfl) ?_
                  refine HPlan.takev (v := (.int .i64 (IntKind.i64.wrap (y32 - 1)))) rfl rfl (fun _ => HVal.sub rfl rfl) ?_
                  obtain ⟨a108, e109, b110, b111, h⟩ := h
                  refine HPlan.takev (v := (.pointer (some (Addr.add a108 ((IntKind.i64.wrap (y32 - 1)).toNat * 3))))) rfl rfl (fun _ => HVal.indexAddr Tryd.runUnderlying28 Tryd.sizeOf33 (Sl.v_some rfl e109) rfl b110 b111) ?_
                  refine HPlan.takev (v := (.pointer (some (Addr.add (Addr.add a108 ((IntKind.i64.wrap (y32 - 1)).toNat * 3)) 1)))) rfl rfl (fun _ => HVal.fieldAddr' Tryd.runUnderlying33 rfl rfl Tryd.sizeOf2 rfl) ?_
                  obtain ⟨x113, c112, h⟩ := h
                  refine HPlan.takel (v := (.int .i64 x113)) (fun X => cell X (Addr.add (Addr.add a108 ((IntKind.i64.wrap (y32 - 1)).toNat * 3)) 1) = some (.int .i64 x113)) rfl rfl (fun _ hX => HVal.load1 Tryd.isAgg2 rfl hX) c112 ?_
                  refine HPlan.takev (v := (.bool (decide (x107 < x113)))) rfl rfl (fun _ => HVal.lss rfl rfl) ?_
                  refine HPlan.takev (v := (.bool (decide (x107 < x113)))) rfl rfl (fun _ => HVal.move' rfl) ?_
                  obtain ⟨hT, hF⟩ := h
                  rcases Bool.eq_false_or_eq_true (decide (x107 < x113)) with hb114 | hb115
                  · have h := hT hb114
                    clear hT hF
                    refine HPlan.takegskip rfl rfl rfl rfl (congrArg Value.bool hb114) ?_
                    refine HPlan.takegskip rfl rfl rfl rfl (congrArg Value.bool hb114) ?_
                    refine HPlan.takegskip rfl rfl rfl rfl (congrArg Value.bool hb114) ?_
                    refine HPlan.takegskip rfl rfl rfl rfl (congrArg Value.bool hb114) ?_
                    refine HPlan.takegskip rfl rfl rfl rfl (congrArg Value.bool hb114) ?_
                    refine HPlan.takegskip rfl rfl rfl rfl (congrArg Value.bool hb114) ?_
                    refine HPlan.takegskip rfl rfl rfl rfl (congrArg Value.bool hb114) ?_
                    refine HPlan.takegskip rfl rfl rfl rfl (congrArg Value.bool hb114) ?_
                    refine HPlan.takegskip rfl rfl rfl rfl (congrArg Value.bool hb114) ?_
                    refine HPlan.takegskip rfl rfl rfl rfl (congrArg Value.bool hb114) ?_
                    refine HPlan.takegskip rfl rfl rfl rfl (congrArg Value.bool hb114) ?_
                    refine HPlan.takegskip rfl rfl rfl rfl (congrArg Value.bool hb114) ?_
                    refine HPlan.takegskip rfl rfl rfl rfl (congrArg Value.bool hb114) ?_
                    refine HPlan.takeuskip rfl rfl rfl rfl rfl ?_
                    refine HPlan.takeuskip rfl rfl rfl rfl rfl ?_
                    refine HPlan.takeuskip rfl rfl rfl rfl rfl ?_
                    refine HPlan.takegskip rfl rfl rfl rfl (congrArg Value.bool hb114) ?_
                    refine HPlan.takev (v := (.bool true)) rfl rfl (fun _ => HVal.pickT rfl hb114 rfl) ?_
                    refine HPlan.done ?_
                    refine nt ?_
                    exact ⟨true, ⟨rfl, rfl, rfl, rfl, rfl, trivial⟩, h⟩
                  · have h := hF hb115
                    clear hT hF
                    refine HPlan.gtakev (v := (Sl.v p1)) rfl rfl rfl rfl rfl (congrArg Value.bool hb115) (fun _ => HVal.move' rfl) ?_
                    refine HPlan.gtakev (v := (.int .i64 y32)) rfl rfl rfl rfl rfl (congrArg Value.bool hb115) (fun _ => HVal.move' rfl) ?_
                    obtain ⟨a117, e118, b119, b120, h⟩ := h
                    refine HPlan.gtakev (v := (.pointer (some (Addr.add a117 (y32.toNat * 3))))) rfl rfl rfl rfl rfl (congrArg Value.bool hb115) (fun _ => HVal.indexAddr Tryd.runUnderlying28 Tryd.sizeOf33 (Sl.v_some rfl e118) rfl b119 b120) ?_
                    refine HPlan.gtakev (v := (.pointer (some (Addr.add (Addr.add a117 (y32.toNat * 3)) 1)))) rfl rfl rfl rfl rfl (congrArg Value.bool hb115) (fun _ => HVal.fieldAddr' Tryd.runUnderlying33 rfl rfl Tryd.sizeOf2 rfl) ?_
                    obtain ⟨x122, c121, h⟩ := h
                    refine HPlan.gtakel (v := (.int .i64 x122)) (fun X => cell X (Addr.add (Addr.add a117 (y32.toNat * 3)) 1) = some (.int .i64 x122)) rfl rfl rfl rfl rfl (congrArg Value.bool hb115) (fun _ hX => HVal.load1 Tryd.isAgg2 rfl hX) c121 ?_
                    refine HPlan.gtakev (v := (Sl.v p1)) rfl rfl rfl rfl rfl (congrArg Value.bool hb115) (fun _ => HVal.move' rfl) ?_
                    refine HPlan.gtakev (v := (.int .i64 y32)) rfl rfl rfl rfl rfl (congrArg Value.bool hb115) (fun _ => HVal.move' rfl) ?_
                    refine HPlan.gtakev (v := (.int .i64 (IntKind.i64.wrap (y32 - 1)))) rfl rfl rfl rfl rfl (congrArg Value.bool hb115) (fun _ => HVal.sub rfl rfl) ?_
                    obtain ⟨a123, e124, b125, b126, h⟩ := h
                    refine HPlan.gtakev (v := (.pointer (some (Addr.add a123 ((IntKind.i64.wrap (y32 - 1)).toNat * 3))))) rfl rfl rfl rfl rfl (congrArg Value.bool hb115) (fun _ => HVal.indexAddr Tryd.runUnderlying28 Tryd.sizeOf33 (Sl.v_some rfl e124) rfl b125 b126) ?_
                    refine HPlan.gtakev (v := (.pointer (some (Addr.add (Addr.add a123 ((IntKind.i64.wrap (y32 - 1)).toNat * 3)) 1)))) rfl rfl rfl rfl rfl (congrArg Value.bool hb115) (fun _ => HVal.fieldAddr' Tryd.runUnderlying33 rfl rfl Tryd.sizeOf2 rfl) ?_
                    obtain ⟨x128, c127, h⟩ := h
                    refine HPlan.gtakel (v := (.int .i64 x128)) (fun X => cell X (Addr.add (Addr.add a123 ((IntKind.i64.wrap (y32 - 1)).toNat * 3)) 1) = some (.int .i64 x128)) rfl rfl rfl rfl rfl (congrArg Value.bool hb115) (fun _ hX => HVal.load1 Tryd.isAgg2 rfl hX) c127 ?_
                    refine HPlan.gtakev (v := (.bool (decide (x122 = x128)))) rfl rfl rfl rfl rfl (congrArg Value.bool hb115) (fun _ => HVal.eqlI rfl rfl) ?_
                    refine HPlan.gtakev (v := (.bool (decide (x122 = x128)))) rfl rfl rfl rfl rfl (congrArg Value.bool hb115) (fun _ => HVal.move' rfl) ?_
                    obtain ⟨hT, hF⟩ := h
                    rcases Bool.eq_false_or_eq_true (decide (x122 = x128)) with hb129 | hb130
                    · have h := hT hb129
                      clear hT hF
                      refine HPlan.gtakev (v := (.int .i64 r49)) rfl rfl rfl rfl rfl (congrArg Value.bool hb129) (fun _ => HVal.move' rfl) ?_
                      refine HPlan.gtakev (v := (.int .i64 r97)) rfl rfl rfl rfl rfl (congrArg Value.bool hb129) (fun _ => HVal.move' rfl) ?_
                      refine HPlan.gtakev (v := (.bool (decide (r49 ≤ r97)))) rfl rfl rfl rfl rfl (congrArg Value.bool hb129) (fun _ => HVal.leq rfl rfl) ?_
                      refine HPlan.gtakev (v := (.bool (decide (r49 ≤ r97)))) rfl rfl rfl rfl rfl (congrArg Value.bool hb115) (fun _ => HVal.pickT rfl hb129 rfl) ?_
                      refine HPlan.takev (v := (.bool (decide (r49 ≤ r97)))) rfl rfl (fun _ => HVal.pickF rfl hb115 rfl) ?_
                      refine HPlan.done ?_
                      refine nt ?_
                      exact ⟨(decide (r49 ≤ r97)), ⟨rfl, rfl, rfl, rfl, rfl, trivial⟩, h⟩
                    · have h := hF hb130
                      clear hT hF
                      refine HPlan.takegskip rfl rfl rfl rfl (congrArg Value.bool hb130) ?_
                      refine HPlan.takegskip rfl rfl rfl rfl (congrArg Value.bool hb130) ?_
                      refine HPlan.takegskip rfl rfl rfl rfl (congrArg Value.bool hb130) ?_
                      refine HPlan.gtakev (v := (.bool false)) rfl rfl rfl rfl rfl (congrArg Value.bool hb115) (fun _ => HVal.pickF rfl hb130 rfl) ?_
                      refine HPlan.takev (v := (.bool false)) rfl rfl (fun _ => HVal.pickF rfl hb115 rfl) ?_
                      refine HPlan.done ?_
                      refine nt ?_
                      exact ⟨false, ⟨rfl, rfl, rfl, rfl, rfl, trivial⟩, h⟩
                · rintro ρ H_7 ⟨y116, hI, h⟩
                  obtain ⟨ρ0, rfl⟩ : ∃ ρ0, ρ = (Env.set (Env.set (Env.set (Env.set (Env.set ρ0 122 (.bool y116)) 9 (.int .i64 y32)) 2 (.int .i64 p2)) 1 (Sl.v p1)) 0 (.pointer p0)) := ⟨ρ, hI.eq⟩
                  clear hI; unfold F17_7 at h
                  obtain ⟨hT, hF⟩ := h
                  refine HW.cond y116 rfl (fun hb131 => ?_) (fun hb131 => ?_)
                  · have h := hT hb131
                    clear hT hF
                    refine HW.seq ?_
                    refine HW.region ?_
                    refine HList.vals (v := (.bool false)) rfl (HVal.assign' rfl) ?_
                    refine HList.nil ?_
                    refine nt ?_
                    refine HW.ret ?_
                    refine br ?_
                    refine tr ?_
                    refine tr ?_
                    refine br ?_
                    refine tr ?_
                    exact ⟨_, resOf1 rfl Res1.t, ⟨false, rfl, h⟩⟩
                  · have h := hF hb131
                    clear hT hF
                    refine HW.skip ?_
                    refine nb ?_
                    refine nt ?_
                    exact ⟨⟨rfl, rfl, rfl, rfl, trivial⟩, h⟩
              · have h := hF hb88
                clear hT hF
                refine HW.skip ?_
                refine nb ?_
                refine nt ?_
                exact ⟨⟨rfl, rfl, rfl, rfl, trivial⟩, h⟩
        · rintro ρ H_5 ⟨hI, h⟩
          obtain ⟨ρ0, rfl⟩ : ∃ ρ0, ρ = (Env.set (Env.set (Env.set (Env.set ρ0 9 (.int .i64 y32)) 2 (.int .i64 p2)) 1 (Sl.v p1)) 0 (.pointer p0)) := ⟨ρ, hI.eq⟩
          clear hI; unfold F17_5 at h
          refine HW.region ?_
          refine HList.vals (v := (.int .i64 y32)) rfl (HVal.move' rfl) ?_
          refine HList.vals (v := (.int .i64 (IntKind.i64.wrap (y32 + 1)))) rfl (HVal.add rfl rfl) ?_
          refine HList.vals (v := (.int .i64 (IntKind.i64.wrap (y32 + 1)))) rfl (HVal.assign' rfl) ?_
          refine HList.nil ?_
          refine nt ?_
          exact (hX4 _ _).1 h _ ⟨rfl, rfl, rfl, rfl, trivial⟩
      · have h := hF hb36
        clear hT hF
        refine HW.exit ?_
        refine te ?_
        refine te ?_
        refine be ?_
        refine nt ?_
        refine HW.seq ?_
        refine HW.region ?_
        refine HList.vals (v := (.bool true)) rfl (HVal.assign' rfl) ?_
        refine HList.nil ?_
        refine nt ?_
        refine HW.ret ?_
        exact ⟨_, resOf1 rfl Res1.t, ⟨true, rfl, h⟩⟩

end Go.Hw
