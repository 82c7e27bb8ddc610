/- The walks of this seat, printed by a program of this session (wip/tools/gen.py): of each function what it does to the heap, and that it does so. -/
import Derived.Test.YtbhfkpdalilhcaaDoorHwT
import Derived.Test.YtbhfkpdalilhcaaDoorProg
import Derived.Test.YtbhfkpdalilhcaaDoorWAux
import Derived.Test.YtbhfkpdalilhcaaDoorWalkB
set_option linter.unusedVariables false
set_option linter.unusedSimpArgs false
namespace Go.Hw
open Go Go.Proofs
def F75_1 (Q : Sl → Hp → Prop) (y55 : Sl) (y56 : Int) (H_1 : Hp) : Prop :=
∀ H66 : Hp, H66 = Array.push H_1 (.cells #[(.string (ByteArray.mk #[])), (.int .i64 y56), (.bool false)] 123) → (
 AppendF H66 123 3 32 #[(.string (ByteArray.mk #[])), (.int .i64 0), (.bool false)] y55 ((Sl.mk (some ⟨H_1.size, 0, none⟩) 1 1)).b ((Sl.mk (some ⟨H_1.size, 0, none⟩) 1 1)).n (fun (r70 : Sl) (H68 : Hp) => 
 Q r70 H68))
def F75_5 (Q : Sl → Hp → Prop) (X2 : Sl → Int → Hp → Prop) (y38 : ByteArray) (y39 : Sl) (y40 : Int) (y53 : Int) (H_5 : Hp) : Prop :=
((decide (y53 = y40)) = true → (F75_1 Q y39 y53 H_5)) ∧
 ((decide (y53 = y40)) = false → ((0 : Int) ≤ y40 ∧ (0 : Int) ≤ y53 ∧ y40.toNat ≤ y53.toNat ∧ y53.toNat ≤ (y38).size ∧ (
 ∀ H61 : Hp, H61 = Array.push H_5 (.cells #[(.string ((y38).extract y40.toNat y53.toNat)), (.int .i64 y40), (.bool true)] 123) → (
 AppendF H61 123 3 32 #[(.string (ByteArray.mk #[])), (.int .i64 0), (.bool false)] y39 ((Sl.mk (some ⟨H_5.size, 0, none⟩) 1 1)).b ((Sl.mk (some ⟨H_5.size, 0, none⟩) 1 1)).n (fun (r65 : Sl) (H63 : Hp) => 
 X2 r65 y53 H63)))))
def F75_L6b (Q : Sl → Hp → Prop) (X2 : Sl → Int → Hp → Prop) (X6 : Int → Hp → Prop) (y42 : ByteArray) (y43 : Sl) (y44 : Int) (y41 : Int) (H_6 : Hp) : Prop :=
((decide (y41 < ((y42).size : Int))) = true → ((0 : Int) ≤ y41 ∧ y41.toNat < (y42).size ∧ (
 F74 (bt y42 y41.toNat) H_6 (fun (r51 : Bool) (H49 : Hp) => 
 (r51 = true → (X6 (IntKind.i64.wrap (y41 + 1)) H49)) ∧
 (r51 = false → (F75_5 Q X2 y42 y43 y44 y41 H49)))))) ∧
 ((decide (y41 < ((y42).size : Int))) = false → (F75_5 Q X2 y42 y43 y44 y41 H_6))
def F75_L6 (Q : Sl → Hp → Prop) (X2 : Sl → Int → Hp → Prop) (y42 : ByteArray) (y43 : Sl) (y44 : Int) (y41 : Int) (H_6 : Hp) : Prop :=
  ∀ X6 : Int → Hp → Prop, (∀ (y41 : Int) (H_6 : Hp), F75_L6b Q X2 X6 y42 y43 y44 y41 H_6 → X6 y41 H_6) → X6 y41 H_6
def F75_4 (Q : Sl → Hp → Prop) (X2 : Sl → Int → Hp → Prop) (y19 : ByteArray) (y20 : Sl) (y21 : Int) (y22 : Int) (y25 : Bool) (H_4 : Hp) : Prop :=
(y25 = true → ((0 : Int) ≤ y22 ∧ (0 : Int) ≤ (IntKind.i64.wrap (y21 + 1)) ∧ y22.toNat ≤ (IntKind.i64.wrap (y21 + 1)).toNat ∧ (IntKind.i64.wrap (y21 + 1)).toNat ≤ (y19).size ∧ (
 ∀ H33 : Hp, H33 = Array.push H_4 (.cells #[(.string ((y19).extract y22.toNat ((IntKind.i64.wrap (y21 + 1)).toNat))), (.int .i64 y22), (.bool false)] 123) → (
 AppendF H33 123 3 32 #[(.string (ByteArray.mk #[])), (.int .i64 0), (.bool false)] y20 ((Sl.mk (some ⟨H_4.size, 0, none⟩) 1 1)).b ((Sl.mk (some ⟨H_4.size, 0, none⟩) 1 1)).n (fun (r37 : Sl) (H35 : Hp) => 
 X2 r37 (IntKind.i64.wrap (y21 + 1)) H35))))) ∧
 (y25 = false → (F75_L6 Q X2 y19 y20 y22 y21 H_4))
def F75_3 (Q : Sl → Hp → Prop) (X2 : Sl → Int → Hp → Prop) (y7 : ByteArray) (y8 : Sl) (y9 : Int) (y10 : Int) (y13 : Bool) (H_3 : Hp) : Prop :=
(y13 = true → (X2 y8 (IntKind.i64.wrap (y9 + 1)) H_3)) ∧
 (y13 = false → (((decide (y10 = 40)) = true → (F75_4 Q X2 y7 y8 y9 y9 true H_3)) ∧
 ((decide (y10 = 40)) = false → (((decide (y10 = 41)) = true → (F75_4 Q X2 y7 y8 y9 y9 true H_3)) ∧
 ((decide (y10 = 41)) = false → (F75_4 Q X2 y7 y8 y9 y9 (decide (y10 = 44)) H_3))))))
def F75_L2b (Q : Sl → Hp → Prop) (X2 : Sl → Int → Hp → Prop) (y3 : ByteArray) (y1 : Sl) (y2 : Int) (H_2 : Hp) : Prop :=
((decide (y2 < ((y3).size : Int))) = true → ((0 : Int) ≤ y2 ∧ y2.toNat < (y3).size ∧ (
 ((decide ((bt y3 y2.toNat) = 32)) = true → (F75_3 Q X2 y3 y1 y2 (bt y3 y2.toNat) true H_2)) ∧
 ((decide ((bt y3 y2.toNat) = 32)) = false → (((decide ((bt y3 y2.toNat) = 9)) = true → (F75_3 Q X2 y3 y1 y2 (bt y3 y2.toNat) true H_2)) ∧
 ((decide ((bt y3 y2.toNat) = 9)) = false → (((decide ((bt y3 y2.toNat) = 10)) = true → (F75_3 Q X2 y3 y1 y2 (bt y3 y2.toNat) true H_2)) ∧
 ((decide ((bt y3 y2.toNat) = 10)) = false → (F75_3 Q X2 y3 y1 y2 (bt y3 y2.toNat) (decide ((bt y3 y2.toNat) = 13)) H_2))))))))) ∧
 ((decide (y2 < ((y3).size : Int))) = false → (F75_1 Q y1 y2 H_2))
def F75_L2 (Q : Sl → Hp → Prop) (y3 : ByteArray) (y1 : Sl) (y2 : Int) (H_2 : Hp) : Prop :=
  ∀ X2 : Sl → Int → Hp → Prop, (∀ (y1 : Sl) (y2 : Int) (H_2 : Hp), F75_L2b Q X2 y3 y1 y2 H_2 → X2 y1 y2 H_2) → X2 y1 y2 H_2
def F75 (p0 : ByteArray) (H : Hp) (Q : Sl → Hp → Prop) : Prop :=
F75_L2 Q p0 Sl.nil 0 H
set_option maxRecDepth 100000 in
set_option maxHeartbeats 4000000 in
theorem walk75 {w0 : World} {p0 : ByteArray} {H : Hp} {Q : Sl → Hp → Prop} (h : F75 p0 H Q) :
    Good Tryd.prog w0 75 #[(.string p0)] H (fun v H => ∃ (r0 : Sl) , v = (Sl.v r0) ∧ Q r0 H) := by
  unfold F75 at h
  refine Good.enter' (fn := Tryd.f75) Tryd.func75 rfl rfl rfl ?_
  refine HW.seq ?_
  refine HW.region ?_
  refine HList.vals (v := (Sl.v Sl.nil)) rfl (HVal.assign' rfl) ?_
  refine HList.nil ?_
  refine nt ?_
  refine HW.seq ?_
  refine HW.region ?_
  refine HList.vals (v := (Sl.v Sl.nil)) rfl (HVal.assign' rfl) ?_
  refine HList.nil ?_
  refine nt ?_
  refine HW.seq ?_
  refine HW.region ?_
  refine HList.vals (v := (.int .i64 0)) rfl (HVal.assign' rfl) ?_
  refine HList.nil ?_
  refine nt ?_
  refine HW.cut (fun ρ H_1 => ∃ (y55 : Sl) (y56 : Int), Env.Is ρ [(3, (Sl.v y55)), (4, (.int .i64 y56))] ∧ F75_1 Q y55 y56 H_1) ?_ ?_
  · refine HW.block ?_
    refine HW.loop' (fun L2 hL2 => ?_)
    obtain ⟨X2, hX2⟩ : ∃ X2 : Sl → Int → Hp → Prop, ∀ (y1 : Sl) (y2 : Int) (H_2 : Hp), X2 y1 y2 H_2 ↔ ∀ ρ, Env.Is ρ [(0, (.string p0)), (3, (Sl.v y1)), (4, (.int .i64 y2))] → L2 ρ H_2 := ⟨_, fun _ _ _ => Iff.rfl⟩
    refine (hX2 _ _ _).1 (h X2 ?_) _ ?_
    rotate_left
    · exact ⟨rfl, rfl, rfl, trivial⟩
    clear h
    intro y1 y2 H_2 h
    refine (hX2 _ _ _).2 fun ρ hI => ?_
    obtain ⟨ρ0, rfl⟩ : ∃ ρ0, ρ = (Env.set (Env.set (Env.set ρ0 4 (.int .i64 y2)) 3 (Sl.v y1)) 0 (.string p0)) := ⟨ρ, hI.eq⟩
    clear hI; unfold F75_L2b at h; refine hL2 _ _ ?_
    refine HW.seq ?_
    refine HW.seq ?_
    refine HW.region ?_
    refine HList.vals (v := (.int .i64 y2)) rfl (HVal.move' rfl) ?_
    refine HList.vals (v := (.string p0)) rfl (HVal.move' rfl) ?_
    refine HList.vals (v := (.int .i64 ((p0).size : Int))) rfl (HVal.lenS Tryd.runUnderlying9 rfl) ?_
    refine HList.vals (v := (.bool (decide (y2 < ((p0).size : Int))))) rfl (HVal.lss rfl rfl) ?_
    refine HList.nil ?_
    refine nt ?_
    obtain ⟨hT, hF⟩ := h
    refine HW.cond (decide (y2 < ((p0).size : Int))) rfl (fun hb4 => ?_) (fun hb4 => ?_)
    · have h := hT hb4
      clear hT hF
      refine HW.skip ?_
      refine nt ?_
      refine HW.block ?_
      refine HW.seq ?_
      refine HW.region ?_
      refine HList.vals (v := (.string p0)) rfl (HVal.move' rfl) ?_
      refine HList.vals (v := (.int .i64 y2)) rfl (HVal.move' rfl) ?_
      obtain ⟨b5, b6, h⟩ := h
      refine HList.vals (v := (.int .u8 (bt p0 y2.toNat))) rfl (HVal.indexS' Tryd.runUnderlying9 rfl rfl b5 b6) ?_
      refine HList.vals (v := (.int .u8 (bt p0 y2.toNat))) rfl (HVal.assign' rfl) ?_
      refine HList.nil ?_
      refine nt ?_
      refine HW.seq ?_
      refine HW.cut (fun ρ H_3 => ∃ (y13 : Bool), Env.Is ρ [(0, (.string p0)), (3, (Sl.v y1)), (4, (.int .i64 y2)), (5, (.int .u8 (bt p0 y2.toNat))), (27, (.bool y13))] ∧ F75_3 Q X2 p0 y1 y2 (bt p0 y2.toNat) y13 H_3) ?_ ?_
      · refine HW.region ?_
        refine HList.vals (v := (.int .u8 (bt p0 y2.toNat))) rfl (HVal.move' rfl) ?_
        refine HList.vals (v := (.bool (decide ((bt p0 y2.toNat) = 32)))) rfl (HVal.eqlI rfl rfl) ?_
        refine HList.vals (v := (.bool (decide ((bt p0 y2.toNat) = 32)))) rfl (HVal.move' rfl) ?_
        obtain ⟨hT, hF⟩ := h
        rcases Bool.eq_false_or_eq_true (decide ((bt p0 y2.toNat) = 32)) with hb11 | hb12
        · have h := hT hb11
          clear hT hF
          refine HList.gskips rfl rfl rfl rfl (congrArg Value.bool hb11) ?_
          refine HList.gskips rfl rfl rfl rfl (congrArg Value.bool hb11) ?_
          refine HList.vals (v := (.bool true)) rfl (HVal.pickT rfl hb11 rfl) ?_
          refine HList.vals (v := (.bool true)) rfl (HVal.move' rfl) ?_
          refine HList.gskips rfl rfl rfl rfl rfl ?_
          refine HList.gskips rfl rfl rfl rfl rfl ?_
          refine HList.vals (v := (.bool true)) rfl (HVal.pickT rfl rfl rfl) ?_
          refine HList.vals (v := (.bool true)) rfl (HVal.move' rfl) ?_
          refine HList.gskips rfl rfl rfl rfl rfl ?_
          refine HList.gskips rfl rfl rfl rfl rfl ?_
          refine HList.vals (v := (.bool true)) rfl (HVal.pickT rfl rfl rfl) ?_
          refine HList.nil ?_
          refine nt ?_
          exact ⟨true, ⟨rfl, rfl, rfl, rfl, rfl, trivial⟩, h⟩
        · have h := hF hb12
          clear hT hF
          refine HList.gvals (v := (.int .u8 (bt p0 y2.toNat))) rfl rfl rfl rfl (congrArg Value.bool hb12) (HVal.move' rfl) ?_
          refine HList.gvals (v := (.bool (decide ((bt p0 y2.toNat) = 9)))) rfl rfl rfl rfl (congrArg Value.bool hb12) (HVal.eqlI rfl rfl) ?_
          refine HList.vals (v := (.bool (decide ((bt p0 y2.toNat) = 9)))) rfl (HVal.pickF rfl hb12 rfl) ?_
          refine HList.vals (v := (.bool (decide ((bt p0 y2.toNat) = 9)))) rfl (HVal.move' rfl) ?_
          obtain ⟨hT, hF⟩ := h
          rcases Bool.eq_false_or_eq_true (decide ((bt p0 y2.toNat) = 9)) with hb14 | hb15
          · have h := hT hb14
            clear hT hF
            refine HList.gskips rfl rfl rfl rfl (congrArg Value.bool hb14) ?_
            refine HList.gskips rfl rfl rfl rfl (congrArg Value.bool hb14) ?_
            refine HList.vals (v := (.bool true)) rfl (HVal.pickT rfl hb14 rfl) ?_
            refine HList.vals (v := (.bool true)) rfl (HVal.move' rfl) ?_
            refine HList.gskips rfl rfl rfl rfl rfl ?_
            refine HList.gskips rfl rfl rfl rfl rfl ?_
            refine HList.vals (v := (.bool true)) rfl (HVal.pickT rfl rfl rfl) ?_
            refine HList.nil ?_
            refine nt ?_
            exact ⟨true, ⟨rfl, rfl, rfl, rfl, rfl, trivial⟩, h⟩
          · have h := hF hb15
            clear hT hF
            refine HList.gvals (v := (.int .u8 (bt p0 y2.toNat))) rfl rfl rfl rfl (congrArg Value.bool hb15) (HVal.move' rfl) ?_
            refine HList.gvals (v := (.bool (decide ((bt p0 y2.toNat) = 10)))) rfl rfl rfl rfl (congrArg Value.bool hb15) (HVal.eqlI rfl rfl) ?_
            refine HList.vals (v := (.bool (decide ((bt p0 y2.toNat) = 10)))) rfl (HVal.pickF rfl hb15 rfl) ?_
            refine HList.vals (v := (.bool (decide ((bt p0 y2.toNat) = 10)))) rfl (HVal.move' rfl) ?_
            obtain ⟨hT, hF⟩ := h
            rcases Bool.eq_false_or_eq_true (decide ((bt p0 y2.toNat) = 10)) with hb16 | hb17
            · have h := hT hb16
              clear hT hF
              refine HList.gskips rfl rfl rfl rfl (congrArg Value.bool hb16) ?_
              refine HList.gskips rfl rfl rfl rfl (congrArg Value.bool hb16) ?_
              refine HList.vals (v := (.bool true)) rfl (HVal.pickT rfl hb16 rfl) ?_
              refine HList.nil ?_
              refine nt ?_
              exact ⟨true, ⟨rfl, rfl, rfl, rfl, rfl, trivial⟩, h⟩
            · have h := hF hb17
              clear hT hF
              refine HList.gvals (v := (.int .u8 (bt p0 y2.toNat))) rfl rfl rfl rfl (congrArg Value.bool hb17) (HVal.move' rfl) ?_
              refine HList.gvals (v := (.bool (decide ((bt p0 y2.toNat) = 13)))) rfl rfl rfl rfl (congrArg Value.bool hb17) (HVal.eqlI rfl rfl) ?_
              refine HList.vals (v := (.bool (decide ((bt p0 y2.toNat) = 13)))) rfl (HVal.pickF rfl hb17 rfl) ?_
              refine HList.nil ?_
              refine nt ?_
              exact ⟨(decide ((bt p0 y2.toNat) = 13)), ⟨rfl, rfl, rfl, rfl, rfl, trivial⟩, h⟩
      · rintro ρ H_3 ⟨y13, hI, h⟩
        obtain ⟨ρ0, rfl⟩ : ∃ ρ0, ρ = (Env.set (Env.set (Env.set (Env.set (Env.set ρ0 27 (.bool y13)) 5 (.int .u8 (bt p0 y2.toNat))) 4 (.int .i64 y2)) 3 (Sl.v y1)) 0 (.string p0)) := ⟨ρ, hI.eq⟩
        clear hI; unfold F75_3 at h
        obtain ⟨hT, hF⟩ := h
        refine HW.cond y13 rfl (fun hb18 => ?_) (fun hb18 => ?_)
        · have h := hT hb18
          clear hT hF
          refine HW.seq ?_
          refine HW.region ?_
          refine HList.vals (v := (.int .i64 y2)) rfl (HVal.move' rfl) ?_
          refine HList.vals (v := (.int .i64 (IntKind.i64.wrap (y2 + 1)))) rfl (HVal.add rfl rfl) ?_
          refine HList.vals (v := (.int .i64 (IntKind.i64.wrap (y2 + 1)))) rfl (HVal.assign' rfl) ?_
          refine HList.nil ?_
          refine nt ?_
          refine HW.exit ?_
          refine te ?_
          refine be ?_
          refine nt ?_
          exact (hX2 _ _ _).1 h _ ⟨rfl, rfl, rfl, trivial⟩
        · have h := hF hb18
          clear hT hF
          refine HW.skip ?_
          refine nt ?_
          refine HW.seq ?_
          refine HW.region ?_
          refine HList.vals (v := (.int .i64 y2)) rfl (HVal.move' rfl) ?_
          refine HList.vals (v := (.int .i64 y2)) rfl (HVal.assign' rfl) ?_
          refine HList.nil ?_
          refine nt ?_
          refine HW.seq ?_
          refine HW.cut (fun ρ H_4 => ∃ (y25 : Bool), Env.Is ρ [(0, (.string p0)), (3, (Sl.v y1)), (4, (.int .i64 y2)), (6, (.int .i64 y2)), (40, (.bool y25))] ∧ F75_4 Q X2 p0 y1 y2 y2 y25 H_4) ?_ ?_
          · refine HW.region ?_
            refine HList.vals (v := (.int .u8 (bt p0 y2.toNat))) rfl (HVal.move' rfl) ?_
            refine HList.vals (v := (.bool (decide ((bt p0 y2.toNat) = 40)))) rfl (HVal.eqlI rfl rfl) ?_
            refine HList.vals (v := (.bool (decide ((bt p0 y2.toNat) = 40)))) rfl (HVal.move' rfl) ?_
            obtain ⟨hT, hF⟩ := h
            rcases Bool.eq_false_or_eq_true (decide ((bt p0 y2.toNat) = 40)) with hb23 | hb24
            · have h := hT hb23
              clear hT hF
              refine HList.gskips rfl rfl rfl rfl (congrArg Value.bool hb23) ?_
              refine HList.gskips rfl rfl rfl rfl (congrArg Value.bool hb23) ?_
              refine HList.vals (v := (.bool true)) rfl (HVal.pickT rfl hb23 rfl) ?_
              refine HList.vals (v := (.bool true)) rfl (HVal.move' rfl) ?_
              refine HList.gskips rfl rfl rfl rfl rfl ?_
              refine HList.gskips rfl rfl rfl rfl rfl ?_
              refine HList.vals (v := (.bool true)) rfl (HVal.pickT rfl rfl rfl) ?_
              refine HList.nil ?_
              refine nt ?_
              exact ⟨true, ⟨rfl, rfl, rfl, rfl, rfl, trivial⟩, h⟩
            · have h := hF hb24
              clear hT hF
              refine HList.gvals (v := (.int .u8 (bt p0 y2.toNat))) rfl rfl rfl rfl (congrArg Value.bool hb24) (HVal.move' rfl) ?_
              refine HList.gvals (v := (.bool (decide ((bt p0 y2.toNat) = 41)))) rfl rfl rfl rfl (congrArg Value.bool hb24) (HVal.eqlI rfl rfl) ?_
              refine HList.vals (v := (.bool (decide ((bt p0 y2.toNat) = 41)))) rfl (HVal.pickF rfl hb24 rfl) ?_
              refine HList.vals (v := (.bool (decide ((bt p0 y2.toNat) = 41)))) rfl (HVal.move' rfl) ?_
              obtain ⟨hT, hF⟩ := h
              rcases Bool.eq_false_or_eq_true (decide ((bt p0 y2.toNat) = 41)) with hb26 | hb27
              · have h := hT hb26
                clear hT hF
                refine HList.gskips rfl rfl rfl rfl (congrArg Value.bool hb26) ?_
                refine HList.gskips rfl rfl rfl rfl (congrArg Value.bool hb26) ?_
                refine HList.vals (v := (.bool true)) rfl (HVal.pickT rfl hb26 rfl) ?_
                refine HList.nil ?_
                refine nt ?_
                exact ⟨true, ⟨rfl, rfl, rfl, rfl, rfl, trivial⟩, h⟩
              · have h := hF hb27
                clear hT hF
                refine HList.gvals (v := (.int .u8 (bt p0 y2.toNat))) rfl rfl rfl rfl (congrArg Value.bool hb27) (HVal.move' rfl) ?_
                refine HList.gvals (v := (.bool (decide ((bt p0 y2.toNat) = 44)))) rfl rfl rfl rfl (congrArg Value.bool hb27) (HVal.eqlI rfl rfl) ?_
                refine HList.vals (v := (.bool (decide ((bt p0 y2.toNat) = 44)))) rfl (HVal.pickF rfl hb27 rfl) ?_
                refine HList.nil ?_
                refine nt ?_
                exact ⟨(decide ((bt p0 y2.toNat) = 44)), ⟨rfl, rfl, rfl, rfl, rfl, trivial⟩, h⟩
          · rintro ρ H_4 ⟨y25, hI, h⟩
            obtain ⟨ρ0, rfl⟩ : ∃ ρ0, ρ = (Env.set (Env.set (Env.set (Env.set (Env.set ρ0 40 (.bool y25)) 6 (.int .i64 y2)) 4 (.int .i64 y2)) 3 (Sl.v y1)) 0 (.string p0)) := ⟨ρ, hI.eq⟩
            clear hI; unfold F75_4 at h
            obtain ⟨hT, hF⟩ := h
            refine HW.cond y25 rfl (fun hb28 => ?_) (fun hb28 => ?_)
            · have h := hT hb28
              clear hT hF
              refine HW.seq ?_
              refine HW.region ?_
              refine HList.vals (v := (.int .i64 y2)) rfl (HVal.move' rfl) ?_
              refine HList.vals (v := (.int .i64 (IntKind.i64.wrap (y2 + 1)))) rfl (HVal.add rfl rfl) ?_
              refine HList.vals (v := (.int .i64 (IntKind.i64.wrap (y2 + 1)))) rfl (HVal.assign' rfl) ?_
              refine HList.nil ?_
              refine nt ?_
              refine HW.seq ?_
              refine HW.region ?_
              refine HList.vals (v := (Sl.v y1)) rfl (HVal.move' rfl) ?_
              refine HList.vals (v := (.string p0)) rfl (HVal.move' rfl) ?_
              refine HList.vals (v := (.int .i64 y2)) rfl (HVal.move' rfl) ?_
              refine HList.vals (v := (.int .i64 (IntKind.i64.wrap (y2 + 1)))) rfl (HVal.move' rfl) ?_
              obtain ⟨z29, z30, z31, z32, h⟩ := h
              refine HList.vals (v := (.string ((p0).extract y2.toNat ((IntKind.i64.wrap (y2 + 1)).toNat)))) rfl (HVal.sliceS _ _ Tryd.runUnderlying9 rfl ⟨_, _, rfl, z29, rfl⟩ ⟨_, _, rfl, z30, rfl⟩ z31 z32) ?_
              refine HList.vals (v := (.int .i64 y2)) rfl (HVal.move' rfl) ?_
              refine HList.vals (v := (.agg #[(.string ((p0).extract y2.toNat ((IntKind.i64.wrap (y2 + 1)).toNat))), (.int .i64 y2), (.bool false)])) rfl (HVal.build' (cs := [(.string ((p0).extract y2.toNat ((IntKind.i64.wrap (y2 + 1)).toNat))), (.int .i64 y2), (.bool false)]) Tryd.runUnderlying123 Tryd.zeroValue123 places123 rfl) ?_
              refine HList.ops' rfl (HOp.buildSlice' (zs := [(.string (ByteArray.mk #[])), (.int .i64 0), (.bool false)]) (cs := [(.string ((p0).extract y2.toNat ((IntKind.i64.wrap (y2 + 1)).toNat))), (.int .i64 y2), (.bool false)]) Tryd.runUnderlying120 Tryd.sizeOf123 Tryd.zeroValue123 (by decide) (by kernel_rfl) rfl (by decide)) ?_
              rintro _ H33 ⟨rfl, e34⟩
              replace h := h H33 e34
              refine HList.ops' rfl (HOp.append (k := 3) (b := 32) Tryd.runUnderlying120 Tryd.runUnderlying120 Tryd.typeInfo123 rfl rfl Tryd.zeroValue123 rfl rfl h) ?_
              rintro _ H35 ⟨r37, rfl, h⟩
              refine HList.vals (v := (Sl.v r37)) rfl (HVal.assign' rfl) ?_
              refine HList.nil ?_
              refine nt ?_
              refine HW.exit ?_
              refine te ?_
              refine be ?_
              refine nt ?_
              exact (hX2 _ _ _).1 h _ ⟨rfl, rfl, rfl, trivial⟩
            · have h := hF hb28
              clear hT hF
              refine HW.skip ?_
              refine nt ?_
              refine HW.cut (fun ρ H_5 => ∃ (y53 : Int), Env.Is ρ [(0, (.string p0)), (3, (Sl.v y1)), (6, (.int .i64 y2)), (4, (.int .i64 y53))] ∧ F75_5 Q X2 p0 y1 y2 y53 H_5) ?_ ?_
              · refine HW.block ?_
                refine HW.loop' (fun L6 hL6 => ?_)
                obtain ⟨X6, hX6⟩ : ∃ X6 : Int → Hp → Prop, ∀ (y41 : Int) (H_6 : Hp), X6 y41 H_6 ↔ ∀ ρ, Env.Is ρ [(0, (.string p0)), (3, (Sl.v y1)), (6, (.int .i64 y2)), (4, (.int .i64 y41))] → L6 ρ H_6 := ⟨_, fun _ _ => Iff.rfl⟩
                refine (hX6 _ _).1 (h X6 ?_) _ ?_
                rotate_left
                · exact ⟨rfl, rfl, rfl, rfl, trivial⟩
                clear h
                intro y41 H_6 h
                refine (hX6 _ _).2 fun ρ hI => ?_
                obtain ⟨ρ0, rfl⟩ : ∃ ρ0, ρ = (Env.set (Env.set (Env.set (Env.set ρ0 4 (.int .i64 y41)) 6 (.int .i64 y2)) 3 (Sl.v y1)) 0 (.string p0)) := ⟨ρ, hI.eq⟩
                clear hI; unfold F75_L6b at h; refine hL6 _ _ ?_
                refine HW.seq ?_
                refine HW.seq ?_
                refine HW.region ?_
                refine HList.vals (v := (.int .i64 y41)) rfl (HVal.move' rfl) ?_
                refine HList.vals (v := (.string p0)) rfl (HVal.move' rfl) ?_
                refine HList.vals (v := (.int .i64 ((p0).size : Int))) rfl (HVal.lenS Tryd.runUnderlying9 rfl) ?_
                refine HList.vals (v := (.bool (decide (y41 < ((p0).size : Int))))) rfl (HVal.lss rfl rfl) ?_
                refine HList.vals (v := (.bool (decide (y41 < ((p0).size : Int))))) rfl (HVal.move' rfl) ?_
                obtain ⟨hT, hF⟩ := h
                rcases Bool.eq_false_or_eq_true (decide (y41 < ((p0).size : Int))) with hb45 | hb46
                · have h := hT hb45
                  clear hT hF
                  refine HList.gvals (v := (.string p0)) rfl rfl rfl rfl (congrArg Value.bool hb45) (HVal.move' rfl) ?_
                  refine HList.gvals (v := (.int .i64 y41)) rfl rfl rfl rfl (congrArg Value.bool hb45) (HVal.move' rfl) ?_
                  obtain ⟨b47, b48, h⟩ := h
                  refine HList.gvals (v := (.int .u8 (bt p0 y41.toNat))) rfl rfl rfl rfl (congrArg Value.bool hb45) (HVal.indexS' Tryd.runUnderlying9 rfl rfl b47 b48) ?_
                  refine HList.gops rfl rfl rfl rfl (congrArg Value.bool hb45) (HOp.call' 74 [(.int .u8 (bt p0 y41.toNat))] (cap := []) rfl rfl Tryd.call74 (walk74 h)) ?_
                  rintro _ H49 ⟨r51, rfl, h⟩
                  refine HList.vals (v := (.bool r51)) rfl (HVal.pickT rfl hb45 rfl) ?_
                  refine HList.nil ?_
                  refine nt ?_
                  obtain ⟨hT, hF⟩ := h
                  refine HW.cond r51 rfl (fun hb52 => ?_) (fun hb52 => ?_)
                  · have h := hT hb52
                    clear hT hF
                    refine HW.skip ?_
                    refine nt ?_
                    refine HW.block ?_
                    refine HW.region ?_
                    refine HList.vals (v := (.int .i64 y41)) rfl (HVal.move' rfl) ?_
                    refine HList.vals (v := (.int .i64 (IntKind.i64.wrap (y41 + 1)))) rfl (HVal.add rfl rfl) ?_
                    refine HList.vals (v := (.int .i64 (IntKind.i64.wrap (y41 + 1)))) rfl (HVal.assign' rfl) ?_
                    refine HList.nil ?_
                    refine nb ?_
                    refine nt ?_
                    exact (hX6 _ _).1 h _ ⟨rfl, rfl, rfl, rfl, trivial⟩
                  · have h := hF hb52
                    clear hT hF
                    refine HW.exit ?_
                    refine te ?_
                    refine te ?_
                    refine be ?_
                    refine nt ?_
                    exact ⟨y41, ⟨rfl, rfl, rfl, rfl, trivial⟩, h⟩
                · have h := hF hb46
                  clear hT hF
                  refine HList.gskips rfl rfl rfl rfl (congrArg Value.bool hb46) ?_
                  refine HList.gskips rfl rfl rfl rfl (congrArg Value.bool hb46) ?_
                  refine HList.gskips rfl rfl rfl rfl (congrArg Value.bool hb46) ?_
                  refine HList.gskips rfl rfl rfl rfl (congrArg Value.bool hb46) ?_
                  refine HList.vals (v := (.bool false)) rfl (HVal.pickF rfl hb46 rfl) ?_
                  refine HList.nil ?_
                  refine nt ?_
                  refine HW.condF false rfl rfl ?_
                  refine HW.exit ?_
                  refine te ?_
                  refine te ?_
                  refine be ?_
                  refine nt ?_
                  exact ⟨y41, ⟨rfl, rfl, rfl, rfl, trivial⟩, h⟩
              · rintro ρ H_5 ⟨y53, hI, h⟩
                obtain ⟨ρ0, rfl⟩ : ∃ ρ0, ρ = (Env.set (Env.set (Env.set (Env.set ρ0 4 (.int .i64 y53)) 6 (.int .i64 y2)) 3 (Sl.v y1)) 0 (.string p0)) := ⟨ρ, hI.eq⟩
                clear hI; unfold F75_5 at h
                refine HW.seq ?_
                refine HW.seq ?_
                refine HW.region ?_
                refine HList.vals (v := (.int .i64 y53)) rfl (HVal.move' rfl) ?_
                refine HList.vals (v := (.int .i64 y2)) rfl (HVal.move' rfl) ?_
                refine HList.vals (v := (.bool (decide (y53 = y2)))) rfl (HVal.eqlI rfl rfl) ?_
                refine HList.nil ?_
                refine nt ?_
                obtain ⟨hT, hF⟩ := h
                refine HW.cond (decide (y53 = y2)) rfl (fun hb54 => ?_) (fun hb54 => ?_)
                · have h := hT hb54
                  clear hT hF
                  refine HW.exit ?_
                  refine te ?_
                  refine bx rfl ?_
                  refine te ?_
                  refine be ?_
                  refine nt ?_
                  exact ⟨y1, y53, ⟨rfl, rfl, trivial⟩, h⟩
                · have h := hF hb54
                  clear hT hF
                  refine HW.skip ?_
                  refine nt ?_
                  refine HW.region ?_
                  refine HList.vals (v := (Sl.v y1)) rfl (HVal.move' rfl) ?_
                  refine HList.vals (v := (.string p0)) rfl (HVal.move' rfl) ?_
                  refine HList.vals (v := (.int .i64 y2)) rfl (HVal.move' rfl) ?_
                  refine HList.vals (v := (.int .i64 y53)) rfl (HVal.move' rfl) ?_
                  obtain ⟨z57, z58, z59, z60, h⟩ := h
                  refine HList.vals (v := (.string ((p0).extract y2.toNat y53.toNat))) rfl (HVal.sliceS _ _ Tryd.runUnderlying9 rfl ⟨_, _, rfl, z57, rfl⟩ ⟨_, _, rfl, z58, rfl⟩ z59 z60) ?_
                  refine HList.vals (v := (.int .i64 y2)) rfl (HVal.move' rfl) ?_
                  refine HList.vals (v := (.agg #[(.string ((p0).extract y2.toNat y53.toNat)), (.int .i64 y2), (.bool true)])) rfl (HVal.build' (cs := [(.string ((p0).extract y2.toNat y53.toNat)), (.int .i64 y2), (.bool true)]) Tryd.runUnderlying123 Tryd.zeroValue123 places123 rfl) ?_
                  refine HList.ops' rfl (HOp.buildSlice' (zs := [(.string (ByteArray.mk #[])), (.int .i64 0), (.bool false)]) (cs := [(.string ((p0).extract y2.toNat y53.toNat)), (.int .i64 y2), (.bool true)]) Tryd.runUnderlying120 Tryd.sizeOf123 Tryd.zeroValue123 (by decide) (by kernel_rfl) rfl (by decide)) ?_
                  rintro _ H61 ⟨rfl, e62⟩
                  replace h := h H61 e62
                  refine HList.ops' rfl (HOp.append (k := 3) (b := 32) Tryd.runUnderlying120 Tryd.runUnderlying120 Tryd.typeInfo123 rfl rfl Tryd.zeroValue123 rfl rfl h) ?_
                  rintro _ H63 ⟨r65, rfl, h⟩
                  refine HList.vals (v := (Sl.v r65)) rfl (HVal.assign' rfl) ?_
                  refine HList.nil ?_
                  refine nb ?_
                  refine nt ?_
                  exact (hX2 _ _ _).1 h _ ⟨rfl, rfl, rfl, trivial⟩
    · have h := hF hb4
      clear hT hF
      refine HW.exit ?_
      refine te ?_
      refine te ?_
      refine be ?_
      refine nt ?_
      exact ⟨y1, y2, ⟨rfl, rfl, trivial⟩, h⟩
  · rintro ρ H_1 ⟨y55, y56, hI, h⟩
    obtain ⟨ρ0, rfl⟩ : ∃ ρ0, ρ = (Env.set (Env.set ρ0 4 (.int .i64 y56)) 3 (Sl.v y55)) := ⟨ρ, hI.eq⟩
    clear hI; unfold F75_1 at h
    refine HW.seq ?_
    refine HW.region ?_
    refine HList.vals (v := (Sl.v y55)) rfl (HVal.move' rfl) ?_
    refine HList.vals (v := (.int .i64 y56)) rfl (HVal.move' rfl) ?_
    refine HList.vals (v := (.agg #[(.string (ByteArray.mk #[])), (.int .i64 y56), (.bool false)])) rfl (HVal.build' (cs := [(.string (ByteArray.mk #[])), (.int .i64 y56), (.bool false)]) Tryd.runUnderlying123 Tryd.zeroValue123 places123 rfl) ?_
    refine HList.ops' rfl (HOp.buildSlice' (zs := [(.string (ByteArray.mk #[])), (.int .i64 0), (.bool false)]) (cs := [(.string (ByteArray.mk #[])), (.int .i64 y56), (.bool false)]) Tryd.runUnderlying120 Tryd.sizeOf123 Tryd.zeroValue123 (by decide) (by kernel_rfl) rfl (by decide)) ?_
    rintro _ H66 ⟨rfl, e67⟩
    replace h := h H66 e67
    refine HList.ops' rfl (HOp.append (k := 3) (b := 32) Tryd.runUnderlying120 Tryd.runUnderlying120 Tryd.typeInfo123 rfl rfl Tryd.zeroValue123 rfl rfl h) ?_
    rintro _ H68 ⟨r70, rfl, h⟩
    refine HList.vals (v := (Sl.v r70)) rfl (HVal.assign' rfl) ?_
    refine HList.nil ?_
    refine nt ?_
    refine HW.ret ?_
    exact ⟨_, resOf1 rfl Res1.t, ⟨r70, rfl, h⟩⟩

def F92_L2b (Q : Int → Hp → Prop) (X2 : Int → Hp → Prop) (y16 : ByteArray) (y17 : Addr) (y15 : Int) (H_2 : Hp) : Prop :=
∃ x19 : Sl, cell H_2 (Addr.add y17 1) = some (Sl.v x19) ∧ (
 ((decide (y15 < ((x19).n : Int))) = true → (∃ x22 : Sl, cell H_2 (Addr.add y17 1) = some (Sl.v x22) ∧ (
 ∃ a23 : Addr, (x22).b = some a23 ∧ (0 : Int) ≤ y15 ∧ y15 < ((x22).n : Int) ∧ (
 ∃ x28 : ByteArray, cell H_2 (Addr.add a23 (y15.toNat * 2)) = some (.string x28) ∧ (
 ((seq x28 y16) = true → (Q 5 H_2)) ∧
 ((seq x28 y16) = false → (X2 (IntKind.i64.wrap (y15 + 1)) H_2))))))) ∧
 ((decide (y15 < ((x19).n : Int))) = false → (Q 0 H_2)))
def F92_L2 (Q : Int → Hp → Prop) (y16 : ByteArray) (y17 : Addr) (y15 : Int) (H_2 : Hp) : Prop :=
  ∀ X2 : Int → Hp → Prop, (∀ (y15 : Int) (H_2 : Hp), F92_L2b Q X2 y16 y17 y15 H_2 → X2 y15 H_2) → X2 y15 H_2
def F92_1 (Q : Int → Hp → Prop) (y6 : ByteArray) (y7 : Addr) (y13 : Bool) (H_1 : Hp) : Prop :=
(y13 = true → (Q 20 H_1)) ∧
 (y13 = false → (F92_L2 Q y6 y7 0 H_1))
def F92 (p0_0 : ByteArray) (p0_1 : Sl) (p1 : ByteArray) (H : Hp) (Q : Int → Hp → Prop) : Prop :=
∀ H1 : Hp, H1 = Array.push H (.cells #[(.string p0_0), (Sl.v p0_1)] 27) → (
 ∃ x4 : Sl, cell H1 (Addr.add ⟨H.size, 0, none⟩ 1) = some (Sl.v x4) ∧ (
 ((decide ((16 : Int) ≤ ((x4).n : Int))) = true → (Q 2 H1)) ∧
 ((decide ((16 : Int) ≤ ((x4).n : Int))) = false → (F49 p1 H1 (fun (r10 : Bool) (H8 : Hp) => 
 ((!r10) = true → (F92_1 Q p1 ⟨H.size, 0, none⟩ true H8)) ∧
 ((!r10) = false → (F92_1 Q p1 ⟨H.size, 0, none⟩ (seq p1 S_time) H8)))))))
set_option maxRecDepth 100000 in
set_option maxHeartbeats 4000000 in
theorem walk92 {w0 : World} {p0_0 : ByteArray} {p0_1 : Sl} {p1 : ByteArray} {H : Hp} {Q : Int → Hp → Prop} (h : F92 p0_0 p0_1 p1 H Q) :
    Good Tryd.prog w0 92 #[(.agg #[(.string p0_0), (Sl.v p0_1)]), (.string p1)] H (fun v H => ∃ (r0 : Int) , v = (.int .i64 r0) ∧ Q r0 H) := by
  unfold F92 at h
  refine Good.enter' (fn := Tryd.f92) Tryd.func92 rfl rfl rfl ?_
  refine HW.seq ?_
  refine HW.region ?_
  refine HList.ops' rfl (HOp.box (v := (.agg #[(.string p0_0), (Sl.v p0_1)])) rfl) ?_
  rintro _ H1 ⟨rfl, e2⟩
  replace h := h H1 e2
  refine HList.vals (v := (.int .i64 0)) rfl (HVal.assign' rfl) ?_
  refine HList.nil ?_
  refine nt ?_
  refine HW.seq ?_
  refine HW.seq ?_
  refine HW.region ?_
  refine HList.vals (v := (.pointer (some (Addr.add ⟨H.size, 0, none⟩ 1)))) rfl (HVal.fieldAddr' Tryd.runUnderlying27 rfl rfl Tryd.sizeOf25 rfl) ?_
  obtain ⟨x4, c3, h⟩ := h
  refine HList.vals (v := (Sl.v x4)) rfl (HVal.load1 Tryd.isAgg25 rfl c3) ?_
  refine HList.vals (v := (.int .i64 ((x4).n : Int))) rfl (HVal.len Tryd.runUnderlying25 rfl) ?_
  refine HList.vals (v := (.bool (decide ((16 : Int) ≤ ((x4).n : Int))))) rfl (HVal.geq rfl rfl) ?_
  refine HList.nil ?_
  refine nt ?_
  obtain ⟨hT, hF⟩ := h
  refine HW.cond (decide ((16 : Int) ≤ ((x4).n : Int))) rfl (fun hb5 => ?_) (fun hb5 => ?_)
  · have h := hT hb5
    clear hT hF
    refine HW.seq ?_
    refine HW.region ?_
    refine HList.vals (v := (.int .i64 2)) rfl (HVal.assign' rfl) ?_
    refine HList.nil ?_
    refine nt ?_
    refine HW.ret ?_
    refine tr ?_
    exact ⟨_, resOf1 rfl Res1.t, ⟨2, rfl, h⟩⟩
  · have h := hF hb5
    clear hT hF
    refine HW.skip ?_
    refine nt ?_
    refine HW.seq ?_
    refine HW.cut (fun ρ H_1 => ∃ (y13 : Bool), Env.Is ρ [(1, (.string p1)), (2, (.pointer (some ⟨H.size, 0, none⟩))), (16, (.bool y13))] ∧ F92_1 Q p1 ⟨H.size, 0, none⟩ y13 H_1) ?_ ?_
    · refine HW.region ?_
      refine HList.vals (v := (.string p1)) rfl (HVal.move' rfl) ?_
      refine HList.ops' rfl (HOp.call' 49 [(.string p1)] (cap := []) rfl rfl Tryd.call49 (walk49 h)) ?_
      rintro _ H8 ⟨r10, rfl, h⟩
      refine HList.vals (v := (.bool (!r10))) rfl (HVal.not rfl) ?_
      refine HList.vals (v := (.bool (!r10))) rfl (HVal.move' rfl) ?_
      obtain ⟨hT, hF⟩ := h
      rcases Bool.eq_false_or_eq_true (!r10) with hb11 | hb12
      · have h := hT hb11
        clear hT hF
        refine HList.gskips rfl rfl rfl rfl (congrArg Value.bool hb11) ?_
        refine HList.gskips rfl rfl rfl rfl (congrArg Value.bool hb11) ?_
        refine HList.vals (v := (.bool true)) rfl (HVal.pickT rfl hb11 rfl) ?_
        refine HList.nil ?_
        refine nt ?_
        exact ⟨true, ⟨rfl, rfl, rfl, trivial⟩, h⟩
      · have h := hF hb12
        clear hT hF
        refine HList.gvals (v := (.string p1)) rfl rfl rfl rfl (congrArg Value.bool hb12) (HVal.move' rfl) ?_
        refine HList.gvals (v := (.bool (seq p1 S_time))) rfl rfl rfl rfl (congrArg Value.bool hb12) (HVal.eqlS rfl rfl) ?_
        refine HList.vals (v := (.bool (seq p1 S_time))) rfl (HVal.pickF rfl hb12 rfl) ?_
        refine HList.nil ?_
        refine nt ?_
        exact ⟨(seq p1 S_time), ⟨rfl, rfl, rfl, trivial⟩, h⟩
    · rintro ρ H_1 ⟨y13, hI, h⟩
      obtain ⟨ρ0, rfl⟩ : ∃ ρ0, ρ = (Env.set (Env.set (Env.set ρ0 16 (.bool y13)) 2 (.pointer (some ⟨H.size, 0, none⟩))) 1 (.string p1)) := ⟨ρ, hI.eq⟩
      clear hI; unfold F92_1 at h
      obtain ⟨hT, hF⟩ := h
      refine HW.cond y13 rfl (fun hb14 => ?_) (fun hb14 => ?_)
      · have h := hT hb14
        clear hT hF
        refine HW.seq ?_
        refine HW.region ?_
        refine HList.vals (v := (.int .i64 20)) rfl (HVal.assign' rfl) ?_
        refine HList.nil ?_
        refine nt ?_
        refine HW.ret ?_
        refine tr ?_
        exact ⟨_, resOf1 rfl Res1.t, ⟨20, rfl, h⟩⟩
      · have h := hF hb14
        clear hT hF
        refine HW.skip ?_
        refine nt ?_
        refine HW.seq ?_
        refine HW.seq ?_
        refine HW.region ?_
        refine HList.vals (v := (.int .i64 0)) rfl (HVal.assign' rfl) ?_
        refine HList.nil ?_
        refine nt ?_
        refine HW.block ?_
        refine HW.loop' (fun L2 hL2 => ?_)
        obtain ⟨X2, hX2⟩ : ∃ X2 : Int → Hp → Prop, ∀ (y15 : Int) (H_2 : Hp), X2 y15 H_2 ↔ ∀ ρ, Env.Is ρ [(1, (.string p1)), (2, (.pointer (some ⟨H.size, 0, none⟩))), (5, (.int .i64 y15))] → L2 ρ H_2 := ⟨_, fun _ _ => Iff.rfl⟩
        refine (hX2 _ _).1 (h X2 ?_) _ ?_
        rotate_left
        · exact ⟨rfl, rfl, rfl, trivial⟩
        clear h
        intro y15 H_2 h
        refine (hX2 _ _).2 fun ρ hI => ?_
        obtain ⟨ρ0, rfl⟩ : ∃ ρ0, ρ = (Env.set (Env.set (Env.set ρ0 5 (.int .i64 y15)) 2 (.pointer (some ⟨H.size, 0, none⟩))) 1 (.string p1)) := ⟨ρ, hI.eq⟩
        clear hI; unfold F92_L2b at h; refine hL2 _ _ ?_
        refine HW.seq ?_
        refine HW.seq ?_
        refine HW.region ?_
        refine HList.vals (v := (.int .i64 y15)) rfl (HVal.move' rfl) ?_
        refine HList.vals (v := (.pointer (some (Addr.add ⟨H.size, 0, none⟩ 1)))) rfl (HVal.fieldAddr' Tryd.runUnderlying27 rfl rfl Tryd.sizeOf25 rfl) ?_
        obtain ⟨x19, c18, h⟩ := h
        refine HList.vals (v := (Sl.v x19)) rfl (HVal.load1 Tryd.isAgg25 rfl c18) ?_
        refine HList.vals (v := (.int .i64 ((x19).n : Int))) rfl (HVal.len Tryd.runUnderlying25 rfl) ?_
        refine HList.vals (v := (.bool (decide (y15 < ((x19).n : Int))))) rfl (HVal.lss rfl rfl) ?_
        refine HList.nil ?_
        refine nt ?_
        obtain ⟨hT, hF⟩ := h
        refine HW.cond (decide (y15 < ((x19).n : Int))) rfl (fun hb20 => ?_) (fun hb20 => ?_)
        · have h := hT hb20
          clear hT hF
          refine HW.skip ?_
          refine nt ?_
          refine HW.seq ?_
          refine HW.block ?_
          refine HW.seq ?_
          refine HW.region ?_
          refine HList.vals (v := (.pointer (some (Addr.add ⟨H.size, 0, none⟩ 1)))) rfl (HVal.fieldAddr' Tryd.runUnderlying27 rfl rfl Tryd.sizeOf25 rfl) ?_
          obtain ⟨x22, c21, h⟩ := h
          refine HList.vals (v := (Sl.v x22)) rfl (HVal.load1 Tryd.isAgg25 rfl c21) ?_
          refine HList.vals (v := (.int .i64 y15)) rfl (HVal.move' rfl) ?_
          obtain ⟨a23, e24, b25, b26, h⟩ := h
          refine HList.vals (v := (.pointer (some (Addr.add a23 (y15.toNat * 2))))) rfl (HVal.indexAddr Tryd.runUnderlying25 Tryd.sizeOf38 (Sl.v_some rfl e24) rfl b25 b26) ?_
          refine HList.vals (v := (.pointer (some (Addr.add a23 (y15.toNat * 2))))) rfl (HVal.fieldAddr0 Tryd.runUnderlying38 rfl rfl Tryd.sizeOf9 rfl) ?_
          obtain ⟨x28, c27, h⟩ := h
          refine HList.vals (v := (.string x28)) rfl (HVal.load1 Tryd.isAgg9 rfl c27) ?_
          refine HList.vals (v := (.string p1)) rfl (HVal.move' rfl) ?_
          refine HList.vals (v := (.bool (seq x28 p1))) rfl (HVal.eqlS rfl rfl) ?_
          refine HList.nil ?_
          refine nt ?_
          obtain ⟨hT, hF⟩ := h
          refine HW.cond (seq x28 p1) rfl (fun hb29 => ?_) (fun hb29 => ?_)
          · have h := hT hb29
            clear hT hF
            refine HW.seq ?_
            refine HW.region ?_
            refine HList.vals (v := (.int .i64 5)) rfl (HVal.assign' rfl) ?_
            refine HList.nil ?_
            refine nt ?_
            refine HW.ret ?_
            refine br ?_
            refine tr ?_
            refine tr ?_
            refine br ?_
            refine tr ?_
            exact ⟨_, resOf1 rfl Res1.t, ⟨5, rfl, h⟩⟩
          · have h := hF hb29
            clear hT hF
            refine HW.skip ?_
            refine nb ?_
            refine nt ?_
            refine HW.region ?_
            refine HList.vals (v := (.int .i64 y15)) rfl (HVal.move' rfl) ?_
            refine HList.vals (v := (.int .i64 (IntKind.i64.wrap (y15 + 1)))) rfl (HVal.add rfl rfl) ?_
            refine HList.vals (v := (.int .i64 (IntKind.i64.wrap (y15 + 1)))) rfl (HVal.assign' rfl) ?_
            refine HList.nil ?_
            refine nt ?_
            exact (hX2 _ _).1 h _ ⟨rfl, rfl, rfl, trivial⟩
        · have h := hF hb20
          clear hT hF
          refine HW.exit ?_
          refine te ?_
          refine te ?_
          refine be ?_
          refine nt ?_
          refine HW.seq ?_
          refine HW.region ?_
          refine HList.vals (v := (.int .i64 0)) rfl (HVal.assign' rfl) ?_
          refine HList.nil ?_
          refine nt ?_
          refine HW.ret ?_
          exact ⟨_, resOf1 rfl Res1.t, ⟨0, rfl, h⟩⟩

def F93_L1b (Q : Int → Hp → Prop) (X1 : Int → Hp → Prop) (y7 : ByteArray) (y8 : Addr) (y6 : Int) (H_1 : Hp) : Prop :=
((decide (y6 < 4)) = true → ((0 : Int) ≤ y6 ∧ y6 < ((4 : Nat) : Int) ∧ (
 ∃ x13 : ByteArray, cell H_1 (Addr.add y8 (y6.toNat * 1)) = some (.string x13) ∧ (
 ((seq x13 y7) = true → (Q y6 H_1)) ∧
 ((seq x13 y7) = false → (X1 (IntKind.i64.wrap (y6 + 1)) H_1)))))) ∧
 ((decide (y6 < 4)) = false → (Q 0 H_1))
def F93_L1 (Q : Int → Hp → Prop) (y7 : ByteArray) (y8 : Addr) (y6 : Int) (H_1 : Hp) : Prop :=
  ∀ X1 : Int → Hp → Prop, (∀ (y6 : Int) (H_1 : Hp), F93_L1b Q X1 y7 y8 y6 H_1 → X1 y6 H_1) → X1 y6 H_1
def F93 (p0 : ByteArray) (H : Hp) (Q : Int → Hp → Prop) : Prop :=
∀ H1 : Hp, H1 = Array.push H (.cells #[(.string (ByteArray.mk #[])), (.string (ByteArray.mk #[])), (.string (ByteArray.mk #[])), (.string (ByteArray.mk #[]))] 49) → (
 mayw H1 ⟨H.size, 0, none⟩ 4 0 ∧ ∀ H3 : Hp, H3 = sets H1 ⟨H.size, 0, none⟩ [(.string (ByteArray.mk #[])), (.string S_INT), (.string S_STR), (.string S_BOOL)] 0 → (
 F93_L1 Q p0 ⟨H.size, 0, none⟩ 1 H3))
set_option maxRecDepth 100000 in
set_option maxHeartbeats 4000000 in
theorem walk93 {w0 : World} {p0 : ByteArray} {H : Hp} {Q : Int → Hp → Prop} (h : F93 p0 H Q) :
    Good Tryd.prog w0 93 #[(.string p0)] H (fun v H => ∃ (r0 : Int) , v = (.int .i64 r0) ∧ Q r0 H) := by
  unfold F93 at h
  refine Good.enter' (fn := Tryd.f93) Tryd.func93 rfl rfl rfl ?_
  refine HW.seq ?_
  refine HW.region ?_
  refine HList.vals (v := (.int .i64 0)) rfl (HVal.assign' rfl) ?_
  refine HList.nil ?_
  refine nt ?_
  refine HW.seq ?_
  refine HW.region ?_
  refine HList.vals (v := (.agg #[(.string (ByteArray.mk #[])), (.string S_INT), (.string S_STR), (.string S_BOOL)])) rfl (HVal.buildA' (cs := [(.string (ByteArray.mk #[])), (.string S_INT), (.string S_STR), (.string S_BOOL)]) Tryd.runUnderlying49 Tryd.zeroValue49 Tryd.sizeOf9 rfl) ?_
  refine HList.ops' rfl (HOp.alloc Tryd.zeroValue49) ?_
  rintro _ H1 ⟨rfl, e2⟩
  replace h := h H1 e2
  obtain ⟨z5, h⟩ := h
  refine HList.opsn (HOp.storeN' (l := [(.string (ByteArray.mk #[])), (.string S_INT), (.string S_STR), (.string S_BOOL)]) Tryd.sizeOf49 rfl rfl rfl z5) ?_
  rintro _ H3 e4
  replace h := h H3 e4
  refine HList.nil ?_
  refine nt ?_
  refine HW.seq ?_
  refine HW.seq ?_
  refine HW.region ?_
  refine HList.vals (v := (.int .i64 1)) rfl (HVal.assign' rfl) ?_
  refine HList.nil ?_
  refine nt ?_
  refine HW.block ?_
  refine HW.loop' (fun L1 hL1 => ?_)
  obtain ⟨X1, hX1⟩ : ∃ X1 : Int → Hp → Prop, ∀ (y6 : Int) (H_1 : Hp), X1 y6 H_1 ↔ ∀ ρ, Env.Is ρ [(0, (.string p0)), (3, (.pointer (some ⟨H.size, 0, none⟩))), (4, (.int .i64 y6))] → L1 ρ H_1 := ⟨_, fun _ _ => Iff.rfl⟩
  refine (hX1 _ _).1 (h X1 ?_) _ ?_
  rotate_left
  · exact ⟨rfl, rfl, rfl, trivial⟩
  clear h
  intro y6 H_1 h
  refine (hX1 _ _).2 fun ρ hI => ?_
  obtain ⟨ρ0, rfl⟩ : ∃ ρ0, ρ = (Env.set (Env.set (Env.set ρ0 4 (.int .i64 y6)) 3 (.pointer (some ⟨H.size, 0, none⟩))) 0 (.string p0)) := ⟨ρ, hI.eq⟩
  clear hI; unfold F93_L1b at h; refine hL1 _ _ ?_
  refine HW.seq ?_
  refine HW.seq ?_
  refine HW.region ?_
  refine HList.vals (v := (.int .i64 y6)) rfl (HVal.move' rfl) ?_
  refine HList.vals (v := (.bool (decide (y6 < 4)))) rfl (HVal.lss rfl rfl) ?_
  refine HList.nil ?_
  refine nt ?_
  obtain ⟨hT, hF⟩ := h
  refine HW.cond (decide (y6 < 4)) rfl (fun hb9 => ?_) (fun hb9 => ?_)
  · have h := hT hb9
    clear hT hF
    refine HW.skip ?_
    refine nt ?_
    refine HW.seq ?_
    refine HW.block ?_
    refine HW.seq ?_
    refine HW.region ?_
    refine HList.vals (v := (.int .i64 y6)) rfl (HVal.move' rfl) ?_
    obtain ⟨b10, b11, h⟩ := h
    refine HList.vals (v := (.pointer (some (Addr.add ⟨H.size, 0, none⟩ (y6.toNat * 1))))) rfl (HVal.indexAddrA Tryd.runUnderlying49 Tryd.sizeOf9 rfl rfl b10 b11) ?_
    obtain ⟨x13, c12, h⟩ := h
    refine HList.vals (v := (.string x13)) rfl (HVal.load1 Tryd.isAgg9 rfl c12) ?_
    refine HList.vals (v := (.string p0)) rfl (HVal.move' rfl) ?_
    refine HList.vals (v := (.bool (seq x13 p0))) rfl (HVal.eqlS rfl rfl) ?_
    refine HList.nil ?_
    refine nt ?_
    obtain ⟨hT, hF⟩ := h
    refine HW.cond (seq x13 p0) rfl (fun hb14 => ?_) (fun hb14 => ?_)
    · have h := hT hb14
      clear hT hF
      refine HW.seq ?_
      refine HW.region ?_
      refine HList.vals (v := (.int .i64 y6)) rfl (HVal.move' rfl) ?_
      refine HList.vals (v := (.int .i64 y6)) rfl (HVal.assign' rfl) ?_
      refine HList.nil ?_
      refine nt ?_
      refine HW.ret ?_
      refine br ?_
      refine tr ?_
      refine tr ?_
      refine br ?_
      refine tr ?_
      exact ⟨_, resOf1 rfl Res1.t, ⟨y6, rfl, h⟩⟩
    · have h := hF hb14
      clear hT hF
      refine HW.skip ?_
      refine nb ?_
      refine nt ?_
      refine HW.region ?_
      refine HList.vals (v := (.int .i64 y6)) rfl (HVal.move' rfl) ?_
      refine HList.vals (v := (.int .i64 (IntKind.i64.wrap (y6 + 1)))) rfl (HVal.add rfl rfl) ?_
      refine HList.vals (v := (.int .i64 (IntKind.i64.wrap (y6 + 1)))) rfl (HVal.assign' rfl) ?_
      refine HList.nil ?_
      refine nt ?_
      exact (hX1 _ _).1 h _ ⟨rfl, rfl, rfl, trivial⟩
  · have h := hF hb9
    clear hT hF
    refine HW.exit ?_
    refine te ?_
    refine te ?_
    refine be ?_
    refine nt ?_
    refine HW.seq ?_
    refine HW.region ?_
    refine HList.vals (v := (.int .i64 0)) rfl (HVal.assign' rfl) ?_
    refine HList.nil ?_
    refine nt ?_
    refine HW.ret ?_
    exact ⟨_, resOf1 rfl Res1.t, ⟨0, rfl, h⟩⟩

def F76_1 (Q : Int → Int → Hp → Prop) (H_1 : Hp) : Prop :=
Q 0 24 H_1
def F76_2 (Q : Int → Int → Hp → Prop) (y8 : (Option Addr)) (y9 : Addr) (y19 : Bool) (H_2 : Hp) : Prop :=
(y19 = true → (Q 0 20 H_2)) ∧
 (y19 = false → (∃ x22 : Bool, cell H_2 (Addr.add y9 2) = some (.bool x22) ∧ (
 (x22 = true → (∃ x25 : ByteArray, cell H_2 y9 = some (.string x25) ∧ (
 ∃ a26 : Addr, y8 = some a26 ∧ (
 (cell H_2 a26).isSome = true ∧ frz H_2 a26 = false ∧ ∀ H28 : Hp, H28 = setc H_2 a26 (.string x25) → (
 Q 2 0 H28))))) ∧
 (x22 = false → (F76_1 Q H_2)))))
def F76_4 (Q : Int → Int → Hp → Prop) (y43 : (Option Addr)) (y44 : Addr) (y49 : Bool) (H_4 : Hp) : Prop :=
(y49 = true → (Q 7 0 H_4)) ∧
 (y49 = false → (∃ x52 : Bool, cell H_4 (Addr.add y44 2) = some (.bool x52) ∧ (
 (x52 = true → (∃ a54 : Addr, y43 = some a54 ∧ (
 ∃ (x57 : ByteArray) (x58 : Sl), cells H_4 a54 [(.string x57), (Sl.v x58)] 0 ∧ (
 ∃ x60 : ByteArray, cell H_4 y44 = some (.string x60) ∧ (
 F92 x57 x58 x60 H_4 (fun (r63 : Int) (H61 : Hp) => 
 ∃ a64 : Addr, y43 = some a64 ∧ (
 ∃ x67 : Sl, cell H61 (Addr.add a64 1) = some (Sl.v x67) ∧ (
 ∃ x69 : ByteArray, cell H61 y44 = some (.string x69) ∧ (
 ∀ H70 : Hp, H70 = Array.push H61 (.cells #[(.string x69), (.int .i64 0)] 38) → (
 cell H70 y44 = some (.string x69) ∧ cell H70 (Addr.add a64 1) = some (Sl.v x67) ∧ (
 AppendF H70 38 2 24 #[(.string (ByteArray.mk #[])), (.int .i64 0)] x67 ((Sl.mk (some ⟨H61.size, 0, none⟩) 1 1)).b ((Sl.mk (some ⟨H61.size, 0, none⟩) 1 1)).n (fun (r76 : Sl) (H74 : Hp) => 
 cell H74 y44 = some (.string x69) ∧ (
 ∃ a78 : Addr, y43 = some a78 ∧ (
 (cell H74 (Addr.add a78 1)).isSome = true ∧ frz H74 (Addr.add a78 1) = false ∧ ∀ H80 : Hp, H80 = setc H74 (Addr.add a78 1) (Sl.v r76) → (
 Q 5 r63 H80))))))))))))))) ∧
 (x52 = false → (F76_1 Q H_4)))))
def F76_3 (Q : Int → Int → Hp → Prop) (y36 : (Option Addr)) (y37 : Int) (y38 : Addr) (y39 : Int) (y41 : Bool) (H_3 : Hp) : Prop :=
(y41 = true → (∃ x46 : ByteArray, cell H_3 y38 = some (.string x46) ∧ (
 ((seq x46 S___) = true → (F76_4 Q y36 y38 (decide (y37 = 3)) H_3)) ∧
 ((seq x46 S___) = false → (F76_4 Q y36 y38 false H_3))))) ∧
 (y41 = false → (((decide (y39 = 5)) = true → (∃ x86 : ByteArray, cell H_3 y38 = some (.string x86) ∧ (
 F93 x86 H_3 (fun (r89 : Int) (H87 : Hp) => 
 ((decide ((0 : Int) < r89)) = true → (∃ a91 : Addr, y36 = some a91 ∧ (
 ∃ x94 : Sl, cell H87 (Addr.add a91 1) = some (Sl.v x94) ∧ (
 ∃ a95 : Addr, y36 = some a95 ∧ (
 ∃ x98 : Sl, cell H87 (Addr.add a95 1) = some (Sl.v x98) ∧ (
 ∃ a99 : Addr, (x94).b = some a99 ∧ (0 : Int) ≤ (IntKind.i64.wrap (((x98).n : Int) - 1)) ∧ (IntKind.i64.wrap (((x98).n : Int) - 1)) < ((x94).n : Int) ∧ (
 (cell H87 (Addr.add (Addr.add a99 ((IntKind.i64.wrap (((x98).n : Int) - 1)).toNat * 2)) 1)).isSome = true ∧ frz H87 (Addr.add (Addr.add a99 ((IntKind.i64.wrap (((x98).n : Int) - 1)).toNat * 2)) 1) = false ∧ ∀ H103 : Hp, H103 = setc H87 (Addr.add (Addr.add a99 ((IntKind.i64.wrap (((x98).n : Int) - 1)).toNat * 2)) 1) (.int .i64 r89) → (
 Q 6 0 H103)))))))) ∧
 ((decide ((0 : Int) < r89)) = false → (F76_1 Q H87)))))) ∧
 ((decide (y39 = 5)) = false → (((decide (y39 = 6)) = true → (∃ x109 : ByteArray, cell H_3 y38 = some (.string x109) ∧ (
 ((seq x109 S____) = true → (Q 4 0 H_3)) ∧
 ((seq x109 S____) = false → (∃ x112 : ByteArray, cell H_3 y38 = some (.string x112) ∧ (
 ((seq x112 S___) = true → (Q 7 0 H_3)) ∧
 ((seq x112 S___) = false → (F76_1 Q H_3)))))))) ∧
 ((decide (y39 = 6)) = false → (F76_1 Q H_3))))))
def F76 (p0 : (Option Addr)) (p1 : Int) (p2_0 : ByteArray) (p2_1 : Int) (p2_2 : Bool) (H : Hp) (Q : Int → Int → Hp → Prop) : Prop :=
∀ H1 : Hp, H1 = Array.push H (.cells #[(.string p2_0), (.int .i64 p2_1), (.bool p2_2)] 123) → (
 ((decide (p1 = 0)) = true → (∃ x5 : ByteArray, cell H1 ⟨H.size, 0, none⟩ = some (.string x5) ∧ (
 ((seq x5 S_TYPE) = true → (Q 1 0 H1)) ∧
 ((seq x5 S_TYPE) = false → (F76_1 Q H1))))) ∧
 ((decide (p1 = 0)) = false → (((decide (p1 = 1)) = true → (∃ x11 : Bool, cell H1 (Addr.add ⟨H.size, 0, none⟩ 2) = some (.bool x11) ∧ (
 (x11 = true → (∃ x15 : ByteArray, cell H1 ⟨H.size, 0, none⟩ = some (.string x15) ∧ (
 F49 x15 H1 (fun (r18 : Bool) (H16 : Hp) => 
 F76_2 Q p0 ⟨H.size, 0, none⟩ (!r18) H16)))) ∧
 (x11 = false → (F76_2 Q p0 ⟨H.size, 0, none⟩ false H1))))) ∧
 ((decide (p1 = 1)) = false → (((decide (p1 = 2)) = true → (∃ x34 : ByteArray, cell H1 ⟨H.size, 0, none⟩ = some (.string x34) ∧ (
 ((seq x34 S__) = true → (Q 3 0 H1)) ∧
 ((seq x34 S__) = false → (F76_1 Q H1))))) ∧
 ((decide (p1 = 2)) = false → (((decide (p1 = 3)) = true → (F76_3 Q p0 p1 ⟨H.size, 0, none⟩ p1 (decide (p1 = 3)) H1)) ∧
 ((decide (p1 = 3)) = false → (F76_3 Q p0 p1 ⟨H.size, 0, none⟩ p1 (decide (p1 = 4)) H1)))))))))
set_option maxRecDepth 100000 in
set_option maxHeartbeats 4000000 in
theorem walk76 {w0 : World} {p0 : (Option Addr)} {p1 : Int} {p2_0 : ByteArray} {p2_1 : Int} {p2_2 : Bool} {H : Hp} {Q : Int → Int → Hp → Prop} (h : F76 p0 p1 p2_0 p2_1 p2_2 H Q) :
    Good Tryd.prog w0 76 #[(.pointer p0), (.int .i64 p1), (.agg #[(.string p2_0), (.int .i64 p2_1), (.bool p2_2)])] H (fun v H => ∃ (r0 : Int) (r1 : Int) , v = (.tuple #[(.int .i64 r0), (.int .i64 r1)]) ∧ Q r0 r1 H) := by
  unfold F76 at h
  refine Good.enter' (fn := Tryd.f76) Tryd.func76 rfl rfl rfl ?_
  refine HW.seq ?_
  refine HW.region ?_
  refine HList.ops' rfl (HOp.box (v := (.agg #[(.string p2_0), (.int .i64 p2_1), (.bool p2_2)])) rfl) ?_
  rintro _ H1 ⟨rfl, e2⟩
  replace h := h H1 e2
  refine HList.vals (v := (.int .i64 0)) rfl (HVal.assign' rfl) ?_
  refine HList.vals (v := (.int .i64 0)) rfl (HVal.assign' rfl) ?_
  refine HList.nil ?_
  refine nt ?_
  refine HW.cut (fun ρ H_1 => Env.Is ρ [] ∧ F76_1 Q H_1) ?_ ?_
  · refine HW.seq ?_
    refine HW.region ?_
    refine HList.vals (v := (.int .i64 p1)) rfl (HVal.move' rfl) ?_
    refine HList.nil ?_
    refine nt ?_
    refine HW.block ?_
    refine HW.seq ?_
    refine HW.region ?_
    refine HList.vals (v := (.bool (decide (p1 = 0)))) rfl (HVal.eqlI rfl rfl) ?_
    refine HList.vals (v := (.bool (decide (p1 = 0)))) rfl (HVal.assign' rfl) ?_
    refine HList.nil ?_
    refine nt ?_
    obtain ⟨hT, hF⟩ := h
    refine HW.cond (decide (p1 = 0)) rfl (fun hb3 => ?_) (fun hb3 => ?_)
    · have h := hT hb3
      clear hT hF
      refine HW.seq ?_
      refine HW.region ?_
      refine HList.vals (v := (.pointer (some ⟨H.size, 0, none⟩))) rfl (HVal.fieldAddr0 Tryd.runUnderlying123 rfl rfl Tryd.sizeOf9 rfl) ?_
      obtain ⟨x5, c4, h⟩ := h
      refine HList.vals (v := (.string x5)) rfl (HVal.load1 Tryd.isAgg9 rfl c4) ?_
      refine HList.vals (v := (.bool (seq x5 S_TYPE))) rfl (HVal.eqlS rfl rfl) ?_
      refine HList.nil ?_
      refine nt ?_
      obtain ⟨hT, hF⟩ := h
      refine HW.cond (seq x5 S_TYPE) rfl (fun hb6 => ?_) (fun hb6 => ?_)
      · have h := hT hb6
        clear hT hF
        refine HW.seq ?_
        refine HW.region ?_
        refine HList.vals (v := (.int .i64 1)) rfl (HVal.assign' rfl) ?_
        refine HList.vals (v := (.int .i64 0)) rfl (HVal.assign' rfl) ?_
        refine HList.nil ?_
        refine nt ?_
        refine HW.ret ?_
        refine br ?_
        refine tr ?_
        exact ⟨_, resOf2 rfl Res1.t Res1.t, ⟨1, 0, rfl, h⟩⟩
      · have h := hF hb6
        clear hT hF
        refine HW.skip ?_
        refine nb ?_
        refine nt ?_
        exact ⟨trivial, h⟩
    · have h := hF hb3
      clear hT hF
      refine HW.seq ?_
      refine HW.region ?_
      refine HList.vals (v := (.bool (decide (p1 = 1)))) rfl (HVal.eqlI rfl rfl) ?_
      refine HList.vals (v := (.bool (decide (p1 = 1)))) rfl (HVal.assign' rfl) ?_
      refine HList.nil ?_
      refine nt ?_
      obtain ⟨hT, hF⟩ := h
      refine HW.cond (decide (p1 = 1)) rfl (fun hb7 => ?_) (fun hb7 => ?_)
      · have h := hT hb7
        clear hT hF
        refine HW.seq ?_
        refine HW.cut (fun ρ H_2 => ∃ (y19 : Bool), Env.Is ρ [(0, (.pointer p0)), (5, (.pointer (some ⟨H.size, 0, none⟩))), (25, (.bool y19))] ∧ F76_2 Q p0 ⟨H.size, 0, none⟩ y19 H_2) ?_ ?_
        · refine HW.region ?_
          refine HList.vals (v := (.pointer (some (Addr.add ⟨H.size, 0, none⟩ 2)))) rfl (HVal.fieldAddr' Tryd.runUnderlying123 rfl rfl Tryd.sizeOf4 rfl) ?_
          obtain ⟨x11, c10, h⟩ := h
          refine HList.vals (v := (.bool x11)) rfl (HVal.load1 Tryd.isAgg4 rfl c10) ?_
          refine HList.vals (v := (.bool x11)) rfl (HVal.move' rfl) ?_
          obtain ⟨hT, hF⟩ := h
          rcases Bool.eq_false_or_eq_true x11 with hb12 | hb13
          · have h := hT hb12
            clear hT hF
            refine HList.gvals (v := (.pointer (some ⟨H.size, 0, none⟩))) rfl rfl rfl rfl (congrArg Value.bool hb12) (HVal.fieldAddr0 Tryd.runUnderlying123 rfl rfl Tryd.sizeOf9 rfl) ?_
            obtain ⟨x15, c14, h⟩ := h
            refine HList.gvals (v := (.string x15)) rfl rfl rfl rfl (congrArg Value.bool hb12) (HVal.load1 Tryd.isAgg9 rfl c14) ?_
            refine HList.gops rfl rfl rfl rfl (congrArg Value.bool hb12) (HOp.call' 49 [(.string x15)] (cap := []) rfl rfl Tryd.call49 (walk49 h)) ?_
            rintro _ H16 ⟨r18, rfl, h⟩
            refine HList.gvals (v := (.bool (!r18))) rfl rfl rfl rfl (congrArg Value.bool hb12) (HVal.not rfl) ?_
            refine HList.vals (v := (.bool (!r18))) rfl (HVal.pickT rfl hb12 rfl) ?_
            refine HList.nil ?_
            refine nt ?_
            exact ⟨(!r18), ⟨rfl, rfl, rfl, trivial⟩, h⟩
          · have h := hF hb13
            clear hT hF
            refine HList.gskips rfl rfl rfl rfl (congrArg Value.bool hb13) ?_
            refine HList.gskips rfl rfl rfl rfl (congrArg Value.bool hb13) ?_
            refine HList.gskips rfl rfl rfl rfl (congrArg Value.bool hb13) ?_
            refine HList.gskips rfl rfl rfl rfl (congrArg Value.bool hb13) ?_
            refine HList.vals (v := (.bool false)) rfl (HVal.pickF rfl hb13 rfl) ?_
            refine HList.nil ?_
            refine nt ?_
            exact ⟨false, ⟨rfl, rfl, rfl, trivial⟩, h⟩
        · rintro ρ H_2 ⟨y19, hI, h⟩
          obtain ⟨ρ0, rfl⟩ : ∃ ρ0, ρ = (Env.set (Env.set (Env.set ρ0 25 (.bool y19)) 5 (.pointer (some ⟨H.size, 0, none⟩))) 0 (.pointer p0)) := ⟨ρ, hI.eq⟩
          clear hI; unfold F76_2 at h
          obtain ⟨hT, hF⟩ := h
          refine HW.cond y19 rfl (fun hb20 => ?_) (fun hb20 => ?_)
          · have h := hT hb20
            clear hT hF
            refine HW.seq ?_
            refine HW.region ?_
            refine HList.vals (v := (.int .i64 0)) rfl (HVal.assign' rfl) ?_
            refine HList.vals (v := (.int .i64 20)) rfl (HVal.assign' rfl) ?_
            refine HList.nil ?_
            refine nt ?_
            refine HW.ret ?_
            refine tr ?_
            refine br ?_
            refine tr ?_
            exact ⟨_, resOf2 rfl Res1.t Res1.t, ⟨0, 20, rfl, h⟩⟩
          · have h := hF hb20
            clear hT hF
            refine HW.skip ?_
            refine nt ?_
            refine HW.seq ?_
            refine HW.region ?_
            refine HList.vals (v := (.pointer (some (Addr.add ⟨H.size, 0, none⟩ 2)))) rfl (HVal.fieldAddr' Tryd.runUnderlying123 rfl rfl Tryd.sizeOf4 rfl) ?_
            obtain ⟨x22, c21, h⟩ := h
            refine HList.vals (v := (.bool x22)) rfl (HVal.load1 Tryd.isAgg4 rfl c21) ?_
            refine HList.nil ?_
            refine nt ?_
            obtain ⟨hT, hF⟩ := h
            refine HW.cond x22 rfl (fun hb23 => ?_) (fun hb23 => ?_)
            · have h := hT hb23
              clear hT hF
              refine HW.seq ?_
              refine HW.region ?_
              refine HList.vals (v := (.pointer p0)) rfl (HVal.move' rfl) ?_
              refine HList.vals (v := (.pointer (some ⟨H.size, 0, none⟩))) rfl (HVal.fieldAddr0 Tryd.runUnderlying123 rfl rfl Tryd.sizeOf9 rfl) ?_
              obtain ⟨x25, c24, h⟩ := h
              refine HList.vals (v := (.string x25)) rfl (HVal.load1 Tryd.isAgg9 rfl c24) ?_
              obtain ⟨a26, e27, h⟩ := h
              refine HList.vals (v := (.pointer (some a26))) rfl (HVal.nilCheck (congrArg Value.pointer e27)) ?_
              refine HList.vals (v := (.pointer (some a26))) rfl (HVal.fieldAddr0 Tryd.runUnderlying27 rfl rfl Tryd.sizeOf9 rfl) ?_
              obtain ⟨z30, z31, h⟩ := h
              refine HList.opsn (HOp.store1 Tryd.sizeOf9 rfl rfl rfl z30 z31) ?_
              rintro _ H28 e29
              replace h := h H28 e29
              refine HList.nil ?_
              refine nt ?_
              refine HW.seq ?_
              refine HW.region ?_
              refine HList.vals (v := (.int .i64 2)) rfl (HVal.assign' rfl) ?_
              refine HList.vals (v := (.int .i64 0)) rfl (HVal.assign' rfl) ?_
              refine HList.nil ?_
              refine nt ?_
              refine HW.ret ?_
              refine br ?_
              refine tr ?_
              exact ⟨_, resOf2 rfl Res1.t Res1.t, ⟨2, 0, rfl, h⟩⟩
            · have h := hF hb23
              clear hT hF
              refine HW.skip ?_
              refine nb ?_
              refine nt ?_
              exact ⟨trivial, h⟩
      · have h := hF hb7
        clear hT hF
        refine HW.seq ?_
        refine HW.region ?_
        refine HList.vals (v := (.bool (decide (p1 = 2)))) rfl (HVal.eqlI rfl rfl) ?_
        refine HList.vals (v := (.bool (decide (p1 = 2)))) rfl (HVal.assign' rfl) ?_
        refine HList.nil ?_
        refine nt ?_
        obtain ⟨hT, hF⟩ := h
        refine HW.cond (decide (p1 = 2)) rfl (fun hb32 => ?_) (fun hb32 => ?_)
        · have h := hT hb32
          clear hT hF
          refine HW.seq ?_
          refine HW.region ?_
          refine HList.vals (v := (.pointer (some ⟨H.size, 0, none⟩))) rfl (HVal.fieldAddr0 Tryd.runUnderlying123 rfl rfl Tryd.sizeOf9 rfl) ?_
          obtain ⟨x34, c33, h⟩ := h
          refine HList.vals (v := (.string x34)) rfl (HVal.load1 Tryd.isAgg9 rfl c33) ?_
          refine HList.vals (v := (.bool (seq x34 S__))) rfl (HVal.eqlS rfl rfl) ?_
          refine HList.nil ?_
          refine nt ?_
          obtain ⟨hT, hF⟩ := h
          refine HW.cond (seq x34 S__) rfl (fun hb35 => ?_) (fun hb35 => ?_)
          · have h := hT hb35
            clear hT hF
            refine HW.seq ?_
            refine HW.region ?_
            refine HList.vals (v := (.int .i64 3)) rfl (HVal.assign' rfl) ?_
            refine HList.vals (v := (.int .i64 0)) rfl (HVal.assign' rfl) ?_
            refine HList.nil ?_
            refine nt ?_
            refine HW.ret ?_
            refine br ?_
            refine tr ?_
            exact ⟨_, resOf2 rfl Res1.t Res1.t, ⟨3, 0, rfl, h⟩⟩
          · have h := hF hb35
            clear hT hF
            refine HW.skip ?_
            refine nb ?_
            refine nt ?_
            exact ⟨trivial, h⟩
        · have h := hF hb32
          clear hT hF
          refine HW.cut (fun ρ H_3 => ∃ (y41 : Bool), Env.Is ρ [(0, (.pointer p0)), (1, (.int .i64 p1)), (5, (.pointer (some ⟨H.size, 0, none⟩))), (10, (.int .i64 p1)), (38, (.bool y41))] ∧ F76_3 Q p0 p1 ⟨H.size, 0, none⟩ p1 y41 H_3) ?_ ?_
          · refine HW.seq ?_
            refine HW.region ?_
            refine HList.vals (v := (.bool (decide (p1 = 3)))) rfl (HVal.eqlI rfl rfl) ?_
            refine HList.vals (v := (.bool (decide (p1 = 3)))) rfl (HVal.assign' rfl) ?_
            refine HList.nil ?_
            refine nt ?_
            obtain ⟨hT, hF⟩ := h
            refine HW.cond (decide (p1 = 3)) rfl (fun hb40 => ?_) (fun hb40 => ?_)
            · have h := hT hb40
              clear hT hF
              refine HW.skip ?_
              refine nt ?_
              exact ⟨(decide (p1 = 3)), ⟨rfl, rfl, rfl, rfl, rfl, trivial⟩, h⟩
            · have h := hF hb40
              clear hT hF
              refine HW.region ?_
              refine HList.vals (v := (.bool (decide (p1 = 4)))) rfl (HVal.eqlI rfl rfl) ?_
              refine HList.vals (v := (.bool (decide (p1 = 4)))) rfl (HVal.assign' rfl) ?_
              refine HList.nil ?_
              refine nt ?_
              exact ⟨(decide (p1 = 4)), ⟨rfl, rfl, rfl, rfl, rfl, trivial⟩, h⟩
          · rintro ρ H_3 ⟨y41, hI, h⟩
            obtain ⟨ρ0, rfl⟩ : ∃ ρ0, ρ = (Env.set (Env.set (Env.set (Env.set (Env.set ρ0 38 (.bool y41)) 10 (.int .i64 p1)) 5 (.pointer (some ⟨H.size, 0, none⟩))) 1 (.int .i64 p1)) 0 (.pointer p0)) := ⟨ρ, hI.eq⟩
            clear hI; unfold F76_3 at h
            obtain ⟨hT, hF⟩ := h
            refine HW.cond y41 rfl (fun hb42 => ?_) (fun hb42 => ?_)
            · have h := hT hb42
              clear hT hF
              refine HW.seq ?_
              refine HW.cut (fun ρ H_4 => ∃ (y49 : Bool), Env.Is ρ [(0, (.pointer p0)), (5, (.pointer (some ⟨H.size, 0, none⟩))), (47, (.bool y49))] ∧ F76_4 Q p0 ⟨H.size, 0, none⟩ y49 H_4) ?_ ?_
              · refine HW.region ?_
                refine HList.vals (v := (.pointer (some ⟨H.size, 0, none⟩))) rfl (HVal.fieldAddr0 Tryd.runUnderlying123 rfl rfl Tryd.sizeOf9 rfl) ?_
                obtain ⟨x46, c45, h⟩ := h
                refine HList.vals (v := (.string x46)) rfl (HVal.load1 Tryd.isAgg9 rfl c45) ?_
                refine HList.vals (v := (.bool (seq x46 S___))) rfl (HVal.eqlS rfl rfl) ?_
                refine HList.vals (v := (.bool (seq x46 S___))) rfl (HVal.move' rfl) ?_
                obtain ⟨hT, hF⟩ := h
                rcases Bool.eq_false_or_eq_true (seq x46 S___) with hb47 | hb48
                · have h := hT hb47
                  clear hT hF
                  refine HList.gvals (v := (.int .i64 p1)) rfl rfl rfl rfl (congrArg Value.bool hb47) (HVal.move' rfl) ?_
                  refine HList.gvals (v := (.bool (decide (p1 = 3)))) rfl rfl rfl rfl (congrArg Value.bool hb47) (HVal.eqlI rfl rfl) ?_
                  refine HList.vals (v := (.bool (decide (p1 = 3)))) rfl (HVal.pickT rfl hb47 rfl) ?_
                  refine HList.nil ?_
                  refine nt ?_
                  exact ⟨(decide (p1 = 3)), ⟨rfl, rfl, rfl, trivial⟩, h⟩
                · have h := hF hb48
                  clear hT hF
                  refine HList.gskips rfl rfl rfl rfl (congrArg Value.bool hb48) ?_
                  refine HList.gskips rfl rfl rfl rfl (congrArg Value.bool hb48) ?_
                  refine HList.vals (v := (.bool false)) rfl (HVal.pickF rfl hb48 rfl) ?_
                  refine HList.nil ?_
                  refine nt ?_
                  exact ⟨false, ⟨rfl, rfl, rfl, trivial⟩, h⟩
              · rintro ρ H_4 ⟨y49, hI, h⟩
                obtain ⟨ρ0, rfl⟩ : ∃ ρ0, ρ = (Env.set (Env.set (Env.set ρ0 47 (.bool y49)) 5 (.pointer (some ⟨H.size, 0, none⟩))) 0 (.pointer p0)) := ⟨ρ, hI.eq⟩
                clear hI; unfold F76_4 at h
                obtain ⟨hT, hF⟩ := h
                refine HW.cond y49 rfl (fun hb50 => ?_) (fun hb50 => ?_)
                · have h := hT hb50
                  clear hT hF
                  refine HW.seq ?_
                  refine HW.region ?_
                  refine HList.vals (v := (.int .i64 7)) rfl (HVal.assign' rfl) ?_
                  refine HList.vals (v := (.int .i64 0)) rfl (HVal.assign' rfl) ?_
                  refine HList.nil ?_
                  refine nt ?_
                  refine HW.ret ?_
                  refine tr ?_
                  refine br ?_
                  refine tr ?_
                  exact ⟨_, resOf2 rfl Res1.t Res1.t, ⟨7, 0, rfl, h⟩⟩
                · have h := hF hb50
                  clear hT hF
                  refine HW.skip ?_
                  refine nt ?_
                  refine HW.seq ?_
                  refine HW.region ?_
                  refine HList.vals (v := (.pointer (some (Addr.add ⟨H.size, 0, none⟩ 2)))) rfl (HVal.fieldAddr' Tryd.runUnderlying123 rfl rfl Tryd.sizeOf4 rfl) ?_
                  obtain ⟨x52, c51, h⟩ := h
                  refine HList.vals (v := (.bool x52)) rfl (HVal.load1 Tryd.isAgg4 rfl c51) ?_
                  refine HList.nil ?_
                  refine nt ?_
                  obtain ⟨hT, hF⟩ := h
                  refine HW.cond x52 rfl (fun hb53 => ?_) (fun hb53 => ?_)
                  · have h := hT hb53
                    clear hT hF
                    refine HW.seq ?_
                    refine HW.draw mixed [(0, some []), (1, some []), (2, some [5]), (3, some []), (4, some [5]), (5, none), (6, some [])] rfl (by kernel_rfl) (by kernel_rfl) ?_
                    refine HPlan.takev (v := (.pointer p0)) rfl rfl (fun _ => HVal.move' rfl) ?_
                    obtain ⟨a54, e55, h⟩ := h
                    refine HPlan.takev (v := (.pointer (some a54))) rfl rfl (fun _ => HVal.nilCheck (congrArg Value.pointer e55)) ?_
                    obtain ⟨x57, x58, c56, h⟩ := h
                    refine HPlan.takel (v := (.agg #[(.string x57), (Sl.v x58)])) (fun X => cells X a54 [(.string x57), (Sl.v x58)] 0) rfl rfl (fun _ hX => HVal.loadN [(.string x57), (Sl.v x58)] Tryd.isAgg27 Tryd.sizeOf27 rfl hX) c56 ?_
                    refine HPlan.takev (v := (.pointer (some ⟨H.size, 0, none⟩))) rfl rfl (fun _ => HVal.fieldAddr0 Tryd.runUnderlying123 rfl rfl Tryd.sizeOf9 rfl) ?_
                    obtain ⟨x60, c59, h⟩ := h
                    refine HPlan.takel (v := (.string x60)) (fun X => cell X ⟨H.size, 0, none⟩ = some (.string x60)) rfl rfl (fun _ hX => HVal.load1 Tryd.isAgg9 rfl hX) c59 ?_
                    refine HPlan.ops' rfl rfl (HOp.call' 92 [(.agg #[(.string x57), (Sl.v x58)]), (.string x60)] (cap := []) rfl rfl Tryd.call92 (walk92 h)) ?_
                    rintro _ H61 ⟨r63, rfl, h⟩
                    refine ⟨SC_of ⟨fun e => absurd e (by decide), fun e => absurd e (by decide), trivial⟩, ?_⟩
                    refine HPlan.takev (v := (.int .i64 r63)) rfl rfl (fun _ => HVal.assign' rfl) ?_
                    refine HPlan.done ?_
                    refine nt ?_
                    refine HW.seq ?_
                    refine HW.draw mixed [(0, some []), (1, some []), (2, some []), (3, some []), (4, some [9, 12]), (5, some []), (6, some [12]), (7, some []), (8, none), (9, none), (10, some []), (11, some []), (12, none)] rfl (by kernel_rfl) (by kernel_rfl) ?_
                    refine HPlan.takev (v := (.pointer p0)) rfl rfl (fun _ => HVal.move' rfl) ?_
                    refine HPlan.takev (v := (.pointer p0)) rfl rfl (fun _ => HVal.move' rfl) ?_
                    obtain ⟨a64, e65, h⟩ := h
                    refine HPlan.takev (v := (.pointer (some a64))) rfl rfl (fun _ => HVal.nilCheck (congrArg Value.pointer e65)) ?_
                    refine HPlan.takev (v := (.pointer (some (Addr.add a64 1)))) rfl rfl (fun _ => HVal.fieldAddr' Tryd.runUnderlying27 rfl rfl Tryd.sizeOf25 rfl) ?_
                    obtain ⟨x67, c66, h⟩ := h
                    refine HPlan.takel (v := (Sl.v x67)) (fun X => cell X (Addr.add a64 1) = some (Sl.v x67)) rfl rfl (fun _ hX => HVal.load1 Tryd.isAgg25 rfl hX) c66 ?_
                    refine HPlan.takev (v := (.pointer (some ⟨H.size, 0, none⟩))) rfl rfl (fun _ => HVal.fieldAddr0 Tryd.runUnderlying123 rfl rfl Tryd.sizeOf9 rfl) ?_
                    obtain ⟨x69, c68, h⟩ := h
                    refine HPlan.takel (v := (.string x69)) (fun X => cell X ⟨H.size, 0, none⟩ = some (.string x69)) rfl rfl (fun _ hX => HVal.load1 Tryd.isAgg9 rfl hX) c68 ?_
                    refine HPlan.takev (v := (.agg #[(.string x69), (.int .i64 0)])) rfl rfl (fun _ => HVal.build' (cs := [(.string x69), (.int .i64 0)]) Tryd.runUnderlying38 Tryd.zeroValue38 places38 rfl) ?_
                    refine HPlan.ops' rfl rfl (HOp.buildSlice' (zs := [(.string (ByteArray.mk #[])), (.int .i64 0)]) (cs := [(.string x69), (.int .i64 0)]) Tryd.runUnderlying25 Tryd.sizeOf38 Tryd.zeroValue38 (by decide) (by kernel_rfl) rfl (by decide)) ?_
                    rintro _ H70 ⟨rfl, e71⟩
                    replace h := h H70 e71
                    obtain ⟨s72, s73, h⟩ := h
                    refine ⟨SC_of ⟨fun _ => s72, fun _ => s73, trivial⟩, ?_⟩
                    refine HPlan.ops' rfl rfl (HOp.append (k := 2) (b := 24) Tryd.runUnderlying25 Tryd.runUnderlying25 Tryd.typeInfo38 rfl rfl Tryd.zeroValue38 rfl rfl h) ?_
                    rintro _ H74 ⟨r76, rfl, h⟩
                    obtain ⟨s77, h⟩ := h
                    refine ⟨SC_of ⟨fun _ => s77, fun e => absurd e (by decide), trivial⟩, ?_⟩
                    obtain ⟨a78, e79, h⟩ := h
                    refine HPlan.takev (v := (.pointer (some a78))) rfl rfl (fun _ => HVal.nilCheck (congrArg Value.pointer e79)) ?_
                    refine HPlan.takev (v := (.pointer (some (Addr.add a78 1)))) rfl rfl (fun _ => HVal.fieldAddr' Tryd.runUnderlying27 rfl rfl Tryd.sizeOf25 rfl) ?_
                    obtain ⟨z82, z83, h⟩ := h
                    refine HPlan.opsn rfl (HOp.store1 Tryd.sizeOf25 rfl rfl rfl z82 z83) ?_
                    rintro _ H80 e81
                    replace h := h H80 e81
                    refine ⟨SC_of ⟨fun e => absurd e (by decide), fun e => absurd e (by decide), trivial⟩, ?_⟩
                    refine HPlan.done ?_
                    refine nt ?_
                    refine HW.seq ?_
                    refine HW.region ?_
                    refine HList.vals (v := (.int .i64 r63)) rfl (HVal.move' rfl) ?_
                    refine HList.vals (v := (.int .i64 5)) rfl (HVal.assign' rfl) ?_
                    refine HList.vals (v := (.int .i64 r63)) rfl (HVal.assign' rfl) ?_
                    refine HList.nil ?_
                    refine nt ?_
                    refine HW.ret ?_
                    refine br ?_
                    refine tr ?_
                    exact ⟨_, resOf2 rfl Res1.t Res1.t, ⟨5, r63, rfl, h⟩⟩
                  · have h := hF hb53
                    clear hT hF
                    refine HW.skip ?_
                    refine nb ?_
                    refine nt ?_
                    exact ⟨trivial, h⟩
            · have h := hF hb42
              clear hT hF
              refine HW.seq ?_
              refine HW.region ?_
              refine HList.vals (v := (.bool (decide (p1 = 5)))) rfl (HVal.eqlI rfl rfl) ?_
              refine HList.vals (v := (.bool (decide (p1 = 5)))) rfl (HVal.assign' rfl) ?_
              refine HList.nil ?_
              refine nt ?_
              obtain ⟨hT, hF⟩ := h
              refine HW.cond (decide (p1 = 5)) rfl (fun hb84 => ?_) (fun hb84 => ?_)
              · have h := hT hb84
                clear hT hF
                refine HW.seq ?_
                refine HW.region ?_
                refine HList.vals (v := (.pointer (some ⟨H.size, 0, none⟩))) rfl (HVal.fieldAddr0 Tryd.runUnderlying123 rfl rfl Tryd.sizeOf9 rfl) ?_
                obtain ⟨x86, c85, h⟩ := h
                refine HList.vals (v := (.string x86)) rfl (HVal.load1 Tryd.isAgg9 rfl c85) ?_
                refine HList.ops' rfl (HOp.call' 93 [(.string x86)] (cap := []) rfl rfl Tryd.call93 (walk93 h)) ?_
                rintro _ H87 ⟨r89, rfl, h⟩
                refine HList.vals (v := (.int .i64 r89)) rfl (HVal.assign' rfl) ?_
                refine HList.nil ?_
                refine nt ?_
                refine HW.seq ?_
                refine HW.region ?_
                refine HList.vals (v := (.int .i64 r89)) rfl (HVal.move' rfl) ?_
                refine HList.vals (v := (.bool (decide ((0 : Int) < r89)))) rfl (HVal.gtr rfl rfl) ?_
                refine HList.nil ?_
                refine nt ?_
                obtain ⟨hT, hF⟩ := h
                refine HW.cond (decide ((0 : Int) < r89)) rfl (fun hb90 => ?_) (fun hb90 => ?_)
                · have h := hT hb90
                  clear hT hF
                  refine HW.seq ?_
                  refine HW.draw mixed [(0, some []), (1, some []), (2, some []), (3, some [13]), (4, some []), (5, some []), (6, some []), (7, some [13]), (8, some []), (9, some []), (10, some []), (11, some []), (12, some []), (13, none)] rfl (by kernel_rfl) (by kernel_rfl) ?_
                  refine HPlan.takev (v := (.pointer p0)) rfl rfl (fun _ => HVal.move' rfl) ?_
                  obtain ⟨a91, e92, h⟩ := h
                  refine HPlan.takev (v := (.pointer (some a91))) rfl rfl (fun _ => HVal.nilCheck (congrArg Value.pointer e92)) ?_
                  refine HPlan.takev (v := (.pointer (some (Addr.add a91 1)))) rfl rfl (fun _ => HVal.fieldAddr' Tryd.runUnderlying27 rfl rfl Tryd.sizeOf25 rfl) ?_
                  obtain ⟨x94, c93, h⟩ := h
                  refine HPlan.takel (v := (Sl.v x94)) (fun X => cell X (Addr.add a91 1) = some (Sl.v x94)) rfl rfl (fun _ hX => HVal.load1 Tryd.isAgg25 rfl hX) c93 ?_
                  refine HPlan.takev (v := (.pointer p0)) rfl rfl (fun _ => HVal.move' rfl) ?_
                  obtain ⟨a95, e96, h⟩ := h
                  refine HPlan.takev (v := (.pointer (some a95))) rfl rfl (fun _ => HVal.nilCheck (congrArg Value.pointer e96)) ?_
                  refine HPlan.takev (v := (.pointer (some (Addr.add a95 1)))) rfl rfl (fun _ => HVal.fieldAddr' Tryd.runUnderlying27 rfl rfl Tryd.sizeOf25 rfl) ?_
                  obtain ⟨x98, c97, h⟩ := h
                  refine HPlan.takel (v := (Sl.v x98)) (fun X => cell X (Addr.add a95 1) = some (Sl.v x98)) rfl rfl (fun _ hX => HVal.load1 Tryd.isAgg25 rfl hX) c97 ?_
                  refine HPlan.takev (v := (.int .i64 ((x98).n : Int))) rfl rfl (fun _ => HVal.len Tryd.runUnderlying25 rfl) ?_
                  refine HPlan.takev (v := (.int .i64 (IntKind.i64.wrap (((x98).n : Int) - 1)))) rfl rfl (fun _ => HVal.sub rfl rfl) ?_
                  refine HPlan.takev (v := (.int .i64 r89)) rfl rfl (fun _ => HVal.move' rfl) ?_
                  obtain ⟨a99, e100, b101, b102, h⟩ := h
                  refine HPlan.takev (v := (.pointer (some (Addr.add a99 ((IntKind.i64.wrap (((x98).n : Int) - 1)).toNat * 2))))) rfl rfl (fun _ => HVal.indexAddr Tryd.runUnderlying25 Tryd.sizeOf38 (Sl.v_some rfl e100) rfl b101 b102) ?_
                  refine HPlan.takev (v := (.pointer (some (Addr.add (Addr.add a99 ((IntKind.i64.wrap (((x98).n : Int) - 1)).toNat * 2)) 1)))) rfl rfl (fun _ => HVal.fieldAddr' Tryd.runUnderlying38 rfl rfl Tryd.sizeOf3 rfl) ?_
                  obtain ⟨z105, z106, h⟩ := h
                  refine HPlan.opsn rfl (HOp.store1 Tryd.sizeOf3 rfl rfl rfl z105 z106) ?_
                  rintro _ H103 e104
                  replace h := h H103 e104
                  refine ⟨SC_of ⟨fun e => absurd e (by decide), fun e => absurd e (by decide), trivial⟩, ?_⟩
                  refine HPlan.done ?_
                  refine nt ?_
                  refine HW.seq ?_
                  refine HW.region ?_
                  refine HList.vals (v := (.int .i64 6)) rfl (HVal.assign' rfl) ?_
                  refine HList.vals (v := (.int .i64 0)) rfl (HVal.assign' rfl) ?_
                  refine HList.nil ?_
                  refine nt ?_
                  refine HW.ret ?_
                  refine br ?_
                  refine tr ?_
                  exact ⟨_, resOf2 rfl Res1.t Res1.t, ⟨6, 0, rfl, h⟩⟩
                · have h := hF hb90
                  clear hT hF
                  refine HW.skip ?_
                  refine nb ?_
                  refine nt ?_
                  exact ⟨trivial, h⟩
              · have h := hF hb84
                clear hT hF
                refine HW.seq ?_
                refine HW.region ?_
                refine HList.vals (v := (.bool (decide (p1 = 6)))) rfl (HVal.eqlI rfl rfl) ?_
                refine HList.vals (v := (.bool (decide (p1 = 6)))) rfl (HVal.assign' rfl) ?_
                refine HList.nil ?_
                refine nt ?_
                obtain ⟨hT, hF⟩ := h
                refine HW.cond (decide (p1 = 6)) rfl (fun hb107 => ?_) (fun hb107 => ?_)
                · have h := hT hb107
                  clear hT hF
                  refine HW.seq ?_
                  refine HW.seq ?_
                  refine HW.region ?_
                  refine HList.vals (v := (.pointer (some ⟨H.size, 0, none⟩))) rfl (HVal.fieldAddr0 Tryd.runUnderlying123 rfl rfl Tryd.sizeOf9 rfl) ?_
                  obtain ⟨x109, c108, h⟩ := h
                  refine HList.vals (v := (.string x109)) rfl (HVal.load1 Tryd.isAgg9 rfl c108) ?_
                  refine HList.vals (v := (.bool (seq x109 S____))) rfl (HVal.eqlS rfl rfl) ?_
                  refine HList.nil ?_
                  refine nt ?_
                  obtain ⟨hT, hF⟩ := h
                  refine HW.cond (seq x109 S____) rfl (fun hb110 => ?_) (fun hb110 => ?_)
                  · have h := hT hb110
                    clear hT hF
                    refine HW.seq ?_
                    refine HW.region ?_
                    refine HList.vals (v := (.int .i64 4)) rfl (HVal.assign' rfl) ?_
                    refine HList.vals (v := (.int .i64 0)) rfl (HVal.assign' rfl) ?_
                    refine HList.nil ?_
                    refine nt ?_
                    refine HW.ret ?_
                    refine tr ?_
                    refine br ?_
                    refine tr ?_
                    exact ⟨_, resOf2 rfl Res1.t Res1.t, ⟨4, 0, rfl, h⟩⟩
                  · have h := hF hb110
                    clear hT hF
                    refine HW.skip ?_
                    refine nt ?_
                    refine HW.seq ?_
                    refine HW.region ?_
                    refine HList.vals (v := (.pointer (some ⟨H.size, 0, none⟩))) rfl (HVal.fieldAddr0 Tryd.runUnderlying123 rfl rfl Tryd.sizeOf9 rfl) ?_
                    obtain ⟨x112, c111, h⟩ := h
                    refine HList.vals (v := (.string x112)) rfl (HVal.load1 Tryd.isAgg9 rfl c111) ?_
                    refine HList.vals (v := (.bool (seq x112 S___))) rfl (HVal.eqlS rfl rfl) ?_
                    refine HList.nil ?_
                    refine nt ?_
                    obtain ⟨hT, hF⟩ := h
                    refine HW.cond (seq x112 S___) rfl (fun hb113 => ?_) (fun hb113 => ?_)
                    · have h := hT hb113
                      clear hT hF
                      refine HW.seq ?_
                      refine HW.region ?_
                      refine HList.vals (v := (.int .i64 7)) rfl (HVal.assign' rfl) ?_
                      refine HList.vals (v := (.int .i64 0)) rfl (HVal.assign' rfl) ?_
                      refine HList.nil ?_
                      refine nt ?_
                      refine HW.ret ?_
                      refine br ?_
                      refine tr ?_
                      exact ⟨_, resOf2 rfl Res1.t Res1.t, ⟨7, 0, rfl, h⟩⟩
                    · have h := hF hb113
                      clear hT hF
                      refine HW.skip ?_
                      refine nb ?_
                      refine nt ?_
                      exact ⟨trivial, h⟩
                · have h := hF hb107
                  clear hT hF
                  refine HW.skip ?_
                  refine nb ?_
                  refine nt ?_
                  exact ⟨trivial, h⟩
  · rintro ρ H_1 ⟨hI, h⟩
    obtain ⟨ρ0, rfl⟩ : ∃ ρ0, ρ = ρ0 := ⟨ρ, hI.eq⟩
    clear hI; unfold F76_1 at h
    refine HW.seq ?_
    refine HW.region ?_
    refine HList.vals (v := (.int .i64 0)) rfl (HVal.assign' rfl) ?_
    refine HList.vals (v := (.int .i64 24)) rfl (HVal.assign' rfl) ?_
    refine HList.nil ?_
    refine nt ?_
    refine HW.ret ?_
    exact ⟨_, resOf2 rfl Res1.t Res1.t, ⟨0, 24, rfl, h⟩⟩

def F50_1 (Q : ByteArray → Sl → Int → Int → Hp → Prop) (y15 : ByteArray) (y16 : Addr) (H_1 : Hp) : Prop :=
mayw H_1 y16 2 0 ∧ ∀ H83 : Hp, H83 = sets H_1 y16 [(.string (ByteArray.mk #[])), (Sl.v Sl.nil)] 0 → (
 ∃ (x86 : ByteArray) (x87 : Sl), cells H83 y16 [(.string x86), (Sl.v x87)] 0 ∧ (
 Q x86 x87 ((y15).size : Int) 24 H83))
def F50_3 (Q : ByteArray → Sl → Int → Int → Hp → Prop) (X2 : Int → Int → Hp → Prop) (y24 : ByteArray) (y25 : Addr) (y26 : Addr) (y27 : Sl) (y28 : Int) (y29 : Int) (y46 : Bool) (H_3 : Hp) : Prop :=
(y46 = true → (∃ (x49 : ByteArray) (x50 : Sl), cells H_3 y26 [(.string x49), (Sl.v x50)] 0 ∧ (
 mayw H_3 y25 2 0 ∧ ∀ H51 : Hp, H51 = sets H_3 y25 [(.string x49), (Sl.v x50)] 0 → (
 ∃ (x54 : ByteArray) (x55 : Sl), cells H51 y25 [(.string x54), (Sl.v x55)] 0 ∧ (
 Q x54 x55 0 0 H51))))) ∧
 (y46 = false → (∃ a57 : Addr, (y27).b = some a57 ∧ (0 : Int) ≤ y29 ∧ y29 < ((y27).n : Int) ∧ (
 ∃ (x62 : ByteArray) (x63 : Int) (x64 : Bool), cells H_3 (Addr.add a57 (y29.toNat * 3)) [(.string x62), (.int .i64 x63), (.bool x64)] 0 ∧ (
 F76 (some y26) y28 x62 x63 x64 H_3 (fun (r67 : Int) (r68 : Int) (H65 : Hp) => 
 ((decide (r68 ≠ 0)) = true → (∃ a70 : Addr, (y27).b = some a70 ∧ (0 : Int) ≤ y29 ∧ y29 < ((y27).n : Int) ∧ (
 ∃ x75 : Int, cell H65 (Addr.add (Addr.add a70 (y29.toNat * 3)) 1) = some (.int .i64 x75) ∧ (
 mayw H65 y25 2 0 ∧ ∀ H76 : Hp, H76 = sets H65 y25 [(.string (ByteArray.mk #[])), (Sl.v Sl.nil)] 0 → (
 cell H76 (Addr.add (Addr.add a70 (y29.toNat * 3)) 1) = some (.int .i64 x75) ∧ (
 ∃ (x80 : ByteArray) (x81 : Sl), cells H76 y25 [(.string x80), (Sl.v x81)] 0 ∧ (
 Q x80 x81 x75 r68 H76))))))) ∧
 ((decide (r68 ≠ 0)) = false → (X2 r67 (IntKind.i64.wrap (y29 + 1)) H65)))))))
def F50_L2b (Q : ByteArray → Sl → Int → Int → Hp → Prop) (X2 : Int → Int → Hp → Prop) (y19 : ByteArray) (y20 : Addr) (y21 : Addr) (y22 : Sl) (y17 : Int) (y18 : Int) (H_2 : Hp) : Prop :=
((decide (y18 < ((y22).n : Int))) = true → (((decide (y17 = 7)) = true → (∃ a32 : Addr, (y22).b = some a32 ∧ (0 : Int) ≤ y18 ∧ y18 < ((y22).n : Int) ∧ (
 ∃ x37 : ByteArray, cell H_2 (Addr.add a32 (y18.toNat * 3)) = some (.string x37) ∧ (
 ((seq x37 (ByteArray.mk #[])) = true → (∃ a40 : Addr, (y22).b = some a40 ∧ (0 : Int) ≤ y18 ∧ y18 < ((y22).n : Int) ∧ (
 ∃ x45 : Int, cell H_2 (Addr.add (Addr.add a40 (y18.toNat * 3)) 1) = some (.int .i64 x45) ∧ (
 F50_3 Q X2 y19 y20 y21 y22 y17 y18 (decide (x45 = ((y19).size : Int))) H_2)))) ∧
 ((seq x37 (ByteArray.mk #[])) = false → (F50_3 Q X2 y19 y20 y21 y22 y17 y18 false H_2)))))) ∧
 ((decide (y17 = 7)) = false → (F50_3 Q X2 y19 y20 y21 y22 y17 y18 false H_2)))) ∧
 ((decide (y18 < ((y22).n : Int))) = false → (F50_1 Q y19 y20 H_2))
def F50_L2 (Q : ByteArray → Sl → Int → Int → Hp → Prop) (y19 : ByteArray) (y20 : Addr) (y21 : Addr) (y22 : Sl) (y17 : Int) (y18 : Int) (H_2 : Hp) : Prop :=
  ∀ X2 : Int → Int → Hp → Prop, (∀ (y17 : Int) (y18 : Int) (H_2 : Hp), F50_L2b Q X2 y19 y20 y21 y22 y17 y18 H_2 → X2 y17 y18 H_2) → X2 y17 y18 H_2
def F50 (p0 : ByteArray) (H : Hp) (Q : ByteArray → Sl → Int → Int → Hp → Prop) : Prop :=
∀ H1 : Hp, H1 = Array.push H (.cells #[(.string (ByteArray.mk #[])), (Sl.v Sl.nil)] 27) → (
 ((decide ((4096 : Int) < ((p0).size : Int))) = true → (mayw H1 ⟨H.size, 0, none⟩ 2 0 ∧ ∀ H4 : Hp, H4 = sets H1 ⟨H.size, 0, none⟩ [(.string (ByteArray.mk #[])), (Sl.v Sl.nil)] 0 → (
 ∃ (x7 : ByteArray) (x8 : Sl), cells H4 ⟨H.size, 0, none⟩ [(.string x7), (Sl.v x8)] 0 ∧ (
 Q x7 x8 0 2 H4)))) ∧
 ((decide ((4096 : Int) < ((p0).size : Int))) = false → (∀ H10 : Hp, H10 = Array.push H1 (.cells #[(.string (ByteArray.mk #[])), (Sl.v Sl.nil)] 27) → (
 F75 p0 H10 (fun (r14 : Sl) (H12 : Hp) => 
 F50_L2 Q p0 ⟨H.size, 0, none⟩ ⟨H1.size, 0, none⟩ r14 0 0 H12)))))
set_option maxRecDepth 100000 in
set_option maxHeartbeats 4000000 in
theorem walk50 {w0 : World} {p0 : ByteArray} {H : Hp} {Q : ByteArray → Sl → Int → Int → Hp → Prop} (h : F50 p0 H Q) :
    Good Tryd.prog w0 50 #[(.string p0)] H (fun v H => ∃ (r0 : ByteArray) (r1 : Sl) (r2 : Int) (r3 : Int) , v = (.tuple #[(.agg #[(.string r0), (Sl.v r1)]), (.int .i64 r2), (.int .i64 r3)]) ∧ Q r0 r1 r2 r3 H) := by
  unfold F50 at h
  refine Good.enter' (fn := Tryd.f50) Tryd.func50 rfl rfl rfl ?_
  refine HW.seq ?_
  refine HW.region ?_
  refine HList.ops' rfl (HOp.alloc Tryd.zeroValue27) ?_
  rintro _ H1 ⟨rfl, e2⟩
  replace h := h H1 e2
  refine HList.vals (v := (.int .i64 0)) rfl (HVal.assign' rfl) ?_
  refine HList.vals (v := (.int .i64 0)) rfl (HVal.assign' rfl) ?_
  refine HList.nil ?_
  refine nt ?_
  refine HW.seq ?_
  refine HW.seq ?_
  refine HW.region ?_
  refine HList.vals (v := (.string p0)) rfl (HVal.move' rfl) ?_
  refine HList.vals (v := (.int .i64 ((p0).size : Int))) rfl (HVal.lenS Tryd.runUnderlying9 rfl) ?_
  refine HList.vals (v := (.bool (decide ((4096 : Int) < ((p0).size : Int))))) rfl (HVal.gtr rfl rfl) ?_
  refine HList.nil ?_
  refine nt ?_
  obtain ⟨hT, hF⟩ := h
  refine HW.cond (decide ((4096 : Int) < ((p0).size : Int))) rfl (fun hb3 => ?_) (fun hb3 => ?_)
  · have h := hT hb3
    clear hT hF
    refine HW.seq ?_
    refine HW.region ?_
    refine HList.vals (v := (.agg #[(.string (ByteArray.mk #[])), (Sl.v Sl.nil)])) rfl (HVal.build' (cs := [(.string (ByteArray.mk #[])), (Sl.v Sl.nil)]) Tryd.runUnderlying27 Tryd.zeroValue27 places27 rfl) ?_
    obtain ⟨z6, h⟩ := h
    refine HList.opsn (HOp.storeN' (l := [(.string (ByteArray.mk #[])), (Sl.v Sl.nil)]) Tryd.sizeOf27 rfl rfl rfl z6) ?_
    rintro _ H4 e5
    replace h := h H4 e5
    refine HList.vals (v := (.int .i64 0)) rfl (HVal.assign' rfl) ?_
    refine HList.vals (v := (.int .i64 2)) rfl (HVal.assign' rfl) ?_
    refine HList.nil ?_
    refine nt ?_
    refine HW.ret ?_
    refine tr ?_
    obtain ⟨x7, x8, c9, h⟩ := h
    exact ⟨_, resOf3 rfl (Res1.n [(.string x7), (Sl.v x8)] Tryd.isAgg27 Tryd.sizeOf27 rfl c9) Res1.t Res1.t, ⟨x7, x8, 0, 2, rfl, h⟩⟩
  · have h := hF hb3
    clear hT hF
    refine HW.skip ?_
    refine nt ?_
    refine HW.seq ?_
    refine HW.region ?_
    refine HList.ops' rfl (HOp.alloc Tryd.zeroValue27) ?_
    rintro _ H10 ⟨rfl, e11⟩
    replace h := h H10 e11
    refine HList.nil ?_
    refine nt ?_
    refine HW.seq ?_
    refine HW.region ?_
    refine HList.vals (v := (.string p0)) rfl (HVal.move' rfl) ?_
    refine HList.ops' rfl (HOp.call' 75 [(.string p0)] (cap := []) rfl rfl Tryd.call75 (walk75 h)) ?_
    rintro _ H12 ⟨r14, rfl, h⟩
    refine HList.vals (v := (Sl.v r14)) rfl (HVal.assign' rfl) ?_
    refine HList.nil ?_
    refine nt ?_
    refine HW.seq ?_
    refine HW.region ?_
    refine HList.vals (v := (.int .i64 0)) rfl (HVal.assign' rfl) ?_
    refine HList.nil ?_
    refine nt ?_
    refine HW.cut (fun ρ H_1 => Env.Is ρ [(0, (.string p0)), (2, (.pointer (some ⟨H.size, 0, none⟩)))] ∧ F50_1 Q p0 ⟨H.size, 0, none⟩ H_1) ?_ ?_
    · refine HW.seq ?_
      refine HW.region ?_
      refine HList.vals (v := (.int .i64 0)) rfl (HVal.assign' rfl) ?_
      refine HList.nil ?_
      refine nt ?_
      refine HW.block ?_
      refine HW.loop' (fun L2 hL2 => ?_)
      obtain ⟨X2, hX2⟩ : ∃ X2 : Int → Int → Hp → Prop, ∀ (y17 : Int) (y18 : Int) (H_2 : Hp), X2 y17 y18 H_2 ↔ ∀ ρ, Env.Is ρ [(0, (.string p0)), (2, (.pointer (some ⟨H.size, 0, none⟩))), (5, (.pointer (some ⟨H1.size, 0, none⟩))), (6, (Sl.v r14)), (7, (.int .i64 y17)), (8, (.int .i64 y18))] → L2 ρ H_2 := ⟨_, fun _ _ _ => Iff.rfl⟩
      refine (hX2 _ _ _).1 (h X2 ?_) _ ?_
      rotate_left
      · exact ⟨rfl, rfl, rfl, rfl, rfl, rfl, trivial⟩
      clear h
      intro y17 y18 H_2 h
      refine (hX2 _ _ _).2 fun ρ hI => ?_
      obtain ⟨ρ0, rfl⟩ : ∃ ρ0, ρ = (Env.set (Env.set (Env.set (Env.set (Env.set (Env.set ρ0 8 (.int .i64 y18)) 7 (.int .i64 y17)) 6 (Sl.v r14)) 5 (.pointer (some ⟨H1.size, 0, none⟩))) 2 (.pointer (some ⟨H.size, 0, none⟩))) 0 (.string p0)) := ⟨ρ, hI.eq⟩
      clear hI; unfold F50_L2b at h; refine hL2 _ _ ?_
      refine HW.seq ?_
      refine HW.seq ?_
      refine HW.region ?_
      refine HList.vals (v := (.int .i64 y18)) rfl (HVal.move' rfl) ?_
      refine HList.vals (v := (Sl.v r14)) rfl (HVal.move' rfl) ?_
      refine HList.vals (v := (.int .i64 ((r14).n : Int))) rfl (HVal.len Tryd.runUnderlying120 rfl) ?_
      refine HList.vals (v := (.bool (decide (y18 < ((r14).n : Int))))) rfl (HVal.lss rfl rfl) ?_
      refine HList.nil ?_
      refine nt ?_
      obtain ⟨hT, hF⟩ := h
      refine HW.cond (decide (y18 < ((r14).n : Int))) rfl (fun hb23 => ?_) (fun hb23 => ?_)
      · have h := hT hb23
        clear hT hF
        refine HW.skip ?_
        refine nt ?_
        refine HW.seq ?_
        refine HW.block ?_
        refine HW.seq ?_
        refine HW.cut (fun ρ H_3 => ∃ (y46 : Bool), Env.Is ρ [(0, (.string p0)), (2, (.pointer (some ⟨H.size, 0, none⟩))), (5, (.pointer (some ⟨H1.size, 0, none⟩))), (6, (Sl.v r14)), (7, (.int .i64 y17)), (8, (.int .i64 y18)), (42, (.bool y46))] ∧ F50_3 Q X2 p0 ⟨H.size, 0, none⟩ ⟨H1.size, 0, none⟩ r14 y17 y18 y46 H_3) ?_ ?_
        · refine HW.region ?_
          refine HList.vals (v := (.int .i64 y17)) rfl (HVal.move' rfl) ?_
          refine HList.vals (v := (.bool (decide (y17 = 7)))) rfl (HVal.eqlI rfl rfl) ?_
          refine HList.vals (v := (.bool (decide (y17 = 7)))) rfl (HVal.move' rfl) ?_
          obtain ⟨hT, hF⟩ := h
          rcases Bool.eq_false_or_eq_true (decide (y17 = 7)) with hb30 | hb31
          · have h := hT hb30
            clear hT hF
            refine HList.gvals (v := (Sl.v r14)) rfl rfl rfl rfl (congrArg Value.bool hb30) (HVal.move' rfl) ?_
            refine HList.gvals (v := (.int .i64 y18)) rfl rfl rfl rfl (congrArg Value.bool hb30) (HVal.move' rfl) ?_
            obtain ⟨a32, e33, b34, b35, h⟩ := h
            refine HList.gvals (v := (.pointer (some (Addr.add a32 (y18.toNat * 3))))) rfl rfl rfl rfl (congrArg Value.bool hb30) (HVal.indexAddr Tryd.runUnderlying120 Tryd.sizeOf123 (Sl.v_some rfl e33) rfl b34 b35) ?_
            refine HList.gvals (v := (.pointer (some (Addr.add a32 (y18.toNat * 3))))) rfl rfl rfl rfl (congrArg Value.bool hb30) (HVal.fieldAddr0 Tryd.runUnderlying123 rfl rfl Tryd.sizeOf9 rfl) ?_
            obtain ⟨x37, c36, h⟩ := h
            refine HList.gvals (v := (.string x37)) rfl rfl rfl rfl (congrArg Value.bool hb30) (HVal.load1 Tryd.isAgg9 rfl c36) ?_
            refine HList.gvals (v := (.bool (seq x37 (ByteArray.mk #[])))) rfl rfl rfl rfl (congrArg Value.bool hb30) (HVal.eqlS rfl rfl) ?_
            refine HList.vals (v := (.bool (seq x37 (ByteArray.mk #[])))) rfl (HVal.pickT rfl hb30 rfl) ?_
            refine HList.vals (v := (.bool (seq x37 (ByteArray.mk #[])))) rfl (HVal.move' rfl) ?_
            obtain ⟨hT, hF⟩ := h
            rcases Bool.eq_false_or_eq_true (seq x37 (ByteArray.mk #[])) with hb38 | hb39
            · have h := hT hb38
              clear hT hF
              refine HList.gvals (v := (Sl.v r14)) rfl rfl rfl rfl (congrArg Value.bool hb38) (HVal.move' rfl) ?_
              refine HList.gvals (v := (.int .i64 y18)) rfl rfl rfl rfl (congrArg Value.bool hb38) (HVal.move' rfl) ?_
              obtain ⟨a40, e41, b42, b43, h⟩ := h
              refine HList.gvals (v := (.pointer (some (Addr.add a40 (y18.toNat * 3))))) rfl rfl rfl rfl (congrArg Value.bool hb38) (HVal.indexAddr Tryd.runUnderlying120 Tryd.sizeOf123 (Sl.v_some rfl e41) rfl b42 b43) ?_
              refine HList.gvals (v := (.pointer (some (Addr.add (Addr.add a40 (y18.toNat * 3)) 1)))) rfl rfl rfl rfl (congrArg Value.bool hb38) (HVal.fieldAddr' Tryd.runUnderlying123 rfl rfl Tryd.sizeOf3 rfl) ?_
              obtain ⟨x45, c44, h⟩ := h
              refine HList.gvals (v := (.int .i64 x45)) rfl rfl rfl rfl (congrArg Value.bool hb38) (HVal.load1 Tryd.isAgg3 rfl c44) ?_
              refine HList.gvals (v := (.string p0)) rfl rfl rfl rfl (congrArg Value.bool hb38) (HVal.move' rfl) ?_
              refine HList.gvals (v := (.int .i64 ((p0).size : Int))) rfl rfl rfl rfl (congrArg Value.bool hb38) (HVal.lenS Tryd.runUnderlying9 rfl) ?_
              refine HList.gvals (v := (.bool (decide (x45 = ((p0).size : Int))))) rfl rfl rfl rfl (congrArg Value.bool hb38) (HVal.eqlI rfl rfl) ?_
              refine HList.vals (v := (.bool (decide (x45 = ((p0).size : Int))))) rfl (HVal.pickT rfl hb38 rfl) ?_
              refine HList.nil ?_
              refine nt ?_
              exact ⟨(decide (x45 = ((p0).size : Int))), ⟨rfl, rfl, rfl, rfl, rfl, rfl, rfl, trivial⟩, h⟩
            · have h := hF hb39
              clear hT hF
              refine HList.gskips rfl rfl rfl rfl (congrArg Value.bool hb39) ?_
              refine HList.gskips rfl rfl rfl rfl (congrArg Value.bool hb39) ?_
              refine HList.gskips rfl rfl rfl rfl (congrArg Value.bool hb39) ?_
              refine HList.gskips rfl rfl rfl rfl (congrArg Value.bool hb39) ?_
              refine HList.gskips rfl rfl rfl rfl (congrArg Value.bool hb39) ?_
              refine HList.gskips rfl rfl rfl rfl (congrArg Value.bool hb39) ?_
              refine HList.gskips rfl rfl rfl rfl (congrArg Value.bool hb39) ?_
              refine HList.gskips rfl rfl rfl rfl (congrArg Value.bool hb39) ?_
              refine HList.vals (v := (.bool false)) rfl (HVal.pickF rfl hb39 rfl) ?_
              refine HList.nil ?_
              refine nt ?_
              exact ⟨false, ⟨rfl, rfl, rfl, rfl, rfl, rfl, rfl, trivial⟩, h⟩
          · have h := hF hb31
            clear hT hF
            refine HList.gskips rfl rfl rfl rfl (congrArg Value.bool hb31) ?_
            refine HList.gskips rfl rfl rfl rfl (congrArg Value.bool hb31) ?_
            refine HList.gskips rfl rfl rfl rfl (congrArg Value.bool hb31) ?_
            refine HList.gskips rfl rfl rfl rfl (congrArg Value.bool hb31) ?_
            refine HList.gskips rfl rfl rfl rfl (congrArg Value.bool hb31) ?_
            refine HList.gskips rfl rfl rfl rfl (congrArg Value.bool hb31) ?_
            refine HList.vals (v := (.bool false)) rfl (HVal.pickF rfl hb31 rfl) ?_
            refine HList.vals (v := (.bool false)) rfl (HVal.move' rfl) ?_
            refine HList.gskips rfl rfl rfl rfl rfl ?_
            refine HList.gskips rfl rfl rfl rfl rfl ?_
            refine HList.gskips rfl rfl rfl rfl rfl ?_
            refine HList.gskips rfl rfl rfl rfl rfl ?_
            refine HList.gskips rfl rfl rfl rfl rfl ?_
            refine HList.gskips rfl rfl rfl rfl rfl ?_
            refine HList.gskips rfl rfl rfl rfl rfl ?_
            refine HList.gskips rfl rfl rfl rfl rfl ?_
            refine HList.vals (v := (.bool false)) rfl (HVal.pickF rfl rfl rfl) ?_
            refine HList.nil ?_
            refine nt ?_
            exact ⟨false, ⟨rfl, rfl, rfl, rfl, rfl, rfl, rfl, trivial⟩, h⟩
        · rintro ρ H_3 ⟨y46, hI, h⟩
          obtain ⟨ρ0, rfl⟩ : ∃ ρ0, ρ = (Env.set (Env.set (Env.set (Env.set (Env.set (Env.set (Env.set ρ0 42 (.bool y46)) 8 (.int .i64 y18)) 7 (.int .i64 y17)) 6 (Sl.v r14)) 5 (.pointer (some ⟨H1.size, 0, none⟩))) 2 (.pointer (some ⟨H.size, 0, none⟩))) 0 (.string p0)) := ⟨ρ, hI.eq⟩
          clear hI; unfold F50_3 at h
          obtain ⟨hT, hF⟩ := h
          refine HW.cond y46 rfl (fun hb47 => ?_) (fun hb47 => ?_)
          · have h := hT hb47
            clear hT hF
            refine HW.seq ?_
            refine HW.region ?_
            obtain ⟨x49, x50, c48, h⟩ := h
            refine HList.vals (v := (.agg #[(.string x49), (Sl.v x50)])) rfl (HVal.loadN [(.string x49), (Sl.v x50)] Tryd.isAgg27 Tryd.sizeOf27 rfl c48) ?_
            obtain ⟨z53, h⟩ := h
            refine HList.opsn (HOp.storeN' (l := [(.string x49), (Sl.v x50)]) Tryd.sizeOf27 rfl rfl rfl z53) ?_
            rintro _ H51 e52
            replace h := h H51 e52
            refine HList.vals (v := (.int .i64 0)) rfl (HVal.assign' rfl) ?_
            refine HList.vals (v := (.int .i64 0)) rfl (HVal.assign' rfl) ?_
            refine HList.nil ?_
            refine nt ?_
            refine HW.ret ?_
            refine tr ?_
            refine br ?_
            refine tr ?_
            refine tr ?_
            refine br ?_
            refine tr ?_
            obtain ⟨x54, x55, c56, h⟩ := h
            exact ⟨_, resOf3 rfl (Res1.n [(.string x54), (Sl.v x55)] Tryd.isAgg27 Tryd.sizeOf27 rfl c56) Res1.t Res1.t, ⟨x54, x55, 0, 0, rfl, h⟩⟩
          · have h := hF hb47
            clear hT hF
            refine HW.skip ?_
            refine nt ?_
            refine HW.seq ?_
            refine HW.region ?_
            refine HList.vals (v := (.int .i64 y17)) rfl (HVal.move' rfl) ?_
            refine HList.vals (v := (Sl.v r14)) rfl (HVal.move' rfl) ?_
            refine HList.vals (v := (.int .i64 y18)) rfl (HVal.move' rfl) ?_
            obtain ⟨a57, e58, b59, b60, h⟩ := h
            refine HList.vals (v := (.pointer (some (Addr.add a57 (y18.toNat * 3))))) rfl (HVal.indexAddr Tryd.runUnderlying120 Tryd.sizeOf123 (Sl.v_some rfl e58) rfl b59 b60) ?_
            obtain ⟨x62, x63, x64, c61, h⟩ := h
            refine HList.vals (v := (.agg #[(.string x62), (.int .i64 x63), (.bool x64)])) rfl (HVal.loadN [(.string x62), (.int .i64 x63), (.bool x64)] Tryd.isAgg123 Tryd.sizeOf123 rfl c61) ?_
            refine HList.ops' rfl (HOp.call' 76 [(.pointer (some ⟨H1.size, 0, none⟩)), (.int .i64 y17), (.agg #[(.string x62), (.int .i64 x63), (.bool x64)])] (cap := []) rfl rfl Tryd.call76 (walk76 h)) ?_
            rintro _ H65 ⟨r67, r68, rfl, h⟩
            refine HList.vals (v := (.tuple #[(.int .i64 r67), (.int .i64 r68)])) rfl (HVal.move' rfl) ?_
            refine HList.vals (v := (.int .i64 r67)) rfl (HVal.extract rfl rfl) ?_
            refine HList.vals (v := (.int .i64 r68)) rfl (HVal.extract rfl rfl) ?_
            refine HList.vals (v := (.int .i64 r67)) rfl (HVal.assign' rfl) ?_
            refine HList.vals (v := (.int .i64 r68)) rfl (HVal.assign' rfl) ?_
            refine HList.nil ?_
            refine nt ?_
            refine HW.seq ?_
            refine HW.seq ?_
            refine HW.region ?_
            refine HList.vals (v := (.int .i64 r68)) rfl (HVal.move' rfl) ?_
            refine HList.vals (v := (.bool (decide (r68 ≠ 0)))) rfl (HVal.neqI rfl rfl) ?_
            refine HList.nil ?_
            refine nt ?_
            obtain ⟨hT, hF⟩ := h
            refine HW.cond (decide (r68 ≠ 0)) rfl (fun hb69 => ?_) (fun hb69 => ?_)
            · have h := hT hb69
              clear hT hF
              refine HW.seq ?_
              refine HW.draw mixed [(0, some []), (1, some []), (2, some []), (3, some []), (4, some []), (5, some []), (6, some []), (7, none), (8, some []), (9, some [])] rfl (by kernel_rfl) (by kernel_rfl) ?_
              refine HPlan.takev (v := (.agg #[(.string (ByteArray.mk #[])), (Sl.v Sl.nil)])) rfl rfl (fun _ => HVal.build' (cs := [(.string (ByteArray.mk #[])), (Sl.v Sl.nil)]) Tryd.runUnderlying27 Tryd.zeroValue27 places27 rfl) ?_
              refine HPlan.takev (v := (Sl.v r14)) rfl rfl (fun _ => HVal.move' rfl) ?_
              refine HPlan.takev (v := (.int .i64 y18)) rfl rfl (fun _ => HVal.move' rfl) ?_
              obtain ⟨a70, e71, b72, b73, h⟩ := h
              refine HPlan.takev (v := (.pointer (some (Addr.add a70 (y18.toNat * 3))))) rfl rfl (fun _ => HVal.indexAddr Tryd.runUnderlying120 Tryd.sizeOf123 (Sl.v_some rfl e71) rfl b72 b73) ?_
              refine HPlan.takev (v := (.pointer (some (Addr.add (Addr.add a70 (y18.toNat * 3)) 1)))) rfl rfl (fun _ => HVal.fieldAddr' Tryd.runUnderlying123 rfl rfl Tryd.sizeOf3 rfl) ?_
              obtain ⟨x75, c74, h⟩ := h
              refine HPlan.takel (v := (.int .i64 x75)) (fun X => cell X (Addr.add (Addr.add a70 (y18.toNat * 3)) 1) = some (.int .i64 x75)) rfl rfl (fun _ hX => HVal.load1 Tryd.isAgg3 rfl hX) c74 ?_
              refine HPlan.takev (v := (.int .i64 r68)) rfl rfl (fun _ => HVal.move' rfl) ?_
              obtain ⟨z78, h⟩ := h
              refine HPlan.opsn rfl (HOp.storeN' (l := [(.string (ByteArray.mk #[])), (Sl.v Sl.nil)]) Tryd.sizeOf27 rfl rfl rfl z78) ?_
              rintro _ H76 e77
              replace h := h H76 e77
              obtain ⟨s79, h⟩ := h
              refine ⟨SC_of ⟨fun _ => s79, trivial⟩, ?_⟩
              refine HPlan.takev (v := (.int .i64 x75)) rfl rfl (fun _ => HVal.assign' rfl) ?_
              refine HPlan.takev (v := (.int .i64 r68)) rfl rfl (fun _ => HVal.assign' rfl) ?_
              refine HPlan.done ?_
              refine nt ?_
              refine HW.ret ?_
              refine tr ?_
              refine br ?_
              refine tr ?_
              refine tr ?_
              refine br ?_
              refine tr ?_
              obtain ⟨x80, x81, c82, h⟩ := h
              exact ⟨_, resOf3 rfl (Res1.n [(.string x80), (Sl.v x81)] Tryd.isAgg27 Tryd.sizeOf27 rfl c82) Res1.t Res1.t, ⟨x80, x81, x75, r68, rfl, h⟩⟩
            · have h := hF hb69
              clear hT hF
              refine HW.skip ?_
              refine nt ?_
              refine HW.region ?_
              refine HList.vals (v := (.int .i64 r67)) rfl (HVal.move' rfl) ?_
              refine HList.vals (v := (.int .i64 r67)) rfl (HVal.assign' rfl) ?_
              refine HList.nil ?_
              refine nb ?_
              refine nt ?_
              refine HW.region ?_
              refine HList.vals (v := (.int .i64 y18)) rfl (HVal.move' rfl) ?_
              refine HList.vals (v := (.int .i64 (IntKind.i64.wrap (y18 + 1)))) rfl (HVal.add rfl rfl) ?_
              refine HList.vals (v := (.int .i64 (IntKind.i64.wrap (y18 + 1)))) rfl (HVal.assign' rfl) ?_
              refine HList.nil ?_
              refine nt ?_
              exact (hX2 _ _ _).1 h _ ⟨rfl, rfl, rfl, rfl, rfl, rfl, trivial⟩
      · have h := hF hb23
        clear hT hF
        refine HW.exit ?_
        refine te ?_
        refine te ?_
        refine be ?_
        refine nt ?_
        exact ⟨⟨rfl, rfl, trivial⟩, h⟩
    · rintro ρ H_1 ⟨hI, h⟩
      obtain ⟨ρ0, rfl⟩ : ∃ ρ0, ρ = (Env.set (Env.set ρ0 2 (.pointer (some ⟨H.size, 0, none⟩))) 0 (.string p0)) := ⟨ρ, hI.eq⟩
      clear hI; unfold F50_1 at h
      refine HW.seq ?_
      refine HW.region ?_
      refine HList.vals (v := (.agg #[(.string (ByteArray.mk #[])), (Sl.v Sl.nil)])) rfl (HVal.build' (cs := [(.string (ByteArray.mk #[])), (Sl.v Sl.nil)]) Tryd.runUnderlying27 Tryd.zeroValue27 places27 rfl) ?_
      refine HList.vals (v := (.string p0)) rfl (HVal.move' rfl) ?_
      refine HList.vals (v := (.int .i64 ((p0).size : Int))) rfl (HVal.lenS Tryd.runUnderlying9 rfl) ?_
      obtain ⟨z85, h⟩ := h
      refine HList.opsn (HOp.storeN' (l := [(.string (ByteArray.mk #[])), (Sl.v Sl.nil)]) Tryd.sizeOf27 rfl rfl rfl z85) ?_
      rintro _ H83 e84
      replace h := h H83 e84
      refine HList.vals (v := (.int .i64 ((p0).size : Int))) rfl (HVal.assign' rfl) ?_
      refine HList.vals (v := (.int .i64 24)) rfl (HVal.assign' rfl) ?_
      refine HList.nil ?_
      refine nt ?_
      refine HW.ret ?_
      obtain ⟨x86, x87, c88, h⟩ := h
      exact ⟨_, resOf3 rfl (Res1.n [(.string x86), (Sl.v x87)] Tryd.isAgg27 Tryd.sizeOf27 rfl c88) Res1.t Res1.t, ⟨x86, x87, ((p0).size : Int), 24, rfl, h⟩⟩

def F51_1 (Q : ByteArray → Int → Hp → Prop) (y55 : ByteArray) (H_1 : Hp) : Prop :=
(y55).size + (S___).size ≤ 9223372036854775807 ∧ (
 Q (y55 ++ S___) 0 H_1)
def F51_3 (Q : ByteArray → Int → Hp → Prop) (X2 : ByteArray → Int → Hp → Prop) (y26 : Addr) (y27 : Addr) (y28 : Int) (y31 : ByteArray) (H_3 : Hp) : Prop :=
∃ x33 : Sl, cell H_3 (Addr.add y26 1) = some (Sl.v x33) ∧ (
 ∃ a34 : Addr, (x33).b = some a34 ∧ (0 : Int) ≤ y28 ∧ y28 < ((x33).n : Int) ∧ (
 ∃ x39 : ByteArray, cell H_3 (Addr.add a34 (y28.toNat * 2)) = some (.string x39) ∧ (
 (y31).size + (x39).size ≤ 9223372036854775807 ∧ (
 ((y31 ++ x39)).size + (S_____).size ≤ 9223372036854775807 ∧ (
 ∃ x43 : Sl, cell H_3 (Addr.add y26 1) = some (Sl.v x43) ∧ (
 ∃ a44 : Addr, (x43).b = some a44 ∧ (0 : Int) ≤ y28 ∧ y28 < ((x43).n : Int) ∧ (
 ∃ x49 : Int, cell H_3 (Addr.add (Addr.add a44 (y28.toNat * 2)) 1) = some (.int .i64 x49) ∧ (
 (0 : Int) ≤ x49 ∧ x49 < ((4 : Nat) : Int) ∧ (
 ∃ x53 : ByteArray, cell H_3 (Addr.add y27 (x49.toNat * 1)) = some (.string x53) ∧ (
 (((y31 ++ x39) ++ S_____)).size + (x53).size ≤ 9223372036854775807 ∧ (
 X2 (((y31 ++ x39) ++ S_____) ++ x53) (IntKind.i64.wrap (y28 + 1)) H_3)))))))))))
def F51_L2b (Q : ByteArray → Int → Hp → Prop) (X2 : ByteArray → Int → Hp → Prop) (y21 : Addr) (y22 : Addr) (y19 : ByteArray) (y20 : Int) (H_2 : Hp) : Prop :=
∃ x24 : Sl, cell H_2 (Addr.add y21 1) = some (Sl.v x24) ∧ (
 ((decide (y20 < ((x24).n : Int))) = true → (((decide ((0 : Int) < y20)) = true → ((y19).size + (S___________).size ≤ 9223372036854775807 ∧ (
 F51_3 Q X2 y21 y22 y20 (y19 ++ S___________) H_2))) ∧
 ((decide ((0 : Int) < y20)) = false → (F51_3 Q X2 y21 y22 y20 y19 H_2)))) ∧
 ((decide (y20 < ((x24).n : Int))) = false → (F51_1 Q y19 H_2)))
def F51_L2 (Q : ByteArray → Int → Hp → Prop) (y21 : Addr) (y22 : Addr) (y19 : ByteArray) (y20 : Int) (H_2 : Hp) : Prop :=
  ∀ X2 : ByteArray → Int → Hp → Prop, (∀ (y19 : ByteArray) (y20 : Int) (H_2 : Hp), F51_L2b Q X2 y21 y22 y19 y20 H_2 → X2 y19 y20 H_2) → X2 y19 y20 H_2
def F51 (p0_0 : ByteArray) (p0_1 : Sl) (H : Hp) (Q : ByteArray → Int → Hp → Prop) : Prop :=
∀ H1 : Hp, H1 = Array.push H (.cells #[(.string p0_0), (Sl.v p0_1)] 27) → (
 ∃ (x4 : ByteArray) (x5 : Sl), cells H1 ⟨H.size, 0, none⟩ [(.string x4), (Sl.v x5)] 0 ∧ (
 F68 x4 x5 H1 (fun (r8 : Int) (H6 : Hp) => 
 ((decide (r8 ≠ 0)) = true → (Q (ByteArray.mk #[]) r8 H6)) ∧
 ((decide (r8 ≠ 0)) = false → (∀ H10 : Hp, H10 = Array.push H6 (.cells #[(.string (ByteArray.mk #[])), (.string (ByteArray.mk #[])), (.string (ByteArray.mk #[])), (.string (ByteArray.mk #[]))] 49) → (
 mayw H10 ⟨H6.size, 0, none⟩ 4 0 ∧ ∀ H12 : Hp, H12 = sets H10 ⟨H6.size, 0, none⟩ [(.string (ByteArray.mk #[])), (.string S_INT), (.string S_STR), (.string S_BOOL)] 0 → (
 ∃ x16 : ByteArray, cell H12 ⟨H.size, 0, none⟩ = some (.string x16) ∧ (
 (S_TYPE_).size + (x16).size ≤ 9223372036854775807 ∧ (
 ((S_TYPE_ ++ x16)).size + (S__________).size ≤ 9223372036854775807 ∧ (
 F51_L2 Q ⟨H.size, 0, none⟩ ⟨H6.size, 0, none⟩ ((S_TYPE_ ++ x16) ++ S__________) 0 H12))))))))))
set_option maxRecDepth 100000 in
set_option maxHeartbeats 4000000 in
theorem walk51 {w0 : World} {p0_0 : ByteArray} {p0_1 : Sl} {H : Hp} {Q : ByteArray → Int → Hp → Prop} (h : F51 p0_0 p0_1 H Q) :
    Good Tryd.prog w0 51 #[(.agg #[(.string p0_0), (Sl.v p0_1)])] H (fun v H => ∃ (r0 : ByteArray) (r1 : Int) , v = (.tuple #[(.string r0), (.int .i64 r1)]) ∧ Q r0 r1 H) := by
  unfold F51 at h
  refine Good.enter' (fn := Tryd.f51) Tryd.func51 rfl rfl rfl ?_
  refine HW.seq ?_
  refine HW.region ?_
  refine HList.ops' rfl (HOp.box (v := (.agg #[(.string p0_0), (Sl.v p0_1)])) rfl) ?_
  rintro _ H1 ⟨rfl, e2⟩
  replace h := h H1 e2
  refine HList.vals (v := (.string (ByteArray.mk #[]))) rfl (HVal.assign' rfl) ?_
  refine HList.vals (v := (.int .i64 0)) rfl (HVal.assign' rfl) ?_
  refine HList.nil ?_
  refine nt ?_
  refine HW.seq ?_
  refine HW.region ?_
  obtain ⟨x4, x5, c3, h⟩ := h
  refine HList.vals (v := (.agg #[(.string x4), (Sl.v x5)])) rfl (HVal.loadN [(.string x4), (Sl.v x5)] Tryd.isAgg27 Tryd.sizeOf27 rfl c3) ?_
  refine HList.ops' rfl (HOp.call' 68 [(.agg #[(.string x4), (Sl.v x5)])] (cap := []) rfl rfl Tryd.call68 (walk68 h)) ?_
  rintro _ H6 ⟨r8, rfl, h⟩
  refine HList.vals (v := (.int .i64 r8)) rfl (HVal.assign' rfl) ?_
  refine HList.nil ?_
  refine nt ?_
  refine HW.seq ?_
  refine HW.seq ?_
  refine HW.region ?_
  refine HList.vals (v := (.int .i64 r8)) rfl (HVal.move' rfl) ?_
  refine HList.vals (v := (.bool (decide (r8 ≠ 0)))) rfl (HVal.neqI rfl rfl) ?_
  refine HList.nil ?_
  refine nt ?_
  obtain ⟨hT, hF⟩ := h
  refine HW.cond (decide (r8 ≠ 0)) rfl (fun hb9 => ?_) (fun hb9 => ?_)
  · have h := hT hb9
    clear hT hF
    refine HW.seq ?_
    refine HW.region ?_
    refine HList.vals (v := (.int .i64 r8)) rfl (HVal.move' rfl) ?_
    refine HList.vals (v := (.string (ByteArray.mk #[]))) rfl (HVal.assign' rfl) ?_
    refine HList.vals (v := (.int .i64 r8)) rfl (HVal.assign' rfl) ?_
    refine HList.nil ?_
    refine nt ?_
    refine HW.ret ?_
    refine tr ?_
    exact ⟨_, resOf2 rfl Res1.t Res1.t, ⟨(ByteArray.mk #[]), r8, rfl, h⟩⟩
  · have h := hF hb9
    clear hT hF
    refine HW.skip ?_
    refine nt ?_
    refine HW.seq ?_
    refine HW.region ?_
    refine HList.vals (v := (.agg #[(.string (ByteArray.mk #[])), (.string S_INT), (.string S_STR), (.string S_BOOL)])) rfl (HVal.buildA' (cs := [(.string (ByteArray.mk #[])), (.string S_INT), (.string S_STR), (.string S_BOOL)]) Tryd.runUnderlying49 Tryd.zeroValue49 Tryd.sizeOf9 rfl) ?_
    refine HList.ops' rfl (HOp.alloc Tryd.zeroValue49) ?_
    rintro _ H10 ⟨rfl, e11⟩
    replace h := h H10 e11
    obtain ⟨z14, h⟩ := h
    refine HList.opsn (HOp.storeN' (l := [(.string (ByteArray.mk #[])), (.string S_INT), (.string S_STR), (.string S_BOOL)]) Tryd.sizeOf49 rfl rfl rfl z14) ?_
    rintro _ H12 e13
    replace h := h H12 e13
    refine HList.nil ?_
    refine nt ?_
    refine HW.seq ?_
    refine HW.region ?_
    refine HList.vals (v := (.pointer (some ⟨H.size, 0, none⟩))) rfl (HVal.fieldAddr0 Tryd.runUnderlying27 rfl rfl Tryd.sizeOf9 rfl) ?_
    obtain ⟨x16, c15, h⟩ := h
    refine HList.vals (v := (.string x16)) rfl (HVal.load1 Tryd.isAgg9 rfl c15) ?_
    obtain ⟨z17, h⟩ := h
    refine HList.vals (v := (.string (S_TYPE_ ++ x16))) rfl (HVal.addS rfl rfl z17) ?_
    obtain ⟨z18, h⟩ := h
    refine HList.vals (v := (.string ((S_TYPE_ ++ x16) ++ S__________))) rfl (HVal.addS rfl rfl z18) ?_
    refine HList.vals (v := (.string ((S_TYPE_ ++ x16) ++ S__________))) rfl (HVal.assign' rfl) ?_
    refine HList.nil ?_
    refine nt ?_
    refine HW.cut (fun ρ H_1 => ∃ (y55 : ByteArray), Env.Is ρ [(6, (.string y55))] ∧ F51_1 Q y55 H_1) ?_ ?_
    · refine HW.seq ?_
      refine HW.region ?_
      refine HList.vals (v := (.int .i64 0)) rfl (HVal.assign' rfl) ?_
      refine HList.nil ?_
      refine nt ?_
      refine HW.block ?_
      refine HW.loop' (fun L2 hL2 => ?_)
      obtain ⟨X2, hX2⟩ : ∃ X2 : ByteArray → Int → Hp → Prop, ∀ (y19 : ByteArray) (y20 : Int) (H_2 : Hp), X2 y19 y20 H_2 ↔ ∀ ρ, Env.Is ρ [(1, (.pointer (some ⟨H.size, 0, none⟩))), (5, (.pointer (some ⟨H6.size, 0, none⟩))), (6, (.string y19)), (7, (.int .i64 y20))] → L2 ρ H_2 := ⟨_, fun _ _ _ => Iff.rfl⟩
      refine (hX2 _ _ _).1 (h X2 ?_) _ ?_
      rotate_left
      · exact ⟨rfl, rfl, rfl, rfl, trivial⟩
      clear h
      intro y19 y20 H_2 h
      refine (hX2 _ _ _).2 fun ρ hI => ?_
      obtain ⟨ρ0, rfl⟩ : ∃ ρ0, ρ = (Env.set (Env.set (Env.set (Env.set ρ0 7 (.int .i64 y20)) 6 (.string y19)) 5 (.pointer (some ⟨H6.size, 0, none⟩))) 1 (.pointer (some ⟨H.size, 0, none⟩))) := ⟨ρ, hI.eq⟩
      clear hI; unfold F51_L2b at h; refine hL2 _ _ ?_
      refine HW.seq ?_
      refine HW.seq ?_
      refine HW.region ?_
      refine HList.vals (v := (.int .i64 y20)) rfl (HVal.move' rfl) ?_
      refine HList.vals (v := (.pointer (some (Addr.add ⟨H.size, 0, none⟩ 1)))) rfl (HVal.fieldAddr' Tryd.runUnderlying27 rfl rfl Tryd.sizeOf25 rfl) ?_
      obtain ⟨x24, c23, h⟩ := h
      refine HList.vals (v := (Sl.v x24)) rfl (HVal.load1 Tryd.isAgg25 rfl c23) ?_
      refine HList.vals (v := (.int .i64 ((x24).n : Int))) rfl (HVal.len Tryd.runUnderlying25 rfl) ?_
      refine HList.vals (v := (.bool (decide (y20 < ((x24).n : Int))))) rfl (HVal.lss rfl rfl) ?_
      refine HList.nil ?_
      refine nt ?_
      obtain ⟨hT, hF⟩ := h
      refine HW.cond (decide (y20 < ((x24).n : Int))) rfl (fun hb25 => ?_) (fun hb25 => ?_)
      · have h := hT hb25
        clear hT hF
        refine HW.skip ?_
        refine nt ?_
        refine HW.seq ?_
        refine HW.block ?_
        refine HW.cut (fun ρ H_3 => ∃ (y31 : ByteArray), Env.Is ρ [(1, (.pointer (some ⟨H.size, 0, none⟩))), (5, (.pointer (some ⟨H6.size, 0, none⟩))), (7, (.int .i64 y20)), (6, (.string y31))] ∧ F51_3 Q X2 ⟨H.size, 0, none⟩ ⟨H6.size, 0, none⟩ y20 y31 H_3) ?_ ?_
        · refine HW.seq ?_
          refine HW.region ?_
          refine HList.vals (v := (.int .i64 y20)) rfl (HVal.move' rfl) ?_
          refine HList.vals (v := (.bool (decide ((0 : Int) < y20)))) rfl (HVal.gtr rfl rfl) ?_
          refine HList.nil ?_
          refine nt ?_
          obtain ⟨hT, hF⟩ := h
          refine HW.cond (decide ((0 : Int) < y20)) rfl (fun hb29 => ?_) (fun hb29 => ?_)
          · have h := hT hb29
            clear hT hF
            refine HW.region ?_
            refine HList.vals (v := (.string y19)) rfl (HVal.move' rfl) ?_
            obtain ⟨z30, h⟩ := h
            refine HList.vals (v := (.string (y19 ++ S___________))) rfl (HVal.addS rfl rfl z30) ?_
            refine HList.vals (v := (.string (y19 ++ S___________))) rfl (HVal.assign' rfl) ?_
            refine HList.nil ?_
            refine nt ?_
            exact ⟨(y19 ++ S___________), ⟨rfl, rfl, rfl, rfl, trivial⟩, h⟩
          · have h := hF hb29
            clear hT hF
            refine HW.skip ?_
            refine nt ?_
            exact ⟨y19, ⟨rfl, rfl, rfl, rfl, trivial⟩, h⟩
        · rintro ρ H_3 ⟨y31, hI, h⟩
          obtain ⟨ρ0, rfl⟩ : ∃ ρ0, ρ = (Env.set (Env.set (Env.set (Env.set ρ0 6 (.string y31)) 7 (.int .i64 y20)) 5 (.pointer (some ⟨H6.size, 0, none⟩))) 1 (.pointer (some ⟨H.size, 0, none⟩))) := ⟨ρ, hI.eq⟩
          clear hI; unfold F51_3 at h
          refine HW.draw mixed [(0, some []), (1, some []), (2, some []), (3, some []), (4, some []), (5, some []), (6, some []), (7, some []), (8, some []), (9, some []), (10, some []), (11, some []), (12, some []), (13, some []), (14, some []), (15, some []), (16, some []), (17, some []), (18, some [])] rfl (by kernel_rfl) (by kernel_rfl) ?_
          refine HPlan.takev (v := (.string y31)) rfl rfl (fun _ => HVal.move' rfl) ?_
          refine HPlan.takev (v := (.pointer (some (Addr.add ⟨H.size, 0, none⟩ 1)))) rfl rfl (fun _ => HVal.fieldAddr' Tryd.runUnderlying27 rfl rfl Tryd.sizeOf25 rfl) ?_
          obtain ⟨x33, c32, h⟩ := h
          refine HPlan.takel (v := (Sl.v x33)) (fun X => cell X (Addr.add ⟨H.size, 0, none⟩ 1) = some (Sl.v x33)) rfl rfl (fun _ hX => HVal.load1 Tryd.isAgg25 rfl hX) c32 ?_
          refine HPlan.takev (v := (.int .i64 y20)) rfl rfl (fun _ => HVal.move' rfl) ?_
          obtain ⟨a34, e35, b36, b37, h⟩ := h
          refine HPlan.takev (v := (.pointer (some (Addr.add a34 (y20.toNat * 2))))) rfl rfl (fun _ => HVal.indexAddr Tryd.runUnderlying25 Tryd.sizeOf38 (Sl.v_some rfl e35) rfl b36 b37) ?_
          refine HPlan.takev (v := (.pointer (some (Addr.add a34 (y20.toNat * 2))))) rfl rfl (fun _ => HVal.fieldAddr0 Tryd.runUnderlying38 rfl rfl Tryd.sizeOf9 rfl) ?_
          obtain ⟨x39, c38, h⟩ := h
          refine HPlan.takel (v := (.string x39)) (fun X => cell X (Addr.add a34 (y20.toNat * 2)) = some (.string x39)) rfl rfl (fun _ hX => HVal.load1 Tryd.isAgg9 rfl hX) c38 ?_
          obtain ⟨z40, h⟩ := h
          refine HPlan.takev (v := (.string (y31 ++ x39))) rfl rfl (fun _ => HVal.addS rfl rfl z40) ?_
          obtain ⟨z41, h⟩ := h
          refine HPlan.takev (v := (.string ((y31 ++ x39) ++ S_____))) rfl rfl (fun _ => HVal.addS rfl rfl z41) ?_
          refine HPlan.takev (v := (.pointer (some (Addr.add ⟨H.size, 0, none⟩ 1)))) rfl rfl (fun _ => HVal.fieldAddr' Tryd.runUnderlying27 rfl rfl Tryd.sizeOf25 rfl) ?_
          obtain ⟨x43, c42, h⟩ := h
          refine HPlan.takel (v := (Sl.v x43)) (fun X => cell X (Addr.add ⟨H.size, 0, none⟩ 1) = some (Sl.v x43)) rfl rfl (fun _ hX => HVal.load1 Tryd.isAgg25 rfl hX) c42 ?_
          refine HPlan.takev (v := (.int .i64 y20)) rfl rfl (fun _ => HVal.move' rfl) ?_
          obtain ⟨a44, e45, b46, b47, h⟩ := h
          refine HPlan.takev (v := (.pointer (some (Addr.add a44 (y20.toNat * 2))))) rfl rfl (fun _ => HVal.indexAddr Tryd.runUnderlying25 Tryd.sizeOf38 (Sl.v_some rfl e45) rfl b46 b47) ?_
          refine HPlan.takev (v := (.pointer (some (Addr.add (Addr.add a44 (y20.toNat * 2)) 1)))) rfl rfl (fun _ => HVal.fieldAddr' Tryd.runUnderlying38 rfl rfl Tryd.sizeOf3 rfl) ?_
          obtain ⟨x49, c48, h⟩ := h
          refine HPlan.takel (v := (.int .i64 x49)) (fun X => cell X (Addr.add (Addr.add a44 (y20.toNat * 2)) 1) = some (.int .i64 x49)) rfl rfl (fun _ hX => HVal.load1 Tryd.isAgg3 rfl hX) c48 ?_
          obtain ⟨b50, b51, h⟩ := h
          refine HPlan.takev (v := (.pointer (some (Addr.add ⟨H6.size, 0, none⟩ (x49.toNat * 1))))) rfl rfl (fun _ => HVal.indexAddrA Tryd.runUnderlying49 Tryd.sizeOf9 rfl rfl b50 b51) ?_
          obtain ⟨x53, c52, h⟩ := h
          refine HPlan.takel (v := (.string x53)) (fun X => cell X (Addr.add ⟨H6.size, 0, none⟩ (x49.toNat * 1)) = some (.string x53)) rfl rfl (fun _ hX => HVal.load1 Tryd.isAgg9 rfl hX) c52 ?_
          obtain ⟨z54, h⟩ := h
          refine HPlan.takev (v := (.string (((y31 ++ x39) ++ S_____) ++ x53))) rfl rfl (fun _ => HVal.addS rfl rfl z54) ?_
          refine HPlan.takev (v := (.string (((y31 ++ x39) ++ S_____) ++ x53))) rfl rfl (fun _ => HVal.assign' rfl) ?_
          refine HPlan.done ?_
          refine nb ?_
          refine nt ?_
          refine HW.region ?_
          refine HList.vals (v := (.int .i64 y20)) rfl (HVal.move' rfl) ?_
          refine HList.vals (v := (.int .i64 (IntKind.i64.wrap (y20 + 1)))) rfl (HVal.add rfl rfl) ?_
          refine HList.vals (v := (.int .i64 (IntKind.i64.wrap (y20 + 1)))) rfl (HVal.assign' rfl) ?_
          refine HList.nil ?_
          refine nt ?_
          exact (hX2 _ _ _).1 h _ ⟨rfl, rfl, rfl, rfl, trivial⟩
      · have h := hF hb25
        clear hT hF
        refine HW.exit ?_
        refine te ?_
        refine te ?_
        refine be ?_
        refine nt ?_
        exact ⟨y19, ⟨rfl, trivial⟩, h⟩
    · rintro ρ H_1 ⟨y55, hI, h⟩
      obtain ⟨ρ0, rfl⟩ : ∃ ρ0, ρ = (Env.set ρ0 6 (.string y55)) := ⟨ρ, hI.eq⟩
      clear hI; unfold F51_1 at h
      refine HW.seq ?_
      refine HW.region ?_
      refine HList.vals (v := (.string y55)) rfl (HVal.move' rfl) ?_
      obtain ⟨z56, h⟩ := h
      refine HList.vals (v := (.string (y55 ++ S___))) rfl (HVal.addS rfl rfl z56) ?_
      refine HList.vals (v := (.string (y55 ++ S___))) rfl (HVal.assign' rfl) ?_
      refine HList.vals (v := (.int .i64 0)) rfl (HVal.assign' rfl) ?_
      refine HList.nil ?_
      refine nt ?_
      refine HW.ret ?_
      exact ⟨_, resOf2 rfl Res1.t Res1.t, ⟨(y55 ++ S___), 0, rfl, h⟩⟩

def F37 (H : Hp) (Q : ByteArray → Sl → Hp → Prop) : Prop :=
∀ H1 : Hp, H1 = Array.push H (.cells #[(.string (ByteArray.mk #[])), (Sl.v Sl.nil)] 27) → (
 ∀ H3 : Hp, H3 = Array.push H1 (.cells #[(.string S_price), (.int .i64 1), (.string S_sym), (.int .i64 2), (.string S_live), (.int .i64 3)] 38) → (
 mayw H3 ⟨H.size, 0, none⟩ 2 0 ∧ ∀ H5 : Hp, H5 = sets H3 ⟨H.size, 0, none⟩ [(.string S_Trade), (Sl.v (Sl.mk (some ⟨H1.size, 0, none⟩) 3 3))] 0 → (
 ∃ (x8 : ByteArray) (x9 : Sl), cells H5 ⟨H.size, 0, none⟩ [(.string x8), (Sl.v x9)] 0 ∧ (
 Q x8 x9 H5))))
set_option maxRecDepth 100000 in
set_option maxHeartbeats 4000000 in
theorem walk37 {w0 : World} {H : Hp} {Q : ByteArray → Sl → Hp → Prop} (h : F37 H Q) :
    Good Tryd.prog w0 37 #[] H (fun v H => ∃ (r0 : ByteArray) (r1 : Sl) , v = (.agg #[(.string r0), (Sl.v r1)]) ∧ Q r0 r1 H) := by
  unfold F37 at h
  refine Good.enter' (fn := Tryd.f37) Tryd.func37 rfl rfl rfl ?_
  refine HW.seq ?_
  refine HW.region ?_
  refine HList.ops' rfl (HOp.alloc Tryd.zeroValue27) ?_
  rintro _ H1 ⟨rfl, e2⟩
  replace h := h H1 e2
  refine HList.nil ?_
  refine nt ?_
  refine HW.seq ?_
  refine HW.region ?_
  refine HList.vals (v := (.agg #[(.string S_price), (.int .i64 1)])) rfl (HVal.build' (cs := [(.string S_price), (.int .i64 1)]) Tryd.runUnderlying38 Tryd.zeroValue38 places38 rfl) ?_
  refine HList.vals (v := (.agg #[(.string S_sym), (.int .i64 2)])) rfl (HVal.build' (cs := [(.string S_sym), (.int .i64 2)]) Tryd.runUnderlying38 Tryd.zeroValue38 places38 rfl) ?_
  refine HList.vals (v := (.agg #[(.string S_live), (.int .i64 3)])) rfl (HVal.build' (cs := [(.string S_live), (.int .i64 3)]) Tryd.runUnderlying38 Tryd.zeroValue38 places38 rfl) ?_
  refine HList.ops' rfl (HOp.buildSlice' (zs := [(.string (ByteArray.mk #[])), (.int .i64 0), (.string (ByteArray.mk #[])), (.int .i64 0), (.string (ByteArray.mk #[])), (.int .i64 0)]) (cs := [(.string S_price), (.int .i64 1), (.string S_sym), (.int .i64 2), (.string S_live), (.int .i64 3)]) Tryd.runUnderlying25 Tryd.sizeOf38 Tryd.zeroValue38 (by decide) (by kernel_rfl) (by kernel_rfl) (by decide)) ?_
  rintro _ H3 ⟨rfl, e4⟩
  replace h := h H3 e4
  refine HList.vals (v := (.agg #[(.string S_Trade), (Sl.v (Sl.mk (some ⟨H1.size, 0, none⟩) 3 3))])) rfl (HVal.build' (cs := [(.string S_Trade), (Sl.v (Sl.mk (some ⟨H1.size, 0, none⟩) 3 3))]) Tryd.runUnderlying27 Tryd.zeroValue27 places27 rfl) ?_
  obtain ⟨z7, h⟩ := h
  refine HList.opsn (HOp.storeN' (l := [(.string S_Trade), (Sl.v (Sl.mk (some ⟨H1.size, 0, none⟩) 3 3))]) Tryd.sizeOf27 rfl rfl rfl z7) ?_
  rintro _ H5 e6
  replace h := h H5 e6
  refine HList.nil ?_
  refine nt ?_
  refine HW.ret ?_
  obtain ⟨x8, x9, c10, h⟩ := h
  exact ⟨_, resOf1 rfl (Res1.n [(.string x8), (Sl.v x9)] Tryd.isAgg27 Tryd.sizeOf27 rfl c10), ⟨x8, x9, rfl, h⟩⟩

def F20_1 (Q : Int → Hp → Prop) (y2 : Int) (H_1 : Hp) : Prop :=
Q (Int.tmod y2 (8 : Int)) H_1
def F20 (p0 : Int) (H : Hp) (Q : Int → Hp → Prop) : Prop :=
((decide (p0 < 0)) = true → (F20_1 Q (IntKind.i64.wrap ((-1) - p0)) H)) ∧
 ((decide (p0 < 0)) = false → (F20_1 Q p0 H))
set_option maxRecDepth 100000 in
set_option maxHeartbeats 4000000 in
theorem walk20 {w0 : World} {p0 : Int} {H : Hp} {Q : Int → Hp → Prop} (h : F20 p0 H Q) :
    Good Tryd.prog w0 20 #[(.int .i64 p0)] H (fun v H => ∃ (r0 : Int) , v = (.int .i64 r0) ∧ Q r0 H) := by
  unfold F20 at h
  refine Good.enter' (fn := Tryd.f20) Tryd.func20 rfl rfl rfl ?_
  refine HW.seq ?_
  refine HW.region ?_
  refine HList.vals (v := (.int .i64 0)) rfl (HVal.assign' rfl) ?_
  refine HList.nil ?_
  refine nt ?_
  refine HW.cut (fun ρ H_1 => ∃ (y2 : Int), Env.Is ρ [(0, (.int .i64 y2))] ∧ F20_1 Q y2 H_1) ?_ ?_
  · refine HW.seq ?_
    refine HW.region ?_
    refine HList.vals (v := (.int .i64 p0)) rfl (HVal.move' rfl) ?_
    refine HList.vals (v := (.bool (decide (p0 < 0)))) rfl (HVal.lss rfl rfl) ?_
    refine HList.nil ?_
    refine nt ?_
    obtain ⟨hT, hF⟩ := h
    refine HW.cond (decide (p0 < 0)) rfl (fun hb1 => ?_) (fun hb1 => ?_)
    · have h := hT hb1
      clear hT hF
      refine HW.region ?_
      refine HList.vals (v := (.int .i64 p0)) rfl (HVal.move' rfl) ?_
      refine HList.vals (v := (.int .i64 (IntKind.i64.wrap ((-1) - p0)))) rfl (HVal.sub rfl rfl) ?_
      refine HList.vals (v := (.int .i64 (IntKind.i64.wrap ((-1) - p0)))) rfl (HVal.assign' rfl) ?_
      refine HList.nil ?_
      refine nt ?_
      exact ⟨(IntKind.i64.wrap ((-1) - p0)), ⟨rfl, trivial⟩, h⟩
    · have h := hF hb1
      clear hT hF
      refine HW.skip ?_
      refine nt ?_
      exact ⟨p0, ⟨rfl, trivial⟩, h⟩
  · rintro ρ H_1 ⟨y2, hI, h⟩
    obtain ⟨ρ0, rfl⟩ : ∃ ρ0, ρ = (Env.set ρ0 0 (.int .i64 y2)) := ⟨ρ, hI.eq⟩
    clear hI; unfold F20_1 at h
    refine HW.seq ?_
    refine HW.region ?_
    refine HList.vals (v := (.int .i64 y2)) rfl (HVal.move' rfl) ?_
    refine HList.vals (v := (.int .i64 (Int.tmod y2 (8 : Int)))) rfl (HVal.rem rfl rfl (by decide)) ?_
    refine HList.vals (v := (.int .i64 (Int.tmod y2 (8 : Int)))) rfl (HVal.assign' rfl) ?_
    refine HList.nil ?_
    refine nt ?_
    refine HW.ret ?_
    exact ⟨_, resOf1 rfl Res1.t, ⟨(Int.tmod y2 (8 : Int)), rfl, h⟩⟩

def F78 (p0_0 : ByteArray) (p0_1 : Int) (p1 : Addr) (H : Hp) (Q : Bool → Hp → Prop) : Prop :=
∀ H1 : Hp, H1 = Array.push H (.cells #[(.string p0_0), (.int .i64 p0_1)] 38) → (
 ∃ x4 : ByteArray, cell H1 ⟨H.size, 0, none⟩ = some (.string x4) ∧ (
 ∃ x6 : ByteArray, cell H1 p1 = some (.string x6) ∧ (
 Q (seq x4 x6) H1)))
set_option maxRecDepth 100000 in
set_option maxHeartbeats 4000000 in
theorem walk78 {w0 : World} {p0_0 : ByteArray} {p0_1 : Int} {p1 : Addr} {H : Hp} {Q : Bool → Hp → Prop} (h : F78 p0_0 p0_1 p1 H Q) :
    Good Tryd.prog w0 78 #[(.agg #[(.string p0_0), (.int .i64 p0_1)]), (.pointer (some p1))] H (fun v H => ∃ (r0 : Bool) , v = (.bool r0) ∧ Q r0 H) := by
  unfold F78 at h
  refine Good.enter' (fn := Tryd.f78) Tryd.func78 rfl rfl rfl ?_
  refine HW.seq ?_
  refine HW.region ?_
  refine HList.ops' rfl (HOp.box (v := (.agg #[(.string p0_0), (.int .i64 p0_1)])) rfl) ?_
  rintro _ H1 ⟨rfl, e2⟩
  replace h := h H1 e2
  refine HList.vals (v := (.bool false)) rfl (HVal.assign' rfl) ?_
  refine HList.nil ?_
  refine nt ?_
  refine HW.seq ?_
  refine HW.region ?_
  refine HList.vals (v := (.pointer (some ⟨H.size, 0, none⟩))) rfl (HVal.fieldAddr0 Tryd.runUnderlying38 rfl rfl Tryd.sizeOf9 rfl) ?_
  obtain ⟨x4, c3, h⟩ := h
  refine HList.vals (v := (.string x4)) rfl (HVal.load1 Tryd.isAgg9 rfl c3) ?_
  obtain ⟨x6, c5, h⟩ := h
  refine HList.vals (v := (.string x6)) rfl (HVal.load1 Tryd.isAgg9 rfl c5) ?_
  refine HList.vals (v := (.bool (seq x4 x6))) rfl (HVal.eqlS rfl rfl) ?_
  refine HList.vals (v := (.bool (seq x4 x6))) rfl (HVal.assign' rfl) ?_
  refine HList.nil ?_
  refine nt ?_
  refine HW.ret ?_
  exact ⟨_, resOf1 rfl Res1.t, ⟨(seq x4 x6), rfl, h⟩⟩

def F94_78_L1b (Q : Int → Hp → Prop) (X1 : Int → Hp → Prop) (y2 : Sl) (y3 : Addr) (y4 : Int) (y1 : Int) (H_1 : Hp) : Prop :=
((decide (y1 < y4)) = true → (∃ a6 : Addr, (y2).b = some a6 ∧ (0 : Int) ≤ y1 ∧ y1 < ((y2).n : Int) ∧ (
 ∃ (x11 : ByteArray) (x12 : Int), cells H_1 (Addr.add a6 (y1.toNat * 2)) [(.string x11), (.int .i64 x12)] 0 ∧ (
 F78 x11 x12 y3 H_1 (fun (r15 : Bool) (H13 : Hp) => 
 (r15 = true → (Q y1 H13)) ∧
 (r15 = false → (X1 (IntKind.i64.wrap (y1 + 1)) H13))))))) ∧
 ((decide (y1 < y4)) = false → (Q (-1) H_1))
def F94_78_L1 (Q : Int → Hp → Prop) (y2 : Sl) (y3 : Addr) (y4 : Int) (y1 : Int) (H_1 : Hp) : Prop :=
  ∀ X1 : Int → Hp → Prop, (∀ (y1 : Int) (H_1 : Hp), F94_78_L1b Q X1 y2 y3 y4 y1 H_1 → X1 y1 H_1) → X1 y1 H_1
def F94_78 (p0 : Sl) (p1 : Addr) (H : Hp) (Q : Int → Hp → Prop) : Prop :=
F94_78_L1 Q p0 p1 ((p0).n : Int) 0 H
set_option maxRecDepth 100000 in
set_option maxHeartbeats 4000000 in
theorem walk94_78 {w0 : World} {p0 : Sl} {p1 : Addr} {H : Hp} {Q : Int → Hp → Prop} (h : F94_78 p0 p1 H Q) :
    Good Tryd.prog w0 94 #[(Sl.v p0), (.func (.func 78) #[] #[(.pointer (some p1))])] H (fun v H => ∃ (r0 : Int) , v = (.int .i64 r0) ∧ Q r0 H) := by
  unfold F94_78 at h
  refine Good.enter' (fn := Tryd.f94) Tryd.func94 rfl rfl rfl ?_
  refine HW.seq ?_
  refine HW.region ?_
  refine HList.vals (v := (.int .i64 0)) rfl (HVal.assign' rfl) ?_
  refine HList.nil ?_
  refine nt ?_
  refine HW.seq ?_
  refine HW.seq ?_
  refine HW.region ?_
  refine HList.vals (v := (Sl.v p0)) rfl (HVal.move' rfl) ?_
  refine HList.vals (v := (.int .i64 ((p0).n : Int))) rfl (HVal.len Tryd.runUnderlying25 rfl) ?_
  refine HList.vals (v := (.int .i64 0)) rfl (HVal.move' rfl) ?_
  refine HList.nil ?_
  refine nt ?_
  refine HW.block ?_
  refine HW.loop' (fun L1 hL1 => ?_)
  obtain ⟨X1, hX1⟩ : ∃ X1 : Int → Hp → Prop, ∀ (y1 : Int) (H_1 : Hp), X1 y1 H_1 ↔ ∀ ρ, Env.Is ρ [(0, (Sl.v p0)), (1, (.func (.func 78) #[] #[(.pointer (some p1))])), (7, (.int .i64 ((p0).n : Int))), (8, (.int .i64 y1))] → L1 ρ H_1 := ⟨_, fun _ _ => Iff.rfl⟩
  refine (hX1 _ _).1 (h X1 ?_) _ ?_
  rotate_left
  · exact ⟨rfl, rfl, rfl, rfl, trivial⟩
  clear h
  intro y1 H_1 h
  refine (hX1 _ _).2 fun ρ hI => ?_
  obtain ⟨ρ0, rfl⟩ : ∃ ρ0, ρ = (Env.set (Env.set (Env.set (Env.set ρ0 8 (.int .i64 y1)) 7 (.int .i64 ((p0).n : Int))) 1 (.func (.func 78) #[] #[(.pointer (some p1))])) 0 (Sl.v p0)) := ⟨ρ, hI.eq⟩
  clear hI; unfold F94_78_L1b at h; refine hL1 _ _ ?_
  refine HW.seq ?_
  refine HW.region ?_
  refine HList.vals (v := (.bool (decide (y1 < ((p0).n : Int))))) rfl (HVal.lss rfl rfl) ?_
  refine HList.nil ?_
  refine nt ?_
  refine HW.seq ?_
  obtain ⟨hT, hF⟩ := h
  refine HW.cond (decide (y1 < ((p0).n : Int))) rfl (fun hb5 => ?_) (fun hb5 => ?_)
  · have h := hT hb5
    clear hT hF
    refine HW.skip ?_
    refine nt ?_
    refine HW.seq ?_
    refine HW.block ?_
    refine HW.seq ?_
    refine HW.region ?_
    refine HList.vals (v := (.int .i64 y1)) rfl (HVal.move' rfl) ?_
    refine HList.vals (v := (.int .i64 y1)) rfl (HVal.assign' rfl) ?_
    refine HList.nil ?_
    refine nt ?_
    refine HW.seq ?_
    refine HW.region ?_
    refine HList.vals (v := (.func (.func 78) #[] #[(.pointer (some p1))])) rfl (HVal.move' rfl) ?_
    refine HList.vals (v := (Sl.v p0)) rfl (HVal.move' rfl) ?_
    refine HList.vals (v := (.int .i64 y1)) rfl (HVal.move' rfl) ?_
    obtain ⟨a6, e7, b8, b9, h⟩ := h
    refine HList.vals (v := (.pointer (some (Addr.add a6 (y1.toNat * 2))))) rfl (HVal.indexAddr Tryd.runUnderlying25 Tryd.sizeOf38 (Sl.v_some rfl e7) rfl b8 b9) ?_
    obtain ⟨x11, x12, c10, h⟩ := h
    refine HList.vals (v := (.agg #[(.string x11), (.int .i64 x12)])) rfl (HVal.loadN [(.string x11), (.int .i64 x12)] Tryd.isAgg38 Tryd.sizeOf38 rfl c10) ?_
    refine HList.ops' rfl (HOp.call' 78 [(.agg #[(.string x11), (.int .i64 x12)]), (.pointer (some p1))] (cap := [(.pointer (some p1))]) rfl rfl Tryd.call78 (walk78 h)) ?_
    rintro _ H13 ⟨r15, rfl, h⟩
    refine HList.nil ?_
    refine nt ?_
    obtain ⟨hT, hF⟩ := h
    refine HW.cond r15 rfl (fun hb16 => ?_) (fun hb16 => ?_)
    · have h := hT hb16
      clear hT hF
      refine HW.seq ?_
      refine HW.region ?_
      refine HList.vals (v := (.int .i64 y1)) rfl (HVal.move' rfl) ?_
      refine HList.vals (v := (.int .i64 y1)) rfl (HVal.assign' rfl) ?_
      refine HList.nil ?_
      refine nt ?_
      refine HW.ret ?_
      refine br ?_
      refine tr ?_
      refine tr ?_
      refine br ?_
      refine tr ?_
      exact ⟨_, resOf1 rfl Res1.t, ⟨y1, rfl, h⟩⟩
    · have h := hF hb16
      clear hT hF
      refine HW.skip ?_
      refine nb ?_
      refine nt ?_
      refine HW.region ?_
      refine HList.vals (v := (.int .i64 (IntKind.i64.wrap (y1 + 1)))) rfl (HVal.add rfl rfl) ?_
      refine HList.vals (v := (.int .i64 (IntKind.i64.wrap (y1 + 1)))) rfl (HVal.move' rfl) ?_
      refine HList.nil ?_
      refine nt ?_
      exact (hX1 _ _).1 h _ ⟨rfl, rfl, rfl, rfl, trivial⟩
  · have h := hF hb5
    clear hT hF
    refine HW.exit ?_
    refine te ?_
    refine te ?_
    refine be ?_
    refine nt ?_
    refine HW.seq ?_
    refine HW.region ?_
    refine HList.vals (v := (.int .i64 (-1))) rfl (HVal.assign' rfl) ?_
    refine HList.nil ?_
    refine nt ?_
    refine HW.ret ?_
    exact ⟨_, resOf1 rfl Res1.t, ⟨(-1), rfl, h⟩⟩

def F77_78 (p0 : Sl) (p1 : Addr) (H : Hp) (Q : Bool → Hp → Prop) : Prop :=
F94_78 p0 p1 H (fun (r3 : Int) (H1 : Hp) => 
 Q (decide ((0 : Int) ≤ r3)) H1)
set_option maxRecDepth 100000 in
set_option maxHeartbeats 4000000 in
theorem walk77_78 {w0 : World} {p0 : Sl} {p1 : Addr} {H : Hp} {Q : Bool → Hp → Prop} (h : F77_78 p0 p1 H Q) :
    Good Tryd.prog w0 77 #[(Sl.v p0), (.func (.func 78) #[] #[(.pointer (some p1))])] H (fun v H => ∃ (r0 : Bool) , v = (.bool r0) ∧ Q r0 H) := by
  unfold F77_78 at h
  refine Good.enter' (fn := Tryd.f77) Tryd.func77 rfl rfl rfl ?_
  refine HW.seq ?_
  refine HW.region ?_
  refine HList.vals (v := (.bool false)) rfl (HVal.assign' rfl) ?_
  refine HList.nil ?_
  refine nt ?_
  refine HW.seq ?_
  refine HW.region ?_
  refine HList.vals (v := (Sl.v p0)) rfl (HVal.move' rfl) ?_
  refine HList.vals (v := (.func (.func 78) #[] #[(.pointer (some p1))])) rfl (HVal.move' rfl) ?_
  refine HList.ops' rfl (HOp.call' 94 [(Sl.v p0), (.func (.func 78) #[] #[(.pointer (some p1))])] (cap := []) rfl rfl Tryd.call94 (walk94_78 h)) ?_
  rintro _ H1 ⟨r3, rfl, h⟩
  refine HList.vals (v := (.bool (decide ((0 : Int) ≤ r3)))) rfl (HVal.geq rfl rfl) ?_
  refine HList.vals (v := (.bool (decide ((0 : Int) ≤ r3)))) rfl (HVal.assign' rfl) ?_
  refine HList.nil ?_
  refine nt ?_
  refine HW.ret ?_
  exact ⟨_, resOf1 rfl Res1.t, ⟨(decide ((0 : Int) ≤ r3)), rfl, h⟩⟩

def F54 (p0 : Sl) (p1 : ByteArray) (H : Hp) (Q : Bool → Hp → Prop) : Prop :=
∀ H1 : Hp, H1 = Array.push H (.cells #[(.string p1)] 9) → (
 F77_78 p0 ⟨H.size, 0, none⟩ H1 (fun (r5 : Bool) (H3 : Hp) => 
 Q r5 H3))
set_option maxRecDepth 100000 in
set_option maxHeartbeats 4000000 in
theorem walk54 {w0 : World} {p0 : Sl} {p1 : ByteArray} {H : Hp} {Q : Bool → Hp → Prop} (h : F54 p0 p1 H Q) :
    Good Tryd.prog w0 54 #[(Sl.v p0), (.string p1)] H (fun v H => ∃ (r0 : Bool) , v = (.bool r0) ∧ Q r0 H) := by
  unfold F54 at h
  refine Good.enter' (fn := Tryd.f54) Tryd.func54 rfl rfl rfl ?_
  refine HW.seq ?_
  refine HW.region ?_
  refine HList.ops' rfl (HOp.box (v := (.string p1)) rfl) ?_
  rintro _ H1 ⟨rfl, e2⟩
  replace h := h H1 e2
  refine HList.vals (v := (.bool false)) rfl (HVal.assign' rfl) ?_
  refine HList.nil ?_
  refine nt ?_
  refine HW.seq ?_
  refine HW.region ?_
  refine HList.vals (v := (Sl.v p0)) rfl (HVal.move' rfl) ?_
  refine HList.vals (v := (.func (.func 78) #[] #[(.pointer (some ⟨H.size, 0, none⟩))])) rfl (HVal.makeFuncL rfl) ?_
  refine HList.ops' rfl (HOp.call' 77 [(Sl.v p0), (.func (.func 78) #[] #[(.pointer (some ⟨H.size, 0, none⟩))])] (cap := []) rfl rfl Tryd.call77 (walk77_78 h)) ?_
  rintro _ H3 ⟨r5, rfl, h⟩
  refine HList.vals (v := (.bool r5)) rfl (HVal.assign' rfl) ?_
  refine HList.nil ?_
  refine nt ?_
  refine HW.ret ?_
  exact ⟨_, resOf1 rfl Res1.t, ⟨r5, rfl, h⟩⟩

def F24_L1b (Q : Int → Hp → Prop) (X1 : Int → Hp → Prop) (y15 : Addr) (y16 : Sl) (y17 : Int) (y14 : Int) (H_1 : Hp) : Prop :=
((decide (y14 < y17)) = true → (∃ a19 : Addr, (y16).b = some a19 ∧ (0 : Int) ≤ y14 ∧ y14 < ((y16).n : Int) ∧ (
 ∃ (x24 : ByteArray) (x25 : Int), cells H_1 (Addr.add a19 (y14.toNat * 2)) [(.string x24), (.int .i64 x25)] 0 ∧ (
 ∀ H26 : Hp, H26 = Array.push H_1 (.cells #[(.string (ByteArray.mk #[])), (.int .i64 0)] 38) → (
 mayw H26 ⟨H_1.size, 0, none⟩ 2 0 ∧ ∀ H28 : Hp, H28 = sets H26 ⟨H_1.size, 0, none⟩ [(.string x24), (.int .i64 x25)] 0 → (
 ∃ x32 : ByteArray, cell H28 ⟨H_1.size, 0, none⟩ = some (.string x32) ∧ (
 F52 x32 H28 (fun (r35 : Bool) (H33 : Hp) => 
 ((!r35) = true → (Q 20 H33)) ∧
 ((!r35) = false → (∃ x38 : Int, cell H33 (Addr.add ⟨H_1.size, 0, none⟩ 1) = some (.int .i64 x38) ∧ (
 F53 x38 H33 (fun (r41 : Bool) (H39 : Hp) => 
 ((!r41) = true → (Q 24 H39)) ∧
 ((!r41) = false → (∃ x44 : Sl, cell H39 (Addr.add y15 1) = some (Sl.v x44) ∧ (
 (0 : Int) ≤ y14 ∧ 0 ≤ y14.toNat ∧ y14.toNat ≤ (x44).c ∧ (x44).c ≤ (x44).c ∧ (
 ∃ x50 : ByteArray, cell H39 ⟨H_1.size, 0, none⟩ = some (.string x50) ∧ (
 F54 (Sl.cut x44 2 0 y14.toNat ((x44).c)) x50 H39 (fun (r53 : Bool) (H51 : Hp) => 
 cell H51 (Addr.add y15 1) = some (Sl.v x44) ∧ (
 (r53 = true → (Q 5 H51)) ∧
 (r53 = false → (X1 (IntKind.i64.wrap (y14 + 1)) H51))))))))))))))))))))) ∧
 ((decide (y14 < y17)) = false → (Q 0 H_1))
def F24_L1 (Q : Int → Hp → Prop) (y15 : Addr) (y16 : Sl) (y17 : Int) (y14 : Int) (H_1 : Hp) : Prop :=
  ∀ X1 : Int → Hp → Prop, (∀ (y14 : Int) (H_1 : Hp), F24_L1b Q X1 y15 y16 y17 y14 H_1 → X1 y14 H_1) → X1 y14 H_1
def F24 (p0_0 : ByteArray) (p0_1 : Sl) (H : Hp) (Q : Int → Hp → Prop) : Prop :=
∀ H1 : Hp, H1 = Array.push H (.cells #[(.string p0_0), (Sl.v p0_1)] 27) → (
 ∃ x4 : ByteArray, cell H1 ⟨H.size, 0, none⟩ = some (.string x4) ∧ (
 F17 x4 H1 (fun (r7 : Bool) (H5 : Hp) => 
 ((!r7) = true → (Q 20 H5)) ∧
 ((!r7) = false → (∃ x10 : Sl, cell H5 (Addr.add ⟨H.size, 0, none⟩ 1) = some (Sl.v x10) ∧ (
 ((decide ((16 : Int) < ((x10).n : Int))) = true → (Q 2 H5)) ∧
 ((decide ((16 : Int) < ((x10).n : Int))) = false → (∃ x13 : Sl, cell H5 (Addr.add ⟨H.size, 0, none⟩ 1) = some (Sl.v x13) ∧ (
 F24_L1 Q ⟨H.size, 0, none⟩ x13 ((x13).n : Int) 0 H5)))))))))
set_option maxRecDepth 100000 in
set_option maxHeartbeats 4000000 in
theorem walk24 {w0 : World} {p0_0 : ByteArray} {p0_1 : Sl} {H : Hp} {Q : Int → Hp → Prop} (h : F24 p0_0 p0_1 H Q) :
    Good Tryd.prog w0 24 #[(.agg #[(.string p0_0), (Sl.v p0_1)])] H (fun v H => ∃ (r0 : Int) , v = (.int .i64 r0) ∧ Q r0 H) := by
  unfold F24 at h
  refine Good.enter' (fn := Tryd.f24) Tryd.func24 rfl rfl rfl ?_
  refine HW.seq ?_
  refine HW.region ?_
  refine HList.ops' rfl (HOp.box (v := (.agg #[(.string p0_0), (Sl.v p0_1)])) rfl) ?_
  rintro _ H1 ⟨rfl, e2⟩
  replace h := h H1 e2
  refine HList.vals (v := (.int .i64 0)) rfl (HVal.assign' rfl) ?_
  refine HList.nil ?_
  refine nt ?_
  refine HW.seq ?_
  refine HW.seq ?_
  refine HW.region ?_
  refine HList.vals (v := (.pointer (some ⟨H.size, 0, none⟩))) rfl (HVal.fieldAddr0 Tryd.runUnderlying27 rfl rfl Tryd.sizeOf9 rfl) ?_
  obtain ⟨x4, c3, h⟩ := h
  refine HList.vals (v := (.string x4)) rfl (HVal.load1 Tryd.isAgg9 rfl c3) ?_
  refine HList.ops' rfl (HOp.call' 17 [(.string x4)] (cap := []) rfl rfl Tryd.call17 (walk17 h)) ?_
  rintro _ H5 ⟨r7, rfl, h⟩
  refine HList.vals (v := (.bool (!r7))) rfl (HVal.not rfl) ?_
  refine HList.nil ?_
  refine nt ?_
  obtain ⟨hT, hF⟩ := h
  refine HW.cond (!r7) rfl (fun hb8 => ?_) (fun hb8 => ?_)
  · have h := hT hb8
    clear hT hF
    refine HW.seq ?_
    refine HW.region ?_
    refine HList.vals (v := (.int .i64 20)) rfl (HVal.assign' rfl) ?_
    refine HList.nil ?_
    refine nt ?_
    refine HW.ret ?_
    refine tr ?_
    exact ⟨_, resOf1 rfl Res1.t, ⟨20, rfl, h⟩⟩
  · have h := hF hb8
    clear hT hF
    refine HW.skip ?_
    refine nt ?_
    refine HW.seq ?_
    refine HW.seq ?_
    refine HW.region ?_
    refine HList.vals (v := (.pointer (some (Addr.add ⟨H.size, 0, none⟩ 1)))) rfl (HVal.fieldAddr' Tryd.runUnderlying27 rfl rfl Tryd.sizeOf25 rfl) ?_
    obtain ⟨x10, c9, h⟩ := h
    refine HList.vals (v := (Sl.v x10)) rfl (HVal.load1 Tryd.isAgg25 rfl c9) ?_
    refine HList.vals (v := (.int .i64 ((x10).n : Int))) rfl (HVal.len Tryd.runUnderlying25 rfl) ?_
    refine HList.vals (v := (.bool (decide ((16 : Int) < ((x10).n : Int))))) rfl (HVal.gtr rfl rfl) ?_
    refine HList.nil ?_
    refine nt ?_
    obtain ⟨hT, hF⟩ := h
    refine HW.cond (decide ((16 : Int) < ((x10).n : Int))) rfl (fun hb11 => ?_) (fun hb11 => ?_)
    · have h := hT hb11
      clear hT hF
      refine HW.seq ?_
      refine HW.region ?_
      refine HList.vals (v := (.int .i64 2)) rfl (HVal.assign' rfl) ?_
      refine HList.nil ?_
      refine nt ?_
      refine HW.ret ?_
      refine tr ?_
      exact ⟨_, resOf1 rfl Res1.t, ⟨2, rfl, h⟩⟩
    · have h := hF hb11
      clear hT hF
      refine HW.skip ?_
      refine nt ?_
      refine HW.seq ?_
      refine HW.seq ?_
      refine HW.region ?_
      refine HList.vals (v := (.pointer (some (Addr.add ⟨H.size, 0, none⟩ 1)))) rfl (HVal.fieldAddr' Tryd.runUnderlying27 rfl rfl Tryd.sizeOf25 rfl) ?_
      obtain ⟨x13, c12, h⟩ := h
      refine HList.vals (v := (Sl.v x13)) rfl (HVal.load1 Tryd.isAgg25 rfl c12) ?_
      refine HList.vals (v := (.int .i64 ((x13).n : Int))) rfl (HVal.len Tryd.runUnderlying25 rfl) ?_
      refine HList.vals (v := (.int .i64 0)) rfl (HVal.move' rfl) ?_
      refine HList.nil ?_
      refine nt ?_
      refine HW.block ?_
      refine HW.loop' (fun L1 hL1 => ?_)
      obtain ⟨X1, hX1⟩ : ∃ X1 : Int → Hp → Prop, ∀ (y14 : Int) (H_1 : Hp), X1 y14 H_1 ↔ ∀ ρ, Env.Is ρ [(1, (.pointer (some ⟨H.size, 0, none⟩))), (14, (Sl.v x13)), (15, (.int .i64 ((x13).n : Int))), (16, (.int .i64 y14))] → L1 ρ H_1 := ⟨_, fun _ _ => Iff.rfl⟩
      refine (hX1 _ _).1 (h X1 ?_) _ ?_
      rotate_left
      · exact ⟨rfl, rfl, rfl, rfl, trivial⟩
      clear h
      intro y14 H_1 h
      refine (hX1 _ _).2 fun ρ hI => ?_
      obtain ⟨ρ0, rfl⟩ : ∃ ρ0, ρ = (Env.set (Env.set (Env.set (Env.set ρ0 16 (.int .i64 y14)) 15 (.int .i64 ((x13).n : Int))) 14 (Sl.v x13)) 1 (.pointer (some ⟨H.size, 0, none⟩))) := ⟨ρ, hI.eq⟩
      clear hI; unfold F24_L1b at h; refine hL1 _ _ ?_
      refine HW.seq ?_
      refine HW.region ?_
      refine HList.vals (v := (.bool (decide (y14 < ((x13).n : Int))))) rfl (HVal.lss rfl rfl) ?_
      refine HList.nil ?_
      refine nt ?_
      refine HW.seq ?_
      obtain ⟨hT, hF⟩ := h
      refine HW.cond (decide (y14 < ((x13).n : Int))) rfl (fun hb18 => ?_) (fun hb18 => ?_)
      · have h := hT hb18
        clear hT hF
        refine HW.skip ?_
        refine nt ?_
        refine HW.seq ?_
        refine HW.block ?_
        refine HW.seq ?_
        refine HW.region ?_
        refine HList.vals (v := (.int .i64 y14)) rfl (HVal.move' rfl) ?_
        obtain ⟨a19, e20, b21, b22, h⟩ := h
        refine HList.vals (v := (.pointer (some (Addr.add a19 (y14.toNat * 2))))) rfl (HVal.indexAddr Tryd.runUnderlying25 Tryd.sizeOf38 (Sl.v_some rfl e20) rfl b21 b22) ?_
        obtain ⟨x24, x25, c23, h⟩ := h
        refine HList.vals (v := (.agg #[(.string x24), (.int .i64 x25)])) rfl (HVal.loadN [(.string x24), (.int .i64 x25)] Tryd.isAgg38 Tryd.sizeOf38 rfl c23) ?_
        refine HList.ops' rfl (HOp.alloc Tryd.zeroValue38) ?_
        rintro _ H26 ⟨rfl, e27⟩
        replace h := h H26 e27
        refine HList.vals (v := (.int .i64 y14)) rfl (HVal.assign' rfl) ?_
        obtain ⟨z30, h⟩ := h
        refine HList.opsn (HOp.storeN' (l := [(.string x24), (.int .i64 x25)]) Tryd.sizeOf38 rfl rfl rfl z30) ?_
        rintro _ H28 e29
        replace h := h H28 e29
        refine HList.nil ?_
        refine nt ?_
        refine HW.block ?_
        refine HW.seq ?_
        refine HW.region ?_
        refine HList.vals (v := (.pointer (some ⟨H_1.size, 0, none⟩))) rfl (HVal.fieldAddr0 Tryd.runUnderlying38 rfl rfl Tryd.sizeOf9 rfl) ?_
        obtain ⟨x32, c31, h⟩ := h
        refine HList.vals (v := (.string x32)) rfl (HVal.load1 Tryd.isAgg9 rfl c31) ?_
        refine HList.ops' rfl (HOp.call' 52 [(.string x32)] (cap := []) rfl rfl Tryd.call52 (walk52 h)) ?_
        rintro _ H33 ⟨r35, rfl, h⟩
        refine HList.vals (v := (.bool (!r35))) rfl (HVal.not rfl) ?_
        refine HList.vals (v := (.bool (!r35))) rfl (HVal.assign' rfl) ?_
        refine HList.nil ?_
        refine nt ?_
        obtain ⟨hT, hF⟩ := h
        refine HW.cond (!r35) rfl (fun hb36 => ?_) (fun hb36 => ?_)
        · have h := hT hb36
          clear hT hF
          refine HW.seq ?_
          refine HW.region ?_
          refine HList.vals (v := (.int .i64 20)) rfl (HVal.assign' rfl) ?_
          refine HList.nil ?_
          refine nt ?_
          refine HW.ret ?_
          refine br ?_
          refine br ?_
          refine tr ?_
          refine tr ?_
          refine br ?_
          refine tr ?_
          exact ⟨_, resOf1 rfl Res1.t, ⟨20, rfl, h⟩⟩
        · have h := hF hb36
          clear hT hF
          refine HW.seq ?_
          refine HW.region ?_
          refine HList.vals (v := (.pointer (some (Addr.add ⟨H_1.size, 0, none⟩ 1)))) rfl (HVal.fieldAddr' Tryd.runUnderlying38 rfl rfl Tryd.sizeOf3 rfl) ?_
          obtain ⟨x38, c37, h⟩ := h
          refine HList.vals (v := (.int .i64 x38)) rfl (HVal.load1 Tryd.isAgg3 rfl c37) ?_
          refine HList.ops' rfl (HOp.call' 53 [(.int .i64 x38)] (cap := []) rfl rfl Tryd.call53 (walk53 h)) ?_
          rintro _ H39 ⟨r41, rfl, h⟩
          refine HList.vals (v := (.bool (!r41))) rfl (HVal.not rfl) ?_
          refine HList.vals (v := (.bool (!r41))) rfl (HVal.assign' rfl) ?_
          refine HList.nil ?_
          refine nt ?_
          obtain ⟨hT, hF⟩ := h
          refine HW.cond (!r41) rfl (fun hb42 => ?_) (fun hb42 => ?_)
          · have h := hT hb42
            clear hT hF
            refine HW.seq ?_
            refine HW.region ?_
            refine HList.vals (v := (.int .i64 24)) rfl (HVal.assign' rfl) ?_
            refine HList.nil ?_
            refine nt ?_
            refine HW.ret ?_
            refine br ?_
            refine br ?_
            refine tr ?_
            refine tr ?_
            refine br ?_
            refine tr ?_
            exact ⟨_, resOf1 rfl Res1.t, ⟨24, rfl, h⟩⟩
          · have h := hF hb42
            clear hT hF
            refine HW.seq ?_
            refine HW.draw mixed [(0, some []), (1, some []), (2, some []), (3, some []), (4, some []), (5, some [6]), (6, none), (7, some [])] rfl (by kernel_rfl) (by kernel_rfl) ?_
            refine HPlan.takev (v := (.pointer (some (Addr.add ⟨H.size, 0, none⟩ 1)))) rfl rfl (fun _ => HVal.fieldAddr' Tryd.runUnderlying27 rfl rfl Tryd.sizeOf25 rfl) ?_
            obtain ⟨x44, c43, h⟩ := h
            refine HPlan.takel (v := (Sl.v x44)) (fun X => cell X (Addr.add ⟨H.size, 0, none⟩ 1) = some (Sl.v x44)) rfl rfl (fun _ hX => HVal.load1 Tryd.isAgg25 rfl hX) c43 ?_
            refine HPlan.takev (v := (.int .i64 y14)) rfl rfl (fun _ => HVal.move' rfl) ?_
            obtain ⟨z45, z46, z47, z48, h⟩ := h
            refine HPlan.takev (v := (Sl.v (Sl.cut x44 2 0 y14.toNat ((x44).c)))) rfl rfl (fun _ => HVal.slice _ _ _ Tryd.runUnderlying25 Tryd.sizeOf38 rfl rfl ⟨_, _, rfl, z45, rfl⟩ rfl (by decide) z46 z47 z48) ?_
            refine HPlan.takev (v := (.pointer (some ⟨H_1.size, 0, none⟩))) rfl rfl (fun _ => HVal.fieldAddr0 Tryd.runUnderlying38 rfl rfl Tryd.sizeOf9 rfl) ?_
            obtain ⟨x50, c49, h⟩ := h
            refine HPlan.takel (v := (.string x50)) (fun X => cell X ⟨H_1.size, 0, none⟩ = some (.string x50)) rfl rfl (fun _ hX => HVal.load1 Tryd.isAgg9 rfl hX) c49 ?_
            refine HPlan.ops' rfl rfl (HOp.call' 54 [(Sl.v (Sl.cut x44 2 0 y14.toNat ((x44).c))), (.string x50)] (cap := []) rfl rfl Tryd.call54 (walk54 h)) ?_
            rintro _ H51 ⟨r53, rfl, h⟩
            obtain ⟨s54, h⟩ := h
            refine ⟨SC_of ⟨fun e => absurd e (by decide), fun _ => s54, trivial⟩, ?_⟩
            refine HPlan.takev (v := (.bool r53)) rfl rfl (fun _ => HVal.assign' rfl) ?_
            refine HPlan.done ?_
            refine nt ?_
            obtain ⟨hT, hF⟩ := h
            refine HW.cond r53 rfl (fun hb55 => ?_) (fun hb55 => ?_)
            · have h := hT hb55
              clear hT hF
              refine HW.seq ?_
              refine HW.region ?_
              refine HList.vals (v := (.int .i64 5)) rfl (HVal.assign' rfl) ?_
              refine HList.nil ?_
              refine nt ?_
              refine HW.ret ?_
              refine br ?_
              refine br ?_
              refine tr ?_
              refine tr ?_
              refine br ?_
              refine tr ?_
              exact ⟨_, resOf1 rfl Res1.t, ⟨5, rfl, h⟩⟩
            · have h := hF hb55
              clear hT hF
              refine HW.skip ?_
              refine nb ?_
              refine nb ?_
              refine nt ?_
              refine HW.region ?_
              refine HList.vals (v := (.int .i64 (IntKind.i64.wrap (y14 + 1)))) rfl (HVal.add rfl rfl) ?_
              refine HList.vals (v := (.int .i64 (IntKind.i64.wrap (y14 + 1)))) rfl (HVal.move' rfl) ?_
              refine HList.nil ?_
              refine nt ?_
              exact (hX1 _ _).1 h _ ⟨rfl, rfl, rfl, rfl, trivial⟩
      · have h := hF hb18
        clear hT hF
        refine HW.exit ?_
        refine te ?_
        refine te ?_
        refine be ?_
        refine nt ?_
        refine HW.seq ?_
        refine HW.region ?_
        refine HList.vals (v := (.int .i64 0)) rfl (HVal.assign' rfl) ?_
        refine HList.nil ?_
        refine nt ?_
        refine HW.ret ?_
        exact ⟨_, resOf1 rfl Res1.t, ⟨0, rfl, h⟩⟩

def F9 (p0 : (Option Addr)) (p1_0 : ByteArray) (p1_1 : Sl) (H : Hp) (Q : Int → Hp → Prop) : Prop :=
∀ H1 : Hp, H1 = Array.push H (.cells #[(.string p1_0), (Sl.v p1_1)] 27) → (
 ∃ (x4 : ByteArray) (x5 : Sl), cells H1 ⟨H.size, 0, none⟩ [(.string x4), (Sl.v x5)] 0 ∧ (
 F24 x4 x5 H1 (fun (r8 : Int) (H6 : Hp) => 
 ((decide (r8 ≠ 0)) = true → (Q r8 H6)) ∧
 ((decide (r8 ≠ 0)) = false → (∃ a10 : Addr, p0 = some a10 ∧ (
 ∃ x13 : (Option Nat), cell H6 a10 = some (.map x13) ∧ (
 ∃ x15 : ByteArray, cell H6 ⟨H.size, 0, none⟩ = some (.string x15) ∧ (
 ∃ (L16 : ML ByteArray (ByteArray × Sl)) (c17 : Nat), MapK mk9 mv27 Always H6 x13 L16 c17 x15 ∧ (
 ∀ H19 : Hp, H19 = Array.push H6 (.cells #[(.string (ByteArray.mk #[])), (Sl.v Sl.nil)] 27) → (
 MapK mk9 mv27 Always H19 x13 L16 c17 x15 ∧ cell H19 ⟨H.size, 0, none⟩ = some (.string x15) ∧ cell H19 a10 = some (.map x13) ∧ (
 mayw H19 ⟨H6.size, 0, none⟩ 2 0 ∧ ∀ H24 : Hp, H24 = sets H19 ⟨H6.size, 0, none⟩ [(.string ((mget L16 x15).getD ((ByteArray.mk #[]), Sl.nil)).1), (Sl.v ((mget L16 x15).getD ((ByteArray.mk #[]), Sl.nil)).2)] 0 → (
 (((mget L16 x15).isSome) = true → (Q 5 H24)) ∧
 (((mget L16 x15).isSome) = false → (∃ a28 : Addr, p0 = some a28 ∧ (
 ∃ x31 : (Option Nat), cell H24 a28 = some (.map x31) ∧ (
 ∃ (L32 : ML ByteArray (ByteArray × Sl)) (c33 : Nat), mapAt mk9 mv27 H24 x31 L32 c33 ∧ (
 ((decide ((64 : Int) ≤ ((L32).length : Int))) = true → (Q 4 H24)) ∧
 ((decide ((64 : Int) ≤ ((L32).length : Int))) = false → (∃ a36 : Addr, p0 = some a36 ∧ (
 ∃ x39 : (Option Nat), cell H24 a36 = some (.map x39) ∧ (
 ∃ x41 : ByteArray, cell H24 ⟨H.size, 0, none⟩ = some (.string x41) ∧ (
 ∃ (x43 : ByteArray) (x44 : Sl), cells H24 ⟨H.size, 0, none⟩ [(.string x43), (Sl.v x44)] 0 ∧ (
 F26 x41 H24 (fun (r47 : ByteArray) (H45 : Hp) => 
 cells H45 ⟨H.size, 0, none⟩ [(.string x43), (Sl.v x44)] 0 ∧ cell H45 a36 = some (.map x39) ∧ (
 F25 x43 x44 H45 (fun (r52 : ByteArray) (r53 : Sl) (H50 : Hp) => 
 cell H50 a36 = some (.map x39) ∧ (
 ∃ (r57 : Nat) (L58 : ML ByteArray (ByteArray × Sl)) (c59 : Nat), x39 = some r57 ∧ MapK mk9 mv27 Always H50 (some r57) L58 c59 r47 ∧ ∀ H55 : Hp, H55 = seto H50 r57 (mapo mk9 mv27 (mput L58 c59 r47 (r52, r53)).1 (mput L58 c59 r47 (r52, r53)).2) → (
 Q 0 H55))))))))))))))))))))))))))))
set_option maxRecDepth 100000 in
set_option maxHeartbeats 4000000 in
theorem walk9 {w0 : World} {p0 : (Option Addr)} {p1_0 : ByteArray} {p1_1 : Sl} {H : Hp} {Q : Int → Hp → Prop} (h : F9 p0 p1_0 p1_1 H Q) :
    Good Tryd.prog w0 9 #[(.pointer p0), (.agg #[(.string p1_0), (Sl.v p1_1)])] H (fun v H => ∃ (r0 : Int) , v = (.int .i64 r0) ∧ Q r0 H) := by
  unfold F9 at h
  refine Good.enter' (fn := Tryd.f9) Tryd.func9 rfl rfl rfl ?_
  refine HW.seq ?_
  refine HW.region ?_
  refine HList.ops' rfl (HOp.box (v := (.agg #[(.string p1_0), (Sl.v p1_1)])) rfl) ?_
  rintro _ H1 ⟨rfl, e2⟩
  replace h := h H1 e2
  refine HList.vals (v := (.int .i64 0)) rfl (HVal.assign' rfl) ?_
  refine HList.nil ?_
  refine nt ?_
  refine HW.seq ?_
  refine HW.seq ?_
  refine HW.region ?_
  obtain ⟨x4, x5, c3, h⟩ := h
  refine HList.vals (v := (.agg #[(.string x4), (Sl.v x5)])) rfl (HVal.loadN [(.string x4), (Sl.v x5)] Tryd.isAgg27 Tryd.sizeOf27 rfl c3) ?_
  refine HList.ops' rfl (HOp.call' 24 [(.agg #[(.string x4), (Sl.v x5)])] (cap := []) rfl rfl Tryd.call24 (walk24 h)) ?_
  rintro _ H6 ⟨r8, rfl, h⟩
  refine HList.vals (v := (.int .i64 r8)) rfl (HVal.assign' rfl) ?_
  refine HList.nil ?_
  refine nt ?_
  refine HW.seq ?_
  refine HW.region ?_
  refine HList.vals (v := (.int .i64 r8)) rfl (HVal.move' rfl) ?_
  refine HList.vals (v := (.bool (decide (r8 ≠ 0)))) rfl (HVal.neqI rfl rfl) ?_
  refine HList.nil ?_
  refine nt ?_
  obtain ⟨hT, hF⟩ := h
  refine HW.cond (decide (r8 ≠ 0)) rfl (fun hb9 => ?_) (fun hb9 => ?_)
  · have h := hT hb9
    clear hT hF
    refine HW.seq ?_
    refine HW.region ?_
    refine HList.vals (v := (.int .i64 r8)) rfl (HVal.move' rfl) ?_
    refine HList.vals (v := (.int .i64 r8)) rfl (HVal.assign' rfl) ?_
    refine HList.nil ?_
    refine nt ?_
    refine HW.ret ?_
    refine tr ?_
    exact ⟨_, resOf1 rfl Res1.t, ⟨r8, rfl, h⟩⟩
  · have h := hF hb9
    clear hT hF
    refine HW.skip ?_
    refine nt ?_
    refine HW.seq ?_
    refine HW.seq ?_
    refine HW.draw mixed [(0, some []), (1, some []), (2, some []), (3, some [11]), (4, some []), (5, some [11]), (6, some [11]), (7, some []), (8, some []), (9, some []), (10, none), (11, none), (12, some [])] rfl (by kernel_rfl) (by kernel_rfl) ?_
    refine HPlan.takev (v := (.pointer p0)) rfl rfl (fun _ => HVal.move' rfl) ?_
    obtain ⟨a10, e11, h⟩ := h
    refine HPlan.takev (v := (.pointer (some a10))) rfl rfl (fun _ => HVal.nilCheck (congrArg Value.pointer e11)) ?_
    refine HPlan.takev (v := (.pointer (some a10))) rfl rfl (fun _ => HVal.fieldAddr0 Tryd.runUnderlying72 rfl rfl Tryd.sizeOf70 rfl) ?_
    obtain ⟨x13, c12, h⟩ := h
    refine HPlan.takel (v := (.map x13)) (fun X => cell X a10 = some (.map x13)) rfl rfl (fun _ hX => HVal.load1 Tryd.isAgg70 rfl hX) c12 ?_
    refine HPlan.takev (v := (.pointer (some ⟨H.size, 0, none⟩))) rfl rfl (fun _ => HVal.fieldAddr0 Tryd.runUnderlying27 rfl rfl Tryd.sizeOf9 rfl) ?_
    obtain ⟨x15, c14, h⟩ := h
    refine HPlan.takel (v := (.string x15)) (fun X => cell X ⟨H.size, 0, none⟩ = some (.string x15)) rfl rfl (fun _ hX => HVal.load1 Tryd.isAgg9 rfl hX) c14 ?_
    obtain ⟨L16, c17, c18, h⟩ := h
    refine HPlan.takel (v := (.tuple #[(.agg #[(.string ((mget L16 x15).getD ((ByteArray.mk #[]), Sl.nil)).1), (Sl.v ((mget L16 x15).getD ((ByteArray.mk #[]), Sl.nil)).2)]), (.bool ((mget L16 x15).isSome))])) (fun X => MapK mk9 mv27 Always X x13 L16 c17 x15) rfl rfl (fun _ hX => HVal.lookupOk (f := mk9) (g := mv27) (k := x15) (z := ((ByteArray.mk #[]), Sl.nil)) Tryd.runUnderlying70 mkk9 Tryd.zeroValue27 rfl rfl hX) c18 ?_
    refine HPlan.takev (v := (.tuple #[(.agg #[(.string ((mget L16 x15).getD ((ByteArray.mk #[]), Sl.nil)).1), (Sl.v ((mget L16 x15).getD ((ByteArray.mk #[]), Sl.nil)).2)]), (.bool ((mget L16 x15).isSome))])) rfl rfl (fun _ => HVal.move' rfl) ?_
    refine HPlan.takev (v := (.agg #[(.string ((mget L16 x15).getD ((ByteArray.mk #[]), Sl.nil)).1), (Sl.v ((mget L16 x15).getD ((ByteArray.mk #[]), Sl.nil)).2)])) rfl rfl (fun _ => HVal.extract rfl rfl) ?_
    refine HPlan.takev (v := (.bool ((mget L16 x15).isSome))) rfl rfl (fun _ => HVal.extract rfl rfl) ?_
    refine HPlan.ops' rfl rfl (HOp.alloc Tryd.zeroValue27) ?_
    rintro _ H19 ⟨rfl, e20⟩
    replace h := h H19 e20
    obtain ⟨s21, s22, s23, h⟩ := h
    refine ⟨SC_of ⟨fun _ => s21, fun _ => s22, fun _ => s23, trivial⟩, ?_⟩
    obtain ⟨z26, h⟩ := h
    refine HPlan.opsn rfl (HOp.storeN' (l := [(.string ((mget L16 x15).getD ((ByteArray.mk #[]), Sl.nil)).1), (Sl.v ((mget L16 x15).getD ((ByteArray.mk #[]), Sl.nil)).2)]) Tryd.sizeOf27 rfl rfl rfl z26) ?_
    rintro _ H24 e25
    replace h := h H24 e25
    refine ⟨SC_of ⟨fun e => absurd e (by decide), fun e => absurd e (by decide), fun e => absurd e (by decide), trivial⟩, ?_⟩
    refine HPlan.takev (v := (.bool ((mget L16 x15).isSome))) rfl rfl (fun _ => HVal.assign' rfl) ?_
    refine HPlan.done ?_
    refine nt ?_
    refine HW.seq ?_
    refine HW.region ?_
    refine HList.vals (v := (.bool ((mget L16 x15).isSome))) rfl (HVal.move' rfl) ?_
    refine HList.nil ?_
    refine nt ?_
    obtain ⟨hT, hF⟩ := h
    refine HW.cond ((mget L16 x15).isSome) rfl (fun hb27 => ?_) (fun hb27 => ?_)
    · have h := hT hb27
      clear hT hF
      refine HW.seq ?_
      refine HW.region ?_
      refine HList.vals (v := (.int .i64 5)) rfl (HVal.assign' rfl) ?_
      refine HList.nil ?_
      refine nt ?_
      refine HW.ret ?_
      refine tr ?_
      exact ⟨_, resOf1 rfl Res1.t, ⟨5, rfl, h⟩⟩
    · have h := hF hb27
      clear hT hF
      refine HW.skip ?_
      refine nt ?_
      refine HW.seq ?_
      refine HW.seq ?_
      refine HW.region ?_
      refine HList.vals (v := (.pointer p0)) rfl (HVal.move' rfl) ?_
      obtain ⟨a28, e29, h⟩ := h
      refine HList.vals (v := (.pointer (some a28))) rfl (HVal.nilCheck (congrArg Value.pointer e29)) ?_
      refine HList.vals (v := (.pointer (some a28))) rfl (HVal.fieldAddr0 Tryd.runUnderlying72 rfl rfl Tryd.sizeOf70 rfl) ?_
      obtain ⟨x31, c30, h⟩ := h
      refine HList.vals (v := (.map x31)) rfl (HVal.load1 Tryd.isAgg70 rfl c30) ?_
      obtain ⟨L32, c33, c34, h⟩ := h
      refine HList.vals (v := (.int .i64 ((L32).length : Int))) rfl (HVal.lenM (f := mk9) (g := mv27) Tryd.runUnderlying70 rfl c34) ?_
      refine HList.vals (v := (.bool (decide ((64 : Int) ≤ ((L32).length : Int))))) rfl (HVal.geq rfl rfl) ?_
      refine HList.nil ?_
      refine nt ?_
      obtain ⟨hT, hF⟩ := h
      refine HW.cond (decide ((64 : Int) ≤ ((L32).length : Int))) rfl (fun hb35 => ?_) (fun hb35 => ?_)
      · have h := hT hb35
        clear hT hF
        refine HW.seq ?_
        refine HW.region ?_
        refine HList.vals (v := (.int .i64 4)) rfl (HVal.assign' rfl) ?_
        refine HList.nil ?_
        refine nt ?_
        refine HW.ret ?_
        refine tr ?_
        exact ⟨_, resOf1 rfl Res1.t, ⟨4, rfl, h⟩⟩
      · have h := hF hb35
        clear hT hF
        refine HW.skip ?_
        refine nt ?_
        refine HW.seq ?_
        refine HW.draw mixed [(0, some []), (1, some []), (2, some []), (3, some [9]), (4, some []), (5, some [6, 9]), (7, some [8, 9]), (6, none), (8, none), (9, none)] rfl (by kernel_rfl) (by kernel_rfl) ?_
        refine HPlan.takev (v := (.pointer p0)) rfl rfl (fun _ => HVal.move' rfl) ?_
        obtain ⟨a36, e37, h⟩ := h
        refine HPlan.takev (v := (.pointer (some a36))) rfl rfl (fun _ => HVal.nilCheck (congrArg Value.pointer e37)) ?_
        refine HPlan.takev (v := (.pointer (some a36))) rfl rfl (fun _ => HVal.fieldAddr0 Tryd.runUnderlying72 rfl rfl Tryd.sizeOf70 rfl) ?_
        obtain ⟨x39, c38, h⟩ := h
        refine HPlan.takel (v := (.map x39)) (fun X => cell X a36 = some (.map x39)) rfl rfl (fun _ hX => HVal.load1 Tryd.isAgg70 rfl hX) c38 ?_
        refine HPlan.takev (v := (.pointer (some ⟨H.size, 0, none⟩))) rfl rfl (fun _ => HVal.fieldAddr0 Tryd.runUnderlying27 rfl rfl Tryd.sizeOf9 rfl) ?_
        obtain ⟨x41, c40, h⟩ := h
        refine HPlan.takel (v := (.string x41)) (fun X => cell X ⟨H.size, 0, none⟩ = some (.string x41)) rfl rfl (fun _ hX => HVal.load1 Tryd.isAgg9 rfl hX) c40 ?_
        obtain ⟨x43, x44, c42, h⟩ := h
        refine HPlan.takel (v := (.agg #[(.string x43), (Sl.v x44)])) (fun X => cells X ⟨H.size, 0, none⟩ [(.string x43), (Sl.v x44)] 0) rfl rfl (fun _ hX => HVal.loadN [(.string x43), (Sl.v x44)] Tryd.isAgg27 Tryd.sizeOf27 rfl hX) c42 ?_
        refine HPlan.ops' rfl rfl (HOp.call' 26 [(.string x41)] (cap := []) rfl rfl Tryd.call26 (walk26 h)) ?_
        rintro _ H45 ⟨r47, rfl, h⟩
        obtain ⟨s48, s49, h⟩ := h
        refine ⟨SC_of ⟨fun _ => s48, fun e => absurd e (by decide), fun _ => s49, trivial⟩, ?_⟩
        refine HPlan.ops' rfl rfl (HOp.call' 25 [(.agg #[(.string x43), (Sl.v x44)])] (cap := []) rfl rfl Tryd.call25 (walk25 h)) ?_
        rintro _ H50 ⟨r52, r53, rfl, h⟩
        obtain ⟨s54, h⟩ := h
        refine ⟨SC_of ⟨fun e => absurd e (by decide), fun e => absurd e (by decide), fun _ => s54, trivial⟩, ?_⟩
        obtain ⟨r57, L58, c59, e61, c60, h⟩ := h
        refine HPlan.opsn rfl (HOp.mapUpdate (f := mk9) (g := mv27) (k := r47) (v := (r52, r53)) Tryd.runUnderlying70 mkk9 (congrArg Value.map e61) rfl rfl c60) ?_
        rintro _ H55 e56
        replace h := h H55 e56
        refine ⟨SC_of ⟨fun e => absurd e (by decide), fun e => absurd e (by decide), fun e => absurd e (by decide), trivial⟩, ?_⟩
        refine HPlan.done ?_
        refine nt ?_
        refine HW.seq ?_
        refine HW.region ?_
        refine HList.vals (v := (.int .i64 0)) rfl (HVal.assign' rfl) ?_
        refine HList.nil ?_
        refine nt ?_
        refine HW.ret ?_
        exact ⟨_, resOf1 rfl Res1.t, ⟨0, rfl, h⟩⟩

def F3_6 (Q : Bool → Hp → Prop) (y209 : (Option Addr)) (y210 : Addr) (H_6 : Hp) : Prop :=
∃ (x233 : ByteArray) (x234 : Int) (x235 : Sl), cells H_6 y210 [(.string x233), (.int .i64 x234), (Sl.v x235)] 0 ∧ (
 F11 y209 x233 x234 x235 H_6 (fun (r238 : Int) (H236 : Hp) => 
 Q (decide (r238 = 12)) H236))
def F3_5 (Q : Bool → Hp → Prop) (y93 : Int) (y94 : Int) (y95 : (Option Addr)) (y96 : Addr) (y106 : Bool) (H_5 : Hp) : Prop :=
(y106 = true → (Q false H_5)) ∧
 (y106 = false → (∃ x116 : Int, cell H_5 (Addr.add y96 1) = some (.int .i64 x116) ∧ (
 (cell H_5 (Addr.add y96 1)).isSome = true ∧ frz H_5 (Addr.add y96 1) = false ∧ ∀ H117 : Hp, H117 = setc H_5 (Addr.add y96 1) (.int .i64 (IntKind.i64.wrap ((-1) - x116))) → (
 ∃ (x122 : ByteArray) (x123 : Int) (x124 : Sl), cells H117 y96 [(.string x122), (.int .i64 x123), (Sl.v x124)] 0 ∧ (
 F11 y95 x122 x123 x124 H117 (fun (r127 : Int) (H125 : Hp) => 
 ((decide (r127 ≠ 23)) = true → (Q false H125)) ∧
 ((decide (r127 ≠ 23)) = false → ((cell H125 (Addr.add y96 1)).isSome = true ∧ frz H125 (Addr.add y96 1) = false ∧ ∀ H129 : Hp, H129 = setc H125 (Addr.add y96 1) (.int .i64 4611686018427387905) → (
 ∃ (x134 : ByteArray) (x135 : Int) (x136 : Sl), cells H129 y96 [(.string x134), (.int .i64 x135), (Sl.v x136)] 0 ∧ (
 F11 y95 x134 x135 x136 H129 (fun (r139 : Int) (H137 : Hp) => 
 ((decide (r139 ≠ 23)) = true → (Q false H137)) ∧
 ((decide (r139 ≠ 23)) = false → ((cell H137 (Addr.add y96 1)).isSome = true ∧ frz H137 (Addr.add y96 1) = false ∧ ∀ H141 : Hp, H141 = setc H137 (Addr.add y96 1) (.int .i64 0) → (
 ∃ x146 : Sl, cell H141 (Addr.add y96 2) = some (Sl.v x146) ∧ (
 AppendF H141 35 4 40 #[(.int .i64 0), (.int .i64 0), (.string (ByteArray.mk #[])), (.bool false)] Sl.nil (x146).b (x146).n (fun (r149 : Sl) (H147 : Hp) => 
 ∀ H150 : Hp, H150 = Array.push H147 (.cells #[(.int .i64 1), (.int .i64 0), (.string (ByteArray.mk #[])), (.bool false)] 35) → (
 AppendF H150 35 4 40 #[(.int .i64 0), (.int .i64 0), (.string (ByteArray.mk #[])), (.bool false)] r149 ((Sl.mk (some ⟨H147.size, 0, none⟩) 1 1)).b ((Sl.mk (some ⟨H147.size, 0, none⟩) 1 1)).n (fun (r154 : Sl) (H152 : Hp) => 
 F11 y95 S_T 0 r154 H152 (fun (r157 : Int) (H155 : Hp) => 
 ((decide (r157 ≠ 22)) = true → (Q false H155)) ∧
 ((decide (r157 ≠ 22)) = false → (∃ x160 : Sl, cell H155 (Addr.add y96 2) = some (Sl.v x160) ∧ (
 ((decide (((x160).n : Int) = 0)) = true → (Q true H155)) ∧
 ((decide (((x160).n : Int) = 0)) = false → (∃ x163 : Sl, cell H155 (Addr.add y96 2) = some (Sl.v x163) ∧ (
 (0 : Int) ≤ (IntKind.i64.wrap (((x163).n : Int) - 1)) ∧ 0 ≤ (IntKind.i64.wrap (((x163).n : Int) - 1)).toNat ∧ (IntKind.i64.wrap (((x163).n : Int) - 1)).toNat ≤ (r154).c ∧ (r154).c ≤ (r154).c ∧ (
 F11 y95 S_T 0 (Sl.cut r154 4 0 ((IntKind.i64.wrap (((x163).n : Int) - 1)).toNat) ((r154).c)) H155 (fun (r170 : Int) (H168 : Hp) => 
 ((decide (r170 ≠ 22)) = true → (Q false H168)) ∧
 ((decide (r170 ≠ 22)) = false → (∃ x173 : Sl, cell H168 (Addr.add y96 2) = some (Sl.v x173) ∧ (
 F12 y93 ((x173).n : Int) H168 (fun (r176 : Int) (H174 : Hp) => 
 ∃ x178 : Sl, cell H174 (Addr.add y96 2) = some (Sl.v x178) ∧ (
 ∃ a179 : Addr, (x178).b = some a179 ∧ (0 : Int) ≤ r176 ∧ r176 < ((x178).n : Int) ∧ (
 ∃ x184 : Int, cell H174 (Addr.add a179 (r176.toNat * 4)) = some (.int .i64 x184) ∧ (
 ((decide ((Int.tmod y94 (2 : Int)) = 0)) = true → (∃ x187 : Sl, cell H174 (Addr.add y96 2) = some (Sl.v x187) ∧ (
 F10 (IntKind.i64.wrap (1 + (Int.tmod (IntKind.i64.wrap (x184 + (Int.tmod (IntKind.i64.wrap (Int.tdiv (IntKind.i64.wrap y94) (2 : Int))) (2 : Int)))) (3 : Int)))) 0 (ByteArray.mk #[]) H174 (fun (r190 : Int) (r191 : Int) (r192 : ByteArray) (r193 : Bool) (H188 : Hp) => 
 cell H188 (Addr.add y96 2) = some (Sl.v x187) ∧ (
 ∃ a195 : Addr, (x187).b = some a195 ∧ (0 : Int) ≤ r176 ∧ r176 < ((x187).n : Int) ∧ (
 mayw H188 (Addr.add a195 (r176.toNat * 4)) 4 0 ∧ ∀ H199 : Hp, H199 = sets H188 (Addr.add a195 (r176.toNat * 4)) [(.int .i64 r190), (.int .i64 r191), (.string r192), (.bool r193)] 0 → (
 ∃ (x203 : ByteArray) (x204 : Int) (x205 : Sl), cells H199 y96 [(.string x203), (.int .i64 x204), (Sl.v x205)] 0 ∧ (
 F11 y95 x203 x204 x205 H199 (fun (r208 : Int) (H206 : Hp) => 
 Q (decide (r208 = 10)) H206))))))))) ∧
 ((decide ((Int.tmod y94 (2 : Int)) = 0)) = false → (((decide (x184 = 1)) = true → (∃ x213 : Sl, cell H174 (Addr.add y96 2) = some (Sl.v x213) ∧ (
 ∃ a214 : Addr, (x213).b = some a214 ∧ (0 : Int) ≤ r176 ∧ r176 < ((x213).n : Int) ∧ (
 (cell H174 (Addr.add (Addr.add a214 (r176.toNat * 4)) 2)).isSome = true ∧ frz H174 (Addr.add (Addr.add a214 (r176.toNat * 4)) 2) = false ∧ ∀ H218 : Hp, H218 = setc H174 (Addr.add (Addr.add a214 (r176.toNat * 4)) 2) (.string S_x) → (
 F3_6 Q y95 y96 H218))))) ∧
 ((decide (x184 = 1)) = false → (∃ x223 : Sl, cell H174 (Addr.add y96 2) = some (Sl.v x223) ∧ (
 ∃ a224 : Addr, (x223).b = some a224 ∧ (0 : Int) ≤ r176 ∧ r176 < ((x223).n : Int) ∧ (
 (cell H174 (Addr.add (Addr.add a224 (r176.toNat * 4)) 1)).isSome = true ∧ frz H174 (Addr.add (Addr.add a224 (r176.toNat * 4)) 1) = false ∧ ∀ H228 : Hp, H228 = setc H174 (Addr.add (Addr.add a224 (r176.toNat * 4)) 1) (.int .i64 5) → (
 F3_6 Q y95 y96 H228)))))))))))))))))))))))))))))))))))))))))
def F3_3 (Q : Bool → Hp → Prop) (y43 : Int) (y44 : Int) (y45 : (Option Addr)) (y46 : Addr) (H_3 : Hp) : Prop :=
∃ (x98 : ByteArray) (x99 : Int) (x100 : Sl), cells H_3 y46 [(.string x98), (.int .i64 x99), (Sl.v x100)] 0 ∧ (
 F11 y45 x98 x99 x100 H_3 (fun (r103 : Int) (H101 : Hp) => 
 ((decide (r103 ≠ 0)) = true → (F3_5 Q y43 y44 y45 y46 true H101)) ∧
 ((decide (r103 ≠ 0)) = false → (∃ x108 : Int, cell H101 (Addr.add y46 1) = some (.int .i64 x108) ∧ (
 ∃ x110 : Sl, cell H101 (Addr.add y46 2) = some (Sl.v x110) ∧ (
 F11 y45 S_t x108 x110 H101 (fun (r113 : Int) (H111 : Hp) => 
 F3_5 Q y43 y44 y45 y46 (decide (r113 ≠ 21)) H111)))))))
def F3_L4b (Q : Bool → Hp → Prop) (X4 : Int → Hp → Prop) (y48 : Int) (y49 : ByteArray) (y50 : Int) (y51 : Int) (y52 : (Option Addr)) (y53 : Addr) (y54 : Addr) (y47 : Int) (H_4 : Hp) : Prop :=
∃ x56 : Sl, cell H_4 (Addr.add y53 1) = some (Sl.v x56) ∧ (
 ((decide (y47 < ((x56).n : Int))) = true → (∃ x59 : Sl, cell H_4 (Addr.add y53 1) = some (Sl.v x59) ∧ (
 ∃ a60 : Addr, (x59).b = some a60 ∧ (0 : Int) ≤ y47 ∧ y47 < ((x59).n : Int) ∧ (
 ∃ x65 : Int, cell H_4 (Addr.add (Addr.add a60 (y47.toNat * 2)) 1) = some (.int .i64 x65) ∧ (
 F10 x65 (IntKind.i64.wrap (y48 + y47)) y49 H_4 (fun (r68 : Int) (r69 : Int) (r70 : ByteArray) (r71 : Bool) (H66 : Hp) => 
 ∀ H72 : Hp, H72 = Array.push H66 (.cells #[(.int .i64 0), (.int .i64 0), (.string (ByteArray.mk #[])), (.bool false)] 35) → (
 mayw H72 ⟨H66.size, 0, none⟩ 4 0 ∧ ∀ H74 : Hp, H74 = sets H72 ⟨H66.size, 0, none⟩ [(.int .i64 r68), (.int .i64 r69), (.string r70), (.bool r71)] 0 → (
 ∃ x78 : Sl, cell H74 (Addr.add y54 2) = some (Sl.v x78) ∧ (
 ∃ (x80 : Int) (x81 : Int) (x82 : ByteArray) (x83 : Bool), cells H74 ⟨H66.size, 0, none⟩ [(.int .i64 x80), (.int .i64 x81), (.string x82), (.bool x83)] 0 ∧ (
 ∀ H84 : Hp, H84 = Array.push H74 (.cells #[(.int .i64 x80), (.int .i64 x81), (.string x82), (.bool x83)] 35) → (
 AppendF H84 35 4 40 #[(.int .i64 0), (.int .i64 0), (.string (ByteArray.mk #[])), (.bool false)] x78 ((Sl.mk (some ⟨H74.size, 0, none⟩) 1 1)).b ((Sl.mk (some ⟨H74.size, 0, none⟩) 1 1)).n (fun (r88 : Sl) (H86 : Hp) => 
 (cell H86 (Addr.add y54 2)).isSome = true ∧ frz H86 (Addr.add y54 2) = false ∧ ∀ H89 : Hp, H89 = setc H86 (Addr.add y54 2) (Sl.v r88) → (
 X4 (IntKind.i64.wrap (y47 + 1)) H89))))))))))))) ∧
 ((decide (y47 < ((x56).n : Int))) = false → (F3_3 Q y50 y51 y52 y54 H_4)))
def F3_L4 (Q : Bool → Hp → Prop) (y48 : Int) (y49 : ByteArray) (y50 : Int) (y51 : Int) (y52 : (Option Addr)) (y53 : Addr) (y54 : Addr) (y47 : Int) (H_4 : Hp) : Prop :=
  ∀ X4 : Int → Hp → Prop, (∀ (y47 : Int) (H_4 : Hp), F3_L4b Q X4 y48 y49 y50 y51 y52 y53 y54 y47 H_4 → X4 y47 H_4) → X4 y47 H_4
def F3_2 (Q : Bool → Hp → Prop) (y30 : Int) (y31 : ByteArray) (y32 : Int) (y33 : Int) (y34 : (Option Addr)) (y35 : Addr) (y37 : Int) (H_2 : Hp) : Prop :=
∀ H38 : Hp, H38 = Array.push H_2 (.cells #[(.string (ByteArray.mk #[])), (.int .i64 0), (Sl.v Sl.nil)] 33) → (
 mayw H38 ⟨H_2.size, 0, none⟩ 3 0 ∧ ∀ H40 : Hp, H40 = sets H38 ⟨H_2.size, 0, none⟩ [(.string S_T), (.int .i64 (Int.tmod y37 (4611686018427387905 : Int))), (Sl.v Sl.nil)] 0 → (
 F3_L4 Q y30 y31 y32 y33 y34 y35 ⟨H_2.size, 0, none⟩ 0 H40))
def F3_1 (Q : Bool → Hp → Prop) (y13 : Int) (y14 : ByteArray) (y15 : Int) (y16 : Int) (y17 : Int) (y18 : (Option Addr)) (y19 : Addr) (y22 : Bool) (H_1 : Hp) : Prop :=
(y22 = true → (Q false H_1)) ∧
 (y22 = false → (((decide (y15 < 0)) = true → (F3_2 Q y13 y14 y16 y17 y18 y19 (IntKind.i64.wrap ((-1) - y15)) H_1)) ∧
 ((decide (y15 < 0)) = false → (F3_2 Q y13 y14 y16 y17 y18 y19 y15 H_1))))
def F3 (p0 : Sl) (p1 : Int) (p2 : ByteArray) (p3 : Int) (p4 : Int) (p5 : Int) (H : Hp) (Q : Bool → Hp → Prop) : Prop :=
F7 H (fun (r3 : (Option Addr)) (H1 : Hp) => 
 F8 S_T Sl.nil p0 H1 (fun (r6 : ByteArray) (r7 : Sl) (H4 : Hp) => 
 ∀ H8 : Hp, H8 = Array.push H4 (.cells #[(.string (ByteArray.mk #[])), (Sl.v Sl.nil)] 27) → (
 mayw H8 ⟨H4.size, 0, none⟩ 2 0 ∧ ∀ H10 : Hp, H10 = sets H8 ⟨H4.size, 0, none⟩ [(.string r6), (Sl.v r7)] 0 → (
 ((r3.isNone) = true → (F3_1 Q p1 p2 p3 p4 p5 r3 ⟨H4.size, 0, none⟩ true H10)) ∧
 ((r3.isNone) = false → (∃ (x24 : ByteArray) (x25 : Sl), cells H10 ⟨H4.size, 0, none⟩ [(.string x24), (Sl.v x25)] 0 ∧ (
 F9 r3 x24 x25 H10 (fun (r28 : Int) (H26 : Hp) => 
 F3_1 Q p1 p2 p3 p4 p5 r3 ⟨H4.size, 0, none⟩ (decide (r28 ≠ 0)) H26))))))))
set_option maxRecDepth 100000 in
set_option maxHeartbeats 4000000 in
theorem walk3 {w0 : World} {p0 : Sl} {p1 : Int} {p2 : ByteArray} {p3 : Int} {p4 : Int} {p5 : Int} {H : Hp} {Q : Bool → Hp → Prop} (h : F3 p0 p1 p2 p3 p4 p5 H Q) :
    Good Tryd.prog w0 3 #[(Sl.v p0), (.int .i64 p1), (.string p2), (.int .i64 p3), (.int .i64 p4), (.int .u8 p5)] H (fun v H => ∃ (r0 : Bool) , v = (.bool r0) ∧ Q r0 H) := by
  unfold F3 at h
  refine Good.enter' (fn := Tryd.f3) Tryd.func3 rfl rfl rfl ?_
  refine HW.seq ?_
  refine HW.region ?_
  refine HList.vals (v := (.bool false)) rfl (HVal.assign' rfl) ?_
  refine HList.nil ?_
  refine nt ?_
  refine HW.seq ?_
  refine HW.region ?_
  refine HList.ops' rfl (HOp.call' 7 [] (cap := []) rfl rfl Tryd.call7 (walk7 h)) ?_
  rintro _ H1 ⟨r3, rfl, h⟩
  refine HList.vals (v := (.pointer r3)) rfl (HVal.assign' rfl) ?_
  refine HList.nil ?_
  refine nt ?_
  refine HW.seq ?_
  refine HW.region ?_
  refine HList.vals (v := (Sl.v p0)) rfl (HVal.move' rfl) ?_
  refine HList.ops' rfl (HOp.call' 8 [(.string S_T), (Sl.v Sl.nil), (Sl.v p0)] (cap := []) rfl rfl Tryd.call8 (walk8 h)) ?_
  rintro _ H4 ⟨r6, r7, rfl, h⟩
  refine HList.ops' rfl (HOp.alloc Tryd.zeroValue27) ?_
  rintro _ H8 ⟨rfl, e9⟩
  replace h := h H8 e9
  obtain ⟨z12, h⟩ := h
  refine HList.opsn (HOp.storeN' (l := [(.string r6), (Sl.v r7)]) Tryd.sizeOf27 rfl rfl rfl z12) ?_
  rintro _ H10 e11
  replace h := h H10 e11
  refine HList.nil ?_
  refine nt ?_
  refine HW.seq ?_
  refine HW.cut (fun ρ H_1 => ∃ (y22 : Bool), Env.Is ρ [(1, (.int .i64 p1)), (2, (.string p2)), (3, (.int .i64 p3)), (4, (.int .i64 p4)), (5, (.int .u8 p5)), (13, (.pointer r3)), (14, (.pointer (some ⟨H4.size, 0, none⟩))), (30, (.bool y22))] ∧ F3_1 Q p1 p2 p3 p4 p5 r3 ⟨H4.size, 0, none⟩ y22 H_1) ?_ ?_
  · refine HW.region ?_
    refine HList.vals (v := (.pointer r3)) rfl (HVal.move' rfl) ?_
    refine HList.vals (v := (.bool (r3.isNone))) rfl (HVal.eqlPN Tryd.underlying23 rfl rfl) ?_
    refine HList.vals (v := (.bool (r3.isNone))) rfl (HVal.move' rfl) ?_
    obtain ⟨hT, hF⟩ := h
    rcases Bool.eq_false_or_eq_true (r3.isNone) with hb20 | hb21
    · have h := hT hb20
      clear hT hF
      refine HList.gskips rfl rfl rfl rfl (congrArg Value.bool hb20) ?_
      refine HList.gskips rfl rfl rfl rfl (congrArg Value.bool hb20) ?_
      refine HList.gskips rfl rfl rfl rfl (congrArg Value.bool hb20) ?_
      refine HList.gskips rfl rfl rfl rfl (congrArg Value.bool hb20) ?_
      refine HList.vals (v := (.bool true)) rfl (HVal.pickT rfl hb20 rfl) ?_
      refine HList.nil ?_
      refine nt ?_
      exact ⟨true, ⟨rfl, rfl, rfl, rfl, rfl, rfl, rfl, rfl, trivial⟩, h⟩
    · have h := hF hb21
      clear hT hF
      refine HList.gvals (v := (.pointer r3)) rfl rfl rfl rfl (congrArg Value.bool hb21) (HVal.move' rfl) ?_
      obtain ⟨x24, x25, c23, h⟩ := h
      refine HList.gvals (v := (.agg #[(.string x24), (Sl.v x25)])) rfl rfl rfl rfl (congrArg Value.bool hb21) (HVal.loadN [(.string x24), (Sl.v x25)] Tryd.isAgg27 Tryd.sizeOf27 rfl c23) ?_
      refine HList.gops rfl rfl rfl rfl (congrArg Value.bool hb21) (HOp.call' 9 [(.pointer r3), (.agg #[(.string x24), (Sl.v x25)])] (cap := []) rfl rfl Tryd.call9 (walk9 h)) ?_
      rintro _ H26 ⟨r28, rfl, h⟩
      refine HList.gvals (v := (.bool (decide (r28 ≠ 0)))) rfl rfl rfl rfl (congrArg Value.bool hb21) (HVal.neqI rfl rfl) ?_
      refine HList.vals (v := (.bool (decide (r28 ≠ 0)))) rfl (HVal.pickF rfl hb21 rfl) ?_
      refine HList.nil ?_
      refine nt ?_
      exact ⟨(decide (r28 ≠ 0)), ⟨rfl, rfl, rfl, rfl, rfl, rfl, rfl, rfl, trivial⟩, h⟩
  · rintro ρ H_1 ⟨y22, hI, h⟩
    obtain ⟨ρ0, rfl⟩ : ∃ ρ0, ρ = (Env.set (Env.set (Env.set (Env.set (Env.set (Env.set (Env.set (Env.set ρ0 30 (.bool y22)) 14 (.pointer (some ⟨H4.size, 0, none⟩))) 13 (.pointer r3)) 5 (.int .u8 p5)) 4 (.int .i64 p4)) 3 (.int .i64 p3)) 2 (.string p2)) 1 (.int .i64 p1)) := ⟨ρ, hI.eq⟩
    clear hI; unfold F3_1 at h
    obtain ⟨hT, hF⟩ := h
    refine HW.cond y22 rfl (fun hb29 => ?_) (fun hb29 => ?_)
    · have h := hT hb29
      clear hT hF
      refine HW.seq ?_
      refine HW.region ?_
      refine HList.vals (v := (.bool false)) rfl (HVal.assign' rfl) ?_
      refine HList.nil ?_
      refine nt ?_
      refine HW.ret ?_
      refine tr ?_
      exact ⟨_, resOf1 rfl Res1.t, ⟨false, rfl, h⟩⟩
    · have h := hF hb29
      clear hT hF
      refine HW.skip ?_
      refine nt ?_
      refine HW.cut (fun ρ H_2 => ∃ (y37 : Int), Env.Is ρ [(1, (.int .i64 p1)), (2, (.string p2)), (4, (.int .i64 p4)), (5, (.int .u8 p5)), (13, (.pointer r3)), (14, (.pointer (some ⟨H4.size, 0, none⟩))), (3, (.int .i64 y37))] ∧ F3_2 Q p1 p2 p4 p5 r3 ⟨H4.size, 0, none⟩ y37 H_2) ?_ ?_
      · refine HW.seq ?_
        refine HW.region ?_
        refine HList.vals (v := (.int .i64 p3)) rfl (HVal.move' rfl) ?_
        refine HList.vals (v := (.bool (decide (p3 < 0)))) rfl (HVal.lss rfl rfl) ?_
        refine HList.nil ?_
        refine nt ?_
        obtain ⟨hT, hF⟩ := h
        refine HW.cond (decide (p3 < 0)) rfl (fun hb36 => ?_) (fun hb36 => ?_)
        · have h := hT hb36
          clear hT hF
          refine HW.region ?_
          refine HList.vals (v := (.int .i64 p3)) rfl (HVal.move' rfl) ?_
          refine HList.vals (v := (.int .i64 (IntKind.i64.wrap ((-1) - p3)))) rfl (HVal.sub rfl rfl) ?_
          refine HList.vals (v := (.int .i64 (IntKind.i64.wrap ((-1) - p3)))) rfl (HVal.assign' rfl) ?_
          refine HList.nil ?_
          refine nt ?_
          exact ⟨(IntKind.i64.wrap ((-1) - p3)), ⟨rfl, rfl, rfl, rfl, rfl, rfl, rfl, trivial⟩, h⟩
        · have h := hF hb36
          clear hT hF
          refine HW.skip ?_
          refine nt ?_
          exact ⟨p3, ⟨rfl, rfl, rfl, rfl, rfl, rfl, rfl, trivial⟩, h⟩
      · rintro ρ H_2 ⟨y37, hI, h⟩
        obtain ⟨ρ0, rfl⟩ : ∃ ρ0, ρ = (Env.set (Env.set (Env.set (Env.set (Env.set (Env.set (Env.set ρ0 3 (.int .i64 y37)) 14 (.pointer (some ⟨H4.size, 0, none⟩))) 13 (.pointer r3)) 5 (.int .u8 p5)) 4 (.int .i64 p4)) 2 (.string p2)) 1 (.int .i64 p1)) := ⟨ρ, hI.eq⟩
        clear hI; unfold F3_2 at h
        refine HW.seq ?_
        refine HW.region ?_
        refine HList.vals (v := (.int .i64 y37)) rfl (HVal.move' rfl) ?_
        refine HList.vals (v := (.int .i64 (Int.tmod y37 (4611686018427387905 : Int)))) rfl (HVal.rem rfl rfl (by decide)) ?_
        refine HList.vals (v := (.agg #[(.string S_T), (.int .i64 (Int.tmod y37 (4611686018427387905 : Int))), (Sl.v Sl.nil)])) rfl (HVal.build' (cs := [(.string S_T), (.int .i64 (Int.tmod y37 (4611686018427387905 : Int))), (Sl.v Sl.nil)]) Tryd.runUnderlying33 Tryd.zeroValue33 places33 rfl) ?_
        refine HList.ops' rfl (HOp.alloc Tryd.zeroValue33) ?_
        rintro _ H38 ⟨rfl, e39⟩
        replace h := h H38 e39
        obtain ⟨z42, h⟩ := h
        refine HList.opsn (HOp.storeN' (l := [(.string S_T), (.int .i64 (Int.tmod y37 (4611686018427387905 : Int))), (Sl.v Sl.nil)]) Tryd.sizeOf33 rfl rfl rfl z42) ?_
        rintro _ H40 e41
        replace h := h H40 e41
        refine HList.nil ?_
        refine nt ?_
        refine HW.cut (fun ρ H_3 => Env.Is ρ [(4, (.int .i64 p4)), (5, (.int .u8 p5)), (13, (.pointer r3)), (15, (.pointer (some ⟨H_2.size, 0, none⟩)))] ∧ F3_3 Q p4 p5 r3 ⟨H_2.size, 0, none⟩ H_3) ?_ ?_
        · refine HW.seq ?_
          refine HW.region ?_
          refine HList.vals (v := (.int .i64 0)) rfl (HVal.assign' rfl) ?_
          refine HList.nil ?_
          refine nt ?_
          refine HW.block ?_
          refine HW.loop' (fun L4 hL4 => ?_)
          obtain ⟨X4, hX4⟩ : ∃ X4 : Int → Hp → Prop, ∀ (y47 : Int) (H_4 : Hp), X4 y47 H_4 ↔ ∀ ρ, Env.Is ρ [(1, (.int .i64 p1)), (2, (.string p2)), (4, (.int .i64 p4)), (5, (.int .u8 p5)), (13, (.pointer r3)), (14, (.pointer (some ⟨H4.size, 0, none⟩))), (15, (.pointer (some ⟨H_2.size, 0, none⟩))), (16, (.int .i64 y47))] → L4 ρ H_4 := ⟨_, fun _ _ => Iff.rfl⟩
          refine (hX4 _ _).1 (h X4 ?_) _ ?_
          rotate_left
          · exact ⟨rfl, rfl, rfl, rfl, rfl, rfl, rfl, rfl, trivial⟩
          clear h
          intro y47 H_4 h
          refine (hX4 _ _).2 fun ρ hI => ?_
          obtain ⟨ρ0, rfl⟩ : ∃ ρ0, ρ = (Env.set (Env.set (Env.set (Env.set (Env.set (Env.set (Env.set (Env.set ρ0 16 (.int .i64 y47)) 15 (.pointer (some ⟨H_2.size, 0, none⟩))) 14 (.pointer (some ⟨H4.size, 0, none⟩))) 13 (.pointer r3)) 5 (.int .u8 p5)) 4 (.int .i64 p4)) 2 (.string p2)) 1 (.int .i64 p1)) := ⟨ρ, hI.eq⟩
          clear hI; unfold F3_L4b at h; refine hL4 _ _ ?_
          refine HW.seq ?_
          refine HW.seq ?_
          refine HW.region ?_
          refine HList.vals (v := (.int .i64 y47)) rfl (HVal.move' rfl) ?_
          refine HList.vals (v := (.pointer (some (Addr.add ⟨H4.size, 0, none⟩ 1)))) rfl (HVal.fieldAddr' Tryd.runUnderlying27 rfl rfl Tryd.sizeOf25 rfl) ?_
          obtain ⟨x56, c55, h⟩ := h
          refine HList.vals (v := (Sl.v x56)) rfl (HVal.load1 Tryd.isAgg25 rfl c55) ?_
          refine HList.vals (v := (.int .i64 ((x56).n : Int))) rfl (HVal.len Tryd.runUnderlying25 rfl) ?_
          refine HList.vals (v := (.bool (decide (y47 < ((x56).n : Int))))) rfl (HVal.lss rfl rfl) ?_
          refine HList.nil ?_
          refine nt ?_
          obtain ⟨hT, hF⟩ := h
          refine HW.cond (decide (y47 < ((x56).n : Int))) rfl (fun hb57 => ?_) (fun hb57 => ?_)
          · have h := hT hb57
            clear hT hF
            refine HW.skip ?_
            refine nt ?_
            refine HW.seq ?_
            refine HW.block ?_
            refine HW.seq ?_
            refine HW.region ?_
            refine HList.vals (v := (.pointer (some (Addr.add ⟨H4.size, 0, none⟩ 1)))) rfl (HVal.fieldAddr' Tryd.runUnderlying27 rfl rfl Tryd.sizeOf25 rfl) ?_
            obtain ⟨x59, c58, h⟩ := h
            refine HList.vals (v := (Sl.v x59)) rfl (HVal.load1 Tryd.isAgg25 rfl c58) ?_
            refine HList.vals (v := (.int .i64 y47)) rfl (HVal.move' rfl) ?_
            obtain ⟨a60, e61, b62, b63, h⟩ := h
            refine HList.vals (v := (.pointer (some (Addr.add a60 (y47.toNat * 2))))) rfl (HVal.indexAddr Tryd.runUnderlying25 Tryd.sizeOf38 (Sl.v_some rfl e61) rfl b62 b63) ?_
            refine HList.vals (v := (.pointer (some (Addr.add (Addr.add a60 (y47.toNat * 2)) 1)))) rfl (HVal.fieldAddr' Tryd.runUnderlying38 rfl rfl Tryd.sizeOf3 rfl) ?_
            obtain ⟨x65, c64, h⟩ := h
            refine HList.vals (v := (.int .i64 x65)) rfl (HVal.load1 Tryd.isAgg3 rfl c64) ?_
            refine HList.vals (v := (.int .i64 p1)) rfl (HVal.move' rfl) ?_
            refine HList.vals (v := (.int .i64 y47)) rfl (HVal.move' rfl) ?_
            refine HList.vals (v := (.int .i64 (IntKind.i64.wrap (p1 + y47)))) rfl (HVal.add rfl rfl) ?_
            refine HList.vals (v := (.string p2)) rfl (HVal.move' rfl) ?_
            refine HList.ops' rfl (HOp.call' 10 [(.int .i64 x65), (.int .i64 (IntKind.i64.wrap (p1 + y47))), (.string p2)] (cap := []) rfl rfl Tryd.call10 (walk10 h)) ?_
            rintro _ H66 ⟨r68, r69, r70, r71, rfl, h⟩
            refine HList.ops' rfl (HOp.alloc Tryd.zeroValue35) ?_
            rintro _ H72 ⟨rfl, e73⟩
            replace h := h H72 e73
            obtain ⟨z76, h⟩ := h
            refine HList.opsn (HOp.storeN' (l := [(.int .i64 r68), (.int .i64 r69), (.string r70), (.bool r71)]) Tryd.sizeOf35 rfl rfl rfl z76) ?_
            rintro _ H74 e75
            replace h := h H74 e75
            refine HList.nil ?_
            refine nt ?_
            refine HW.region ?_
            refine HList.vals (v := (.pointer (some (Addr.add ⟨H_2.size, 0, none⟩ 2)))) rfl (HVal.fieldAddr' Tryd.runUnderlying33 rfl rfl Tryd.sizeOf31 rfl) ?_
            obtain ⟨x78, c77, h⟩ := h
            refine HList.vals (v := (Sl.v x78)) rfl (HVal.load1 Tryd.isAgg31 rfl c77) ?_
            obtain ⟨x80, x81, x82, x83, c79, h⟩ := h
            refine HList.vals (v := (.agg #[(.int .i64 x80), (.int .i64 x81), (.string x82), (.bool x83)])) rfl (HVal.loadN [(.int .i64 x80), (.int .i64 x81), (.string x82), (.bool x83)] Tryd.isAgg35 Tryd.sizeOf35 rfl c79) ?_
            refine HList.ops' rfl (HOp.buildSlice' (zs := [(.int .i64 0), (.int .i64 0), (.string (ByteArray.mk #[])), (.bool false)]) (cs := [(.int .i64 x80), (.int .i64 x81), (.string x82), (.bool x83)]) Tryd.runUnderlying31 Tryd.sizeOf35 Tryd.zeroValue35 (by decide) (by kernel_rfl) rfl (by decide)) ?_
            rintro _ H84 ⟨rfl, e85⟩
            replace h := h H84 e85
            refine HList.ops' rfl (HOp.append (k := 4) (b := 40) Tryd.runUnderlying31 Tryd.runUnderlying31 Tryd.typeInfo35 rfl rfl Tryd.zeroValue35 rfl rfl h) ?_
            rintro _ H86 ⟨r88, rfl, h⟩
            refine HList.vals (v := (.pointer (some (Addr.add ⟨H_2.size, 0, none⟩ 2)))) rfl (HVal.fieldAddr' Tryd.runUnderlying33 rfl rfl Tryd.sizeOf31 rfl) ?_
            obtain ⟨z91, z92, h⟩ := h
            refine HList.opsn (HOp.store1 Tryd.sizeOf31 rfl rfl rfl z91 z92) ?_
            rintro _ H89 e90
            replace h := h H89 e90
            refine HList.nil ?_
            refine nb ?_
            refine nt ?_
            refine HW.region ?_
            refine HList.vals (v := (.int .i64 y47)) rfl (HVal.move' rfl) ?_
            refine HList.vals (v := (.int .i64 (IntKind.i64.wrap (y47 + 1)))) rfl (HVal.add rfl rfl) ?_
            refine HList.vals (v := (.int .i64 (IntKind.i64.wrap (y47 + 1)))) rfl (HVal.assign' rfl) ?_
            refine HList.nil ?_
            refine nt ?_
            exact (hX4 _ _).1 h _ ⟨rfl, rfl, rfl, rfl, rfl, rfl, rfl, rfl, trivial⟩
          · have h := hF hb57
            clear hT hF
            refine HW.exit ?_
            refine te ?_
            refine te ?_
            refine be ?_
            refine nt ?_
            exact ⟨⟨rfl, rfl, rfl, rfl, trivial⟩, h⟩
        · rintro ρ H_3 ⟨hI, h⟩
          obtain ⟨ρ0, rfl⟩ : ∃ ρ0, ρ = (Env.set (Env.set (Env.set (Env.set ρ0 15 (.pointer (some ⟨H_2.size, 0, none⟩))) 13 (.pointer r3)) 5 (.int .u8 p5)) 4 (.int .i64 p4)) := ⟨ρ, hI.eq⟩
          clear hI; unfold F3_3 at h
          refine HW.seq ?_
          refine HW.cut (fun ρ H_5 => ∃ (y106 : Bool), Env.Is ρ [(4, (.int .i64 p4)), (5, (.int .u8 p5)), (13, (.pointer r3)), (15, (.pointer (some ⟨H_2.size, 0, none⟩))), (75, (.bool y106))] ∧ F3_5 Q p4 p5 r3 ⟨H_2.size, 0, none⟩ y106 H_5) ?_ ?_
          · refine HW.region ?_
            refine HList.vals (v := (.pointer r3)) rfl (HVal.move' rfl) ?_
            obtain ⟨x98, x99, x100, c97, h⟩ := h
            refine HList.vals (v := (.agg #[(.string x98), (.int .i64 x99), (Sl.v x100)])) rfl (HVal.loadN [(.string x98), (.int .i64 x99), (Sl.v x100)] Tryd.isAgg33 Tryd.sizeOf33 rfl c97) ?_
            refine HList.ops' rfl (HOp.call' 11 [(.pointer r3), (.agg #[(.string x98), (.int .i64 x99), (Sl.v x100)])] (cap := []) rfl rfl Tryd.call11 (walk11 h)) ?_
            rintro _ H101 ⟨r103, rfl, h⟩
            refine HList.vals (v := (.bool (decide (r103 ≠ 0)))) rfl (HVal.neqI rfl rfl) ?_
            refine HList.vals (v := (.bool (decide (r103 ≠ 0)))) rfl (HVal.move' rfl) ?_
            obtain ⟨hT, hF⟩ := h
            rcases Bool.eq_false_or_eq_true (decide (r103 ≠ 0)) with hb104 | hb105
            · have h := hT hb104
              clear hT hF
              refine HList.gskips rfl rfl rfl rfl (congrArg Value.bool hb104) ?_
              refine HList.gskips rfl rfl rfl rfl (congrArg Value.bool hb104) ?_
              refine HList.gskips rfl rfl rfl rfl (congrArg Value.bool hb104) ?_
              refine HList.gskips rfl rfl rfl rfl (congrArg Value.bool hb104) ?_
              refine HList.gskips rfl rfl rfl rfl (congrArg Value.bool hb104) ?_
              refine HList.gskips rfl rfl rfl rfl (congrArg Value.bool hb104) ?_
              refine HList.gskips rfl rfl rfl rfl (congrArg Value.bool hb104) ?_
              refine HList.gskips rfl rfl rfl rfl (congrArg Value.bool hb104) ?_
              refine HList.vals (v := (.bool true)) rfl (HVal.pickT rfl hb104 rfl) ?_
              refine HList.nil ?_
              refine nt ?_
              exact ⟨true, ⟨rfl, rfl, rfl, rfl, rfl, trivial⟩, h⟩
            · have h := hF hb105
              clear hT hF
              refine HList.gvals (v := (.pointer r3)) rfl rfl rfl rfl (congrArg Value.bool hb105) (HVal.move' rfl) ?_
              refine HList.gvals (v := (.pointer (some (Addr.add ⟨H_2.size, 0, none⟩ 1)))) rfl rfl rfl rfl (congrArg Value.bool hb105) (HVal.fieldAddr' Tryd.runUnderlying33 rfl rfl Tryd.sizeOf2 rfl) ?_
              obtain ⟨x108, c107, h⟩ := h
              refine HList.gvals (v := (.int .i64 x108)) rfl rfl rfl rfl (congrArg Value.bool hb105) (HVal.load1 Tryd.isAgg2 rfl c107) ?_
              refine HList.gvals (v := (.pointer (some (Addr.add ⟨H_2.size, 0, none⟩ 2)))) rfl rfl rfl rfl (congrArg Value.bool hb105) (HVal.fieldAddr' Tryd.runUnderlying33 rfl rfl Tryd.sizeOf31 rfl) ?_
              obtain ⟨x110, c109, h⟩ := h
              refine HList.gvals (v := (Sl.v x110)) rfl rfl rfl rfl (congrArg Value.bool hb105) (HVal.load1 Tryd.isAgg31 rfl c109) ?_
              refine HList.gvals (v := (.agg #[(.string S_t), (.int .i64 x108), (Sl.v x110)])) rfl rfl rfl rfl (congrArg Value.bool hb105) (HVal.build' (cs := [(.string S_t), (.int .i64 x108), (Sl.v x110)]) Tryd.runUnderlying33 Tryd.zeroValue33 places33 rfl) ?_
              refine HList.gops rfl rfl rfl rfl (congrArg Value.bool hb105) (HOp.call' 11 [(.pointer r3), (.agg #[(.string S_t), (.int .i64 x108), (Sl.v x110)])] (cap := []) rfl rfl Tryd.call11 (walk11 h)) ?_
              rintro _ H111 ⟨r113, rfl, h⟩
              refine HList.gvals (v := (.bool (decide (r113 ≠ 21)))) rfl rfl rfl rfl (congrArg Value.bool hb105) (HVal.neqI rfl rfl) ?_
              refine HList.vals (v := (.bool (decide (r113 ≠ 21)))) rfl (HVal.pickF rfl hb105 rfl) ?_
              refine HList.nil ?_
              refine nt ?_
              exact ⟨(decide (r113 ≠ 21)), ⟨rfl, rfl, rfl, rfl, rfl, trivial⟩, h⟩
          · rintro ρ H_5 ⟨y106, hI, h⟩
            obtain ⟨ρ0, rfl⟩ : ∃ ρ0, ρ = (Env.set (Env.set (Env.set (Env.set (Env.set ρ0 75 (.bool y106)) 15 (.pointer (some ⟨H_2.size, 0, none⟩))) 13 (.pointer r3)) 5 (.int .u8 p5)) 4 (.int .i64 p4)) := ⟨ρ, hI.eq⟩
            clear hI; unfold F3_5 at h
            obtain ⟨hT, hF⟩ := h
            refine HW.cond y106 rfl (fun hb114 => ?_) (fun hb114 => ?_)
            · have h := hT hb114
              clear hT hF
              refine HW.seq ?_
              refine HW.region ?_
              refine HList.vals (v := (.bool false)) rfl (HVal.assign' rfl) ?_
              refine HList.nil ?_
              refine nt ?_
              refine HW.ret ?_
              refine tr ?_
              exact ⟨_, resOf1 rfl Res1.t, ⟨false, rfl, h⟩⟩
            · have h := hF hb114
              clear hT hF
              refine HW.skip ?_
              refine nt ?_
              refine HW.seq ?_
              refine HW.region ?_
              refine HList.vals (v := (.pointer (some (Addr.add ⟨H_2.size, 0, none⟩ 1)))) rfl (HVal.fieldAddr' Tryd.runUnderlying33 rfl rfl Tryd.sizeOf2 rfl) ?_
              obtain ⟨x116, c115, h⟩ := h
              refine HList.vals (v := (.int .i64 x116)) rfl (HVal.load1 Tryd.isAgg2 rfl c115) ?_
              refine HList.vals (v := (.int .i64 (IntKind.i64.wrap ((-1) - x116)))) rfl (HVal.sub rfl rfl) ?_
              refine HList.vals (v := (.pointer (some (Addr.add ⟨H_2.size, 0, none⟩ 1)))) rfl (HVal.fieldAddr' Tryd.runUnderlying33 rfl rfl Tryd.sizeOf2 rfl) ?_
              obtain ⟨z119, z120, h⟩ := h
              refine HList.opsn (HOp.store1 Tryd.sizeOf2 rfl rfl rfl z119 z120) ?_
              rintro _ H117 e118
              replace h := h H117 e118
              refine HList.nil ?_
              refine nt ?_
              refine HW.seq ?_
              refine HW.seq ?_
              refine HW.region ?_
              refine HList.vals (v := (.pointer r3)) rfl (HVal.move' rfl) ?_
              obtain ⟨x122, x123, x124, c121, h⟩ := h
              refine HList.vals (v := (.agg #[(.string x122), (.int .i64 x123), (Sl.v x124)])) rfl (HVal.loadN [(.string x122), (.int .i64 x123), (Sl.v x124)] Tryd.isAgg33 Tryd.sizeOf33 rfl c121) ?_
              refine HList.ops' rfl (HOp.call' 11 [(.pointer r3), (.agg #[(.string x122), (.int .i64 x123), (Sl.v x124)])] (cap := []) rfl rfl Tryd.call11 (walk11 h)) ?_
              rintro _ H125 ⟨r127, rfl, h⟩
              refine HList.vals (v := (.bool (decide (r127 ≠ 23)))) rfl (HVal.neqI rfl rfl) ?_
              refine HList.nil ?_
              refine nt ?_
              obtain ⟨hT, hF⟩ := h
              refine HW.cond (decide (r127 ≠ 23)) rfl (fun hb128 => ?_) (fun hb128 => ?_)
              · have h := hT hb128
                clear hT hF
                refine HW.seq ?_
                refine HW.region ?_
                refine HList.vals (v := (.bool false)) rfl (HVal.assign' rfl) ?_
                refine HList.nil ?_
                refine nt ?_
                refine HW.ret ?_
                refine tr ?_
                exact ⟨_, resOf1 rfl Res1.t, ⟨false, rfl, h⟩⟩
              · have h := hF hb128
                clear hT hF
                refine HW.skip ?_
                refine nt ?_
                refine HW.seq ?_
                refine HW.region ?_
                refine HList.vals (v := (.pointer (some (Addr.add ⟨H_2.size, 0, none⟩ 1)))) rfl (HVal.fieldAddr' Tryd.runUnderlying33 rfl rfl Tryd.sizeOf2 rfl) ?_
                obtain ⟨z131, z132, h⟩ := h
                refine HList.opsn (HOp.store1 Tryd.sizeOf2 rfl rfl rfl z131 z132) ?_
                rintro _ H129 e130
                replace h := h H129 e130
                refine HList.nil ?_
                refine nt ?_
                refine HW.seq ?_
                refine HW.seq ?_
                refine HW.region ?_
                refine HList.vals (v := (.pointer r3)) rfl (HVal.move' rfl) ?_
                obtain ⟨x134, x135, x136, c133, h⟩ := h
                refine HList.vals (v := (.agg #[(.string x134), (.int .i64 x135), (Sl.v x136)])) rfl (HVal.loadN [(.string x134), (.int .i64 x135), (Sl.v x136)] Tryd.isAgg33 Tryd.sizeOf33 rfl c133) ?_
                refine HList.ops' rfl (HOp.call' 11 [(.pointer r3), (.agg #[(.string x134), (.int .i64 x135), (Sl.v x136)])] (cap := []) rfl rfl Tryd.call11 (walk11 h)) ?_
                rintro _ H137 ⟨r139, rfl, h⟩
                refine HList.vals (v := (.bool (decide (r139 ≠ 23)))) rfl (HVal.neqI rfl rfl) ?_
                refine HList.nil ?_
                refine nt ?_
                obtain ⟨hT, hF⟩ := h
                refine HW.cond (decide (r139 ≠ 23)) rfl (fun hb140 => ?_) (fun hb140 => ?_)
                · have h := hT hb140
                  clear hT hF
                  refine HW.seq ?_
                  refine HW.region ?_
                  refine HList.vals (v := (.bool false)) rfl (HVal.assign' rfl) ?_
                  refine HList.nil ?_
                  refine nt ?_
                  refine HW.ret ?_
                  refine tr ?_
                  exact ⟨_, resOf1 rfl Res1.t, ⟨false, rfl, h⟩⟩
                · have h := hF hb140
                  clear hT hF
                  refine HW.skip ?_
                  refine nt ?_
                  refine HW.seq ?_
                  refine HW.region ?_
                  refine HList.vals (v := (.pointer (some (Addr.add ⟨H_2.size, 0, none⟩ 1)))) rfl (HVal.fieldAddr' Tryd.runUnderlying33 rfl rfl Tryd.sizeOf2 rfl) ?_
                  obtain ⟨z143, z144, h⟩ := h
                  refine HList.opsn (HOp.store1 Tryd.sizeOf2 rfl rfl rfl z143 z144) ?_
                  rintro _ H141 e142
                  replace h := h H141 e142
                  refine HList.nil ?_
                  refine nt ?_
                  refine HW.seq ?_
                  refine HW.region ?_
                  refine HList.vals (v := (.pointer (some (Addr.add ⟨H_2.size, 0, none⟩ 2)))) rfl (HVal.fieldAddr' Tryd.runUnderlying33 rfl rfl Tryd.sizeOf31 rfl) ?_
                  obtain ⟨x146, c145, h⟩ := h
                  refine HList.vals (v := (Sl.v x146)) rfl (HVal.load1 Tryd.isAgg31 rfl c145) ?_
                  refine HList.ops' rfl (HOp.append (k := 4) (b := 40) Tryd.runUnderlying31 Tryd.runUnderlying31 Tryd.typeInfo35 rfl rfl Tryd.zeroValue35 rfl rfl h) ?_
                  rintro _ H147 ⟨r149, rfl, h⟩
                  refine HList.vals (v := (Sl.v r149)) rfl (HVal.assign' rfl) ?_
                  refine HList.nil ?_
                  refine nt ?_
                  refine HW.seq ?_
                  refine HW.region ?_
                  refine HList.vals (v := (Sl.v r149)) rfl (HVal.move' rfl) ?_
                  refine HList.vals (v := (.agg #[(.int .i64 1), (.int .i64 0), (.string (ByteArray.mk #[])), (.bool false)])) rfl (HVal.build' (cs := [(.int .i64 1), (.int .i64 0), (.string (ByteArray.mk #[])), (.bool false)]) Tryd.runUnderlying35 Tryd.zeroValue35 places35 rfl) ?_
                  refine HList.ops' rfl (HOp.buildSlice' (zs := [(.int .i64 0), (.int .i64 0), (.string (ByteArray.mk #[])), (.bool false)]) (cs := [(.int .i64 1), (.int .i64 0), (.string (ByteArray.mk #[])), (.bool false)]) Tryd.runUnderlying31 Tryd.sizeOf35 Tryd.zeroValue35 (by decide) (by kernel_rfl) rfl (by decide)) ?_
                  rintro _ H150 ⟨rfl, e151⟩
                  replace h := h H150 e151
                  refine HList.ops' rfl (HOp.append (k := 4) (b := 40) Tryd.runUnderlying31 Tryd.runUnderlying31 Tryd.typeInfo35 rfl rfl Tryd.zeroValue35 rfl rfl h) ?_
                  rintro _ H152 ⟨r154, rfl, h⟩
                  refine HList.vals (v := (Sl.v r154)) rfl (HVal.assign' rfl) ?_
                  refine HList.nil ?_
                  refine nt ?_
                  refine HW.seq ?_
                  refine HW.seq ?_
                  refine HW.region ?_
                  refine HList.vals (v := (.pointer r3)) rfl (HVal.move' rfl) ?_
                  refine HList.vals (v := (Sl.v r154)) rfl (HVal.move' rfl) ?_
                  refine HList.vals (v := (.agg #[(.string S_T), (.int .i64 0), (Sl.v r154)])) rfl (HVal.build' (cs := [(.string S_T), (.int .i64 0), (Sl.v r154)]) Tryd.runUnderlying33 Tryd.zeroValue33 places33 rfl) ?_
                  refine HList.ops' rfl (HOp.call' 11 [(.pointer r3), (.agg #[(.string S_T), (.int .i64 0), (Sl.v r154)])] (cap := []) rfl rfl Tryd.call11 (walk11 h)) ?_
                  rintro _ H155 ⟨r157, rfl, h⟩
                  refine HList.vals (v := (.bool (decide (r157 ≠ 22)))) rfl (HVal.neqI rfl rfl) ?_
                  refine HList.nil ?_
                  refine nt ?_
                  obtain ⟨hT, hF⟩ := h
                  refine HW.cond (decide (r157 ≠ 22)) rfl (fun hb158 => ?_) (fun hb158 => ?_)
                  · have h := hT hb158
                    clear hT hF
                    refine HW.seq ?_
                    refine HW.region ?_
                    refine HList.vals (v := (.bool false)) rfl (HVal.assign' rfl) ?_
                    refine HList.nil ?_
                    refine nt ?_
                    refine HW.ret ?_
                    refine tr ?_
                    exact ⟨_, resOf1 rfl Res1.t, ⟨false, rfl, h⟩⟩
                  · have h := hF hb158
                    clear hT hF
                    refine HW.skip ?_
                    refine nt ?_
                    refine HW.seq ?_
                    refine HW.seq ?_
                    refine HW.region ?_
                    refine HList.vals (v := (.pointer (some (Addr.add ⟨H_2.size, 0, none⟩ 2)))) rfl (HVal.fieldAddr' Tryd.runUnderlying33 rfl rfl Tryd.sizeOf31 rfl) ?_
                    obtain ⟨x160, c159, h⟩ := h
                    refine HList.vals (v := (Sl.v x160)) rfl (HVal.load1 Tryd.isAgg31 rfl c159) ?_
                    refine HList.vals (v := (.int .i64 ((x160).n : Int))) rfl (HVal.len Tryd.runUnderlying31 rfl) ?_
                    refine HList.vals (v := (.bool (decide (((x160).n : Int) = 0)))) rfl (HVal.eqlI rfl rfl) ?_
                    refine HList.nil ?_
                    refine nt ?_
                    obtain ⟨hT, hF⟩ := h
                    refine HW.cond (decide (((x160).n : Int) = 0)) rfl (fun hb161 => ?_) (fun hb161 => ?_)
                    · have h := hT hb161
                      clear hT hF
                      refine HW.seq ?_
                      refine HW.region ?_
                      refine HList.vals (v := (.bool true)) rfl (HVal.assign' rfl) ?_
                      refine HList.nil ?_
                      refine nt ?_
                      refine HW.ret ?_
                      refine tr ?_
                      exact ⟨_, resOf1 rfl Res1.t, ⟨true, rfl, h⟩⟩
                    · have h := hF hb161
                      clear hT hF
                      refine HW.skip ?_
                      refine nt ?_
                      refine HW.seq ?_
                      refine HW.seq ?_
                      refine HW.region ?_
                      refine HList.vals (v := (.pointer r3)) rfl (HVal.move' rfl) ?_
                      refine HList.vals (v := (Sl.v r154)) rfl (HVal.move' rfl) ?_
                      refine HList.vals (v := (.pointer (some (Addr.add ⟨H_2.size, 0, none⟩ 2)))) rfl (HVal.fieldAddr' Tryd.runUnderlying33 rfl rfl Tryd.sizeOf31 rfl) ?_
                      obtain ⟨x163, c162, h⟩ := h
                      refine HList.vals (v := (Sl.v x163)) rfl (HVal.load1 Tryd.isAgg31 rfl c162) ?_
                      refine HList.vals (v := (.int .i64 ((x163).n : Int))) rfl (HVal.len Tryd.runUnderlying31 rfl) ?_
                      refine HList.vals (v := (.int .i64 (IntKind.i64.wrap (((x163).n : Int) - 1)))) rfl (HVal.sub rfl rfl) ?_
                      obtain ⟨z164, z165, z166, z167, h⟩ := h
                      refine HList.vals (v := (Sl.v (Sl.cut r154 4 0 ((IntKind.i64.wrap (((x163).n : Int) - 1)).toNat) ((r154).c)))) rfl (HVal.slice _ _ _ Tryd.runUnderlying31 Tryd.sizeOf35 rfl rfl ⟨_, _, rfl, z164, rfl⟩ rfl (by decide) z165 z166 z167) ?_
                      refine HList.vals (v := (.agg #[(.string S_T), (.int .i64 0), (Sl.v (Sl.cut r154 4 0 ((IntKind.i64.wrap (((x163).n : Int) - 1)).toNat) ((r154).c)))])) rfl (HVal.build' (cs := [(.string S_T), (.int .i64 0), (Sl.v (Sl.cut r154 4 0 ((IntKind.i64.wrap (((x163).n : Int) - 1)).toNat) ((r154).c)))]) Tryd.runUnderlying33 Tryd.zeroValue33 places33 rfl) ?_
                      refine HList.ops' rfl (HOp.call' 11 [(.pointer r3), (.agg #[(.string S_T), (.int .i64 0), (Sl.v (Sl.cut r154 4 0 ((IntKind.i64.wrap (((x163).n : Int) - 1)).toNat) ((r154).c)))])] (cap := []) rfl rfl Tryd.call11 (walk11 h)) ?_
                      rintro _ H168 ⟨r170, rfl, h⟩
                      refine HList.vals (v := (.bool (decide (r170 ≠ 22)))) rfl (HVal.neqI rfl rfl) ?_
                      refine HList.nil ?_
                      refine nt ?_
                      obtain ⟨hT, hF⟩ := h
                      refine HW.cond (decide (r170 ≠ 22)) rfl (fun hb171 => ?_) (fun hb171 => ?_)
                      · have h := hT hb171
                        clear hT hF
                        refine HW.seq ?_
                        refine HW.region ?_
                        refine HList.vals (v := (.bool false)) rfl (HVal.assign' rfl) ?_
                        refine HList.nil ?_
                        refine nt ?_
                        refine HW.ret ?_
                        refine tr ?_
                        exact ⟨_, resOf1 rfl Res1.t, ⟨false, rfl, h⟩⟩
                      · have h := hF hb171
                        clear hT hF
                        refine HW.skip ?_
                        refine nt ?_
                        refine HW.seq ?_
                        refine HW.region ?_
                        refine HList.vals (v := (.int .i64 p4)) rfl (HVal.move' rfl) ?_
                        refine HList.vals (v := (.pointer (some (Addr.add ⟨H_2.size, 0, none⟩ 2)))) rfl (HVal.fieldAddr' Tryd.runUnderlying33 rfl rfl Tryd.sizeOf31 rfl) ?_
                        obtain ⟨x173, c172, h⟩ := h
                        refine HList.vals (v := (Sl.v x173)) rfl (HVal.load1 Tryd.isAgg31 rfl c172) ?_
                        refine HList.vals (v := (.int .i64 ((x173).n : Int))) rfl (HVal.len Tryd.runUnderlying31 rfl) ?_
                        refine HList.ops' rfl (HOp.call' 12 [(.int .i64 p4), (.int .i64 ((x173).n : Int))] (cap := []) rfl rfl Tryd.call12 (walk12 h)) ?_
                        rintro _ H174 ⟨r176, rfl, h⟩
                        refine HList.vals (v := (.int .i64 r176)) rfl (HVal.assign' rfl) ?_
                        refine HList.nil ?_
                        refine nt ?_
                        refine HW.seq ?_
                        refine HW.region ?_
                        refine HList.vals (v := (.pointer (some (Addr.add ⟨H_2.size, 0, none⟩ 2)))) rfl (HVal.fieldAddr' Tryd.runUnderlying33 rfl rfl Tryd.sizeOf31 rfl) ?_
                        obtain ⟨x178, c177, h⟩ := h
                        refine HList.vals (v := (Sl.v x178)) rfl (HVal.load1 Tryd.isAgg31 rfl c177) ?_
                        refine HList.vals (v := (.int .i64 r176)) rfl (HVal.move' rfl) ?_
                        obtain ⟨a179, e180, b181, b182, h⟩ := h
                        refine HList.vals (v := (.pointer (some (Addr.add a179 (r176.toNat * 4))))) rfl (HVal.indexAddr Tryd.runUnderlying31 Tryd.sizeOf35 (Sl.v_some rfl e180) rfl b181 b182) ?_
                        refine HList.vals (v := (.pointer (some (Addr.add a179 (r176.toNat * 4))))) rfl (HVal.fieldAddr0 Tryd.runUnderlying35 rfl rfl Tryd.sizeOf3 rfl) ?_
                        obtain ⟨x184, c183, h⟩ := h
                        refine HList.vals (v := (.int .i64 x184)) rfl (HVal.load1 Tryd.isAgg3 rfl c183) ?_
                        refine HList.vals (v := (.int .i64 x184)) rfl (HVal.assign' rfl) ?_
                        refine HList.nil ?_
                        refine nt ?_
                        refine HW.seq ?_
                        refine HW.seq ?_
                        refine HW.region ?_
                        refine HList.vals (v := (.int .u8 p5)) rfl (HVal.move' rfl) ?_
                        refine HList.vals (v := (.int .u8 (Int.tmod p5 (2 : Int)))) rfl (HVal.rem rfl rfl (by decide)) ?_
                        refine HList.vals (v := (.bool (decide ((Int.tmod p5 (2 : Int)) = 0)))) rfl (HVal.eqlI rfl rfl) ?_
                        refine HList.nil ?_
                        refine nt ?_
                        obtain ⟨hT, hF⟩ := h
                        refine HW.cond (decide ((Int.tmod p5 (2 : Int)) = 0)) rfl (fun hb185 => ?_) (fun hb185 => ?_)
                        · have h := hT hb185
                          clear hT hF
                          refine HW.seq ?_
                          refine HW.draw mixed [(0, some []), (1, some [13]), (2, some []), (3, some []), (4, some []), (5, some []), (6, some []), (7, some []), (8, some []), (9, some []), (10, some []), (11, none), (12, some []), (13, none)] rfl (by kernel_rfl) (by kernel_rfl) ?_
                          refine HPlan.takev (v := (.pointer (some (Addr.add ⟨H_2.size, 0, none⟩ 2)))) rfl rfl (fun _ => HVal.fieldAddr' Tryd.runUnderlying33 rfl rfl Tryd.sizeOf31 rfl) ?_
                          obtain ⟨x187, c186, h⟩ := h
                          refine HPlan.takel (v := (Sl.v x187)) (fun X => cell X (Addr.add ⟨H_2.size, 0, none⟩ 2) = some (Sl.v x187)) rfl rfl (fun _ hX => HVal.load1 Tryd.isAgg31 rfl hX) c186 ?_
                          refine HPlan.takev (v := (.int .i64 r176)) rfl rfl (fun _ => HVal.move' rfl) ?_
                          refine HPlan.takev (v := (.int .i64 x184)) rfl rfl (fun _ => HVal.move' rfl) ?_
                          refine HPlan.takev (v := (.int .u8 p5)) rfl rfl (fun _ => HVal.move' rfl) ?_
                          refine HPlan.takev (v := (.int .i64 (IntKind.i64.wrap p5))) rfl rfl (fun _ => HVal.convI Tryd.runUnderlying5 Tryd.runUnderlying3 rfl) ?_
                          refine HPlan.takev (v := (.int .i64 (IntKind.i64.wrap (Int.tdiv (IntKind.i64.wrap p5) (2 : Int))))) rfl rfl (fun _ => HVal.quo rfl rfl (by decide)) ?_
                          refine HPlan.takev (v := (.int .i64 (Int.tmod (IntKind.i64.wrap (Int.tdiv (IntKind.i64.wrap p5) (2 : Int))) (2 : Int)))) rfl rfl (fun _ => HVal.rem rfl rfl (by decide)) ?_
                          refine HPlan.takev (v := (.int .i64 (IntKind.i64.wrap (x184 + (Int.tmod (IntKind.i64.wrap (Int.tdiv (IntKind.i64.wrap p5) (2 : Int))) (2 : Int)))))) rfl rfl (fun _ => HVal.add rfl rfl) ?_
                          refine HPlan.takev (v := (.int .i64 (Int.tmod (IntKind.i64.wrap (x184 + (Int.tmod (IntKind.i64.wrap (Int.tdiv (IntKind.i64.wrap p5) (2 : Int))) (2 : Int)))) (3 : Int)))) rfl rfl (fun _ => HVal.rem rfl rfl (by decide)) ?_
                          refine HPlan.takev (v := (.int .i64 (IntKind.i64.wrap (1 + (Int.tmod (IntKind.i64.wrap (x184 + (Int.tmod (IntKind.i64.wrap (Int.tdiv (IntKind.i64.wrap p5) (2 : Int))) (2 : Int)))) (3 : Int)))))) rfl rfl (fun _ => HVal.add rfl rfl) ?_
                          refine HPlan.ops' rfl rfl (HOp.call' 10 [(.int .i64 (IntKind.i64.wrap (1 + (Int.tmod (IntKind.i64.wrap (x184 + (Int.tmod (IntKind.i64.wrap (Int.tdiv (IntKind.i64.wrap p5) (2 : Int))) (2 : Int)))) (3 : Int))))), (.int .i64 0), (.string (ByteArray.mk #[]))] (cap := []) rfl rfl Tryd.call10 (walk10 h)) ?_
                          rintro _ H188 ⟨r190, r191, r192, r193, rfl, h⟩
                          obtain ⟨s194, h⟩ := h
                          refine ⟨SC_of ⟨fun _ => s194, trivial⟩, ?_⟩
                          obtain ⟨a195, e196, b197, b198, h⟩ := h
                          refine HPlan.takev (v := (.pointer (some (Addr.add a195 (r176.toNat * 4))))) rfl rfl (fun _ => HVal.indexAddr Tryd.runUnderlying31 Tryd.sizeOf35 (Sl.v_some rfl e196) rfl b197 b198) ?_
                          obtain ⟨z201, h⟩ := h
                          refine HPlan.opsn rfl (HOp.storeN' (l := [(.int .i64 r190), (.int .i64 r191), (.string r192), (.bool r193)]) Tryd.sizeOf35 rfl rfl rfl z201) ?_
                          rintro _ H199 e200
                          replace h := h H199 e200
                          refine ⟨SC_of ⟨fun e => absurd e (by decide), trivial⟩, ?_⟩
                          refine HPlan.done ?_
                          refine nt ?_
                          refine HW.seq ?_
                          refine HW.region ?_
                          refine HList.vals (v := (.pointer r3)) rfl (HVal.move' rfl) ?_
                          obtain ⟨x203, x204, x205, c202, h⟩ := h
                          refine HList.vals (v := (.agg #[(.string x203), (.int .i64 x204), (Sl.v x205)])) rfl (HVal.loadN [(.string x203), (.int .i64 x204), (Sl.v x205)] Tryd.isAgg33 Tryd.sizeOf33 rfl c202) ?_
                          refine HList.ops' rfl (HOp.call' 11 [(.pointer r3), (.agg #[(.string x203), (.int .i64 x204), (Sl.v x205)])] (cap := []) rfl rfl Tryd.call11 (walk11 h)) ?_
                          rintro _ H206 ⟨r208, rfl, h⟩
                          refine HList.vals (v := (.bool (decide (r208 = 10)))) rfl (HVal.eqlI rfl rfl) ?_
                          refine HList.vals (v := (.bool (decide (r208 = 10)))) rfl (HVal.assign' rfl) ?_
                          refine HList.nil ?_
                          refine nt ?_
                          refine HW.ret ?_
                          refine tr ?_
                          exact ⟨_, resOf1 rfl Res1.t, ⟨(decide (r208 = 10)), rfl, h⟩⟩
                        · have h := hF hb185
                          clear hT hF
                          refine HW.skip ?_
                          refine nt ?_
                          refine HW.cut (fun ρ H_6 => Env.Is ρ [(13, (.pointer r3)), (15, (.pointer (some ⟨H_2.size, 0, none⟩)))] ∧ F3_6 Q r3 ⟨H_2.size, 0, none⟩ H_6) ?_ ?_
                          · refine HW.seq ?_
                            refine HW.region ?_
                            refine HList.vals (v := (.int .i64 x184)) rfl (HVal.move' rfl) ?_
                            refine HList.vals (v := (.bool (decide (x184 = 1)))) rfl (HVal.eqlI rfl rfl) ?_
                            refine HList.nil ?_
                            refine nt ?_
                            obtain ⟨hT, hF⟩ := h
                            refine HW.cond (decide (x184 = 1)) rfl (fun hb211 => ?_) (fun hb211 => ?_)
                            · have h := hT hb211
                              clear hT hF
                              refine HW.region ?_
                              refine HList.vals (v := (.pointer (some (Addr.add ⟨H_2.size, 0, none⟩ 2)))) rfl (HVal.fieldAddr' Tryd.runUnderlying33 rfl rfl Tryd.sizeOf31 rfl) ?_
                              obtain ⟨x213, c212, h⟩ := h
                              refine HList.vals (v := (Sl.v x213)) rfl (HVal.load1 Tryd.isAgg31 rfl c212) ?_
                              refine HList.vals (v := (.int .i64 r176)) rfl (HVal.move' rfl) ?_
                              obtain ⟨a214, e215, b216, b217, h⟩ := h
                              refine HList.vals (v := (.pointer (some (Addr.add a214 (r176.toNat * 4))))) rfl (HVal.indexAddr Tryd.runUnderlying31 Tryd.sizeOf35 (Sl.v_some rfl e215) rfl b216 b217) ?_
                              refine HList.vals (v := (.pointer (some (Addr.add (Addr.add a214 (r176.toNat * 4)) 2)))) rfl (HVal.fieldAddr' Tryd.runUnderlying35 rfl rfl Tryd.sizeOf9 rfl) ?_
                              obtain ⟨z220, z221, h⟩ := h
                              refine HList.opsn (HOp.store1 Tryd.sizeOf9 rfl rfl rfl z220 z221) ?_
                              rintro _ H218 e219
                              replace h := h H218 e219
                              refine HList.nil ?_
                              refine nt ?_
                              exact ⟨⟨rfl, rfl, trivial⟩, h⟩
                            · have h := hF hb211
                              clear hT hF
                              refine HW.region ?_
                              refine HList.vals (v := (.pointer (some (Addr.add ⟨H_2.size, 0, none⟩ 2)))) rfl (HVal.fieldAddr' Tryd.runUnderlying33 rfl rfl Tryd.sizeOf31 rfl) ?_
                              obtain ⟨x223, c222, h⟩ := h
                              refine HList.vals (v := (Sl.v x223)) rfl (HVal.load1 Tryd.isAgg31 rfl c222) ?_
                              refine HList.vals (v := (.int .i64 r176)) rfl (HVal.move' rfl) ?_
                              obtain ⟨a224, e225, b226, b227, h⟩ := h
                              refine HList.vals (v := (.pointer (some (Addr.add a224 (r176.toNat * 4))))) rfl (HVal.indexAddr Tryd.runUnderlying31 Tryd.sizeOf35 (Sl.v_some rfl e225) rfl b226 b227) ?_
                              refine HList.vals (v := (.pointer (some (Addr.add (Addr.add a224 (r176.toNat * 4)) 1)))) rfl (HVal.fieldAddr' Tryd.runUnderlying35 rfl rfl Tryd.sizeOf2 rfl) ?_
                              obtain ⟨z230, z231, h⟩ := h
                              refine HList.opsn (HOp.store1 Tryd.sizeOf2 rfl rfl rfl z230 z231) ?_
                              rintro _ H228 e229
                              replace h := h H228 e229
                              refine HList.nil ?_
                              refine nt ?_
                              exact ⟨⟨rfl, rfl, trivial⟩, h⟩
                          · rintro ρ H_6 ⟨hI, h⟩
                            obtain ⟨ρ0, rfl⟩ : ∃ ρ0, ρ = (Env.set (Env.set ρ0 15 (.pointer (some ⟨H_2.size, 0, none⟩))) 13 (.pointer r3)) := ⟨ρ, hI.eq⟩
                            clear hI; unfold F3_6 at h
                            refine HW.seq ?_
                            refine HW.region ?_
                            refine HList.vals (v := (.pointer r3)) rfl (HVal.move' rfl) ?_
                            obtain ⟨x233, x234, x235, c232, h⟩ := h
                            refine HList.vals (v := (.agg #[(.string x233), (.int .i64 x234), (Sl.v x235)])) rfl (HVal.loadN [(.string x233), (.int .i64 x234), (Sl.v x235)] Tryd.isAgg33 Tryd.sizeOf33 rfl c232) ?_
                            refine HList.ops' rfl (HOp.call' 11 [(.pointer r3), (.agg #[(.string x233), (.int .i64 x234), (Sl.v x235)])] (cap := []) rfl rfl Tryd.call11 (walk11 h)) ?_
                            rintro _ H236 ⟨r238, rfl, h⟩
                            refine HList.vals (v := (.bool (decide (r238 = 12)))) rfl (HVal.eqlI rfl rfl) ?_
                            refine HList.vals (v := (.bool (decide (r238 = 12)))) rfl (HVal.assign' rfl) ?_
                            refine HList.nil ?_
                            refine nt ?_
                            refine HW.ret ?_
                            exact ⟨_, resOf1 rfl Res1.t, ⟨(decide (r238 = 12)), rfl, h⟩⟩

def F13_1 (Q : ByteArray → Int → Hp → Prop) (y20 : Addr) (H_1 : Hp) : Prop :=
F29 (some y20) 41 H_1 (fun (r69 : Value) (H67 : Hp) => 
 F30 (some y20) H67 (fun (r72 : ByteArray) (H70 : Hp) => 
 Q r72 0 H70))
def F13_3 (Q : ByteArray → Int → Hp → Prop) (X2 : Int → Hp → Prop) (y40 : Addr) (y41 : Addr) (y42 : Sl) (y43 : Int) (y44 : Int) (H_3 : Hp) : Prop :=
∃ x51 : ByteArray, cell H_3 y41 = some (.string x51) ∧ (
 (x51).size + (S_____).size ≤ 9223372036854775807 ∧ (
 ∃ x54 : Int, cell H_3 (Addr.add y41 1) = some (.int .i64 x54) ∧ (
 (0 : Int) ≤ x54 ∧ x54 < ((4 : Nat) : Int) ∧ (
 ∃ x58 : ByteArray, cell H_3 (Addr.add ⟨0, 0, none⟩ (x54.toNat * 1)) = some (.string x58) ∧ (
 ((x51 ++ S_____)).size + (x58).size ≤ 9223372036854775807 ∧ (
 F28 (some y40) ((x51 ++ S_____) ++ x58) H_3 (fun (r62 : Int) (r63 : Value) (H60 : Hp) => 
 cell H60 (Addr.add ⟨0, 0, none⟩ (x54.toNat * 1)) = some (.string x58) ∧ cell H60 (Addr.add y41 1) = some (.int .i64 x54) ∧ cell H60 y41 = some (.string x51) ∧ (
 X2 (IntKind.i64.wrap (y44 + 1)) H60))))))))
def F13_L2b (Q : ByteArray → Int → Hp → Prop) (X2 : Int → Hp → Prop) (y24 : Addr) (y25 : Sl) (y26 : Int) (y23 : Int) (H_2 : Hp) : Prop :=
((decide (y23 < y26)) = true → (∃ a28 : Addr, (y25).b = some a28 ∧ (0 : Int) ≤ y23 ∧ y23 < ((y25).n : Int) ∧ (
 ∃ (x33 : ByteArray) (x34 : Int), cells H_2 (Addr.add a28 (y23.toNat * 2)) [(.string x33), (.int .i64 x34)] 0 ∧ (
 ∀ H35 : Hp, H35 = Array.push H_2 (.cells #[(.string (ByteArray.mk #[])), (.int .i64 0)] 38) → (
 mayw H35 ⟨H_2.size, 0, none⟩ 2 0 ∧ ∀ H37 : Hp, H37 = sets H35 ⟨H_2.size, 0, none⟩ [(.string x33), (.int .i64 x34)] 0 → (
 ((decide ((0 : Int) < y23)) = true → (F28 (some y24) S___________ H37 (fun (r48 : Int) (r49 : Value) (H46 : Hp) => 
 F13_3 Q X2 y24 ⟨H_2.size, 0, none⟩ y25 y26 y23 H46))) ∧
 ((decide ((0 : Int) < y23)) = false → (F13_3 Q X2 y24 ⟨H_2.size, 0, none⟩ y25 y26 y23 H37)))))))) ∧
 ((decide (y23 < y26)) = false → (F13_1 Q y24 H_2))
def F13_L2 (Q : ByteArray → Int → Hp → Prop) (y24 : Addr) (y25 : Sl) (y26 : Int) (y23 : Int) (H_2 : Hp) : Prop :=
  ∀ X2 : Int → Hp → Prop, (∀ (y23 : Int) (H_2 : Hp), F13_L2b Q X2 y24 y25 y26 y23 H_2 → X2 y23 H_2) → X2 y23 H_2
def F13 (p0_0 : ByteArray) (p0_1 : Sl) (H : Hp) (Q : ByteArray → Int → Hp → Prop) : Prop :=
∀ H1 : Hp, H1 = Array.push H (.cells #[(.string p0_0), (Sl.v p0_1)] 27) → (
 ∃ (x4 : ByteArray) (x5 : Sl), cells H1 ⟨H.size, 0, none⟩ [(.string x4), (Sl.v x5)] 0 ∧ (
 F24 x4 x5 H1 (fun (r8 : Int) (H6 : Hp) => 
 ((decide (r8 ≠ 0)) = true → (Q (ByteArray.mk #[]) r8 H6)) ∧
 ((decide (r8 ≠ 0)) = false → (∀ H10 : Hp, H10 = Array.push H6 (.cells #[(.pointer none), (Sl.v Sl.nil)] 80) → (
 ∃ x13 : ByteArray, cell H10 ⟨H.size, 0, none⟩ = some (.string x13) ∧ (
 (S_TYPE_).size + (x13).size ≤ 9223372036854775807 ∧ (
 ((S_TYPE_ ++ x13)).size + (S__________).size ≤ 9223372036854775807 ∧ (
 F28 (some ⟨H6.size, 0, none⟩) ((S_TYPE_ ++ x13) ++ S__________) H10 (fun (r18 : Int) (r19 : Value) (H16 : Hp) => 
 ∃ x22 : Sl, cell H16 (Addr.add ⟨H.size, 0, none⟩ 1) = some (Sl.v x22) ∧ (
 F13_L2 Q ⟨H6.size, 0, none⟩ x22 ((x22).n : Int) 0 H16)))))))))))
set_option maxRecDepth 100000 in
set_option maxHeartbeats 4000000 in
theorem walk13 {w0 : World} {p0_0 : ByteArray} {p0_1 : Sl} {H : Hp} {Q : ByteArray → Int → Hp → Prop} (h : F13 p0_0 p0_1 H Q) :
    Good Tryd.prog w0 13 #[(.agg #[(.string p0_0), (Sl.v p0_1)])] H (fun v H => ∃ (r0 : ByteArray) (r1 : Int) , v = (.tuple #[(.string r0), (.int .i64 r1)]) ∧ Q r0 r1 H) := by
  unfold F13 at h
  refine Good.enter' (fn := Tryd.f13) Tryd.func13 rfl rfl rfl ?_
  refine HW.seq ?_
  refine HW.region ?_
  refine HList.ops' rfl (HOp.box (v := (.agg #[(.string p0_0), (Sl.v p0_1)])) rfl) ?_
  rintro _ H1 ⟨rfl, e2⟩
  replace h := h H1 e2
  refine HList.vals (v := (.string (ByteArray.mk #[]))) rfl (HVal.assign' rfl) ?_
  refine HList.vals (v := (.int .i64 0)) rfl (HVal.assign' rfl) ?_
  refine HList.nil ?_
  refine nt ?_
  refine HW.seq ?_
  refine HW.seq ?_
  refine HW.region ?_
  obtain ⟨x4, x5, c3, h⟩ := h
  refine HList.vals (v := (.agg #[(.string x4), (Sl.v x5)])) rfl (HVal.loadN [(.string x4), (Sl.v x5)] Tryd.isAgg27 Tryd.sizeOf27 rfl c3) ?_
  refine HList.ops' rfl (HOp.call' 24 [(.agg #[(.string x4), (Sl.v x5)])] (cap := []) rfl rfl Tryd.call24 (walk24 h)) ?_
  rintro _ H6 ⟨r8, rfl, h⟩
  refine HList.vals (v := (.int .i64 r8)) rfl (HVal.assign' rfl) ?_
  refine HList.nil ?_
  refine nt ?_
  refine HW.seq ?_
  refine HW.region ?_
  refine HList.vals (v := (.int .i64 r8)) rfl (HVal.move' rfl) ?_
  refine HList.vals (v := (.bool (decide (r8 ≠ 0)))) rfl (HVal.neqI rfl rfl) ?_
  refine HList.nil ?_
  refine nt ?_
  obtain ⟨hT, hF⟩ := h
  refine HW.cond (decide (r8 ≠ 0)) rfl (fun hb9 => ?_) (fun hb9 => ?_)
  · have h := hT hb9
    clear hT hF
    refine HW.seq ?_
    refine HW.region ?_
    refine HList.vals (v := (.int .i64 r8)) rfl (HVal.move' rfl) ?_
    refine HList.vals (v := (.string (ByteArray.mk #[]))) rfl (HVal.assign' rfl) ?_
    refine HList.vals (v := (.int .i64 r8)) rfl (HVal.assign' rfl) ?_
    refine HList.nil ?_
    refine nt ?_
    refine HW.ret ?_
    refine tr ?_
    exact ⟨_, resOf2 rfl Res1.t Res1.t, ⟨(ByteArray.mk #[]), r8, rfl, h⟩⟩
  · have h := hF hb9
    clear hT hF
    refine HW.skip ?_
    refine nt ?_
    refine HW.seq ?_
    refine HW.region ?_
    refine HList.ops' rfl (HOp.alloc Tryd.zeroValue80) ?_
    rintro _ H10 ⟨rfl, e11⟩
    replace h := h H10 e11
    refine HList.nil ?_
    refine nt ?_
    refine HW.seq ?_
    refine HW.region ?_
    refine HList.vals (v := (.pointer (some ⟨H.size, 0, none⟩))) rfl (HVal.fieldAddr0 Tryd.runUnderlying27 rfl rfl Tryd.sizeOf9 rfl) ?_
    obtain ⟨x13, c12, h⟩ := h
    refine HList.vals (v := (.string x13)) rfl (HVal.load1 Tryd.isAgg9 rfl c12) ?_
    obtain ⟨z14, h⟩ := h
    refine HList.vals (v := (.string (S_TYPE_ ++ x13))) rfl (HVal.addS rfl rfl z14) ?_
    obtain ⟨z15, h⟩ := h
    refine HList.vals (v := (.string ((S_TYPE_ ++ x13) ++ S__________))) rfl (HVal.addS rfl rfl z15) ?_
    refine HList.ops' rfl (HOp.call' 28 [(.pointer (some ⟨H6.size, 0, none⟩)), (.string ((S_TYPE_ ++ x13) ++ S__________))] (cap := []) rfl rfl Tryd.call28 (walk28 h)) ?_
    rintro _ H16 ⟨r18, r19, rfl, h⟩
    refine HList.nil ?_
    refine nt ?_
    refine HW.cut (fun ρ H_1 => Env.Is ρ [(5, (.pointer (some ⟨H6.size, 0, none⟩)))] ∧ F13_1 Q ⟨H6.size, 0, none⟩ H_1) ?_ ?_
    · refine HW.seq ?_
      refine HW.region ?_
      refine HList.vals (v := (.pointer (some (Addr.add ⟨H.size, 0, none⟩ 1)))) rfl (HVal.fieldAddr' Tryd.runUnderlying27 rfl rfl Tryd.sizeOf25 rfl) ?_
      obtain ⟨x22, c21, h⟩ := h
      refine HList.vals (v := (Sl.v x22)) rfl (HVal.load1 Tryd.isAgg25 rfl c21) ?_
      refine HList.vals (v := (.int .i64 ((x22).n : Int))) rfl (HVal.len Tryd.runUnderlying25 rfl) ?_
      refine HList.vals (v := (.int .i64 0)) rfl (HVal.move' rfl) ?_
      refine HList.nil ?_
      refine nt ?_
      refine HW.block ?_
      refine HW.loop' (fun L2 hL2 => ?_)
      obtain ⟨X2, hX2⟩ : ∃ X2 : Int → Hp → Prop, ∀ (y23 : Int) (H_2 : Hp), X2 y23 H_2 ↔ ∀ ρ, Env.Is ρ [(5, (.pointer (some ⟨H6.size, 0, none⟩))), (19, (Sl.v x22)), (20, (.int .i64 ((x22).n : Int))), (21, (.int .i64 y23))] → L2 ρ H_2 := ⟨_, fun _ _ => Iff.rfl⟩
      refine (hX2 _ _).1 (h X2 ?_) _ ?_
      rotate_left
      · exact ⟨rfl, rfl, rfl, rfl, trivial⟩
      clear h
      intro y23 H_2 h
      refine (hX2 _ _).2 fun ρ hI => ?_
      obtain ⟨ρ0, rfl⟩ : ∃ ρ0, ρ = (Env.set (Env.set (Env.set (Env.set ρ0 21 (.int .i64 y23)) 20 (.int .i64 ((x22).n : Int))) 19 (Sl.v x22)) 5 (.pointer (some ⟨H6.size, 0, none⟩))) := ⟨ρ, hI.eq⟩
      clear hI; unfold F13_L2b at h; refine hL2 _ _ ?_
      refine HW.seq ?_
      refine HW.region ?_
      refine HList.vals (v := (.bool (decide (y23 < ((x22).n : Int))))) rfl (HVal.lss rfl rfl) ?_
      refine HList.nil ?_
      refine nt ?_
      refine HW.seq ?_
      obtain ⟨hT, hF⟩ := h
      refine HW.cond (decide (y23 < ((x22).n : Int))) rfl (fun hb27 => ?_) (fun hb27 => ?_)
      · have h := hT hb27
        clear hT hF
        refine HW.skip ?_
        refine nt ?_
        refine HW.seq ?_
        refine HW.block ?_
        refine HW.seq ?_
        refine HW.region ?_
        refine HList.vals (v := (.int .i64 y23)) rfl (HVal.move' rfl) ?_
        obtain ⟨a28, e29, b30, b31, h⟩ := h
        refine HList.vals (v := (.pointer (some (Addr.add a28 (y23.toNat * 2))))) rfl (HVal.indexAddr Tryd.runUnderlying25 Tryd.sizeOf38 (Sl.v_some rfl e29) rfl b30 b31) ?_
        obtain ⟨x33, x34, c32, h⟩ := h
        refine HList.vals (v := (.agg #[(.string x33), (.int .i64 x34)])) rfl (HVal.loadN [(.string x33), (.int .i64 x34)] Tryd.isAgg38 Tryd.sizeOf38 rfl c32) ?_
        refine HList.ops' rfl (HOp.alloc Tryd.zeroValue38) ?_
        rintro _ H35 ⟨rfl, e36⟩
        replace h := h H35 e36
        refine HList.vals (v := (.int .i64 y23)) rfl (HVal.assign' rfl) ?_
        obtain ⟨z39, h⟩ := h
        refine HList.opsn (HOp.storeN' (l := [(.string x33), (.int .i64 x34)]) Tryd.sizeOf38 rfl rfl rfl z39) ?_
        rintro _ H37 e38
        replace h := h H37 e38
        refine HList.nil ?_
        refine nt ?_
        refine HW.cut (fun ρ H_3 => Env.Is ρ [(5, (.pointer (some ⟨H6.size, 0, none⟩))), (7, (.pointer (some ⟨H_2.size, 0, none⟩))), (19, (Sl.v x22)), (20, (.int .i64 ((x22).n : Int))), (21, (.int .i64 y23))] ∧ F13_3 Q X2 ⟨H6.size, 0, none⟩ ⟨H_2.size, 0, none⟩ x22 ((x22).n : Int) y23 H_3) ?_ ?_
        · refine HW.seq ?_
          refine HW.region ?_
          refine HList.vals (v := (.int .i64 y23)) rfl (HVal.move' rfl) ?_
          refine HList.vals (v := (.bool (decide ((0 : Int) < y23)))) rfl (HVal.gtr rfl rfl) ?_
          refine HList.nil ?_
          refine nt ?_
          obtain ⟨hT, hF⟩ := h
          refine HW.cond (decide ((0 : Int) < y23)) rfl (fun hb45 => ?_) (fun hb45 => ?_)
          · have h := hT hb45
            clear hT hF
            refine HW.region ?_
            refine HList.ops' rfl (HOp.call' 28 [(.pointer (some ⟨H6.size, 0, none⟩)), (.string S___________)] (cap := []) rfl rfl Tryd.call28 (walk28 h)) ?_
            rintro _ H46 ⟨r48, r49, rfl, h⟩
            refine HList.nil ?_
            refine nt ?_
            exact ⟨⟨rfl, rfl, rfl, rfl, rfl, trivial⟩, h⟩
          · have h := hF hb45
            clear hT hF
            refine HW.skip ?_
            refine nt ?_
            exact ⟨⟨rfl, rfl, rfl, rfl, rfl, trivial⟩, h⟩
        · rintro ρ H_3 ⟨hI, h⟩
          obtain ⟨ρ0, rfl⟩ : ∃ ρ0, ρ = (Env.set (Env.set (Env.set (Env.set (Env.set ρ0 21 (.int .i64 y23)) 20 (.int .i64 ((x22).n : Int))) 19 (Sl.v x22)) 7 (.pointer (some ⟨H_2.size, 0, none⟩))) 5 (.pointer (some ⟨H6.size, 0, none⟩))) := ⟨ρ, hI.eq⟩
          clear hI; unfold F13_3 at h
          refine HW.draw mixed [(0, some []), (1, some []), (2, some []), (3, some []), (4, some []), (5, some []), (6, some []), (7, some []), (8, none)] rfl (by kernel_rfl) (by kernel_rfl) ?_
          refine HPlan.takev (v := (.pointer (some ⟨H_2.size, 0, none⟩))) rfl rfl (fun _ => HVal.fieldAddr0 Tryd.runUnderlying38 rfl rfl Tryd.sizeOf9 rfl) ?_
          obtain ⟨x51, c50, h⟩ := h
          refine HPlan.takel (v := (.string x51)) (fun X => cell X ⟨H_2.size, 0, none⟩ = some (.string x51)) rfl rfl (fun _ hX => HVal.load1 Tryd.isAgg9 rfl hX) c50 ?_
          obtain ⟨z52, h⟩ := h
          refine HPlan.takev (v := (.string (x51 ++ S_____))) rfl rfl (fun _ => HVal.addS rfl rfl z52) ?_
          refine HPlan.takev (v := (.pointer (some (Addr.add ⟨H_2.size, 0, none⟩ 1)))) rfl rfl (fun _ => HVal.fieldAddr' Tryd.runUnderlying38 rfl rfl Tryd.sizeOf3 rfl) ?_
          obtain ⟨x54, c53, h⟩ := h
          refine HPlan.takel (v := (.int .i64 x54)) (fun X => cell X (Addr.add ⟨H_2.size, 0, none⟩ 1) = some (.int .i64 x54)) rfl rfl (fun _ hX => HVal.load1 Tryd.isAgg3 rfl hX) c53 ?_
          obtain ⟨b55, b56, h⟩ := h
          refine HPlan.takev (v := (.pointer (some (Addr.add ⟨0, 0, none⟩ (x54.toNat * 1))))) rfl rfl (fun _ => HVal.indexAddrA Tryd.runUnderlying49 Tryd.sizeOf9 rfl rfl b55 b56) ?_
          obtain ⟨x58, c57, h⟩ := h
          refine HPlan.takel (v := (.string x58)) (fun X => cell X (Addr.add ⟨0, 0, none⟩ (x54.toNat * 1)) = some (.string x58)) rfl rfl (fun _ hX => HVal.load1 Tryd.isAgg9 rfl hX) c57 ?_
          obtain ⟨z59, h⟩ := h
          refine HPlan.takev (v := (.string ((x51 ++ S_____) ++ x58))) rfl rfl (fun _ => HVal.addS rfl rfl z59) ?_
          refine HPlan.ops' rfl rfl (HOp.call' 28 [(.pointer (some ⟨H6.size, 0, none⟩)), (.string ((x51 ++ S_____) ++ x58))] (cap := []) rfl rfl Tryd.call28 (walk28 h)) ?_
          rintro _ H60 ⟨r62, r63, rfl, h⟩
          obtain ⟨s64, s65, s66, h⟩ := h
          refine ⟨SC_of ⟨fun _ => s64, fun _ => s65, fun _ => s66, trivial⟩, ?_⟩
          refine HPlan.done ?_
          refine nb ?_
          refine nt ?_
          refine HW.region ?_
          refine HList.vals (v := (.int .i64 (IntKind.i64.wrap (y23 + 1)))) rfl (HVal.add rfl rfl) ?_
          refine HList.vals (v := (.int .i64 (IntKind.i64.wrap (y23 + 1)))) rfl (HVal.move' rfl) ?_
          refine HList.nil ?_
          refine nt ?_
          exact (hX2 _ _).1 h _ ⟨rfl, rfl, rfl, rfl, trivial⟩
      · have h := hF hb27
        clear hT hF
        refine HW.exit ?_
        refine te ?_
        refine te ?_
        refine be ?_
        refine nt ?_
        exact ⟨⟨rfl, trivial⟩, h⟩
    · rintro ρ H_1 ⟨hI, h⟩
      obtain ⟨ρ0, rfl⟩ : ∃ ρ0, ρ = (Env.set ρ0 5 (.pointer (some ⟨H6.size, 0, none⟩))) := ⟨ρ, hI.eq⟩
      clear hI; unfold F13_1 at h
      refine HW.seq ?_
      refine HW.region ?_
      refine HList.ops' rfl (HOp.call' 29 [(.pointer (some ⟨H6.size, 0, none⟩)), (.int .u8 41)] (cap := []) rfl rfl Tryd.call29 (walk29 h)) ?_
      rintro _ H67 ⟨r69, rfl, h⟩
      refine HList.nil ?_
      refine nt ?_
      refine HW.seq ?_
      refine HW.region ?_
      refine HList.ops' rfl (HOp.call' 30 [(.pointer (some ⟨H6.size, 0, none⟩))] (cap := []) rfl rfl Tryd.call30 (walk30 h)) ?_
      rintro _ H70 ⟨r72, rfl, h⟩
      refine HList.vals (v := (.string r72)) rfl (HVal.assign' rfl) ?_
      refine HList.vals (v := (.int .i64 0)) rfl (HVal.assign' rfl) ?_
      refine HList.nil ?_
      refine nt ?_
      refine HW.ret ?_
      exact ⟨_, resOf2 rfl Res1.t Res1.t, ⟨r72, 0, rfl, h⟩⟩

end Go.Hw
