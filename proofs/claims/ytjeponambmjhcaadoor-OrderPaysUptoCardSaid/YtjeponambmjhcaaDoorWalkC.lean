/- The walks of this seat, printed by a program of this session (wip/tools/gen.py): of each function what it does to the heap, and that it does so. -/
import Derived.Test.YtjeponambmjhcaaDoorHwG
import Derived.Test.YtjeponambmjhcaaDoorProg
import Derived.Test.YtjeponambmjhcaaDoorWAux
import Derived.Test.YtjeponambmjhcaaDoorWalkB
set_option linter.unusedVariables false
set_option linter.unusedSimpArgs false
namespace Go.Hw
open Go Go.Proofs
def F4_3 (Q : Bool → Hp → Prop) (y34 : Int) (y35 : (Option Addr)) (y36 : Addr) (H_3 : Hp) : Prop :=
F11 y35 H_3 (fun (r133 : Sl) (H131 : Hp) => 
 ((decide (((r133).n : Int) ≤ y34)) = true → (F16 y35 H131 (fun (r138 : Int) (H136 : Hp) => 
 F17 (some y36) r133 r138 H136 (fun (r141 : Bool) (H139 : Hp) => 
 Q r141 H139)))) ∧
 ((decide (((r133).n : Int) ≤ y34)) = false → (Q false H131)))
def F4_5 (Q : Bool → Hp → Prop) (X4 : Int → Hp → Prop) (y43 : Int) (y44 : Sl) (y45 : (Option Addr)) (y46 : Addr) (y47 : Int) (H_5 : Hp) : Prop :=
X4 (IntKind.i64.wrap (y47 + 1)) H_5
def F4_6 (Q : Bool → Hp → Prop) (X4 : Int → Hp → Prop) (y80 : Int) (y81 : Sl) (y82 : (Option Addr)) (y83 : Addr) (y84 : Int) (y93 : Bool) (H_6 : Hp) : Prop :=
(y93 = true → (Q false H_6)) ∧
 (y93 = false → (F4_5 Q X4 y80 y81 y82 y83 y84 H_6))
def F4_L4b (Q : Bool → Hp → Prop) (X4 : Int → Hp → Prop) (y38 : Int) (y39 : Sl) (y40 : (Option Addr)) (y41 : Addr) (y37 : Int) (H_4 : Hp) : Prop :=
((decide (y37 < ((y39).n : Int))) = true → (∃ a48 : Addr, (y39).b = some a48 ∧ (0 : Int) ≤ y37 ∧ y37 < ((y39).n : Int) ∧ (
 ∃ (x53 : Int) (x54 : Bool) (x55 : ByteArray) (x56 : Int) (x57 : Sl) (x58 : Int), cells H_4 (Addr.add a48 (y37.toNat * 6)) [(.int .i64 x53), (.bool x54), (.string x55), (.int .i64 x56), (Sl.v x57), (.int .i64 x58)] 0 ∧ (
 ∀ H59 : Hp, H59 = Array.push H_4 (.cells #[(.int .i64 0), (.bool false), (.string (ByteArray.mk #[])), (.int .i64 0), (Sl.v Sl.nil), (.int .i64 0)] 48) → (
 mayw H59 ⟨H_4.size, 0, none⟩ 6 0 ∧ ∀ H61 : Hp, H61 = sets H59 ⟨H_4.size, 0, none⟩ [(.int .i64 x53), (.bool x54), (.string x55), (.int .i64 x56), (Sl.v x57), (.int .i64 x58)] 0 → (
 ∃ x65 : Int, cell H61 ⟨H_4.size, 0, none⟩ = some (.int .i64 x65) ∧ (
 ((decide (x65 = 1)) = true → (∃ x68 : Int, cell H61 (Addr.add (Addr.add ⟨H_4.size, 0, none⟩ 2) 1) = some (.int .i64 x68) ∧ (
 F13 (some y41) y40 y37 x68 y38 H61 (fun (r71 : Bool) (H69 : Hp) => 
 ((!r71) = true → (Q false H69)) ∧
 ((!r71) = false → (F4_5 Q X4 y38 y39 y40 y41 y37 H69)))))) ∧
 ((decide (x65 = 1)) = false → (((decide (x65 = 2)) = true → (∃ x75 : Int, cell H61 (Addr.add ⟨H_4.size, 0, none⟩ 5) = some (.int .i64 x75) ∧ (
 F14 y40 x75 H61 (fun (r78 : Sl) (r79 : Int) (H76 : Hp) => 
 ∃ x86 : Int, cell H76 (Addr.add ⟨H_4.size, 0, none⟩ 5) = some (.int .i64 x86) ∧ (
 ((decide ((0 : Int) ≤ x86)) = true → (∃ x90 : Int, cell H76 (Addr.add ⟨H_4.size, 0, none⟩ 5) = some (.int .i64 x90) ∧ (
 ((!((decide (r79 = 0)) == (decide (x90 ≤ 4611686018427387904)))) = true → (F4_6 Q X4 y38 y39 y40 y41 y37 true H76)) ∧
 ((!((decide (r79 = 0)) == (decide (x90 ≤ 4611686018427387904)))) = false → (F16 y40 H76 (fun (r96 : Int) (H94 : Hp) => 
 F15 (some y41) r78 r96 H94 (fun (r99 : Bool) (H97 : Hp) => 
 F4_6 Q X4 y38 y39 y40 y41 y37 (!r99) H97))))))) ∧
 ((decide ((0 : Int) ≤ x86)) = false → (((!((decide (r79 = 0)) == false)) = true → (F4_6 Q X4 y38 y39 y40 y41 y37 true H76)) ∧
 ((!((decide (r79 = 0)) == false)) = false → (F16 y40 H76 (fun (r104 : Int) (H102 : Hp) => 
 F15 (some y41) r78 r104 H102 (fun (r107 : Bool) (H105 : Hp) => 
 F4_6 Q X4 y38 y39 y40 y41 y37 (!r107) H105))))))))))) ∧
 ((decide (x65 = 2)) = false → (((decide (x65 = 3)) = true → (F10 y40 H61 (fun (r112 : Sl) (H110 : Hp) => 
 F16 y40 H110 (fun (r115 : Int) (H113 : Hp) => 
 F15 (some y41) r112 r115 H113 (fun (r118 : Bool) (H116 : Hp) => 
 ((!r118) = true → (Q false H116)) ∧
 ((!r118) = false → (F4_5 Q X4 y38 y39 y40 y41 y37 H116))))))) ∧
 ((decide (x65 = 3)) = false → (((decide (x65 = 4)) = true → (F11 y40 H61 (fun (r123 : Sl) (H121 : Hp) => 
 F16 y40 H121 (fun (r126 : Int) (H124 : Hp) => 
 F17 (some y41) r123 r126 H124 (fun (r129 : Bool) (H127 : Hp) => 
 ((!r129) = true → (Q false H127)) ∧
 ((!r129) = false → (F4_5 Q X4 y38 y39 y40 y41 y37 H127))))))) ∧
 ((decide (x65 = 4)) = false → (F4_5 Q X4 y38 y39 y40 y41 y37 H61))))))))))))))) ∧
 ((decide (y37 < ((y39).n : Int))) = false → (F4_3 Q y38 y40 y41 H_4))
def F4_L4 (Q : Bool → Hp → Prop) (y38 : Int) (y39 : Sl) (y40 : (Option Addr)) (y41 : Addr) (y37 : Int) (H_4 : Hp) : Prop :=
  ∀ X4 : Int → Hp → Prop, (∀ (y37 : Int) (H_4 : Hp), F4_L4b Q X4 y38 y39 y40 y41 y37 H_4 → X4 y37 H_4) → X4 y37 H_4
def F4_2 (Q : Bool → Hp → Prop) (y22 : Int) (y23 : Sl) (y24 : (Option Addr)) (y25 : Int) (y28 : Bool) (H_2 : Hp) : Prop :=
(y28 = true → (((y24.isNone) = true → (Q (decide (y25 = 1)) H_2)) ∧
 ((y24.isNone) = false → (Q false H_2)))) ∧
 (y28 = false → (∀ H32 : Hp, H32 = Array.push H_2 (.cells #[(Sl.v Sl.nil), (.int .i64 0), (.int .i64 0), (.bool false), (.bool false)] 46) → (
 F4_L4 Q y22 y23 y24 ⟨H_2.size, 0, none⟩ 0 H32)))
def F4_1 (Q : Bool → Hp → Prop) (y5 : Int) (y6 : Sl) (y7 : (Option Addr)) (y8 : Int) (y14 : Bool) (H_1 : Hp) : Prop :=
(y14 = true → (Q false H_1)) ∧
 (y14 = false → (((y7.isNone) = true → (F4_2 Q y5 y6 y7 y8 true H_1)) ∧
 ((y7.isNone) = false → (F4_2 Q y5 y6 y7 y8 (decide (y8 ≠ 0)) H_1))))
def F4 (p0 : Int) (p1 : Int) (p2 : Sl) (H : Hp) (Q : Bool → Hp → Prop) : Prop :=
F6 p0 p1 H (fun (r3 : (Option Addr)) (r4 : Int) (H1 : Hp) => 
 F5 H1 (fun (r11 : Bool) (H9 : Hp) => 
 ((!r11) = true → (F4_1 Q p1 p2 r3 r4 true H9)) ∧
 ((!r11) = false → (((decide ((0 : Int) ≤ p0)) = true → (((decide (p0 ≤ 4611686018427387904)) = true → (((decide ((1 : Int) ≤ p1)) = true → (F4_1 Q p1 p2 r3 r4 (!((decide (r4 = 0)) == (decide (p1 ≤ 4096)))) H9)) ∧
 ((decide ((1 : Int) ≤ p1)) = false → (F4_1 Q p1 p2 r3 r4 (!((decide (r4 = 0)) == false)) H9)))) ∧
 ((decide (p0 ≤ 4611686018427387904)) = false → (F4_1 Q p1 p2 r3 r4 (!((decide (r4 = 0)) == false)) H9)))) ∧
 ((decide ((0 : Int) ≤ p0)) = false → (F4_1 Q p1 p2 r3 r4 (!((decide (r4 = 0)) == false)) H9))))))
set_option maxRecDepth 100000 in
set_option maxHeartbeats 4000000 in
theorem walk4 {w0 : World} {p0 : Int} {p1 : Int} {p2 : Sl} {H : Hp} {Q : Bool → Hp → Prop} (h : F4 p0 p1 p2 H Q) :
    Good Tryd.prog w0 4 #[(.int .i64 p0), (.int .i64 p1), (Sl.v p2)] H (fun v H => ∃ (r0 : Bool) , v = (.bool r0) ∧ Q r0 H) := by
  unfold F4 at h
  refine Good.enter' (fn := Tryd.f4) Tryd.func4 rfl rfl rfl ?_
  refine HW.seq ?_
  refine HW.region ?_
  refine HList.vals (v := (.bool false)) rfl (HVal.assign' rfl) ?_
  refine HList.nil ?_
  refine nt ?_
  refine HW.seq ?_
  refine HW.region ?_
  refine HList.vals (v := (.int .i64 p0)) rfl (HVal.move' rfl) ?_
  refine HList.vals (v := (.int .i64 p1)) rfl (HVal.move' rfl) ?_
  refine HList.ops' rfl (HOp.call' 6 [(.int .i64 p0), (.int .i64 p1)] (cap := []) rfl rfl Tryd.call6 (walk6 h)) ?_
  rintro _ H1 ⟨r3, r4, rfl, h⟩
  refine HList.vals (v := (.tuple #[(.pointer r3), (.int .i64 r4)])) rfl (HVal.move' rfl) ?_
  refine HList.vals (v := (.pointer r3)) rfl (HVal.extract rfl rfl) ?_
  refine HList.vals (v := (.int .i64 r4)) rfl (HVal.extract rfl rfl) ?_
  refine HList.vals (v := (.pointer r3)) rfl (HVal.assign' rfl) ?_
  refine HList.vals (v := (.int .i64 r4)) rfl (HVal.assign' rfl) ?_
  refine HList.nil ?_
  refine nt ?_
  refine HW.seq ?_
  refine HW.cut (fun ρ H_1 => ∃ (y14 : Bool), Env.Is ρ [(1, (.int .i64 p1)), (2, (Sl.v p2)), (7, (.pointer r3)), (8, (.int .i64 r4)), (42, (.bool y14))] ∧ F4_1 Q p1 p2 r3 r4 y14 H_1) ?_ ?_
  · refine HW.region ?_
    refine HList.ops' rfl (HOp.call' 5 [] (cap := []) rfl rfl Tryd.call5 (walk5 h)) ?_
    rintro _ H9 ⟨r11, rfl, h⟩
    refine HList.vals (v := (.bool (!r11))) rfl (HVal.not rfl) ?_
    refine HList.vals (v := (.bool (!r11))) rfl (HVal.move' rfl) ?_
    obtain ⟨hT, hF⟩ := h
    rcases Bool.eq_false_or_eq_true (!r11) with hb12 | hb13
    · have h := hT hb12
      clear hT hF
      refine HList.gskips rfl rfl rfl rfl (congrArg Value.bool hb12) ?_
      refine HList.gskips rfl rfl rfl rfl (congrArg Value.bool hb12) ?_
      refine HList.gskips rfl rfl rfl rfl (congrArg Value.bool hb12) ?_
      refine HList.gskips rfl rfl rfl rfl (congrArg Value.bool hb12) ?_
      refine HList.gskips rfl rfl rfl rfl (congrArg Value.bool hb12) ?_
      refine HList.uskips rfl rfl rfl rfl rfl ?_
      refine HList.uskips rfl rfl rfl rfl rfl ?_
      refine HList.gskips rfl rfl rfl rfl (congrArg Value.bool hb12) ?_
      refine HList.gskips rfl rfl rfl rfl (congrArg Value.bool hb12) ?_
      refine HList.uskips rfl rfl rfl rfl rfl ?_
      refine HList.uskips rfl rfl rfl rfl rfl ?_
      refine HList.gskips rfl rfl rfl rfl (congrArg Value.bool hb12) ?_
      refine HList.gskips rfl rfl rfl rfl (congrArg Value.bool hb12) ?_
      refine HList.uskips rfl rfl rfl rfl rfl ?_
      refine HList.uskips rfl rfl rfl rfl rfl ?_
      refine HList.gskips rfl rfl rfl rfl (congrArg Value.bool hb12) ?_
      refine HList.gskips rfl rfl rfl rfl (congrArg Value.bool hb12) ?_
      refine HList.vals (v := (.bool true)) rfl (HVal.pickT rfl hb12 rfl) ?_
      refine HList.nil ?_
      refine nt ?_
      exact ⟨true, ⟨rfl, rfl, rfl, rfl, rfl, trivial⟩, h⟩
    · have h := hF hb13
      clear hT hF
      refine HList.gvals (v := (.int .i64 r4)) rfl rfl rfl rfl (congrArg Value.bool hb13) (HVal.move' rfl) ?_
      refine HList.gvals (v := (.bool (decide (r4 = 0)))) rfl rfl rfl rfl (congrArg Value.bool hb13) (HVal.eqlI rfl rfl) ?_
      refine HList.gvals (v := (.int .i64 p0)) rfl rfl rfl rfl (congrArg Value.bool hb13) (HVal.move' rfl) ?_
      refine HList.gvals (v := (.bool (decide ((0 : Int) ≤ p0)))) rfl rfl rfl rfl (congrArg Value.bool hb13) (HVal.geq rfl rfl) ?_
      refine HList.gvals (v := (.bool (decide ((0 : Int) ≤ p0)))) rfl rfl rfl rfl (congrArg Value.bool hb13) (HVal.move' rfl) ?_
      obtain ⟨hT, hF⟩ := h
      rcases Bool.eq_false_or_eq_true (decide ((0 : Int) ≤ p0)) with hb15 | hb16
      · have h := hT hb15
        clear hT hF
        refine HList.gvals (v := (.int .i64 p0)) rfl rfl rfl rfl (congrArg Value.bool hb15) (HVal.move' rfl) ?_
        refine HList.gvals (v := (.bool (decide (p0 ≤ 4611686018427387904)))) rfl rfl rfl rfl (congrArg Value.bool hb15) (HVal.leq rfl rfl) ?_
        refine HList.gvals (v := (.bool (decide (p0 ≤ 4611686018427387904)))) rfl rfl rfl rfl (congrArg Value.bool hb13) (HVal.pickT rfl hb15 rfl) ?_
        refine HList.gvals (v := (.bool (decide (p0 ≤ 4611686018427387904)))) rfl rfl rfl rfl (congrArg Value.bool hb13) (HVal.move' rfl) ?_
        obtain ⟨hT, hF⟩ := h
        rcases Bool.eq_false_or_eq_true (decide (p0 ≤ 4611686018427387904)) with hb17 | hb18
        · have h := hT hb17
          clear hT hF
          refine HList.gvals (v := (.int .i64 p1)) rfl rfl rfl rfl (congrArg Value.bool hb17) (HVal.move' rfl) ?_
          refine HList.gvals (v := (.bool (decide ((1 : Int) ≤ p1)))) rfl rfl rfl rfl (congrArg Value.bool hb17) (HVal.geq rfl rfl) ?_
          refine HList.gvals (v := (.bool (decide ((1 : Int) ≤ p1)))) rfl rfl rfl rfl (congrArg Value.bool hb13) (HVal.pickT rfl hb17 rfl) ?_
          refine HList.gvals (v := (.bool (decide ((1 : Int) ≤ p1)))) rfl rfl rfl rfl (congrArg Value.bool hb13) (HVal.move' rfl) ?_
          obtain ⟨hT, hF⟩ := h
          rcases Bool.eq_false_or_eq_true (decide ((1 : Int) ≤ p1)) with hb19 | hb20
          · have h := hT hb19
            clear hT hF
            refine HList.gvals (v := (.int .i64 p1)) rfl rfl rfl rfl (congrArg Value.bool hb19) (HVal.move' rfl) ?_
            refine HList.gvals (v := (.bool (decide (p1 ≤ 4096)))) rfl rfl rfl rfl (congrArg Value.bool hb19) (HVal.leq rfl rfl) ?_
            refine HList.gvals (v := (.bool (decide (p1 ≤ 4096)))) rfl rfl rfl rfl (congrArg Value.bool hb13) (HVal.pickT rfl hb19 rfl) ?_
            refine HList.gvals (v := (.bool (!((decide (r4 = 0)) == (decide (p1 ≤ 4096)))))) rfl rfl rfl rfl (congrArg Value.bool hb13) (HVal.neqB Tryd.underlying4 rfl rfl) ?_
            refine HList.vals (v := (.bool (!((decide (r4 = 0)) == (decide (p1 ≤ 4096)))))) rfl (HVal.pickF rfl hb13 rfl) ?_
            refine HList.nil ?_
            refine nt ?_
            exact ⟨(!((decide (r4 = 0)) == (decide (p1 ≤ 4096)))), ⟨rfl, rfl, rfl, rfl, rfl, trivial⟩, h⟩
          · have h := hF hb20
            clear hT hF
            refine HList.gskips rfl rfl rfl rfl (congrArg Value.bool hb20) ?_
            refine HList.gskips rfl rfl rfl rfl (congrArg Value.bool hb20) ?_
            refine HList.gvals (v := (.bool false)) rfl rfl rfl rfl (congrArg Value.bool hb13) (HVal.pickF rfl hb20 rfl) ?_
            refine HList.gvals (v := (.bool (!((decide (r4 = 0)) == false)))) rfl rfl rfl rfl (congrArg Value.bool hb13) (HVal.neqB Tryd.underlying4 rfl rfl) ?_
            refine HList.vals (v := (.bool (!((decide (r4 = 0)) == false)))) rfl (HVal.pickF rfl hb13 rfl) ?_
            refine HList.nil ?_
            refine nt ?_
            exact ⟨(!((decide (r4 = 0)) == false)), ⟨rfl, rfl, rfl, rfl, rfl, trivial⟩, h⟩
        · have h := hF hb18
          clear hT hF
          refine HList.gskips rfl rfl rfl rfl (congrArg Value.bool hb18) ?_
          refine HList.gskips rfl rfl rfl rfl (congrArg Value.bool hb18) ?_
          refine HList.gvals (v := (.bool false)) rfl rfl rfl rfl (congrArg Value.bool hb13) (HVal.pickF rfl hb18 rfl) ?_
          refine HList.gvals (v := (.bool false)) rfl rfl rfl rfl (congrArg Value.bool hb13) (HVal.move' rfl) ?_
          refine HList.gskips rfl rfl rfl rfl rfl ?_
          refine HList.gskips rfl rfl rfl rfl rfl ?_
          refine HList.gvals (v := (.bool false)) rfl rfl rfl rfl (congrArg Value.bool hb13) (HVal.pickF rfl rfl rfl) ?_
          refine HList.gvals (v := (.bool (!((decide (r4 = 0)) == false)))) rfl rfl rfl rfl (congrArg Value.bool hb13) (HVal.neqB Tryd.underlying4 rfl rfl) ?_
          refine HList.vals (v := (.bool (!((decide (r4 = 0)) == false)))) rfl (HVal.pickF rfl hb13 rfl) ?_
          refine HList.nil ?_
          refine nt ?_
          exact ⟨(!((decide (r4 = 0)) == false)), ⟨rfl, rfl, rfl, rfl, rfl, trivial⟩, h⟩
      · have h := hF hb16
        clear hT hF
        refine HList.gskips rfl rfl rfl rfl (congrArg Value.bool hb16) ?_
        refine HList.gskips rfl rfl rfl rfl (congrArg Value.bool hb16) ?_
        refine HList.gvals (v := (.bool false)) rfl rfl rfl rfl (congrArg Value.bool hb13) (HVal.pickF rfl hb16 rfl) ?_
        refine HList.gvals (v := (.bool false)) rfl rfl rfl rfl (congrArg Value.bool hb13) (HVal.move' rfl) ?_
        refine HList.gskips rfl rfl rfl rfl rfl ?_
        refine HList.gskips rfl rfl rfl rfl rfl ?_
        refine HList.gvals (v := (.bool false)) rfl rfl rfl rfl (congrArg Value.bool hb13) (HVal.pickF rfl rfl rfl) ?_
        refine HList.gvals (v := (.bool false)) rfl rfl rfl rfl (congrArg Value.bool hb13) (HVal.move' rfl) ?_
        refine HList.gskips rfl rfl rfl rfl rfl ?_
        refine HList.gskips rfl rfl rfl rfl rfl ?_
        refine HList.gvals (v := (.bool false)) rfl rfl rfl rfl (congrArg Value.bool hb13) (HVal.pickF rfl rfl rfl) ?_
        refine HList.gvals (v := (.bool (!((decide (r4 = 0)) == false)))) rfl rfl rfl rfl (congrArg Value.bool hb13) (HVal.neqB Tryd.underlying4 rfl rfl) ?_
        refine HList.vals (v := (.bool (!((decide (r4 = 0)) == false)))) rfl (HVal.pickF rfl hb13 rfl) ?_
        refine HList.nil ?_
        refine nt ?_
        exact ⟨(!((decide (r4 = 0)) == false)), ⟨rfl, rfl, rfl, rfl, rfl, trivial⟩, h⟩
  · rintro ρ H_1 ⟨y14, hI, h⟩
    obtain ⟨ρ0, rfl⟩ : ∃ ρ0, ρ = (Env.set (Env.set (Env.set (Env.set (Env.set ρ0 42 (.bool y14)) 8 (.int .i64 r4)) 7 (.pointer r3)) 2 (Sl.v p2)) 1 (.int .i64 p1)) := ⟨ρ, hI.eq⟩
    clear hI; unfold F4_1 at h
    obtain ⟨hT, hF⟩ := h
    refine HW.cond y14 rfl (fun hb21 => ?_) (fun hb21 => ?_)
    · have h := hT hb21
      clear hT hF
      refine HW.seq ?_
      refine HW.region ?_
      refine HList.vals (v := (.bool false)) rfl (HVal.assign' rfl) ?_
      refine HList.nil ?_
      refine nt ?_
      refine HW.ret ?_
      refine tr ?_
      exact ⟨_, resOf1 rfl Res1.t, ⟨false, rfl, h⟩⟩
    · have h := hF hb21
      clear hT hF
      refine HW.skip ?_
      refine nt ?_
      refine HW.seq ?_
      refine HW.cut (fun ρ H_2 => ∃ (y28 : Bool), Env.Is ρ [(1, (.int .i64 p1)), (2, (Sl.v p2)), (7, (.pointer r3)), (8, (.int .i64 r4)), (48, (.bool y28))] ∧ F4_2 Q p1 p2 r3 r4 y28 H_2) ?_ ?_
      · refine HW.region ?_
        refine HList.vals (v := (.pointer r3)) rfl (HVal.move' rfl) ?_
        refine HList.vals (v := (.bool (r3.isNone))) rfl (HVal.eqlPN Tryd.underlying24 rfl rfl) ?_
        refine HList.vals (v := (.bool (r3.isNone))) rfl (HVal.move' rfl) ?_
        obtain ⟨hT, hF⟩ := h
        rcases Bool.eq_false_or_eq_true (r3.isNone) with hb26 | hb27
        · have h := hT hb26
          clear hT hF
          refine HList.gskips rfl rfl rfl rfl (congrArg Value.bool hb26) ?_
          refine HList.gskips rfl rfl rfl rfl (congrArg Value.bool hb26) ?_
          refine HList.vals (v := (.bool true)) rfl (HVal.pickT rfl hb26 rfl) ?_
          refine HList.nil ?_
          refine nt ?_
          exact ⟨true, ⟨rfl, rfl, rfl, rfl, rfl, trivial⟩, h⟩
        · have h := hF hb27
          clear hT hF
          refine HList.gvals (v := (.int .i64 r4)) rfl rfl rfl rfl (congrArg Value.bool hb27) (HVal.move' rfl) ?_
          refine HList.gvals (v := (.bool (decide (r4 ≠ 0)))) rfl rfl rfl rfl (congrArg Value.bool hb27) (HVal.neqI rfl rfl) ?_
          refine HList.vals (v := (.bool (decide (r4 ≠ 0)))) rfl (HVal.pickF rfl hb27 rfl) ?_
          refine HList.nil ?_
          refine nt ?_
          exact ⟨(decide (r4 ≠ 0)), ⟨rfl, rfl, rfl, rfl, rfl, trivial⟩, h⟩
      · rintro ρ H_2 ⟨y28, hI, h⟩
        obtain ⟨ρ0, rfl⟩ : ∃ ρ0, ρ = (Env.set (Env.set (Env.set (Env.set (Env.set ρ0 48 (.bool y28)) 8 (.int .i64 r4)) 7 (.pointer r3)) 2 (Sl.v p2)) 1 (.int .i64 p1)) := ⟨ρ, hI.eq⟩
        clear hI; unfold F4_2 at h
        obtain ⟨hT, hF⟩ := h
        refine HW.cond y28 rfl (fun hb29 => ?_) (fun hb29 => ?_)
        · have h := hT hb29
          clear hT hF
          refine HW.seq ?_
          refine HW.region ?_
          refine HList.vals (v := (.pointer r3)) rfl (HVal.move' rfl) ?_
          refine HList.vals (v := (.bool (r3.isNone))) rfl (HVal.eqlPN Tryd.underlying24 rfl rfl) ?_
          refine HList.vals (v := (.bool (r3.isNone))) rfl (HVal.move' rfl) ?_
          obtain ⟨hT, hF⟩ := h
          rcases Bool.eq_false_or_eq_true (r3.isNone) with hb30 | hb31
          · have h := hT hb30
            clear hT hF
            refine HList.gvals (v := (.int .i64 r4)) rfl rfl rfl rfl (congrArg Value.bool hb30) (HVal.move' rfl) ?_
            refine HList.gvals (v := (.bool (decide (r4 = 1)))) rfl rfl rfl rfl (congrArg Value.bool hb30) (HVal.eqlI rfl rfl) ?_
            refine HList.vals (v := (.bool (decide (r4 = 1)))) rfl (HVal.pickT rfl hb30 rfl) ?_
            refine HList.vals (v := (.bool (decide (r4 = 1)))) rfl (HVal.assign' rfl) ?_
            refine HList.nil ?_
            refine nt ?_
            refine HW.ret ?_
            refine tr ?_
            exact ⟨_, resOf1 rfl Res1.t, ⟨(decide (r4 = 1)), rfl, h⟩⟩
          · have h := hF hb31
            clear hT hF
            refine HList.gskips rfl rfl rfl rfl (congrArg Value.bool hb31) ?_
            refine HList.gskips rfl rfl rfl rfl (congrArg Value.bool hb31) ?_
            refine HList.vals (v := (.bool false)) rfl (HVal.pickF rfl hb31 rfl) ?_
            refine HList.vals (v := (.bool false)) rfl (HVal.assign' rfl) ?_
            refine HList.nil ?_
            refine nt ?_
            refine HW.ret ?_
            refine tr ?_
            exact ⟨_, resOf1 rfl Res1.t, ⟨false, rfl, h⟩⟩
        · have h := hF hb29
          clear hT hF
          refine HW.skip ?_
          refine nt ?_
          refine HW.seq ?_
          refine HW.region ?_
          refine HList.vals (v := (.agg #[(Sl.v Sl.nil), (.int .i64 0), (.int .i64 0), (.bool false), (.bool false)])) rfl (HVal.build' (cs := [(Sl.v Sl.nil), (.int .i64 0), (.int .i64 0), (.bool false), (.bool false)]) Tryd.runUnderlying46 Tryd.zeroValue46 places46 rfl) ?_
          refine HList.ops' rfl (HOp.box (v := (.agg #[(Sl.v Sl.nil), (.int .i64 0), (.int .i64 0), (.bool false), (.bool false)])) rfl) ?_
          rintro _ H32 ⟨rfl, e33⟩
          replace h := h H32 e33
          refine HList.vals (v := (.pointer (some ⟨H_2.size, 0, none⟩))) rfl (HVal.assign' rfl) ?_
          refine HList.nil ?_
          refine nt ?_
          refine HW.cut (fun ρ H_3 => Env.Is ρ [(1, (.int .i64 p1)), (7, (.pointer r3)), (9, (.pointer (some ⟨H_2.size, 0, none⟩)))] ∧ F4_3 Q p1 r3 ⟨H_2.size, 0, none⟩ H_3) ?_ ?_
          · refine HW.seq ?_
            refine HW.region ?_
            refine HList.vals (v := (.int .i64 0)) rfl (HVal.assign' rfl) ?_
            refine HList.nil ?_
            refine nt ?_
            refine HW.block ?_
            refine HW.loop' (fun L4 hL4 => ?_)
            obtain ⟨X4, hX4⟩ : ∃ X4 : Int → Hp → Prop, ∀ (y37 : Int) (H_4 : Hp), X4 y37 H_4 ↔ ∀ ρ, Env.Is ρ [(1, (.int .i64 p1)), (2, (Sl.v p2)), (7, (.pointer r3)), (9, (.pointer (some ⟨H_2.size, 0, none⟩))), (10, (.int .i64 y37))] → L4 ρ H_4 := ⟨_, fun _ _ => Iff.rfl⟩
            refine (hX4 _ _).1 (h X4 ?_) _ ?_
            rotate_left
            · exact ⟨rfl, rfl, rfl, rfl, rfl, trivial⟩
            clear h
            intro y37 H_4 h
            refine (hX4 _ _).2 fun ρ hI => ?_
            obtain ⟨ρ0, rfl⟩ : ∃ ρ0, ρ = (Env.set (Env.set (Env.set (Env.set (Env.set ρ0 10 (.int .i64 y37)) 9 (.pointer (some ⟨H_2.size, 0, none⟩))) 7 (.pointer r3)) 2 (Sl.v p2)) 1 (.int .i64 p1)) := ⟨ρ, hI.eq⟩
            clear hI; unfold F4_L4b at h; refine hL4 _ _ ?_
            refine HW.seq ?_
            refine HW.seq ?_
            refine HW.region ?_
            refine HList.vals (v := (.int .i64 y37)) rfl (HVal.move' rfl) ?_
            refine HList.vals (v := (Sl.v p2)) rfl (HVal.move' rfl) ?_
            refine HList.vals (v := (.int .i64 ((p2).n : Int))) rfl (HVal.len Tryd.runUnderlying40 rfl) ?_
            refine HList.vals (v := (.bool (decide (y37 < ((p2).n : Int))))) rfl (HVal.lss rfl rfl) ?_
            refine HList.nil ?_
            refine nt ?_
            obtain ⟨hT, hF⟩ := h
            refine HW.cond (decide (y37 < ((p2).n : Int))) rfl (fun hb42 => ?_) (fun hb42 => ?_)
            · have h := hT hb42
              clear hT hF
              refine HW.skip ?_
              refine nt ?_
              refine HW.cut (fun ρ H_5 => Env.Is ρ [(1, (.int .i64 p1)), (2, (Sl.v p2)), (7, (.pointer r3)), (9, (.pointer (some ⟨H_2.size, 0, none⟩))), (10, (.int .i64 y37))] ∧ F4_5 Q X4 p1 p2 r3 ⟨H_2.size, 0, none⟩ y37 H_5) ?_ ?_
              · refine HW.block ?_
                refine HW.seq ?_
                refine HW.region ?_
                refine HList.vals (v := (Sl.v p2)) rfl (HVal.move' rfl) ?_
                refine HList.vals (v := (.int .i64 y37)) rfl (HVal.move' rfl) ?_
                obtain ⟨a48, e49, b50, b51, h⟩ := h
                refine HList.vals (v := (.pointer (some (Addr.add a48 (y37.toNat * 6))))) rfl (HVal.indexAddr Tryd.runUnderlying40 Tryd.sizeOf48 (Sl.v_some rfl e49) rfl b50 b51) ?_
                obtain ⟨x53, x54, x55, x56, x57, x58, c52, h⟩ := h
                refine HList.vals (v := (.agg #[(.int .i64 x53), (.bool x54), (.string x55), (.int .i64 x56), (Sl.v x57), (.int .i64 x58)])) rfl (HVal.loadN [(.int .i64 x53), (.bool x54), (.string x55), (.int .i64 x56), (Sl.v x57), (.int .i64 x58)] Tryd.isAgg48 Tryd.sizeOf48 rfl c52) ?_
                refine HList.ops' rfl (HOp.alloc Tryd.zeroValue48) ?_
                rintro _ H59 ⟨rfl, e60⟩
                replace h := h H59 e60
                obtain ⟨z63, h⟩ := h
                refine HList.opsn (HOp.storeN' (l := [(.int .i64 x53), (.bool x54), (.string x55), (.int .i64 x56), (Sl.v x57), (.int .i64 x58)]) Tryd.sizeOf48 rfl rfl rfl z63) ?_
                rintro _ H61 e62
                replace h := h H61 e62
                refine HList.nil ?_
                refine nt ?_
                refine HW.seq ?_
                refine HW.region ?_
                refine HList.vals (v := (.pointer (some ⟨H_4.size, 0, none⟩))) rfl (HVal.fieldAddr0 Tryd.runUnderlying48 rfl rfl Tryd.sizeOf3 rfl) ?_
                obtain ⟨x65, c64, h⟩ := h
                refine HList.vals (v := (.int .i64 x65)) rfl (HVal.load1 Tryd.isAgg3 rfl c64) ?_
                refine HList.nil ?_
                refine nt ?_
                refine HW.block ?_
                refine HW.seq ?_
                refine HW.region ?_
                refine HList.vals (v := (.bool (decide (x65 = 1)))) rfl (HVal.eqlI rfl rfl) ?_
                refine HList.vals (v := (.bool (decide (x65 = 1)))) rfl (HVal.assign' rfl) ?_
                refine HList.nil ?_
                refine nt ?_
                obtain ⟨hT, hF⟩ := h
                refine HW.cond (decide (x65 = 1)) rfl (fun hb66 => ?_) (fun hb66 => ?_)
                · have h := hT hb66
                  clear hT hF
                  refine HW.seq ?_
                  refine HW.region ?_
                  refine HList.vals (v := (.pointer (some ⟨H_2.size, 0, none⟩))) rfl (HVal.move' rfl) ?_
                  refine HList.vals (v := (.pointer r3)) rfl (HVal.move' rfl) ?_
                  refine HList.vals (v := (.int .i64 y37)) rfl (HVal.move' rfl) ?_
                  refine HList.vals (v := (.pointer (some (Addr.add ⟨H_4.size, 0, none⟩ 2)))) rfl (HVal.fieldAddr' Tryd.runUnderlying48 rfl rfl Tryd.sizeOf33 rfl) ?_
                  refine HList.vals (v := (.pointer (some (Addr.add (Addr.add ⟨H_4.size, 0, none⟩ 2) 1)))) rfl (HVal.fieldAddr' Tryd.runUnderlying33 rfl rfl Tryd.sizeOf2 rfl) ?_
                  obtain ⟨x68, c67, h⟩ := h
                  refine HList.vals (v := (.int .i64 x68)) rfl (HVal.load1 Tryd.isAgg2 rfl c67) ?_
                  refine HList.vals (v := (.int .i64 p1)) rfl (HVal.move' rfl) ?_
                  refine HList.ops' rfl (HOp.call' 13 [(.pointer (some ⟨H_2.size, 0, none⟩)), (.pointer r3), (.int .i64 y37), (.int .i64 x68), (.int .i64 p1)] (cap := []) rfl rfl Tryd.call13 (walk13 h)) ?_
                  rintro _ H69 ⟨r71, rfl, h⟩
                  refine HList.vals (v := (.bool (!r71))) rfl (HVal.not rfl) ?_
                  refine HList.nil ?_
                  refine nt ?_
                  obtain ⟨hT, hF⟩ := h
                  refine HW.cond (!r71) rfl (fun hb72 => ?_) (fun hb72 => ?_)
                  · have h := hT hb72
                    clear hT hF
                    refine HW.seq ?_
                    refine HW.region ?_
                    refine HList.vals (v := (.bool false)) rfl (HVal.assign' rfl) ?_
                    refine HList.nil ?_
                    refine nt ?_
                    refine HW.ret ?_
                    refine br ?_
                    refine br ?_
                    refine tr ?_
                    refine tr ?_
                    refine br ?_
                    refine tr ?_
                    exact ⟨_, resOf1 rfl Res1.t, ⟨false, rfl, h⟩⟩
                  · have h := hF hb72
                    clear hT hF
                    refine HW.skip ?_
                    refine nb ?_
                    refine nb ?_
                    refine nt ?_
                    exact ⟨⟨rfl, rfl, rfl, rfl, rfl, trivial⟩, h⟩
                · have h := hF hb66
                  clear hT hF
                  refine HW.seq ?_
                  refine HW.region ?_
                  refine HList.vals (v := (.bool (decide (x65 = 2)))) rfl (HVal.eqlI rfl rfl) ?_
                  refine HList.vals (v := (.bool (decide (x65 = 2)))) rfl (HVal.assign' rfl) ?_
                  refine HList.nil ?_
                  refine nt ?_
                  obtain ⟨hT, hF⟩ := h
                  refine HW.cond (decide (x65 = 2)) rfl (fun hb73 => ?_) (fun hb73 => ?_)
                  · have h := hT hb73
                    clear hT hF
                    refine HW.seq ?_
                    refine HW.region ?_
                    refine HList.vals (v := (.pointer r3)) rfl (HVal.move' rfl) ?_
                    refine HList.vals (v := (.pointer (some (Addr.add ⟨H_4.size, 0, none⟩ 5)))) rfl (HVal.fieldAddr' Tryd.runUnderlying48 rfl rfl Tryd.sizeOf2 rfl) ?_
                    obtain ⟨x75, c74, h⟩ := h
                    refine HList.vals (v := (.int .i64 x75)) rfl (HVal.load1 Tryd.isAgg2 rfl c74) ?_
                    refine HList.ops' rfl (HOp.call' 14 [(.pointer r3), (.int .i64 x75)] (cap := []) rfl rfl Tryd.call14 (walk14 h)) ?_
                    rintro _ H76 ⟨r78, r79, rfl, h⟩
                    refine HList.vals (v := (.tuple #[(Sl.v r78), (.int .i64 r79)])) rfl (HVal.move' rfl) ?_
                    refine HList.vals (v := (Sl.v r78)) rfl (HVal.extract rfl rfl) ?_
                    refine HList.vals (v := (.int .i64 r79)) rfl (HVal.extract rfl rfl) ?_
                    refine HList.vals (v := (Sl.v r78)) rfl (HVal.assign' rfl) ?_
                    refine HList.vals (v := (.int .i64 r79)) rfl (HVal.assign' rfl) ?_
                    refine HList.nil ?_
                    refine nt ?_
                    refine HW.cut (fun ρ H_6 => ∃ (y93 : Bool), Env.Is ρ [(1, (.int .i64 p1)), (2, (Sl.v p2)), (7, (.pointer r3)), (9, (.pointer (some ⟨H_2.size, 0, none⟩))), (10, (.int .i64 y37)), (107, (.bool y93))] ∧ F4_6 Q X4 p1 p2 r3 ⟨H_2.size, 0, none⟩ y37 y93 H_6) ?_ ?_
                    · refine HW.region ?_
                      refine HList.vals (v := (.int .i64 r79)) rfl (HVal.move' rfl) ?_
                      refine HList.vals (v := (.bool (decide (r79 = 0)))) rfl (HVal.eqlI rfl rfl) ?_
                      refine HList.vals (v := (.pointer (some (Addr.add ⟨H_4.size, 0, none⟩ 5)))) rfl (HVal.fieldAddr' Tryd.runUnderlying48 rfl rfl Tryd.sizeOf2 rfl) ?_
                      obtain ⟨x86, c85, h⟩ := h
                      refine HList.vals (v := (.int .i64 x86)) rfl (HVal.load1 Tryd.isAgg2 rfl c85) ?_
                      refine HList.vals (v := (.bool (decide ((0 : Int) ≤ x86)))) rfl (HVal.geq rfl rfl) ?_
                      refine HList.vals (v := (.bool (decide ((0 : Int) ≤ x86)))) rfl (HVal.move' rfl) ?_
                      obtain ⟨hT, hF⟩ := h
                      rcases Bool.eq_false_or_eq_true (decide ((0 : Int) ≤ x86)) with hb87 | hb88
                      · have h := hT hb87
                        clear hT hF
                        refine HList.gvals (v := (.pointer (some (Addr.add ⟨H_4.size, 0, none⟩ 5)))) rfl rfl rfl rfl (congrArg Value.bool hb87) (HVal.fieldAddr' Tryd.runUnderlying48 rfl rfl Tryd.sizeOf2 rfl) ?_
                        obtain ⟨x90, c89, h⟩ := h
                        refine HList.gvals (v := (.int .i64 x90)) rfl rfl rfl rfl (congrArg Value.bool hb87) (HVal.load1 Tryd.isAgg2 rfl c89) ?_
                        refine HList.gvals (v := (.bool (decide (x90 ≤ 4611686018427387904)))) rfl rfl rfl rfl (congrArg Value.bool hb87) (HVal.leq rfl rfl) ?_
                        refine HList.vals (v := (.bool (decide (x90 ≤ 4611686018427387904)))) rfl (HVal.pickT rfl hb87 rfl) ?_
                        refine HList.vals (v := (.bool (!((decide (r79 = 0)) == (decide (x90 ≤ 4611686018427387904)))))) rfl (HVal.neqB Tryd.underlying4 rfl rfl) ?_
                        refine HList.vals (v := (.bool (!((decide (r79 = 0)) == (decide (x90 ≤ 4611686018427387904)))))) rfl (HVal.move' rfl) ?_
                        obtain ⟨hT, hF⟩ := h
                        rcases Bool.eq_false_or_eq_true (!((decide (r79 = 0)) == (decide (x90 ≤ 4611686018427387904)))) with hb91 | hb92
                        · have h := hT hb91
                          clear hT hF
                          refine HList.gskips rfl rfl rfl rfl (congrArg Value.bool hb91) ?_
                          refine HList.gskips rfl rfl rfl rfl (congrArg Value.bool hb91) ?_
                          refine HList.gskips rfl rfl rfl rfl (congrArg Value.bool hb91) ?_
                          refine HList.gskips rfl rfl rfl rfl (congrArg Value.bool hb91) ?_
                          refine HList.gskips rfl rfl rfl rfl (congrArg Value.bool hb91) ?_
                          refine HList.gskips rfl rfl rfl rfl (congrArg Value.bool hb91) ?_
                          refine HList.vals (v := (.bool true)) rfl (HVal.pickT rfl hb91 rfl) ?_
                          refine HList.nil ?_
                          refine nt ?_
                          exact ⟨true, ⟨rfl, rfl, rfl, rfl, rfl, rfl, trivial⟩, h⟩
                        · have h := hF hb92
                          clear hT hF
                          refine HList.gvals (v := (.pointer (some ⟨H_2.size, 0, none⟩))) rfl rfl rfl rfl (congrArg Value.bool hb92) (HVal.move' rfl) ?_
                          refine HList.gvals (v := (Sl.v r78)) rfl rfl rfl rfl (congrArg Value.bool hb92) (HVal.move' rfl) ?_
                          refine HList.gvals (v := (.pointer r3)) rfl rfl rfl rfl (congrArg Value.bool hb92) (HVal.move' rfl) ?_
                          refine HList.gops rfl rfl rfl rfl (congrArg Value.bool hb92) (HOp.call' 16 [(.pointer r3)] (cap := []) rfl rfl Tryd.call16 (walk16 h)) ?_
                          rintro _ H94 ⟨r96, rfl, h⟩
                          refine HList.gops rfl rfl rfl rfl (congrArg Value.bool hb92) (HOp.call' 15 [(.pointer (some ⟨H_2.size, 0, none⟩)), (Sl.v r78), (.int .i64 r96)] (cap := []) rfl rfl Tryd.call15 (walk15 h)) ?_
                          rintro _ H97 ⟨r99, rfl, h⟩
                          refine HList.gvals (v := (.bool (!r99))) rfl rfl rfl rfl (congrArg Value.bool hb92) (HVal.not rfl) ?_
                          refine HList.vals (v := (.bool (!r99))) rfl (HVal.pickF rfl hb92 rfl) ?_
                          refine HList.nil ?_
                          refine nt ?_
                          exact ⟨(!r99), ⟨rfl, rfl, rfl, rfl, rfl, rfl, trivial⟩, h⟩
                      · have h := hF hb88
                        clear hT hF
                        refine HList.gskips rfl rfl rfl rfl (congrArg Value.bool hb88) ?_
                        refine HList.gskips rfl rfl rfl rfl (congrArg Value.bool hb88) ?_
                        refine HList.gskips rfl rfl rfl rfl (congrArg Value.bool hb88) ?_
                        refine HList.vals (v := (.bool false)) rfl (HVal.pickF rfl hb88 rfl) ?_
                        refine HList.vals (v := (.bool (!((decide (r79 = 0)) == false)))) rfl (HVal.neqB Tryd.underlying4 rfl rfl) ?_
                        refine HList.vals (v := (.bool (!((decide (r79 = 0)) == false)))) rfl (HVal.move' rfl) ?_
                        obtain ⟨hT, hF⟩ := h
                        rcases Bool.eq_false_or_eq_true (!((decide (r79 = 0)) == false)) with hb100 | hb101
                        · have h := hT hb100
                          clear hT hF
                          refine HList.gskips rfl rfl rfl rfl (congrArg Value.bool hb100) ?_
                          refine HList.gskips rfl rfl rfl rfl (congrArg Value.bool hb100) ?_
                          refine HList.gskips rfl rfl rfl rfl (congrArg Value.bool hb100) ?_
                          refine HList.gskips rfl rfl rfl rfl (congrArg Value.bool hb100) ?_
                          refine HList.gskips rfl rfl rfl rfl (congrArg Value.bool hb100) ?_
                          refine HList.gskips rfl rfl rfl rfl (congrArg Value.bool hb100) ?_
                          refine HList.vals (v := (.bool true)) rfl (HVal.pickT rfl hb100 rfl) ?_
                          refine HList.nil ?_
                          refine nt ?_
                          exact ⟨true, ⟨rfl, rfl, rfl, rfl, rfl, rfl, trivial⟩, h⟩
                        · have h := hF hb101
                          clear hT hF
                          refine HList.gvals (v := (.pointer (some ⟨H_2.size, 0, none⟩))) rfl rfl rfl rfl (congrArg Value.bool hb101) (HVal.move' rfl) ?_
                          refine HList.gvals (v := (Sl.v r78)) rfl rfl rfl rfl (congrArg Value.bool hb101) (HVal.move' rfl) ?_
                          refine HList.gvals (v := (.pointer r3)) rfl rfl rfl rfl (congrArg Value.bool hb101) (HVal.move' rfl) ?_
                          refine HList.gops rfl rfl rfl rfl (congrArg Value.bool hb101) (HOp.call' 16 [(.pointer r3)] (cap := []) rfl rfl Tryd.call16 (walk16 h)) ?_
                          rintro _ H102 ⟨r104, rfl, h⟩
                          refine HList.gops rfl rfl rfl rfl (congrArg Value.bool hb101) (HOp.call' 15 [(.pointer (some ⟨H_2.size, 0, none⟩)), (Sl.v r78), (.int .i64 r104)] (cap := []) rfl rfl Tryd.call15 (walk15 h)) ?_
                          rintro _ H105 ⟨r107, rfl, h⟩
                          refine HList.gvals (v := (.bool (!r107))) rfl rfl rfl rfl (congrArg Value.bool hb101) (HVal.not rfl) ?_
                          refine HList.vals (v := (.bool (!r107))) rfl (HVal.pickF rfl hb101 rfl) ?_
                          refine HList.nil ?_
                          refine nt ?_
                          exact ⟨(!r107), ⟨rfl, rfl, rfl, rfl, rfl, rfl, trivial⟩, h⟩
                    · rintro ρ H_6 ⟨y93, hI, h⟩
                      obtain ⟨ρ0, rfl⟩ : ∃ ρ0, ρ = (Env.set (Env.set (Env.set (Env.set (Env.set (Env.set ρ0 107 (.bool y93)) 10 (.int .i64 y37)) 9 (.pointer (some ⟨H_2.size, 0, none⟩))) 7 (.pointer r3)) 2 (Sl.v p2)) 1 (.int .i64 p1)) := ⟨ρ, hI.eq⟩
                      clear hI; unfold F4_6 at h
                      obtain ⟨hT, hF⟩ := h
                      refine HW.cond y93 rfl (fun hb108 => ?_) (fun hb108 => ?_)
                      · have h := hT hb108
                        clear hT hF
                        refine HW.seq ?_
                        refine HW.region ?_
                        refine HList.vals (v := (.bool false)) rfl (HVal.assign' rfl) ?_
                        refine HList.nil ?_
                        refine nt ?_
                        refine HW.ret ?_
                        refine br ?_
                        refine br ?_
                        refine tr ?_
                        refine tr ?_
                        refine br ?_
                        refine tr ?_
                        exact ⟨_, resOf1 rfl Res1.t, ⟨false, rfl, h⟩⟩
                      · have h := hF hb108
                        clear hT hF
                        refine HW.skip ?_
                        refine nb ?_
                        refine nb ?_
                        refine nt ?_
                        exact ⟨⟨rfl, rfl, rfl, rfl, rfl, trivial⟩, h⟩
                  · have h := hF hb73
                    clear hT hF
                    refine HW.seq ?_
                    refine HW.region ?_
                    refine HList.vals (v := (.bool (decide (x65 = 3)))) rfl (HVal.eqlI rfl rfl) ?_
                    refine HList.vals (v := (.bool (decide (x65 = 3)))) rfl (HVal.assign' rfl) ?_
                    refine HList.nil ?_
                    refine nt ?_
                    obtain ⟨hT, hF⟩ := h
                    refine HW.cond (decide (x65 = 3)) rfl (fun hb109 => ?_) (fun hb109 => ?_)
                    · have h := hT hb109
                      clear hT hF
                      refine HW.seq ?_
                      refine HW.region ?_
                      refine HList.vals (v := (.pointer r3)) rfl (HVal.move' rfl) ?_
                      refine HList.ops' rfl (HOp.call' 10 [(.pointer r3)] (cap := []) rfl rfl Tryd.call10 (walk10 h)) ?_
                      rintro _ H110 ⟨r112, rfl, h⟩
                      refine HList.vals (v := (Sl.v r112)) rfl (HVal.assign' rfl) ?_
                      refine HList.nil ?_
                      refine nt ?_
                      refine HW.seq ?_
                      refine HW.region ?_
                      refine HList.vals (v := (.pointer (some ⟨H_2.size, 0, none⟩))) rfl (HVal.move' rfl) ?_
                      refine HList.vals (v := (Sl.v r112)) rfl (HVal.move' rfl) ?_
                      refine HList.vals (v := (.pointer r3)) rfl (HVal.move' rfl) ?_
                      refine HList.ops' rfl (HOp.call' 16 [(.pointer r3)] (cap := []) rfl rfl Tryd.call16 (walk16 h)) ?_
                      rintro _ H113 ⟨r115, rfl, h⟩
                      refine HList.ops' rfl (HOp.call' 15 [(.pointer (some ⟨H_2.size, 0, none⟩)), (Sl.v r112), (.int .i64 r115)] (cap := []) rfl rfl Tryd.call15 (walk15 h)) ?_
                      rintro _ H116 ⟨r118, rfl, h⟩
                      refine HList.vals (v := (.bool (!r118))) rfl (HVal.not rfl) ?_
                      refine HList.nil ?_
                      refine nt ?_
                      obtain ⟨hT, hF⟩ := h
                      refine HW.cond (!r118) rfl (fun hb119 => ?_) (fun hb119 => ?_)
                      · have h := hT hb119
                        clear hT hF
                        refine HW.seq ?_
                        refine HW.region ?_
                        refine HList.vals (v := (.bool false)) rfl (HVal.assign' rfl) ?_
                        refine HList.nil ?_
                        refine nt ?_
                        refine HW.ret ?_
                        refine br ?_
                        refine br ?_
                        refine tr ?_
                        refine tr ?_
                        refine br ?_
                        refine tr ?_
                        exact ⟨_, resOf1 rfl Res1.t, ⟨false, rfl, h⟩⟩
                      · have h := hF hb119
                        clear hT hF
                        refine HW.skip ?_
                        refine nb ?_
                        refine nb ?_
                        refine nt ?_
                        exact ⟨⟨rfl, rfl, rfl, rfl, rfl, trivial⟩, h⟩
                    · have h := hF hb109
                      clear hT hF
                      refine HW.seq ?_
                      refine HW.region ?_
                      refine HList.vals (v := (.bool (decide (x65 = 4)))) rfl (HVal.eqlI rfl rfl) ?_
                      refine HList.vals (v := (.bool (decide (x65 = 4)))) rfl (HVal.assign' rfl) ?_
                      refine HList.nil ?_
                      refine nt ?_
                      obtain ⟨hT, hF⟩ := h
                      refine HW.cond (decide (x65 = 4)) rfl (fun hb120 => ?_) (fun hb120 => ?_)
                      · have h := hT hb120
                        clear hT hF
                        refine HW.seq ?_
                        refine HW.region ?_
                        refine HList.vals (v := (.pointer (some ⟨H_2.size, 0, none⟩))) rfl (HVal.move' rfl) ?_
                        refine HList.vals (v := (.pointer r3)) rfl (HVal.move' rfl) ?_
                        refine HList.ops' rfl (HOp.call' 11 [(.pointer r3)] (cap := []) rfl rfl Tryd.call11 (walk11 h)) ?_
                        rintro _ H121 ⟨r123, rfl, h⟩
                        refine HList.vals (v := (.pointer r3)) rfl (HVal.move' rfl) ?_
                        refine HList.ops' rfl (HOp.call' 16 [(.pointer r3)] (cap := []) rfl rfl Tryd.call16 (walk16 h)) ?_
                        rintro _ H124 ⟨r126, rfl, h⟩
                        refine HList.ops' rfl (HOp.call' 17 [(.pointer (some ⟨H_2.size, 0, none⟩)), (Sl.v r123), (.int .i64 r126)] (cap := []) rfl rfl Tryd.call17 (walk17 h)) ?_
                        rintro _ H127 ⟨r129, rfl, h⟩
                        refine HList.vals (v := (.bool (!r129))) rfl (HVal.not rfl) ?_
                        refine HList.nil ?_
                        refine nt ?_
                        obtain ⟨hT, hF⟩ := h
                        refine HW.cond (!r129) rfl (fun hb130 => ?_) (fun hb130 => ?_)
                        · have h := hT hb130
                          clear hT hF
                          refine HW.seq ?_
                          refine HW.region ?_
                          refine HList.vals (v := (.bool false)) rfl (HVal.assign' rfl) ?_
                          refine HList.nil ?_
                          refine nt ?_
                          refine HW.ret ?_
                          refine br ?_
                          refine br ?_
                          refine tr ?_
                          refine tr ?_
                          refine br ?_
                          refine tr ?_
                          exact ⟨_, resOf1 rfl Res1.t, ⟨false, rfl, h⟩⟩
                        · have h := hF hb130
                          clear hT hF
                          refine HW.skip ?_
                          refine nb ?_
                          refine nb ?_
                          refine nt ?_
                          exact ⟨⟨rfl, rfl, rfl, rfl, rfl, trivial⟩, h⟩
                      · have h := hF hb120
                        clear hT hF
                        refine HW.skip ?_
                        refine nb ?_
                        refine nb ?_
                        refine nt ?_
                        exact ⟨⟨rfl, rfl, rfl, rfl, rfl, trivial⟩, h⟩
              · rintro ρ H_5 ⟨hI, h⟩
                obtain ⟨ρ0, rfl⟩ : ∃ ρ0, ρ = (Env.set (Env.set (Env.set (Env.set (Env.set ρ0 10 (.int .i64 y37)) 9 (.pointer (some ⟨H_2.size, 0, none⟩))) 7 (.pointer r3)) 2 (Sl.v p2)) 1 (.int .i64 p1)) := ⟨ρ, hI.eq⟩
                clear hI; unfold F4_5 at h
                refine HW.region ?_
                refine HList.vals (v := (.int .i64 y37)) rfl (HVal.move' rfl) ?_
                refine HList.vals (v := (.int .i64 (IntKind.i64.wrap (y37 + 1)))) rfl (HVal.add rfl rfl) ?_
                refine HList.vals (v := (.int .i64 (IntKind.i64.wrap (y37 + 1)))) rfl (HVal.assign' rfl) ?_
                refine HList.nil ?_
                refine nt ?_
                exact (hX4 _ _).1 h _ ⟨rfl, rfl, rfl, rfl, rfl, trivial⟩
            · have h := hF hb42
              clear hT hF
              refine HW.exit ?_
              refine te ?_
              refine te ?_
              refine be ?_
              refine nt ?_
              exact ⟨⟨rfl, rfl, rfl, trivial⟩, h⟩
          · rintro ρ H_3 ⟨hI, h⟩
            obtain ⟨ρ0, rfl⟩ : ∃ ρ0, ρ = (Env.set (Env.set (Env.set ρ0 9 (.pointer (some ⟨H_2.size, 0, none⟩))) 7 (.pointer r3)) 1 (.int .i64 p1)) := ⟨ρ, hI.eq⟩
            clear hI; unfold F4_3 at h
            refine HW.seq ?_
            refine HW.region ?_
            refine HList.vals (v := (.pointer r3)) rfl (HVal.move' rfl) ?_
            refine HList.ops' rfl (HOp.call' 11 [(.pointer r3)] (cap := []) rfl rfl Tryd.call11 (walk11 h)) ?_
            rintro _ H131 ⟨r133, rfl, h⟩
            refine HList.vals (v := (Sl.v r133)) rfl (HVal.assign' rfl) ?_
            refine HList.nil ?_
            refine nt ?_
            refine HW.seq ?_
            refine HW.region ?_
            refine HList.vals (v := (Sl.v r133)) rfl (HVal.move' rfl) ?_
            refine HList.vals (v := (.int .i64 ((r133).n : Int))) rfl (HVal.len Tryd.runUnderlying28 rfl) ?_
            refine HList.vals (v := (.int .i64 p1)) rfl (HVal.move' rfl) ?_
            refine HList.vals (v := (.bool (decide (((r133).n : Int) ≤ p1)))) rfl (HVal.leq rfl rfl) ?_
            refine HList.vals (v := (.bool (decide (((r133).n : Int) ≤ p1)))) rfl (HVal.move' rfl) ?_
            obtain ⟨hT, hF⟩ := h
            rcases Bool.eq_false_or_eq_true (decide (((r133).n : Int) ≤ p1)) with hb134 | hb135
            · have h := hT hb134
              clear hT hF
              refine HList.gvals (v := (.pointer (some ⟨H_2.size, 0, none⟩))) rfl rfl rfl rfl (congrArg Value.bool hb134) (HVal.move' rfl) ?_
              refine HList.gvals (v := (Sl.v r133)) rfl rfl rfl rfl (congrArg Value.bool hb134) (HVal.move' rfl) ?_
              refine HList.gvals (v := (.pointer r3)) rfl rfl rfl rfl (congrArg Value.bool hb134) (HVal.move' rfl) ?_
              refine HList.gops rfl rfl rfl rfl (congrArg Value.bool hb134) (HOp.call' 16 [(.pointer r3)] (cap := []) rfl rfl Tryd.call16 (walk16 h)) ?_
              rintro _ H136 ⟨r138, rfl, h⟩
              refine HList.gops rfl rfl rfl rfl (congrArg Value.bool hb134) (HOp.call' 17 [(.pointer (some ⟨H_2.size, 0, none⟩)), (Sl.v r133), (.int .i64 r138)] (cap := []) rfl rfl Tryd.call17 (walk17 h)) ?_
              rintro _ H139 ⟨r141, rfl, h⟩
              refine HList.vals (v := (.bool r141)) rfl (HVal.pickT rfl hb134 rfl) ?_
              refine HList.vals (v := (.bool r141)) rfl (HVal.assign' rfl) ?_
              refine HList.nil ?_
              refine nt ?_
              refine HW.ret ?_
              exact ⟨_, resOf1 rfl Res1.t, ⟨r141, rfl, h⟩⟩
            · have h := hF hb135
              clear hT hF
              refine HList.gskips rfl rfl rfl rfl (congrArg Value.bool hb135) ?_
              refine HList.gskips rfl rfl rfl rfl (congrArg Value.bool hb135) ?_
              refine HList.gskips rfl rfl rfl rfl (congrArg Value.bool hb135) ?_
              refine HList.gskips rfl rfl rfl rfl (congrArg Value.bool hb135) ?_
              refine HList.gskips rfl rfl rfl rfl (congrArg Value.bool hb135) ?_
              refine HList.vals (v := (.bool false)) rfl (HVal.pickF rfl hb135 rfl) ?_
              refine HList.vals (v := (.bool false)) rfl (HVal.assign' rfl) ?_
              refine HList.nil ?_
              refine nt ?_
              refine HW.ret ?_
              exact ⟨_, resOf1 rfl Res1.t, ⟨false, rfl, h⟩⟩

end Go.Hw
