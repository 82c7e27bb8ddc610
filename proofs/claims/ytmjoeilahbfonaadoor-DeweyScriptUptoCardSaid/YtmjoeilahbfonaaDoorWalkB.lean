/- The walks of this seat, printed by a program of this session (wip/tools/gen.py): of each function what it does to the heap, and that it does so. -/
import Derived.Test.YtmjoeilahbfonaaDoorHwS
import Derived.Test.YtmjoeilahbfonaaDoorProg
import Derived.Test.YtmjoeilahbfonaaDoorWAux
import Derived.Test.YtmjoeilahbfonaaDoorWalkA
set_option linter.unusedVariables false
set_option linter.unusedSimpArgs false
namespace Go.Hw
open Go Go.Proofs
def F4_3 (Q : Bool → Hp → Prop) (X2 : Int → Hp → Prop) (y12 : Sl) (y13 : Int) (y14 : Int) (H_3 : Hp) : Prop :=
X2 (IntKind.i64.wrap (y14 + 1)) H_3
def F4_5 (Q : Bool → Hp → Prop) (X2 : Int → Hp → Prop) (X4 : Int → Hp → Prop) (y20 : Sl) (y21 : Int) (y22 : Int) (y23 : Int) (H_5 : Hp) : Prop :=
X4 (IntKind.i64.wrap (y23 + 1)) H_5
def F4_8 (Q : Bool → Hp → Prop) (X2 : Int → Hp → Prop) (X4 : Int → Hp → Prop) (X7 : Int → Hp → Prop) (y108 : Sl) (y109 : Int) (y110 : Int) (y111 : Int) (y112 : Int) (y113 : Int) (y148 : Bool) (H_8 : Hp) : Prop :=
(y148 = true → (Q false H_8)) ∧
 (y148 = false → (X7 (IntKind.i64.wrap (y113 + 1)) H_8))
def F4_L7b (Q : Bool → Hp → Prop) (X2 : Int → Hp → Prop) (X4 : Int → Hp → Prop) (X7 : Int → Hp → Prop) (y102 : Sl) (y103 : Int) (y104 : Int) (y105 : Int) (y106 : Int) (y101 : Int) (H_7 : Hp) : Prop :=
((decide (y101 < y103)) = true → (((decide (y106 ≤ 0)) = true → (∃ a116 : Addr, (y102).b = some a116 ∧ (0 : Int) ≤ y105 ∧ y105 < ((y102).n : Int) ∧ (
 ∃ x121 : Sl, cell H_7 (Addr.add a116 (y105.toNat * 1)) = some (Sl.v x121) ∧ (
 ∃ a122 : Addr, (y102).b = some a122 ∧ (0 : Int) ≤ y101 ∧ y101 < ((y102).n : Int) ∧ (
 ∃ x127 : Sl, cell H_7 (Addr.add a122 (y101.toNat * 1)) = some (Sl.v x127) ∧ (
 F14 x121 x127 H_7 (fun (r130 : Int) (H128 : Hp) => 
 ((decide (r130 ≤ 0)) = true → (∃ a133 : Addr, (y102).b = some a133 ∧ (0 : Int) ≤ y104 ∧ y104 < ((y102).n : Int) ∧ (
 ∃ x138 : Sl, cell H128 (Addr.add a133 (y104.toNat * 1)) = some (Sl.v x138) ∧ (
 ∃ a139 : Addr, (y102).b = some a139 ∧ (0 : Int) ≤ y101 ∧ y101 < ((y102).n : Int) ∧ (
 ∃ x144 : Sl, cell H128 (Addr.add a139 (y101.toNat * 1)) = some (Sl.v x144) ∧ (
 F14 x138 x144 H128 (fun (r147 : Int) (H145 : Hp) => 
 F4_8 Q X2 X4 X7 y102 y103 y104 y105 y106 y101 (decide ((0 : Int) < r147)) H145))))))) ∧
 ((decide (r130 ≤ 0)) = false → (F4_8 Q X2 X4 X7 y102 y103 y104 y105 y106 y101 false H128))))))))) ∧
 ((decide (y106 ≤ 0)) = false → (F4_8 Q X2 X4 X7 y102 y103 y104 y105 y106 y101 false H_7)))) ∧
 ((decide (y101 < y103)) = false → (F4_5 Q X2 X4 y102 y103 y104 y105 H_7))
def F4_L7 (Q : Bool → Hp → Prop) (X2 : Int → Hp → Prop) (X4 : Int → Hp → Prop) (y102 : Sl) (y103 : Int) (y104 : Int) (y105 : Int) (y106 : Int) (y101 : Int) (H_7 : Hp) : Prop :=
  ∀ X7 : Int → Hp → Prop, (∀ (y101 : Int) (H_7 : Hp), F4_L7b Q X2 X4 X7 y102 y103 y104 y105 y106 y101 H_7 → X7 y101 H_7) → X7 y101 H_7
def F4_6 (Q : Bool → Hp → Prop) (X2 : Int → Hp → Prop) (X4 : Int → Hp → Prop) (y39 : Sl) (y40 : Int) (y41 : Int) (y42 : Int) (y43 : Int) (y46 : Bool) (H_6 : Hp) : Prop :=
(y46 = true → (Q false H_6)) ∧
 (y46 = false → (F4_L7 Q X2 X4 y39 y40 y41 y42 y43 0 H_6))
def F4_L4b (Q : Bool → Hp → Prop) (X2 : Int → Hp → Prop) (X4 : Int → Hp → Prop) (y16 : Sl) (y17 : Int) (y18 : Int) (y15 : Int) (H_4 : Hp) : Prop :=
((decide (y15 < y17)) = true → (∃ a24 : Addr, (y16).b = some a24 ∧ (0 : Int) ≤ y18 ∧ y18 < ((y16).n : Int) ∧ (
 ∃ x29 : Sl, cell H_4 (Addr.add a24 (y18.toNat * 1)) = some (Sl.v x29) ∧ (
 ∃ a30 : Addr, (y16).b = some a30 ∧ (0 : Int) ≤ y15 ∧ y15 < ((y16).n : Int) ∧ (
 ∃ x35 : Sl, cell H_4 (Addr.add a30 (y15.toNat * 1)) = some (Sl.v x35) ∧ (
 F14 x29 x35 H_4 (fun (r38 : Int) (H36 : Hp) => 
 ((decide (r38 < (-1))) = true → (F4_6 Q X2 X4 y16 y17 y18 y15 r38 true H36)) ∧
 ((decide (r38 < (-1))) = false → (((decide ((1 : Int) < r38)) = true → (F4_6 Q X2 X4 y16 y17 y18 y15 r38 true H36)) ∧
 ((decide ((1 : Int) < r38)) = false → (∃ a49 : Addr, (y16).b = some a49 ∧ (0 : Int) ≤ y15 ∧ y15 < ((y16).n : Int) ∧ (
 ∃ x54 : Sl, cell H36 (Addr.add a49 (y15.toNat * 1)) = some (Sl.v x54) ∧ (
 ∃ a55 : Addr, (y16).b = some a55 ∧ (0 : Int) ≤ y18 ∧ y18 < ((y16).n : Int) ∧ (
 ∃ x60 : Sl, cell H36 (Addr.add a55 (y18.toNat * 1)) = some (Sl.v x60) ∧ (
 F14 x54 x60 H36 (fun (r63 : Int) (H61 : Hp) => 
 ((decide (r38 ≠ (IntKind.i64.wrap (0 - r63)))) = true → (F4_6 Q X2 X4 y16 y17 y18 y15 r38 true H61)) ∧
 ((decide (r38 ≠ (IntKind.i64.wrap (0 - r63)))) = false → (∃ a66 : Addr, (y16).b = some a66 ∧ (0 : Int) ≤ y18 ∧ y18 < ((y16).n : Int) ∧ (
 ∃ x71 : Sl, cell H61 (Addr.add a66 (y18.toNat * 1)) = some (Sl.v x71) ∧ (
 ∃ a72 : Addr, (y16).b = some a72 ∧ (0 : Int) ≤ y15 ∧ y15 < ((y16).n : Int) ∧ (
 ∃ x77 : Sl, cell H61 (Addr.add a72 (y15.toNat * 1)) = some (Sl.v x77) ∧ (
 F15 x71 x77 H61 (fun (r80 : Bool) (H78 : Hp) => 
 ((!((decide (r38 = 0)) == r80)) = true → (F4_6 Q X2 X4 y16 y17 y18 y15 r38 true H78)) ∧
 ((!((decide (r38 = 0)) == r80)) = false → (∃ a83 : Addr, (y16).b = some a83 ∧ (0 : Int) ≤ y18 ∧ y18 < ((y16).n : Int) ∧ (
 ∃ x88 : Sl, cell H78 (Addr.add a83 (y18.toNat * 1)) = some (Sl.v x88) ∧ (
 ∃ a89 : Addr, (y16).b = some a89 ∧ (0 : Int) ≤ y15 ∧ y15 < ((y16).n : Int) ∧ (
 ∃ x94 : Sl, cell H78 (Addr.add a89 (y15.toNat * 1)) = some (Sl.v x94) ∧ (
 F16 x88 x94 H78 (fun (r97 : Bool) (H95 : Hp) => 
 (r97 = true → (F4_6 Q X2 X4 y16 y17 y18 y15 r38 (decide ((0 : Int) < r38)) H95)) ∧
 (r97 = false → (F4_6 Q X2 X4 y16 y17 y18 y15 r38 false H95)))))))))))))))))))))))))))))))) ∧
 ((decide (y15 < y17)) = false → (F4_3 Q X2 y16 y17 y18 H_4))
def F4_L4 (Q : Bool → Hp → Prop) (X2 : Int → Hp → Prop) (y16 : Sl) (y17 : Int) (y18 : Int) (y15 : Int) (H_4 : Hp) : Prop :=
  ∀ X4 : Int → Hp → Prop, (∀ (y15 : Int) (H_4 : Hp), F4_L4b Q X2 X4 y16 y17 y18 y15 H_4 → X4 y15 H_4) → X4 y15 H_4
def F4_L2b (Q : Bool → Hp → Prop) (X2 : Int → Hp → Prop) (y9 : Sl) (y10 : Int) (y8 : Int) (H_2 : Hp) : Prop :=
((decide (y8 < y10)) = true → (F4_L4 Q X2 y9 y10 y8 0 H_2)) ∧
 ((decide (y8 < y10)) = false → (Q true H_2))
def F4_L2 (Q : Bool → Hp → Prop) (y9 : Sl) (y10 : Int) (y8 : Int) (H_2 : Hp) : Prop :=
  ∀ X2 : Int → Hp → Prop, (∀ (y8 : Int) (H_2 : Hp), F4_L2b Q X2 y9 y10 y8 H_2 → X2 y8 H_2) → X2 y8 H_2
def F4_1 (Q : Bool → Hp → Prop) (y5 : Sl) (y7 : Int) (H_1 : Hp) : Prop :=
F4_L2 Q y5 y7 0 H_1
def F4 (p0 : Sl) (H : Hp) (Q : Bool → Hp → Prop) : Prop :=
F9 H (fun (r3 : Bool) (H1 : Hp) => 
 ((!r3) = true → (Q false H1)) ∧
 ((!r3) = false → (((decide ((12 : Int) < ((p0).n : Int))) = true → (F4_1 Q p0 12 H1)) ∧
 ((decide ((12 : Int) < ((p0).n : Int))) = false → (F4_1 Q p0 ((p0).n : Int) H1)))))
set_option maxRecDepth 100000 in
set_option maxHeartbeats 4000000 in
theorem walk4 {w0 : World} {p0 : Sl} {H : Hp} {Q : Bool → Hp → Prop} (h : F4 p0 H Q) :
    Good Tryd.prog w0 4 #[(Sl.v p0)] H (fun v H => ∃ (r0 : Bool) , v = (.bool r0) ∧ Q r0 H) := by
  unfold F4 at h
  refine Good.enter' (fn := Tryd.f4) Tryd.func4 rfl rfl rfl ?_
  refine HW.seq ?_
  refine HW.region ?_
  refine HList.vals (v := (.bool false)) rfl (HVal.assign' rfl) ?_
  refine HList.nil ?_
  refine nt ?_
  refine HW.seq ?_
  refine HW.seq ?_
  refine HW.region ?_
  refine HList.ops' rfl (HOp.call' 9 [] (cap := []) rfl rfl Tryd.call9 (walk9 h)) ?_
  rintro _ H1 ⟨r3, rfl, h⟩
  refine HList.vals (v := (.bool (!r3))) rfl (HVal.not rfl) ?_
  refine HList.nil ?_
  refine nt ?_
  obtain ⟨hT, hF⟩ := h
  refine HW.cond (!r3) rfl (fun hb4 => ?_) (fun hb4 => ?_)
  · have h := hT hb4
    clear hT hF
    refine HW.seq ?_
    refine HW.region ?_
    refine HList.vals (v := (.bool false)) rfl (HVal.assign' rfl) ?_
    refine HList.nil ?_
    refine nt ?_
    refine HW.ret ?_
    refine tr ?_
    exact ⟨_, resOf1 rfl Res1.t, ⟨false, rfl, h⟩⟩
  · have h := hF hb4
    clear hT hF
    refine HW.skip ?_
    refine nt ?_
    refine HW.seq ?_
    refine HW.region ?_
    refine HList.vals (v := (Sl.v p0)) rfl (HVal.move' rfl) ?_
    refine HList.vals (v := (.int .i64 ((p0).n : Int))) rfl (HVal.len Tryd.runUnderlying25 rfl) ?_
    refine HList.vals (v := (.int .i64 ((p0).n : Int))) rfl (HVal.assign' rfl) ?_
    refine HList.nil ?_
    refine nt ?_
    refine HW.cut (fun ρ H_1 => ∃ (y7 : Int), Env.Is ρ [(0, (Sl.v p0)), (3, (.int .i64 y7))] ∧ F4_1 Q p0 y7 H_1) ?_ ?_
    · refine HW.seq ?_
      refine HW.region ?_
      refine HList.vals (v := (.int .i64 ((p0).n : Int))) rfl (HVal.move' rfl) ?_
      refine HList.vals (v := (.bool (decide ((12 : Int) < ((p0).n : Int))))) rfl (HVal.gtr rfl rfl) ?_
      refine HList.nil ?_
      refine nt ?_
      obtain ⟨hT, hF⟩ := h
      refine HW.cond (decide ((12 : Int) < ((p0).n : Int))) rfl (fun hb6 => ?_) (fun hb6 => ?_)
      · have h := hT hb6
        clear hT hF
        refine HW.region ?_
        refine HList.vals (v := (.int .i64 12)) rfl (HVal.assign' rfl) ?_
        refine HList.nil ?_
        refine nt ?_
        exact ⟨12, ⟨rfl, rfl, trivial⟩, h⟩
      · have h := hF hb6
        clear hT hF
        refine HW.skip ?_
        refine nt ?_
        exact ⟨((p0).n : Int), ⟨rfl, rfl, trivial⟩, h⟩
    · rintro ρ H_1 ⟨y7, hI, h⟩
      obtain ⟨ρ0, rfl⟩ : ∃ ρ0, ρ = (Env.set (Env.set ρ0 3 (.int .i64 y7)) 0 (Sl.v p0)) := ⟨ρ, hI.eq⟩
      clear hI; unfold F4_1 at h
      refine HW.seq ?_
      refine HW.seq ?_
      refine HW.region ?_
      refine HList.vals (v := (.int .i64 0)) rfl (HVal.assign' rfl) ?_
      refine HList.nil ?_
      refine nt ?_
      refine HW.block ?_
      refine HW.loop' (fun L2 hL2 => ?_)
      obtain ⟨X2, hX2⟩ : ∃ X2 : Int → Hp → Prop, ∀ (y8 : Int) (H_2 : Hp), X2 y8 H_2 ↔ ∀ ρ, Env.Is ρ [(0, (Sl.v p0)), (3, (.int .i64 y7)), (4, (.int .i64 y8))] → L2 ρ H_2 := ⟨_, fun _ _ => Iff.rfl⟩
      refine (hX2 _ _).1 (h X2 ?_) _ ?_
      rotate_left
      · exact ⟨rfl, rfl, rfl, trivial⟩
      clear h
      intro y8 H_2 h
      refine (hX2 _ _).2 fun ρ hI => ?_
      obtain ⟨ρ0, rfl⟩ : ∃ ρ0, ρ = (Env.set (Env.set (Env.set ρ0 4 (.int .i64 y8)) 3 (.int .i64 y7)) 0 (Sl.v p0)) := ⟨ρ, hI.eq⟩
      clear hI; unfold F4_L2b at h; refine hL2 _ _ ?_
      refine HW.seq ?_
      refine HW.seq ?_
      refine HW.region ?_
      refine HList.vals (v := (.int .i64 y8)) rfl (HVal.move' rfl) ?_
      refine HList.vals (v := (.int .i64 y7)) rfl (HVal.move' rfl) ?_
      refine HList.vals (v := (.bool (decide (y8 < y7)))) rfl (HVal.lss rfl rfl) ?_
      refine HList.nil ?_
      refine nt ?_
      obtain ⟨hT, hF⟩ := h
      refine HW.cond (decide (y8 < y7)) rfl (fun hb11 => ?_) (fun hb11 => ?_)
      · have h := hT hb11
        clear hT hF
        refine HW.skip ?_
        refine nt ?_
        refine HW.cut (fun ρ H_3 => Env.Is ρ [(0, (Sl.v p0)), (3, (.int .i64 y7)), (4, (.int .i64 y8))] ∧ F4_3 Q X2 p0 y7 y8 H_3) ?_ ?_
        · refine HW.block ?_
          refine HW.seq ?_
          refine HW.region ?_
          refine HList.vals (v := (.int .i64 0)) rfl (HVal.assign' rfl) ?_
          refine HList.nil ?_
          refine nt ?_
          refine HW.block ?_
          refine HW.loop' (fun L4 hL4 => ?_)
          obtain ⟨X4, hX4⟩ : ∃ X4 : Int → Hp → Prop, ∀ (y15 : Int) (H_4 : Hp), X4 y15 H_4 ↔ ∀ ρ, Env.Is ρ [(0, (Sl.v p0)), (3, (.int .i64 y7)), (4, (.int .i64 y8)), (5, (.int .i64 y15))] → L4 ρ H_4 := ⟨_, fun _ _ => Iff.rfl⟩
          refine (hX4 _ _).1 (h X4 ?_) _ ?_
          rotate_left
          · exact ⟨rfl, rfl, rfl, rfl, trivial⟩
          clear h
          intro y15 H_4 h
          refine (hX4 _ _).2 fun ρ hI => ?_
          obtain ⟨ρ0, rfl⟩ : ∃ ρ0, ρ = (Env.set (Env.set (Env.set (Env.set ρ0 5 (.int .i64 y15)) 4 (.int .i64 y8)) 3 (.int .i64 y7)) 0 (Sl.v p0)) := ⟨ρ, hI.eq⟩
          clear hI; unfold F4_L4b at h; refine hL4 _ _ ?_
          refine HW.seq ?_
          refine HW.seq ?_
          refine HW.region ?_
          refine HList.vals (v := (.int .i64 y15)) rfl (HVal.move' rfl) ?_
          refine HList.vals (v := (.int .i64 y7)) rfl (HVal.move' rfl) ?_
          refine HList.vals (v := (.bool (decide (y15 < y7)))) rfl (HVal.lss rfl rfl) ?_
          refine HList.nil ?_
          refine nt ?_
          obtain ⟨hT, hF⟩ := h
          refine HW.cond (decide (y15 < y7)) rfl (fun hb19 => ?_) (fun hb19 => ?_)
          · have h := hT hb19
            clear hT hF
            refine HW.skip ?_
            refine nt ?_
            refine HW.cut (fun ρ H_5 => Env.Is ρ [(0, (Sl.v p0)), (3, (.int .i64 y7)), (4, (.int .i64 y8)), (5, (.int .i64 y15))] ∧ F4_5 Q X2 X4 p0 y7 y8 y15 H_5) ?_ ?_
            · refine HW.block ?_
              refine HW.seq ?_
              refine HW.draw mixed [(0, some []), (1, some []), (2, some []), (3, some [8]), (4, some []), (5, some []), (6, some []), (7, some [8]), (8, none), (9, some [])] rfl (by kernel_rfl) (by kernel_rfl) ?_
              refine HPlan.takev (v := (Sl.v p0)) rfl rfl (fun _ => HVal.move' rfl) ?_
              refine HPlan.takev (v := (.int .i64 y8)) rfl rfl (fun _ => HVal.move' rfl) ?_
              obtain ⟨a24, e25, b26, b27, h⟩ := h
              refine HPlan.takev (v := (.pointer (some (Addr.add a24 (y8.toNat * 1))))) rfl rfl (fun _ => HVal.indexAddr Tryd.runUnderlying25 Tryd.sizeOf22 (Sl.v_some rfl e25) rfl b26 b27) ?_
              obtain ⟨x29, c28, h⟩ := h
              refine HPlan.takel (v := (Sl.v x29)) (fun X => cell X (Addr.add a24 (y8.toNat * 1)) = some (Sl.v x29)) rfl rfl (fun _ hX => HVal.load1 Tryd.isAgg22 rfl hX) c28 ?_
              refine HPlan.takev (v := (Sl.v p0)) rfl rfl (fun _ => HVal.move' rfl) ?_
              refine HPlan.takev (v := (.int .i64 y15)) rfl rfl (fun _ => HVal.move' rfl) ?_
              obtain ⟨a30, e31, b32, b33, h⟩ := h
              refine HPlan.takev (v := (.pointer (some (Addr.add a30 (y15.toNat * 1))))) rfl rfl (fun _ => HVal.indexAddr Tryd.runUnderlying25 Tryd.sizeOf22 (Sl.v_some rfl e31) rfl b32 b33) ?_
              obtain ⟨x35, c34, h⟩ := h
              refine HPlan.takel (v := (Sl.v x35)) (fun X => cell X (Addr.add a30 (y15.toNat * 1)) = some (Sl.v x35)) rfl rfl (fun _ hX => HVal.load1 Tryd.isAgg22 rfl hX) c34 ?_
              refine HPlan.ops' rfl rfl (HOp.call' 14 [(Sl.v x29), (Sl.v x35)] (cap := []) rfl rfl Tryd.call14 (walk14 h)) ?_
              rintro _ H36 ⟨r38, rfl, h⟩
              refine ⟨SC_of ⟨fun e => absurd e (by decide), fun e => absurd e (by decide), trivial⟩, ?_⟩
              refine HPlan.takev (v := (.int .i64 r38)) rfl rfl (fun _ => HVal.assign' rfl) ?_
              refine HPlan.done ?_
              refine nt ?_
              refine HW.seq ?_
              refine HW.cut (fun ρ H_6 => ∃ (y46 : Bool), Env.Is ρ [(0, (Sl.v p0)), (3, (.int .i64 y7)), (4, (.int .i64 y8)), (5, (.int .i64 y15)), (6, (.int .i64 r38)), (81, (.bool y46))] ∧ F4_6 Q X2 X4 p0 y7 y8 y15 r38 y46 H_6) ?_ ?_
              · refine HW.draw mixed [(0, some []), (1, some []), (2, some []), (3, some []), (4, some []), (5, some []), (6, some []), (7, some []), (8, some []), (9, some []), (10, some []), (11, some [16]), (12, some []), (13, some []), (14, some []), (15, some [16]), (16, none), (17, some []), (18, some []), (19, some []), (20, some []), (21, some []), (22, some []), (23, some []), (24, some []), (25, some []), (26, some [31]), (27, some []), (28, some []), (29, some []), (30, some [31]), (31, none), (32, some []), (33, some []), (34, some []), (35, some []), (36, some []), (37, some []), (38, some [43]), (39, some []), (40, some []), (41, some []), (42, some [43]), (43, none), (44, some []), (45, some []), (46, some []), (47, some []), (48, some [])] rfl (by kernel_rfl) (by kernel_rfl) ?_
                refine HPlan.takev (v := (.int .i64 r38)) rfl rfl (fun _ => HVal.move' rfl) ?_
                refine HPlan.takev (v := (.bool (decide (r38 < (-1))))) rfl rfl (fun _ => HVal.lss rfl rfl) ?_
                refine HPlan.takev (v := (.bool (decide (r38 < (-1))))) rfl rfl (fun _ => HVal.move' rfl) ?_
                obtain ⟨hT, hF⟩ := h
                rcases Bool.eq_false_or_eq_true (decide (r38 < (-1))) with hb44 | hb45
                · have h := hT hb44
                  clear hT hF
                  refine HPlan.takegskip rfl rfl rfl rfl (congrArg Value.bool hb44) ?_
                  refine HPlan.takegskip rfl rfl rfl rfl (congrArg Value.bool hb44) ?_
                  refine HPlan.takev (v := (.bool true)) rfl rfl (fun _ => HVal.pickT rfl hb44 rfl) ?_
                  refine HPlan.takev (v := (.bool true)) rfl rfl (fun _ => HVal.move' rfl) ?_
                  refine HPlan.takegskip rfl rfl rfl rfl rfl ?_
                  refine HPlan.takegskip rfl rfl rfl rfl rfl ?_
                  refine HPlan.takegskip rfl rfl rfl rfl rfl ?_
                  refine HPlan.takegskip rfl rfl rfl rfl rfl ?_
                  refine HPlan.takegskip rfl rfl rfl rfl rfl ?_
                  refine HPlan.takegskip rfl rfl rfl rfl rfl ?_
                  refine HPlan.takegskip rfl rfl rfl rfl rfl ?_
                  refine HPlan.takegskip rfl rfl rfl rfl rfl ?_
                  refine HPlan.takegskip rfl rfl rfl rfl rfl ?_
                  refine HPlan.opgskip rfl rfl rfl rfl rfl ?_
                  refine HPlan.takegskip rfl rfl rfl rfl rfl ?_
                  refine HPlan.takegskip rfl rfl rfl rfl rfl ?_
                  refine HPlan.takev (v := (.bool true)) rfl rfl (fun _ => HVal.pickT rfl rfl rfl) ?_
                  refine HPlan.takev (v := (.bool true)) rfl rfl (fun _ => HVal.move' rfl) ?_
                  refine HPlan.takegskip rfl rfl rfl rfl rfl ?_
                  refine HPlan.takegskip rfl rfl rfl rfl rfl ?_
                  refine HPlan.takegskip rfl rfl rfl rfl rfl ?_
                  refine HPlan.takegskip rfl rfl rfl rfl rfl ?_
                  refine HPlan.takegskip rfl rfl rfl rfl rfl ?_
                  refine HPlan.takegskip rfl rfl rfl rfl rfl ?_
                  refine HPlan.takegskip rfl rfl rfl rfl rfl ?_
                  refine HPlan.takegskip rfl rfl rfl rfl rfl ?_
                  refine HPlan.takegskip rfl rfl rfl rfl rfl ?_
                  refine HPlan.takegskip rfl rfl rfl rfl rfl ?_
                  refine HPlan.opgskip rfl rfl rfl rfl rfl ?_
                  refine HPlan.takegskip rfl rfl rfl rfl rfl ?_
                  refine HPlan.takev (v := (.bool true)) rfl rfl (fun _ => HVal.pickT rfl rfl rfl) ?_
                  refine HPlan.takev (v := (.bool true)) rfl rfl (fun _ => HVal.move' rfl) ?_
                  refine HPlan.takegskip rfl rfl rfl rfl rfl ?_
                  refine HPlan.takegskip rfl rfl rfl rfl rfl ?_
                  refine HPlan.takegskip rfl rfl rfl rfl rfl ?_
                  refine HPlan.takegskip rfl rfl rfl rfl rfl ?_
                  refine HPlan.takegskip rfl rfl rfl rfl rfl ?_
                  refine HPlan.takegskip rfl rfl rfl rfl rfl ?_
                  refine HPlan.takegskip rfl rfl rfl rfl rfl ?_
                  refine HPlan.takegskip rfl rfl rfl rfl rfl ?_
                  refine HPlan.opgskip rfl rfl rfl rfl rfl ?_
                  refine HPlan.takegskip rfl rfl rfl rfl rfl ?_
                  refine HPlan.takeuskip rfl rfl rfl rfl rfl ?_
                  refine HPlan.takeuskip rfl rfl rfl rfl rfl ?_
                  refine HPlan.takegskip rfl rfl rfl rfl rfl ?_
                  refine HPlan.takev (v := (.bool true)) rfl rfl (fun _ => HVal.pickT rfl rfl rfl) ?_
                  refine HPlan.done ?_
                  refine nt ?_
                  exact ⟨true, ⟨rfl, rfl, rfl, rfl, rfl, rfl, trivial⟩, h⟩
                · have h := hF hb45
                  clear hT hF
                  refine HPlan.gtakev (v := (.int .i64 r38)) rfl rfl rfl rfl rfl (congrArg Value.bool hb45) (fun _ => HVal.move' rfl) ?_
                  refine HPlan.gtakev (v := (.bool (decide ((1 : Int) < r38)))) rfl rfl rfl rfl rfl (congrArg Value.bool hb45) (fun _ => HVal.gtr rfl rfl) ?_
                  refine HPlan.takev (v := (.bool (decide ((1 : Int) < r38)))) rfl rfl (fun _ => HVal.pickF rfl hb45 rfl) ?_
                  refine HPlan.takev (v := (.bool (decide ((1 : Int) < r38)))) rfl rfl (fun _ => HVal.move' rfl) ?_
                  obtain ⟨hT, hF⟩ := h
                  rcases Bool.eq_false_or_eq_true (decide ((1 : Int) < r38)) with hb47 | hb48
                  · have h := hT hb47
                    clear hT hF
                    refine HPlan.takegskip rfl rfl rfl rfl (congrArg Value.bool hb47) ?_
                    refine HPlan.takegskip rfl rfl rfl rfl (congrArg Value.bool hb47) ?_
                    refine HPlan.takegskip rfl rfl rfl rfl (congrArg Value.bool hb47) ?_
                    refine HPlan.takegskip rfl rfl rfl rfl (congrArg Value.bool hb47) ?_
                    refine HPlan.takegskip rfl rfl rfl rfl (congrArg Value.bool hb47) ?_
                    refine HPlan.takegskip rfl rfl rfl rfl (congrArg Value.bool hb47) ?_
                    refine HPlan.takegskip rfl rfl rfl rfl (congrArg Value.bool hb47) ?_
                    refine HPlan.takegskip rfl rfl rfl rfl (congrArg Value.bool hb47) ?_
                    refine HPlan.takegskip rfl rfl rfl rfl (congrArg Value.bool hb47) ?_
                    refine HPlan.opgskip rfl rfl rfl rfl (congrArg Value.bool hb47) ?_
                    refine HPlan.takegskip rfl rfl rfl rfl (congrArg Value.bool hb47) ?_
                    refine HPlan.takegskip rfl rfl rfl rfl (congrArg Value.bool hb47) ?_
                    refine HPlan.takev (v := (.bool true)) rfl rfl (fun _ => HVal.pickT rfl hb47 rfl) ?_
                    refine HPlan.takev (v := (.bool true)) rfl rfl (fun _ => HVal.move' rfl) ?_
                    refine HPlan.takegskip rfl rfl rfl rfl rfl ?_
                    refine HPlan.takegskip rfl rfl rfl rfl rfl ?_
                    refine HPlan.takegskip rfl rfl rfl rfl rfl ?_
                    refine HPlan.takegskip rfl rfl rfl rfl rfl ?_
                    refine HPlan.takegskip rfl rfl rfl rfl rfl ?_
                    refine HPlan.takegskip rfl rfl rfl rfl rfl ?_
                    refine HPlan.takegskip rfl rfl rfl rfl rfl ?_
                    refine HPlan.takegskip rfl rfl rfl rfl rfl ?_
                    refine HPlan.takegskip rfl rfl rfl rfl rfl ?_
                    refine HPlan.takegskip rfl rfl rfl rfl rfl ?_
                    refine HPlan.opgskip rfl rfl rfl rfl rfl ?_
                    refine HPlan.takegskip rfl rfl rfl rfl rfl ?_
                    refine HPlan.takev (v := (.bool true)) rfl rfl (fun _ => HVal.pickT rfl rfl rfl) ?_
                    refine HPlan.takev (v := (.bool true)) rfl rfl (fun _ => HVal.move' rfl) ?_
                    refine HPlan.takegskip rfl rfl rfl rfl rfl ?_
                    refine HPlan.takegskip rfl rfl rfl rfl rfl ?_
                    refine HPlan.takegskip rfl rfl rfl rfl rfl ?_
                    refine HPlan.takegskip rfl rfl rfl rfl rfl ?_
                    refine HPlan.takegskip rfl rfl rfl rfl rfl ?_
                    refine HPlan.takegskip rfl rfl rfl rfl rfl ?_
                    refine HPlan.takegskip rfl rfl rfl rfl rfl ?_
                    refine HPlan.takegskip rfl rfl rfl rfl rfl ?_
                    refine HPlan.opgskip rfl rfl rfl rfl rfl ?_
                    refine HPlan.takegskip rfl rfl rfl rfl rfl ?_
                    refine HPlan.takeuskip rfl rfl rfl rfl rfl ?_
                    refine HPlan.takeuskip rfl rfl rfl rfl rfl ?_
                    refine HPlan.takegskip rfl rfl rfl rfl rfl ?_
                    refine HPlan.takev (v := (.bool true)) rfl rfl (fun _ => HVal.pickT rfl rfl rfl) ?_
                    refine HPlan.done ?_
                    refine nt ?_
                    exact ⟨true, ⟨rfl, rfl, rfl, rfl, rfl, rfl, trivial⟩, h⟩
                  · have h := hF hb48
                    clear hT hF
                    refine HPlan.gtakev (v := (.int .i64 r38)) rfl rfl rfl rfl rfl (congrArg Value.bool hb48) (fun _ => HVal.move' rfl) ?_
                    refine HPlan.gtakev (v := (Sl.v p0)) rfl rfl rfl rfl rfl (congrArg Value.bool hb48) (fun _ => HVal.move' rfl) ?_
                    refine HPlan.gtakev (v := (.int .i64 y15)) rfl rfl rfl rfl rfl (congrArg Value.bool hb48) (fun _ => HVal.move' rfl) ?_
                    obtain ⟨a49, e50, b51, b52, h⟩ := h
                    refine HPlan.gtakev (v := (.pointer (some (Addr.add a49 (y15.toNat * 1))))) rfl rfl rfl rfl rfl (congrArg Value.bool hb48) (fun _ => HVal.indexAddr Tryd.runUnderlying25 Tryd.sizeOf22 (Sl.v_some rfl e50) rfl b51 b52) ?_
                    obtain ⟨x54, c53, h⟩ := h
                    refine HPlan.gtakel (v := (Sl.v x54)) (fun X => cell X (Addr.add a49 (y15.toNat * 1)) = some (Sl.v x54)) rfl rfl rfl rfl rfl (congrArg Value.bool hb48) (fun _ hX => HVal.load1 Tryd.isAgg22 rfl hX) c53 ?_
                    refine HPlan.gtakev (v := (Sl.v p0)) rfl rfl rfl rfl rfl (congrArg Value.bool hb48) (fun _ => HVal.move' rfl) ?_
                    refine HPlan.gtakev (v := (.int .i64 y8)) rfl rfl rfl rfl rfl (congrArg Value.bool hb48) (fun _ => HVal.move' rfl) ?_
                    obtain ⟨a55, e56, b57, b58, h⟩ := h
                    refine HPlan.gtakev (v := (.pointer (some (Addr.add a55 (y8.toNat * 1))))) rfl rfl rfl rfl rfl (congrArg Value.bool hb48) (fun _ => HVal.indexAddr Tryd.runUnderlying25 Tryd.sizeOf22 (Sl.v_some rfl e56) rfl b57 b58) ?_
                    obtain ⟨x60, c59, h⟩ := h
                    refine HPlan.gtakel (v := (Sl.v x60)) (fun X => cell X (Addr.add a55 (y8.toNat * 1)) = some (Sl.v x60)) rfl rfl rfl rfl rfl (congrArg Value.bool hb48) (fun _ hX => HVal.load1 Tryd.isAgg22 rfl hX) c59 ?_
                    refine HPlan.gops rfl rfl rfl rfl rfl (congrArg Value.bool hb48) (HOp.call' 14 [(Sl.v x54), (Sl.v x60)] (cap := []) rfl rfl Tryd.call14 (walk14 h)) ?_
                    rintro _ H61 ⟨r63, rfl, h⟩
                    refine ⟨SC_of ⟨fun e => absurd e (by decide), fun e => absurd e (by decide), trivial⟩, ?_⟩
                    refine HPlan.gtakev (v := (.int .i64 (IntKind.i64.wrap (0 - r63)))) rfl rfl rfl rfl rfl (congrArg Value.bool hb48) (fun _ => HVal.neg rfl) ?_
                    refine HPlan.gtakev (v := (.bool (decide (r38 ≠ (IntKind.i64.wrap (0 - r63)))))) rfl rfl rfl rfl rfl (congrArg Value.bool hb48) (fun _ => HVal.neqI rfl rfl) ?_
                    refine HPlan.takev (v := (.bool (decide (r38 ≠ (IntKind.i64.wrap (0 - r63)))))) rfl rfl (fun _ => HVal.pickF rfl hb48 rfl) ?_
                    refine HPlan.takev (v := (.bool (decide (r38 ≠ (IntKind.i64.wrap (0 - r63)))))) rfl rfl (fun _ => HVal.move' rfl) ?_
                    obtain ⟨hT, hF⟩ := h
                    rcases Bool.eq_false_or_eq_true (decide (r38 ≠ (IntKind.i64.wrap (0 - r63)))) with hb64 | hb65
                    · have h := hT hb64
                      clear hT hF
                      refine HPlan.takegskip rfl rfl rfl rfl (congrArg Value.bool hb64) ?_
                      refine HPlan.takegskip rfl rfl rfl rfl (congrArg Value.bool hb64) ?_
                      refine HPlan.takegskip rfl rfl rfl rfl (congrArg Value.bool hb64) ?_
                      refine HPlan.takegskip rfl rfl rfl rfl (congrArg Value.bool hb64) ?_
                      refine HPlan.takegskip rfl rfl rfl rfl (congrArg Value.bool hb64) ?_
                      refine HPlan.takegskip rfl rfl rfl rfl (congrArg Value.bool hb64) ?_
                      refine HPlan.takegskip rfl rfl rfl rfl (congrArg Value.bool hb64) ?_
                      refine HPlan.takegskip rfl rfl rfl rfl (congrArg Value.bool hb64) ?_
                      refine HPlan.takegskip rfl rfl rfl rfl (congrArg Value.bool hb64) ?_
                      refine HPlan.takegskip rfl rfl rfl rfl (congrArg Value.bool hb64) ?_
                      refine HPlan.opgskip rfl rfl rfl rfl (congrArg Value.bool hb64) ?_
                      refine HPlan.takegskip rfl rfl rfl rfl (congrArg Value.bool hb64) ?_
                      refine HPlan.takev (v := (.bool true)) rfl rfl (fun _ => HVal.pickT rfl hb64 rfl) ?_
                      refine HPlan.takev (v := (.bool true)) rfl rfl (fun _ => HVal.move' rfl) ?_
                      refine HPlan.takegskip rfl rfl rfl rfl rfl ?_
                      refine HPlan.takegskip rfl rfl rfl rfl rfl ?_
                      refine HPlan.takegskip rfl rfl rfl rfl rfl ?_
                      refine HPlan.takegskip rfl rfl rfl rfl rfl ?_
                      refine HPlan.takegskip rfl rfl rfl rfl rfl ?_
                      refine HPlan.takegskip rfl rfl rfl rfl rfl ?_
                      refine HPlan.takegskip rfl rfl rfl rfl rfl ?_
                      refine HPlan.takegskip rfl rfl rfl rfl rfl ?_
                      refine HPlan.opgskip rfl rfl rfl rfl rfl ?_
                      refine HPlan.takegskip rfl rfl rfl rfl rfl ?_
                      refine HPlan.takeuskip rfl rfl rfl rfl rfl ?_
                      refine HPlan.takeuskip rfl rfl rfl rfl rfl ?_
                      refine HPlan.takegskip rfl rfl rfl rfl rfl ?_
                      refine HPlan.takev (v := (.bool true)) rfl rfl (fun _ => HVal.pickT rfl rfl rfl) ?_
                      refine HPlan.done ?_
                      refine nt ?_
                      exact ⟨true, ⟨rfl, rfl, rfl, rfl, rfl, rfl, trivial⟩, h⟩
                    · have h := hF hb65
                      clear hT hF
                      refine HPlan.gtakev (v := (.int .i64 r38)) rfl rfl rfl rfl rfl (congrArg Value.bool hb65) (fun _ => HVal.move' rfl) ?_
                      refine HPlan.gtakev (v := (.bool (decide (r38 = 0)))) rfl rfl rfl rfl rfl (congrArg Value.bool hb65) (fun _ => HVal.eqlI rfl rfl) ?_
                      refine HPlan.gtakev (v := (Sl.v p0)) rfl rfl rfl rfl rfl (congrArg Value.bool hb65) (fun _ => HVal.move' rfl) ?_
                      refine HPlan.gtakev (v := (.int .i64 y8)) rfl rfl rfl rfl rfl (congrArg Value.bool hb65) (fun _ => HVal.move' rfl) ?_
                      obtain ⟨a66, e67, b68, b69, h⟩ := h
                      refine HPlan.gtakev (v := (.pointer (some (Addr.add a66 (y8.toNat * 1))))) rfl rfl rfl rfl rfl (congrArg Value.bool hb65) (fun _ => HVal.indexAddr Tryd.runUnderlying25 Tryd.sizeOf22 (Sl.v_some rfl e67) rfl b68 b69) ?_
                      obtain ⟨x71, c70, h⟩ := h
                      refine HPlan.gtakel (v := (Sl.v x71)) (fun X => cell X (Addr.add a66 (y8.toNat * 1)) = some (Sl.v x71)) rfl rfl rfl rfl rfl (congrArg Value.bool hb65) (fun _ hX => HVal.load1 Tryd.isAgg22 rfl hX) c70 ?_
                      refine HPlan.gtakev (v := (Sl.v p0)) rfl rfl rfl rfl rfl (congrArg Value.bool hb65) (fun _ => HVal.move' rfl) ?_
                      refine HPlan.gtakev (v := (.int .i64 y15)) rfl rfl rfl rfl rfl (congrArg Value.bool hb65) (fun _ => HVal.move' rfl) ?_
                      obtain ⟨a72, e73, b74, b75, h⟩ := h
                      refine HPlan.gtakev (v := (.pointer (some (Addr.add a72 (y15.toNat * 1))))) rfl rfl rfl rfl rfl (congrArg Value.bool hb65) (fun _ => HVal.indexAddr Tryd.runUnderlying25 Tryd.sizeOf22 (Sl.v_some rfl e73) rfl b74 b75) ?_
                      obtain ⟨x77, c76, h⟩ := h
                      refine HPlan.gtakel (v := (Sl.v x77)) (fun X => cell X (Addr.add a72 (y15.toNat * 1)) = some (Sl.v x77)) rfl rfl rfl rfl rfl (congrArg Value.bool hb65) (fun _ hX => HVal.load1 Tryd.isAgg22 rfl hX) c76 ?_
                      refine HPlan.gops rfl rfl rfl rfl rfl (congrArg Value.bool hb65) (HOp.call' 15 [(Sl.v x71), (Sl.v x77)] (cap := []) rfl rfl Tryd.call15 (walk15 h)) ?_
                      rintro _ H78 ⟨r80, rfl, h⟩
                      refine ⟨SC_of ⟨fun e => absurd e (by decide), fun e => absurd e (by decide), fun e => absurd e (by decide), fun e => absurd e (by decide), trivial⟩, ?_⟩
                      refine HPlan.gtakev (v := (.bool (!((decide (r38 = 0)) == r80)))) rfl rfl rfl rfl rfl (congrArg Value.bool hb65) (fun _ => HVal.neqB Tryd.underlying4 rfl rfl) ?_
                      refine HPlan.takev (v := (.bool (!((decide (r38 = 0)) == r80)))) rfl rfl (fun _ => HVal.pickF rfl hb65 rfl) ?_
                      refine HPlan.takev (v := (.bool (!((decide (r38 = 0)) == r80)))) rfl rfl (fun _ => HVal.move' rfl) ?_
                      obtain ⟨hT, hF⟩ := h
                      rcases Bool.eq_false_or_eq_true (!((decide (r38 = 0)) == r80)) with hb81 | hb82
                      · have h := hT hb81
                        clear hT hF
                        refine HPlan.takegskip rfl rfl rfl rfl (congrArg Value.bool hb81) ?_
                        refine HPlan.takegskip rfl rfl rfl rfl (congrArg Value.bool hb81) ?_
                        refine HPlan.takegskip rfl rfl rfl rfl (congrArg Value.bool hb81) ?_
                        refine HPlan.takegskip rfl rfl rfl rfl (congrArg Value.bool hb81) ?_
                        refine HPlan.takegskip rfl rfl rfl rfl (congrArg Value.bool hb81) ?_
                        refine HPlan.takegskip rfl rfl rfl rfl (congrArg Value.bool hb81) ?_
                        refine HPlan.takegskip rfl rfl rfl rfl (congrArg Value.bool hb81) ?_
                        refine HPlan.takegskip rfl rfl rfl rfl (congrArg Value.bool hb81) ?_
                        refine HPlan.opgskip rfl rfl rfl rfl (congrArg Value.bool hb81) ?_
                        refine HPlan.takegskip rfl rfl rfl rfl (congrArg Value.bool hb81) ?_
                        refine HPlan.takeuskip rfl rfl rfl rfl rfl ?_
                        refine HPlan.takeuskip rfl rfl rfl rfl rfl ?_
                        refine HPlan.takegskip rfl rfl rfl rfl (congrArg Value.bool hb81) ?_
                        refine HPlan.takev (v := (.bool true)) rfl rfl (fun _ => HVal.pickT rfl hb81 rfl) ?_
                        refine HPlan.done ?_
                        refine nt ?_
                        exact ⟨true, ⟨rfl, rfl, rfl, rfl, rfl, rfl, trivial⟩, h⟩
                      · have h := hF hb82
                        clear hT hF
                        refine HPlan.gtakev (v := (Sl.v p0)) rfl rfl rfl rfl rfl (congrArg Value.bool hb82) (fun _ => HVal.move' rfl) ?_
                        refine HPlan.gtakev (v := (.int .i64 y8)) rfl rfl rfl rfl rfl (congrArg Value.bool hb82) (fun _ => HVal.move' rfl) ?_
                        obtain ⟨a83, e84, b85, b86, h⟩ := h
                        refine HPlan.gtakev (v := (.pointer (some (Addr.add a83 (y8.toNat * 1))))) rfl rfl rfl rfl rfl (congrArg Value.bool hb82) (fun _ => HVal.indexAddr Tryd.runUnderlying25 Tryd.sizeOf22 (Sl.v_some rfl e84) rfl b85 b86) ?_
                        obtain ⟨x88, c87, h⟩ := h
                        refine HPlan.gtakel (v := (Sl.v x88)) (fun X => cell X (Addr.add a83 (y8.toNat * 1)) = some (Sl.v x88)) rfl rfl rfl rfl rfl (congrArg Value.bool hb82) (fun _ hX => HVal.load1 Tryd.isAgg22 rfl hX) c87 ?_
                        refine HPlan.gtakev (v := (Sl.v p0)) rfl rfl rfl rfl rfl (congrArg Value.bool hb82) (fun _ => HVal.move' rfl) ?_
                        refine HPlan.gtakev (v := (.int .i64 y15)) rfl rfl rfl rfl rfl (congrArg Value.bool hb82) (fun _ => HVal.move' rfl) ?_
                        obtain ⟨a89, e90, b91, b92, h⟩ := h
                        refine HPlan.gtakev (v := (.pointer (some (Addr.add a89 (y15.toNat * 1))))) rfl rfl rfl rfl rfl (congrArg Value.bool hb82) (fun _ => HVal.indexAddr Tryd.runUnderlying25 Tryd.sizeOf22 (Sl.v_some rfl e90) rfl b91 b92) ?_
                        obtain ⟨x94, c93, h⟩ := h
                        refine HPlan.gtakel (v := (Sl.v x94)) (fun X => cell X (Addr.add a89 (y15.toNat * 1)) = some (Sl.v x94)) rfl rfl rfl rfl rfl (congrArg Value.bool hb82) (fun _ hX => HVal.load1 Tryd.isAgg22 rfl hX) c93 ?_
                        refine HPlan.gops rfl rfl rfl rfl rfl (congrArg Value.bool hb82) (HOp.call' 16 [(Sl.v x88), (Sl.v x94)] (cap := []) rfl rfl Tryd.call16 (walk16 h)) ?_
                        rintro _ H95 ⟨r97, rfl, h⟩
                        refine ⟨SC_of ⟨fun e => absurd e (by decide), fun e => absurd e (by decide), fun e => absurd e (by decide), fun e => absurd e (by decide), fun e => absurd e (by decide), fun e => absurd e (by decide), trivial⟩, ?_⟩
                        refine HPlan.gtakev (v := (.bool r97)) rfl rfl rfl rfl rfl (congrArg Value.bool hb82) (fun _ => HVal.move' rfl) ?_
                        obtain ⟨hT, hF⟩ := h
                        rcases Bool.eq_false_or_eq_true r97 with hb98 | hb99
                        · have h := hT hb98
                          clear hT hF
                          refine HPlan.gtakev (v := (.int .i64 r38)) rfl rfl rfl rfl rfl (congrArg Value.bool hb98) (fun _ => HVal.move' rfl) ?_
                          refine HPlan.gtakev (v := (.bool (decide ((0 : Int) < r38)))) rfl rfl rfl rfl rfl (congrArg Value.bool hb98) (fun _ => HVal.gtr rfl rfl) ?_
                          refine HPlan.gtakev (v := (.bool (decide ((0 : Int) < r38)))) rfl rfl rfl rfl rfl (congrArg Value.bool hb82) (fun _ => HVal.pickT rfl hb98 rfl) ?_
                          refine HPlan.takev (v := (.bool (decide ((0 : Int) < r38)))) rfl rfl (fun _ => HVal.pickF rfl hb82 rfl) ?_
                          refine HPlan.done ?_
                          refine nt ?_
                          exact ⟨(decide ((0 : Int) < r38)), ⟨rfl, rfl, rfl, rfl, rfl, rfl, trivial⟩, h⟩
                        · have h := hF hb99
                          clear hT hF
                          refine HPlan.takegskip rfl rfl rfl rfl (congrArg Value.bool hb99) ?_
                          refine HPlan.takegskip rfl rfl rfl rfl (congrArg Value.bool hb99) ?_
                          refine HPlan.gtakev (v := (.bool false)) rfl rfl rfl rfl rfl (congrArg Value.bool hb82) (fun _ => HVal.pickF rfl hb99 rfl) ?_
                          refine HPlan.takev (v := (.bool false)) rfl rfl (fun _ => HVal.pickF rfl hb82 rfl) ?_
                          refine HPlan.done ?_
                          refine nt ?_
                          exact ⟨false, ⟨rfl, rfl, rfl, rfl, rfl, rfl, trivial⟩, h⟩
              · rintro ρ H_6 ⟨y46, hI, h⟩
                obtain ⟨ρ0, rfl⟩ : ∃ ρ0, ρ = (Env.set (Env.set (Env.set (Env.set (Env.set (Env.set ρ0 81 (.bool y46)) 6 (.int .i64 r38)) 5 (.int .i64 y15)) 4 (.int .i64 y8)) 3 (.int .i64 y7)) 0 (Sl.v p0)) := ⟨ρ, hI.eq⟩
                clear hI; unfold F4_6 at h
                obtain ⟨hT, hF⟩ := h
                refine HW.cond y46 rfl (fun hb100 => ?_) (fun hb100 => ?_)
                · have h := hT hb100
                  clear hT hF
                  refine HW.seq ?_
                  refine HW.region ?_
                  refine HList.vals (v := (.bool false)) rfl (HVal.assign' rfl) ?_
                  refine HList.nil ?_
                  refine nt ?_
                  refine HW.ret ?_
                  refine tr ?_
                  refine br ?_
                  refine tr ?_
                  refine tr ?_
                  refine br ?_
                  refine br ?_
                  refine tr ?_
                  refine tr ?_
                  refine br ?_
                  refine tr ?_
                  exact ⟨_, resOf1 rfl Res1.t, ⟨false, rfl, h⟩⟩
                · have h := hF hb100
                  clear hT hF
                  refine HW.skip ?_
                  refine nt ?_
                  refine HW.seq ?_
                  refine HW.region ?_
                  refine HList.vals (v := (.int .i64 0)) rfl (HVal.assign' rfl) ?_
                  refine HList.nil ?_
                  refine nt ?_
                  refine HW.block ?_
                  refine HW.loop' (fun L7 hL7 => ?_)
                  obtain ⟨X7, hX7⟩ : ∃ X7 : Int → Hp → Prop, ∀ (y101 : Int) (H_7 : Hp), X7 y101 H_7 ↔ ∀ ρ, Env.Is ρ [(0, (Sl.v p0)), (3, (.int .i64 y7)), (4, (.int .i64 y8)), (5, (.int .i64 y15)), (6, (.int .i64 r38)), (7, (.int .i64 y101))] → L7 ρ H_7 := ⟨_, fun _ _ => Iff.rfl⟩
                  refine (hX7 _ _).1 (h X7 ?_) _ ?_
                  rotate_left
                  · exact ⟨rfl, rfl, rfl, rfl, rfl, rfl, trivial⟩
                  clear h
                  intro y101 H_7 h
                  refine (hX7 _ _).2 fun ρ hI => ?_
                  obtain ⟨ρ0, rfl⟩ : ∃ ρ0, ρ = (Env.set (Env.set (Env.set (Env.set (Env.set (Env.set ρ0 7 (.int .i64 y101)) 6 (.int .i64 r38)) 5 (.int .i64 y15)) 4 (.int .i64 y8)) 3 (.int .i64 y7)) 0 (Sl.v p0)) := ⟨ρ, hI.eq⟩
                  clear hI; unfold F4_L7b at h; refine hL7 _ _ ?_
                  refine HW.seq ?_
                  refine HW.seq ?_
                  refine HW.region ?_
                  refine HList.vals (v := (.int .i64 y101)) rfl (HVal.move' rfl) ?_
                  refine HList.vals (v := (.int .i64 y7)) rfl (HVal.move' rfl) ?_
                  refine HList.vals (v := (.bool (decide (y101 < y7)))) rfl (HVal.lss rfl rfl) ?_
                  refine HList.nil ?_
                  refine nt ?_
                  obtain ⟨hT, hF⟩ := h
                  refine HW.cond (decide (y101 < y7)) rfl (fun hb107 => ?_) (fun hb107 => ?_)
                  · have h := hT hb107
                    clear hT hF
                    refine HW.skip ?_
                    refine nt ?_
                    refine HW.seq ?_
                    refine HW.block ?_
                    refine HW.cut (fun ρ H_8 => ∃ (y148 : Bool), Env.Is ρ [(0, (Sl.v p0)), (3, (.int .i64 y7)), (4, (.int .i64 y8)), (5, (.int .i64 y15)), (6, (.int .i64 r38)), (7, (.int .i64 y101)), (112, (.bool y148))] ∧ F4_8 Q X2 X4 X7 p0 y7 y8 y15 r38 y101 y148 H_8) ?_ ?_
                    · refine HW.draw mixed [(0, some []), (1, some []), (2, some []), (3, some []), (4, some []), (5, some []), (6, some [11]), (7, some []), (8, some []), (9, some []), (10, some [11]), (11, none), (12, some []), (13, some []), (14, some []), (15, some []), (16, some []), (17, some []), (18, some [23]), (19, some []), (20, some []), (21, some []), (22, some [23]), (23, none), (24, some []), (25, some [])] rfl (by kernel_rfl) (by kernel_rfl) ?_
                      refine HPlan.takev (v := (.int .i64 r38)) rfl rfl (fun _ => HVal.move' rfl) ?_
                      refine HPlan.takev (v := (.bool (decide (r38 ≤ 0)))) rfl rfl (fun _ => HVal.leq rfl rfl) ?_
                      refine HPlan.takev (v := (.bool (decide (r38 ≤ 0)))) rfl rfl (fun _ => HVal.move' rfl) ?_
                      obtain ⟨hT, hF⟩ := h
                      rcases Bool.eq_false_or_eq_true (decide (r38 ≤ 0)) with hb114 | hb115
                      · have h := hT hb114
                        clear hT hF
                        refine HPlan.gtakev (v := (Sl.v p0)) rfl rfl rfl rfl rfl (congrArg Value.bool hb114) (fun _ => HVal.move' rfl) ?_
                        refine HPlan.gtakev (v := (.int .i64 y15)) rfl rfl rfl rfl rfl (congrArg Value.bool hb114) (fun _ => HVal.move' rfl) ?_
                        obtain ⟨a116, e117, b118, b119, h⟩ := h
                        refine HPlan.gtakev (v := (.pointer (some (Addr.add a116 (y15.toNat * 1))))) rfl rfl rfl rfl rfl (congrArg Value.bool hb114) (fun _ => HVal.indexAddr Tryd.runUnderlying25 Tryd.sizeOf22 (Sl.v_some rfl e117) rfl b118 b119) ?_
                        obtain ⟨x121, c120, h⟩ := h
                        refine HPlan.gtakel (v := (Sl.v x121)) (fun X => cell X (Addr.add a116 (y15.toNat * 1)) = some (Sl.v x121)) rfl rfl rfl rfl rfl (congrArg Value.bool hb114) (fun _ hX => HVal.load1 Tryd.isAgg22 rfl hX) c120 ?_
                        refine HPlan.gtakev (v := (Sl.v p0)) rfl rfl rfl rfl rfl (congrArg Value.bool hb114) (fun _ => HVal.move' rfl) ?_
                        refine HPlan.gtakev (v := (.int .i64 y101)) rfl rfl rfl rfl rfl (congrArg Value.bool hb114) (fun _ => HVal.move' rfl) ?_
                        obtain ⟨a122, e123, b124, b125, h⟩ := h
                        refine HPlan.gtakev (v := (.pointer (some (Addr.add a122 (y101.toNat * 1))))) rfl rfl rfl rfl rfl (congrArg Value.bool hb114) (fun _ => HVal.indexAddr Tryd.runUnderlying25 Tryd.sizeOf22 (Sl.v_some rfl e123) rfl b124 b125) ?_
                        obtain ⟨x127, c126, h⟩ := h
                        refine HPlan.gtakel (v := (Sl.v x127)) (fun X => cell X (Addr.add a122 (y101.toNat * 1)) = some (Sl.v x127)) rfl rfl rfl rfl rfl (congrArg Value.bool hb114) (fun _ hX => HVal.load1 Tryd.isAgg22 rfl hX) c126 ?_
                        refine HPlan.gops rfl rfl rfl rfl rfl (congrArg Value.bool hb114) (HOp.call' 14 [(Sl.v x121), (Sl.v x127)] (cap := []) rfl rfl Tryd.call14 (walk14 h)) ?_
                        rintro _ H128 ⟨r130, rfl, h⟩
                        refine ⟨SC_of ⟨fun e => absurd e (by decide), fun e => absurd e (by decide), trivial⟩, ?_⟩
                        refine HPlan.gtakev (v := (.bool (decide (r130 ≤ 0)))) rfl rfl rfl rfl rfl (congrArg Value.bool hb114) (fun _ => HVal.leq rfl rfl) ?_
                        refine HPlan.takev (v := (.bool (decide (r130 ≤ 0)))) rfl rfl (fun _ => HVal.pickT rfl hb114 rfl) ?_
                        refine HPlan.takev (v := (.bool (decide (r130 ≤ 0)))) rfl rfl (fun _ => HVal.move' rfl) ?_
                        obtain ⟨hT, hF⟩ := h
                        rcases Bool.eq_false_or_eq_true (decide (r130 ≤ 0)) with hb131 | hb132
                        · have h := hT hb131
                          clear hT hF
                          refine HPlan.gtakev (v := (Sl.v p0)) rfl rfl rfl rfl rfl (congrArg Value.bool hb131) (fun _ => HVal.move' rfl) ?_
                          refine HPlan.gtakev (v := (.int .i64 y8)) rfl rfl rfl rfl rfl (congrArg Value.bool hb131) (fun _ => HVal.move' rfl) ?_
                          obtain ⟨a133, e134, b135, b136, h⟩ := h
                          refine HPlan.gtakev (v := (.pointer (some (Addr.add a133 (y8.toNat * 1))))) rfl rfl rfl rfl rfl (congrArg Value.bool hb131) (fun _ => HVal.indexAddr Tryd.runUnderlying25 Tryd.sizeOf22 (Sl.v_some rfl e134) rfl b135 b136) ?_
                          obtain ⟨x138, c137, h⟩ := h
                          refine HPlan.gtakel (v := (Sl.v x138)) (fun X => cell X (Addr.add a133 (y8.toNat * 1)) = some (Sl.v x138)) rfl rfl rfl rfl rfl (congrArg Value.bool hb131) (fun _ hX => HVal.load1 Tryd.isAgg22 rfl hX) c137 ?_
                          refine HPlan.gtakev (v := (Sl.v p0)) rfl rfl rfl rfl rfl (congrArg Value.bool hb131) (fun _ => HVal.move' rfl) ?_
                          refine HPlan.gtakev (v := (.int .i64 y101)) rfl rfl rfl rfl rfl (congrArg Value.bool hb131) (fun _ => HVal.move' rfl) ?_
                          obtain ⟨a139, e140, b141, b142, h⟩ := h
                          refine HPlan.gtakev (v := (.pointer (some (Addr.add a139 (y101.toNat * 1))))) rfl rfl rfl rfl rfl (congrArg Value.bool hb131) (fun _ => HVal.indexAddr Tryd.runUnderlying25 Tryd.sizeOf22 (Sl.v_some rfl e140) rfl b141 b142) ?_
                          obtain ⟨x144, c143, h⟩ := h
                          refine HPlan.gtakel (v := (Sl.v x144)) (fun X => cell X (Addr.add a139 (y101.toNat * 1)) = some (Sl.v x144)) rfl rfl rfl rfl rfl (congrArg Value.bool hb131) (fun _ hX => HVal.load1 Tryd.isAgg22 rfl hX) c143 ?_
                          refine HPlan.gops rfl rfl rfl rfl rfl (congrArg Value.bool hb131) (HOp.call' 14 [(Sl.v x138), (Sl.v x144)] (cap := []) rfl rfl Tryd.call14 (walk14 h)) ?_
                          rintro _ H145 ⟨r147, rfl, h⟩
                          refine ⟨SC_of ⟨fun e => absurd e (by decide), fun e => absurd e (by decide), fun e => absurd e (by decide), fun e => absurd e (by decide), trivial⟩, ?_⟩
                          refine HPlan.gtakev (v := (.bool (decide ((0 : Int) < r147)))) rfl rfl rfl rfl rfl (congrArg Value.bool hb131) (fun _ => HVal.gtr rfl rfl) ?_
                          refine HPlan.takev (v := (.bool (decide ((0 : Int) < r147)))) rfl rfl (fun _ => HVal.pickT rfl hb131 rfl) ?_
                          refine HPlan.done ?_
                          refine nt ?_
                          exact ⟨(decide ((0 : Int) < r147)), ⟨rfl, rfl, rfl, rfl, rfl, rfl, rfl, trivial⟩, h⟩
                        · have h := hF hb132
                          clear hT hF
                          refine HPlan.takegskip rfl rfl rfl rfl (congrArg Value.bool hb132) ?_
                          refine HPlan.takegskip rfl rfl rfl rfl (congrArg Value.bool hb132) ?_
                          refine HPlan.takegskip rfl rfl rfl rfl (congrArg Value.bool hb132) ?_
                          refine HPlan.takegskip rfl rfl rfl rfl (congrArg Value.bool hb132) ?_
                          refine HPlan.takegskip rfl rfl rfl rfl (congrArg Value.bool hb132) ?_
                          refine HPlan.takegskip rfl rfl rfl rfl (congrArg Value.bool hb132) ?_
                          refine HPlan.takegskip rfl rfl rfl rfl (congrArg Value.bool hb132) ?_
                          refine HPlan.takegskip rfl rfl rfl rfl (congrArg Value.bool hb132) ?_
                          refine HPlan.opgskip rfl rfl rfl rfl (congrArg Value.bool hb132) ?_
                          refine HPlan.takegskip rfl rfl rfl rfl (congrArg Value.bool hb132) ?_
                          refine HPlan.takev (v := (.bool false)) rfl rfl (fun _ => HVal.pickF rfl hb132 rfl) ?_
                          refine HPlan.done ?_
                          refine nt ?_
                          exact ⟨false, ⟨rfl, rfl, rfl, rfl, rfl, rfl, rfl, trivial⟩, h⟩
                      · have h := hF hb115
                        clear hT hF
                        refine HPlan.takegskip rfl rfl rfl rfl (congrArg Value.bool hb115) ?_
                        refine HPlan.takegskip rfl rfl rfl rfl (congrArg Value.bool hb115) ?_
                        refine HPlan.takegskip rfl rfl rfl rfl (congrArg Value.bool hb115) ?_
                        refine HPlan.takegskip rfl rfl rfl rfl (congrArg Value.bool hb115) ?_
                        refine HPlan.takegskip rfl rfl rfl rfl (congrArg Value.bool hb115) ?_
                        refine HPlan.takegskip rfl rfl rfl rfl (congrArg Value.bool hb115) ?_
                        refine HPlan.takegskip rfl rfl rfl rfl (congrArg Value.bool hb115) ?_
                        refine HPlan.takegskip rfl rfl rfl rfl (congrArg Value.bool hb115) ?_
                        refine HPlan.opgskip rfl rfl rfl rfl (congrArg Value.bool hb115) ?_
                        refine HPlan.takegskip rfl rfl rfl rfl (congrArg Value.bool hb115) ?_
                        refine HPlan.takev (v := (.bool false)) rfl rfl (fun _ => HVal.pickF rfl hb115 rfl) ?_
                        refine HPlan.takev (v := (.bool false)) rfl rfl (fun _ => HVal.move' rfl) ?_
                        refine HPlan.takegskip rfl rfl rfl rfl rfl ?_
                        refine HPlan.takegskip rfl rfl rfl rfl rfl ?_
                        refine HPlan.takegskip rfl rfl rfl rfl rfl ?_
                        refine HPlan.takegskip rfl rfl rfl rfl rfl ?_
                        refine HPlan.takegskip rfl rfl rfl rfl rfl ?_
                        refine HPlan.takegskip rfl rfl rfl rfl rfl ?_
                        refine HPlan.takegskip rfl rfl rfl rfl rfl ?_
                        refine HPlan.takegskip rfl rfl rfl rfl rfl ?_
                        refine HPlan.opgskip rfl rfl rfl rfl rfl ?_
                        refine HPlan.takegskip rfl rfl rfl rfl rfl ?_
                        refine HPlan.takev (v := (.bool false)) rfl rfl (fun _ => HVal.pickF rfl rfl rfl) ?_
                        refine HPlan.done ?_
                        refine nt ?_
                        exact ⟨false, ⟨rfl, rfl, rfl, rfl, rfl, rfl, rfl, trivial⟩, h⟩
                    · rintro ρ H_8 ⟨y148, hI, h⟩
                      obtain ⟨ρ0, rfl⟩ : ∃ ρ0, ρ = (Env.set (Env.set (Env.set (Env.set (Env.set (Env.set (Env.set ρ0 112 (.bool y148)) 7 (.int .i64 y101)) 6 (.int .i64 r38)) 5 (.int .i64 y15)) 4 (.int .i64 y8)) 3 (.int .i64 y7)) 0 (Sl.v p0)) := ⟨ρ, hI.eq⟩
                      clear hI; unfold F4_8 at h
                      obtain ⟨hT, hF⟩ := h
                      refine HW.cond y148 rfl (fun hb149 => ?_) (fun hb149 => ?_)
                      · have h := hT hb149
                        clear hT hF
                        refine HW.seq ?_
                        refine HW.region ?_
                        refine HList.vals (v := (.bool false)) rfl (HVal.assign' rfl) ?_
                        refine HList.nil ?_
                        refine nt ?_
                        refine HW.ret ?_
                        refine br ?_
                        refine tr ?_
                        refine tr ?_
                        refine br ?_
                        refine br ?_
                        refine tr ?_
                        refine tr ?_
                        refine br ?_
                        refine br ?_
                        refine tr ?_
                        refine tr ?_
                        refine br ?_
                        refine tr ?_
                        exact ⟨_, resOf1 rfl Res1.t, ⟨false, rfl, h⟩⟩
                      · have h := hF hb149
                        clear hT hF
                        refine HW.skip ?_
                        refine nb ?_
                        refine nt ?_
                        refine HW.region ?_
                        refine HList.vals (v := (.int .i64 y101)) rfl (HVal.move' rfl) ?_
                        refine HList.vals (v := (.int .i64 (IntKind.i64.wrap (y101 + 1)))) rfl (HVal.add rfl rfl) ?_
                        refine HList.vals (v := (.int .i64 (IntKind.i64.wrap (y101 + 1)))) rfl (HVal.assign' rfl) ?_
                        refine HList.nil ?_
                        refine nt ?_
                        exact (hX7 _ _).1 h _ ⟨rfl, rfl, rfl, rfl, rfl, rfl, trivial⟩
                  · have h := hF hb107
                    clear hT hF
                    refine HW.exit ?_
                    refine te ?_
                    refine te ?_
                    refine be ?_
                    refine nb ?_
                    refine nt ?_
                    exact ⟨⟨rfl, rfl, rfl, rfl, trivial⟩, h⟩
            · rintro ρ H_5 ⟨hI, h⟩
              obtain ⟨ρ0, rfl⟩ : ∃ ρ0, ρ = (Env.set (Env.set (Env.set (Env.set ρ0 5 (.int .i64 y15)) 4 (.int .i64 y8)) 3 (.int .i64 y7)) 0 (Sl.v p0)) := ⟨ρ, hI.eq⟩
              clear hI; unfold F4_5 at h
              refine HW.region ?_
              refine HList.vals (v := (.int .i64 y15)) rfl (HVal.move' rfl) ?_
              refine HList.vals (v := (.int .i64 (IntKind.i64.wrap (y15 + 1)))) rfl (HVal.add rfl rfl) ?_
              refine HList.vals (v := (.int .i64 (IntKind.i64.wrap (y15 + 1)))) rfl (HVal.assign' rfl) ?_
              refine HList.nil ?_
              refine nt ?_
              exact (hX4 _ _).1 h _ ⟨rfl, rfl, rfl, rfl, trivial⟩
          · have h := hF hb19
            clear hT hF
            refine HW.exit ?_
            refine te ?_
            refine te ?_
            refine be ?_
            refine nb ?_
            refine nt ?_
            exact ⟨⟨rfl, rfl, rfl, trivial⟩, h⟩
        · rintro ρ H_3 ⟨hI, h⟩
          obtain ⟨ρ0, rfl⟩ : ∃ ρ0, ρ = (Env.set (Env.set (Env.set ρ0 4 (.int .i64 y8)) 3 (.int .i64 y7)) 0 (Sl.v p0)) := ⟨ρ, hI.eq⟩
          clear hI; unfold F4_3 at h
          refine HW.region ?_
          refine HList.vals (v := (.int .i64 y8)) rfl (HVal.move' rfl) ?_
          refine HList.vals (v := (.int .i64 (IntKind.i64.wrap (y8 + 1)))) rfl (HVal.add rfl rfl) ?_
          refine HList.vals (v := (.int .i64 (IntKind.i64.wrap (y8 + 1)))) rfl (HVal.assign' rfl) ?_
          refine HList.nil ?_
          refine nt ?_
          exact (hX2 _ _).1 h _ ⟨rfl, rfl, rfl, trivial⟩
      · have h := hF hb11
        clear hT hF
        refine HW.exit ?_
        refine te ?_
        refine te ?_
        refine be ?_
        refine nt ?_
        refine HW.seq ?_
        refine HW.region ?_
        refine HList.vals (v := (.bool true)) rfl (HVal.assign' rfl) ?_
        refine HList.nil ?_
        refine nt ?_
        refine HW.ret ?_
        exact ⟨_, resOf1 rfl Res1.t, ⟨true, rfl, h⟩⟩

def F5_3 (Q : Bool → Hp → Prop) (y27 : ByteArray) (y32 : Bool) (H_3 : Hp) : Prop :=
(y32 = true → (Q false H_3)) ∧
 (y32 = false → (F18 y27 H_3 (fun (r36 : Sl) (r37 : Int) (H34 : Hp) => 
 ((decide (r37 ≠ 0)) = true → (((decide (r37 = 120)) = true → (Q (decide (((r36).n : Int) = 0)) H34)) ∧
 ((decide (r37 = 120)) = false → (Q false H34)))) ∧
 ((decide (r37 ≠ 0)) = false → (F17 r36 H34 (fun (r43 : ByteArray) (r44 : Int) (H41 : Hp) => 
 ((decide (r44 = 0)) = true → (Q (seq r43 y27) H41)) ∧
 ((decide (r44 = 0)) = false → (Q false H41))))))))
def F5_1 (Q : Bool → Hp → Prop) (y9 : ByteArray) (y10 : ByteArray) (y11 : Int) (H_1 : Hp) : Prop :=
((decide (y11 ≠ 0)) = true → (((decide (y11 ≠ 120)) = true → (F5_3 Q y9 true H_1)) ∧
 ((decide (y11 ≠ 120)) = false → (F5_3 Q y9 (!(seq y10 (ByteArray.mk #[]))) H_1)))) ∧
 ((decide (y11 ≠ 0)) = false → (F5_3 Q y9 false H_1))
def F5_2 (Q : Bool → Hp → Prop) (y17 : ByteArray) (y18 : ByteArray) (y19 : Int) (y22 : Bool) (H_2 : Hp) : Prop :=
(y22 = true → (Q false H_2)) ∧
 (y22 = false → (F5_1 Q y17 y18 y19 H_2))
def F5 (p0 : Sl) (p1 : ByteArray) (H : Hp) (Q : Bool → Hp → Prop) : Prop :=
F9 H (fun (r3 : Bool) (H1 : Hp) => 
 ((!r3) = true → (Q false H1)) ∧
 ((!r3) = false → (F17 p0 H1 (fun (r7 : ByteArray) (r8 : Int) (H5 : Hp) => 
 ((decide (r8 = 0)) = true → (F18 r7 H5 (fun (r15 : Sl) (r16 : Int) (H13 : Hp) => 
 ((decide (r16 ≠ 0)) = true → (F5_2 Q p1 r7 r8 true H13)) ∧
 ((decide (r16 ≠ 0)) = false → (F15 p0 r15 H13 (fun (r25 : Bool) (H23 : Hp) => 
 F5_2 Q p1 r7 r8 (!r25) H23)))))) ∧
 ((decide (r8 = 0)) = false → (F5_1 Q p1 r7 r8 H5))))))
set_option maxRecDepth 100000 in
set_option maxHeartbeats 4000000 in
theorem walk5 {w0 : World} {p0 : Sl} {p1 : ByteArray} {H : Hp} {Q : Bool → Hp → Prop} (h : F5 p0 p1 H Q) :
    Good Tryd.prog w0 5 #[(Sl.v p0), (.string p1)] H (fun v H => ∃ (r0 : Bool) , v = (.bool r0) ∧ Q r0 H) := by
  unfold F5 at h
  refine Good.enter' (fn := Tryd.f5) Tryd.func5 rfl rfl rfl ?_
  refine HW.seq ?_
  refine HW.region ?_
  refine HList.vals (v := (.bool false)) rfl (HVal.assign' rfl) ?_
  refine HList.nil ?_
  refine nt ?_
  refine HW.seq ?_
  refine HW.seq ?_
  refine HW.region ?_
  refine HList.ops' rfl (HOp.call' 9 [] (cap := []) rfl rfl Tryd.call9 (walk9 h)) ?_
  rintro _ H1 ⟨r3, rfl, h⟩
  refine HList.vals (v := (.bool (!r3))) rfl (HVal.not rfl) ?_
  refine HList.nil ?_
  refine nt ?_
  obtain ⟨hT, hF⟩ := h
  refine HW.cond (!r3) rfl (fun hb4 => ?_) (fun hb4 => ?_)
  · have h := hT hb4
    clear hT hF
    refine HW.seq ?_
    refine HW.region ?_
    refine HList.vals (v := (.bool false)) rfl (HVal.assign' rfl) ?_
    refine HList.nil ?_
    refine nt ?_
    refine HW.ret ?_
    refine tr ?_
    exact ⟨_, resOf1 rfl Res1.t, ⟨false, rfl, h⟩⟩
  · have h := hF hb4
    clear hT hF
    refine HW.skip ?_
    refine nt ?_
    refine HW.seq ?_
    refine HW.region ?_
    refine HList.vals (v := (Sl.v p0)) rfl (HVal.move' rfl) ?_
    refine HList.ops' rfl (HOp.call' 17 [(Sl.v p0)] (cap := []) rfl rfl Tryd.call17 (walk17 h)) ?_
    rintro _ H5 ⟨r7, r8, rfl, h⟩
    refine HList.vals (v := (.tuple #[(.string r7), (.int .i64 r8)])) rfl (HVal.move' rfl) ?_
    refine HList.vals (v := (.string r7)) rfl (HVal.extract rfl rfl) ?_
    refine HList.vals (v := (.int .i64 r8)) rfl (HVal.extract rfl rfl) ?_
    refine HList.vals (v := (.string r7)) rfl (HVal.assign' rfl) ?_
    refine HList.vals (v := (.int .i64 r8)) rfl (HVal.assign' rfl) ?_
    refine HList.nil ?_
    refine nt ?_
    refine HW.cut (fun ρ H_1 => Env.Is ρ [(1, (.string p1)), (5, (.string r7)), (6, (.int .i64 r8))] ∧ F5_1 Q p1 r7 r8 H_1) ?_ ?_
    · refine HW.seq ?_
      refine HW.region ?_
      refine HList.vals (v := (.int .i64 r8)) rfl (HVal.move' rfl) ?_
      refine HList.vals (v := (.bool (decide (r8 = 0)))) rfl (HVal.eqlI rfl rfl) ?_
      refine HList.nil ?_
      refine nt ?_
      obtain ⟨hT, hF⟩ := h
      refine HW.cond (decide (r8 = 0)) rfl (fun hb12 => ?_) (fun hb12 => ?_)
      · have h := hT hb12
        clear hT hF
        refine HW.seq ?_
        refine HW.region ?_
        refine HList.vals (v := (.string r7)) rfl (HVal.move' rfl) ?_
        refine HList.ops' rfl (HOp.call' 18 [(.string r7)] (cap := []) rfl rfl Tryd.call18 (walk18 h)) ?_
        rintro _ H13 ⟨r15, r16, rfl, h⟩
        refine HList.vals (v := (.tuple #[(Sl.v r15), (.int .i64 r16)])) rfl (HVal.move' rfl) ?_
        refine HList.vals (v := (Sl.v r15)) rfl (HVal.extract rfl rfl) ?_
        refine HList.vals (v := (.int .i64 r16)) rfl (HVal.extract rfl rfl) ?_
        refine HList.vals (v := (Sl.v r15)) rfl (HVal.assign' rfl) ?_
        refine HList.vals (v := (.int .i64 r16)) rfl (HVal.assign' rfl) ?_
        refine HList.nil ?_
        refine nt ?_
        refine HW.cut (fun ρ H_2 => ∃ (y22 : Bool), Env.Is ρ [(1, (.string p1)), (5, (.string r7)), (6, (.int .i64 r8)), (34, (.bool y22))] ∧ F5_2 Q p1 r7 r8 y22 H_2) ?_ ?_
        · refine HW.region ?_
          refine HList.vals (v := (.int .i64 r16)) rfl (HVal.move' rfl) ?_
          refine HList.vals (v := (.bool (decide (r16 ≠ 0)))) rfl (HVal.neqI rfl rfl) ?_
          refine HList.vals (v := (.bool (decide (r16 ≠ 0)))) rfl (HVal.move' rfl) ?_
          obtain ⟨hT, hF⟩ := h
          rcases Bool.eq_false_or_eq_true (decide (r16 ≠ 0)) with hb20 | hb21
          · have h := hT hb20
            clear hT hF
            refine HList.gskips rfl rfl rfl rfl (congrArg Value.bool hb20) ?_
            refine HList.gskips rfl rfl rfl rfl (congrArg Value.bool hb20) ?_
            refine HList.gskips rfl rfl rfl rfl (congrArg Value.bool hb20) ?_
            refine HList.gskips rfl rfl rfl rfl (congrArg Value.bool hb20) ?_
            refine HList.vals (v := (.bool true)) rfl (HVal.pickT rfl hb20 rfl) ?_
            refine HList.nil ?_
            refine nt ?_
            exact ⟨true, ⟨rfl, rfl, rfl, rfl, trivial⟩, h⟩
          · have h := hF hb21
            clear hT hF
            refine HList.gvals (v := (Sl.v p0)) rfl rfl rfl rfl (congrArg Value.bool hb21) (HVal.move' rfl) ?_
            refine HList.gvals (v := (Sl.v r15)) rfl rfl rfl rfl (congrArg Value.bool hb21) (HVal.move' rfl) ?_
            refine HList.gops rfl rfl rfl rfl (congrArg Value.bool hb21) (HOp.call' 15 [(Sl.v p0), (Sl.v r15)] (cap := []) rfl rfl Tryd.call15 (walk15 h)) ?_
            rintro _ H23 ⟨r25, rfl, h⟩
            refine HList.gvals (v := (.bool (!r25))) rfl rfl rfl rfl (congrArg Value.bool hb21) (HVal.not rfl) ?_
            refine HList.vals (v := (.bool (!r25))) rfl (HVal.pickF rfl hb21 rfl) ?_
            refine HList.nil ?_
            refine nt ?_
            exact ⟨(!r25), ⟨rfl, rfl, rfl, rfl, trivial⟩, h⟩
        · rintro ρ H_2 ⟨y22, hI, h⟩
          obtain ⟨ρ0, rfl⟩ : ∃ ρ0, ρ = (Env.set (Env.set (Env.set (Env.set ρ0 34 (.bool y22)) 6 (.int .i64 r8)) 5 (.string r7)) 1 (.string p1)) := ⟨ρ, hI.eq⟩
          clear hI; unfold F5_2 at h
          obtain ⟨hT, hF⟩ := h
          refine HW.cond y22 rfl (fun hb26 => ?_) (fun hb26 => ?_)
          · have h := hT hb26
            clear hT hF
            refine HW.seq ?_
            refine HW.region ?_
            refine HList.vals (v := (.bool false)) rfl (HVal.assign' rfl) ?_
            refine HList.nil ?_
            refine nt ?_
            refine HW.ret ?_
            refine tr ?_
            exact ⟨_, resOf1 rfl Res1.t, ⟨false, rfl, h⟩⟩
          · have h := hF hb26
            clear hT hF
            refine HW.skip ?_
            refine nt ?_
            exact ⟨⟨rfl, rfl, rfl, trivial⟩, h⟩
      · have h := hF hb12
        clear hT hF
        refine HW.skip ?_
        refine nt ?_
        exact ⟨⟨rfl, rfl, rfl, trivial⟩, h⟩
    · rintro ρ H_1 ⟨hI, h⟩
      obtain ⟨ρ0, rfl⟩ : ∃ ρ0, ρ = (Env.set (Env.set (Env.set ρ0 6 (.int .i64 r8)) 5 (.string r7)) 1 (.string p1)) := ⟨ρ, hI.eq⟩
      clear hI; unfold F5_1 at h
      refine HW.seq ?_
      refine HW.cut (fun ρ H_3 => ∃ (y32 : Bool), Env.Is ρ [(1, (.string p1)), (44, (.bool y32))] ∧ F5_3 Q p1 y32 H_3) ?_ ?_
      · refine HW.region ?_
        refine HList.vals (v := (.int .i64 r8)) rfl (HVal.move' rfl) ?_
        refine HList.vals (v := (.bool (decide (r8 ≠ 0)))) rfl (HVal.neqI rfl rfl) ?_
        refine HList.vals (v := (.bool (decide (r8 ≠ 0)))) rfl (HVal.move' rfl) ?_
        obtain ⟨hT, hF⟩ := h
        rcases Bool.eq_false_or_eq_true (decide (r8 ≠ 0)) with hb28 | hb29
        · have h := hT hb28
          clear hT hF
          refine HList.gvals (v := (.int .i64 r8)) rfl rfl rfl rfl (congrArg Value.bool hb28) (HVal.move' rfl) ?_
          refine HList.gvals (v := (.bool (decide (r8 ≠ 120)))) rfl rfl rfl rfl (congrArg Value.bool hb28) (HVal.neqI rfl rfl) ?_
          refine HList.gvals (v := (.bool (decide (r8 ≠ 120)))) rfl rfl rfl rfl (congrArg Value.bool hb28) (HVal.move' rfl) ?_
          obtain ⟨hT, hF⟩ := h
          rcases Bool.eq_false_or_eq_true (decide (r8 ≠ 120)) with hb30 | hb31
          · have h := hT hb30
            clear hT hF
            refine HList.gskips rfl rfl rfl rfl (congrArg Value.bool hb30) ?_
            refine HList.gskips rfl rfl rfl rfl (congrArg Value.bool hb30) ?_
            refine HList.gvals (v := (.bool true)) rfl rfl rfl rfl (congrArg Value.bool hb28) (HVal.pickT rfl hb30 rfl) ?_
            refine HList.vals (v := (.bool true)) rfl (HVal.pickT rfl hb28 rfl) ?_
            refine HList.nil ?_
            refine nt ?_
            exact ⟨true, ⟨rfl, rfl, trivial⟩, h⟩
          · have h := hF hb31
            clear hT hF
            refine HList.gvals (v := (.string r7)) rfl rfl rfl rfl (congrArg Value.bool hb31) (HVal.move' rfl) ?_
            refine HList.gvals (v := (.bool (!(seq r7 (ByteArray.mk #[]))))) rfl rfl rfl rfl (congrArg Value.bool hb31) (HVal.neqS rfl rfl) ?_
            refine HList.gvals (v := (.bool (!(seq r7 (ByteArray.mk #[]))))) rfl rfl rfl rfl (congrArg Value.bool hb28) (HVal.pickF rfl hb31 rfl) ?_
            refine HList.vals (v := (.bool (!(seq r7 (ByteArray.mk #[]))))) rfl (HVal.pickT rfl hb28 rfl) ?_
            refine HList.nil ?_
            refine nt ?_
            exact ⟨(!(seq r7 (ByteArray.mk #[]))), ⟨rfl, rfl, trivial⟩, h⟩
        · have h := hF hb29
          clear hT hF
          refine HList.gskips rfl rfl rfl rfl (congrArg Value.bool hb29) ?_
          refine HList.gskips rfl rfl rfl rfl (congrArg Value.bool hb29) ?_
          refine HList.gskips rfl rfl rfl rfl (congrArg Value.bool hb29) ?_
          refine HList.uskips rfl rfl rfl rfl rfl ?_
          refine HList.uskips rfl rfl rfl rfl rfl ?_
          refine HList.gskips rfl rfl rfl rfl (congrArg Value.bool hb29) ?_
          refine HList.vals (v := (.bool false)) rfl (HVal.pickF rfl hb29 rfl) ?_
          refine HList.nil ?_
          refine nt ?_
          exact ⟨false, ⟨rfl, rfl, trivial⟩, h⟩
      · rintro ρ H_3 ⟨y32, hI, h⟩
        obtain ⟨ρ0, rfl⟩ : ∃ ρ0, ρ = (Env.set (Env.set ρ0 44 (.bool y32)) 1 (.string p1)) := ⟨ρ, hI.eq⟩
        clear hI; unfold F5_3 at h
        obtain ⟨hT, hF⟩ := h
        refine HW.cond y32 rfl (fun hb33 => ?_) (fun hb33 => ?_)
        · have h := hT hb33
          clear hT hF
          refine HW.seq ?_
          refine HW.region ?_
          refine HList.vals (v := (.bool false)) rfl (HVal.assign' rfl) ?_
          refine HList.nil ?_
          refine nt ?_
          refine HW.ret ?_
          refine tr ?_
          exact ⟨_, resOf1 rfl Res1.t, ⟨false, rfl, h⟩⟩
        · have h := hF hb33
          clear hT hF
          refine HW.skip ?_
          refine nt ?_
          refine HW.seq ?_
          refine HW.region ?_
          refine HList.vals (v := (.string p1)) rfl (HVal.move' rfl) ?_
          refine HList.ops' rfl (HOp.call' 18 [(.string p1)] (cap := []) rfl rfl Tryd.call18 (walk18 h)) ?_
          rintro _ H34 ⟨r36, r37, rfl, h⟩
          refine HList.vals (v := (.tuple #[(Sl.v r36), (.int .i64 r37)])) rfl (HVal.move' rfl) ?_
          refine HList.vals (v := (Sl.v r36)) rfl (HVal.extract rfl rfl) ?_
          refine HList.vals (v := (.int .i64 r37)) rfl (HVal.extract rfl rfl) ?_
          refine HList.vals (v := (Sl.v r36)) rfl (HVal.assign' rfl) ?_
          refine HList.vals (v := (.int .i64 r37)) rfl (HVal.assign' rfl) ?_
          refine HList.nil ?_
          refine nt ?_
          refine HW.seq ?_
          refine HW.seq ?_
          refine HW.region ?_
          refine HList.vals (v := (.int .i64 r37)) rfl (HVal.move' rfl) ?_
          refine HList.vals (v := (.bool (decide (r37 ≠ 0)))) rfl (HVal.neqI rfl rfl) ?_
          refine HList.nil ?_
          refine nt ?_
          obtain ⟨hT, hF⟩ := h
          refine HW.cond (decide (r37 ≠ 0)) rfl (fun hb38 => ?_) (fun hb38 => ?_)
          · have h := hT hb38
            clear hT hF
            refine HW.seq ?_
            refine HW.region ?_
            refine HList.vals (v := (.int .i64 r37)) rfl (HVal.move' rfl) ?_
            refine HList.vals (v := (.bool (decide (r37 = 120)))) rfl (HVal.eqlI rfl rfl) ?_
            refine HList.vals (v := (.bool (decide (r37 = 120)))) rfl (HVal.move' rfl) ?_
            obtain ⟨hT, hF⟩ := h
            rcases Bool.eq_false_or_eq_true (decide (r37 = 120)) with hb39 | hb40
            · have h := hT hb39
              clear hT hF
              refine HList.gvals (v := (Sl.v r36)) rfl rfl rfl rfl (congrArg Value.bool hb39) (HVal.move' rfl) ?_
              refine HList.gvals (v := (.int .i64 ((r36).n : Int))) rfl rfl rfl rfl (congrArg Value.bool hb39) (HVal.len Tryd.runUnderlying22 rfl) ?_
              refine HList.gvals (v := (.bool (decide (((r36).n : Int) = 0)))) rfl rfl rfl rfl (congrArg Value.bool hb39) (HVal.eqlI rfl rfl) ?_
              refine HList.vals (v := (.bool (decide (((r36).n : Int) = 0)))) rfl (HVal.pickT rfl hb39 rfl) ?_
              refine HList.vals (v := (.bool (decide (((r36).n : Int) = 0)))) rfl (HVal.assign' rfl) ?_
              refine HList.nil ?_
              refine nt ?_
              refine HW.ret ?_
              refine tr ?_
              exact ⟨_, resOf1 rfl Res1.t, ⟨(decide (((r36).n : Int) = 0)), rfl, h⟩⟩
            · have h := hF hb40
              clear hT hF
              refine HList.gskips rfl rfl rfl rfl (congrArg Value.bool hb40) ?_
              refine HList.gskips rfl rfl rfl rfl (congrArg Value.bool hb40) ?_
              refine HList.gskips rfl rfl rfl rfl (congrArg Value.bool hb40) ?_
              refine HList.vals (v := (.bool false)) rfl (HVal.pickF rfl hb40 rfl) ?_
              refine HList.vals (v := (.bool false)) rfl (HVal.assign' rfl) ?_
              refine HList.nil ?_
              refine nt ?_
              refine HW.ret ?_
              refine tr ?_
              exact ⟨_, resOf1 rfl Res1.t, ⟨false, rfl, h⟩⟩
          · have h := hF hb38
            clear hT hF
            refine HW.skip ?_
            refine nt ?_
            refine HW.seq ?_
            refine HW.region ?_
            refine HList.vals (v := (Sl.v r36)) rfl (HVal.move' rfl) ?_
            refine HList.ops' rfl (HOp.call' 17 [(Sl.v r36)] (cap := []) rfl rfl Tryd.call17 (walk17 h)) ?_
            rintro _ H41 ⟨r43, r44, rfl, h⟩
            refine HList.vals (v := (.tuple #[(.string r43), (.int .i64 r44)])) rfl (HVal.move' rfl) ?_
            refine HList.vals (v := (.string r43)) rfl (HVal.extract rfl rfl) ?_
            refine HList.vals (v := (.int .i64 r44)) rfl (HVal.extract rfl rfl) ?_
            refine HList.vals (v := (.string r43)) rfl (HVal.assign' rfl) ?_
            refine HList.vals (v := (.int .i64 r44)) rfl (HVal.assign' rfl) ?_
            refine HList.nil ?_
            refine nt ?_
            refine HW.seq ?_
            refine HW.region ?_
            refine HList.vals (v := (.int .i64 r44)) rfl (HVal.move' rfl) ?_
            refine HList.vals (v := (.bool (decide (r44 = 0)))) rfl (HVal.eqlI rfl rfl) ?_
            refine HList.vals (v := (.bool (decide (r44 = 0)))) rfl (HVal.move' rfl) ?_
            obtain ⟨hT, hF⟩ := h
            rcases Bool.eq_false_or_eq_true (decide (r44 = 0)) with hb45 | hb46
            · have h := hT hb45
              clear hT hF
              refine HList.gvals (v := (.string r43)) rfl rfl rfl rfl (congrArg Value.bool hb45) (HVal.move' rfl) ?_
              refine HList.gvals (v := (.string p1)) rfl rfl rfl rfl (congrArg Value.bool hb45) (HVal.move' rfl) ?_
              refine HList.gvals (v := (.bool (seq r43 p1))) rfl rfl rfl rfl (congrArg Value.bool hb45) (HVal.eqlS rfl rfl) ?_
              refine HList.vals (v := (.bool (seq r43 p1))) rfl (HVal.pickT rfl hb45 rfl) ?_
              refine HList.vals (v := (.bool (seq r43 p1))) rfl (HVal.assign' rfl) ?_
              refine HList.nil ?_
              refine nt ?_
              refine HW.ret ?_
              exact ⟨_, resOf1 rfl Res1.t, ⟨(seq r43 p1), rfl, h⟩⟩
            · have h := hF hb46
              clear hT hF
              refine HList.gskips rfl rfl rfl rfl (congrArg Value.bool hb46) ?_
              refine HList.gskips rfl rfl rfl rfl (congrArg Value.bool hb46) ?_
              refine HList.gskips rfl rfl rfl rfl (congrArg Value.bool hb46) ?_
              refine HList.vals (v := (.bool false)) rfl (HVal.pickF rfl hb46 rfl) ?_
              refine HList.vals (v := (.bool false)) rfl (HVal.assign' rfl) ?_
              refine HList.nil ?_
              refine nt ?_
              refine HW.ret ?_
              exact ⟨_, resOf1 rfl Res1.t, ⟨false, rfl, h⟩⟩

def F34_1 (Q : Sl → Hp → Prop) (y7 : Sl) (H_1 : Hp) : Prop :=
Q y7 H_1
def F34_3 (Q : Sl → Hp → Prop) (X2 : Int → Hp → Prop) (y13 : Sl) (y14 : Int) (y15 : Sl) (y16 : Int) (H_3 : Hp) : Prop :=
X2 (IntKind.i64.wrap (y16 + 1)) H_3
def F34_L2b (Q : Sl → Hp → Prop) (X2 : Int → Hp → Prop) (y9 : Sl) (y10 : Int) (y11 : Sl) (y8 : Int) (H_2 : Hp) : Prop :=
((decide (y8 < ((y11).n : Int))) = true → (∃ a17 : Addr, (y11).b = some a17 ∧ (0 : Int) ≤ y8 ∧ y8 < ((y11).n : Int) ∧ (
 (cell H_2 (Addr.add a17 (y8.toNat * 1))).isSome = true ∧ frz H_2 (Addr.add a17 (y8.toNat * 1)) = false ∧ ∀ H21 : Hp, H21 = setc H_2 (Addr.add a17 (y8.toNat * 1)) (.int .i64 (IntKind.i64.wrap ((IntKind.i64.wrap ((-71) - y8)) + y10))) → (
 ((decide (y8 < y10)) = true → (∃ a26 : Addr, (y9).b = some a26 ∧ (0 : Int) ≤ y8 ∧ y8 < ((y9).n : Int) ∧ (
 ∃ x31 : Int, cell H21 (Addr.add a26 (y8.toNat * 1)) = some (.int .i64 x31) ∧ (
 ∃ a32 : Addr, (y11).b = some a32 ∧ (0 : Int) ≤ y8 ∧ y8 < ((y11).n : Int) ∧ (
 (cell H21 (Addr.add a32 (y8.toNat * 1))).isSome = true ∧ frz H21 (Addr.add a32 (y8.toNat * 1)) = false ∧ ∀ H36 : Hp, H36 = setc H21 (Addr.add a32 (y8.toNat * 1)) (.int .i64 x31) → (
 F34_3 Q X2 y9 y10 y11 y8 H36)))))) ∧
 ((decide (y8 < y10)) = false → (F34_3 Q X2 y9 y10 y11 y8 H21)))))) ∧
 ((decide (y8 < ((y11).n : Int))) = false → (F34_1 Q y11 H_2))
def F34_L2 (Q : Sl → Hp → Prop) (y9 : Sl) (y10 : Int) (y11 : Sl) (y8 : Int) (H_2 : Hp) : Prop :=
  ∀ X2 : Int → Hp → Prop, (∀ (y8 : Int) (H_2 : Hp), F34_L2b Q X2 y9 y10 y11 y8 H_2 → X2 y8 H_2) → X2 y8 H_2
def F34 (p0 : Sl) (H : Hp) (Q : Sl → Hp → Prop) : Prop :=
(0 : Int) ≤ (IntKind.i64.wrap (((p0).n : Int) + 66)) ∧ (IntKind.i64.wrap (((p0).n : Int) + 66)) ≤ (IntKind.i64.wrap (((p0).n : Int) + 66)) ∧ (8 : Nat) * (IntKind.i64.wrap (((p0).n : Int) + 66)) ≤ 140737488355328 ∧ (IntKind.i64.wrap (((p0).n : Int) + 66)) ≤ 9223372036854775807 ∧ ∀ H1 : Hp, H1 = Array.push H (.cells (made #[(.int .i64 0)] (IntKind.i64.wrap (((p0).n : Int) + 66)).toNat) 3) → (
 F34_L2 Q p0 ((p0).n : Int) (Sl.mk (some ⟨H.size, 0, none⟩) (IntKind.i64.wrap (((p0).n : Int) + 66)).toNat (IntKind.i64.wrap (((p0).n : Int) + 66)).toNat) 0 H1)
set_option maxRecDepth 100000 in
set_option maxHeartbeats 4000000 in
theorem walk34 {w0 : World} {p0 : Sl} {H : Hp} {Q : Sl → Hp → Prop} (h : F34 p0 H Q) :
    Good Tryd.prog w0 34 #[(Sl.v p0)] H (fun v H => ∃ (r0 : Sl) , v = (Sl.v r0) ∧ Q r0 H) := by
  unfold F34 at h
  refine Good.enter' (fn := Tryd.f34) Tryd.func34 rfl rfl rfl ?_
  refine HW.seq ?_
  refine HW.region ?_
  refine HList.vals (v := (Sl.v Sl.nil)) rfl (HVal.assign' rfl) ?_
  refine HList.nil ?_
  refine nt ?_
  refine HW.seq ?_
  refine HW.region ?_
  refine HList.vals (v := (Sl.v p0)) rfl (HVal.move' rfl) ?_
  refine HList.vals (v := (.int .i64 ((p0).n : Int))) rfl (HVal.len Tryd.runUnderlying22 rfl) ?_
  refine HList.vals (v := (.int .i64 ((p0).n : Int))) rfl (HVal.assign' rfl) ?_
  refine HList.nil ?_
  refine nt ?_
  refine HW.seq ?_
  refine HW.region ?_
  refine HList.vals (v := (.int .i64 ((p0).n : Int))) rfl (HVal.move' rfl) ?_
  refine HList.vals (v := (.int .i64 (IntKind.i64.wrap (((p0).n : Int) + 66)))) rfl (HVal.add rfl rfl) ?_
  obtain ⟨z3, z4, z5, z6, h⟩ := h
  refine HList.ops' rfl (HOp.makeSlice' (b := 8) Tryd.runUnderlying22 Tryd.typeInfo3 rfl Tryd.zeroValue3 Tryd.sizeOf3 rfl rfl z3 z4 z5 z6) ?_
  rintro _ H1 ⟨rfl, e2⟩
  replace h := h H1 e2
  refine HList.vals (v := (Sl.v (Sl.mk (some ⟨H.size, 0, none⟩) (IntKind.i64.wrap (((p0).n : Int) + 66)).toNat (IntKind.i64.wrap (((p0).n : Int) + 66)).toNat))) rfl (HVal.assign' rfl) ?_
  refine HList.nil ?_
  refine nt ?_
  refine HW.cut (fun ρ H_1 => Env.Is ρ [(4, (Sl.v (Sl.mk (some ⟨H.size, 0, none⟩) (IntKind.i64.wrap (((p0).n : Int) + 66)).toNat (IntKind.i64.wrap (((p0).n : Int) + 66)).toNat)))] ∧ F34_1 Q (Sl.mk (some ⟨H.size, 0, none⟩) (IntKind.i64.wrap (((p0).n : Int) + 66)).toNat (IntKind.i64.wrap (((p0).n : Int) + 66)).toNat) H_1) ?_ ?_
  · refine HW.seq ?_
    refine HW.region ?_
    refine HList.vals (v := (.int .i64 0)) rfl (HVal.assign' rfl) ?_
    refine HList.nil ?_
    refine nt ?_
    refine HW.block ?_
    refine HW.loop' (fun L2 hL2 => ?_)
    obtain ⟨X2, hX2⟩ : ∃ X2 : Int → Hp → Prop, ∀ (y8 : Int) (H_2 : Hp), X2 y8 H_2 ↔ ∀ ρ, Env.Is ρ [(0, (Sl.v p0)), (3, (.int .i64 ((p0).n : Int))), (4, (Sl.v (Sl.mk (some ⟨H.size, 0, none⟩) (IntKind.i64.wrap (((p0).n : Int) + 66)).toNat (IntKind.i64.wrap (((p0).n : Int) + 66)).toNat))), (5, (.int .i64 y8))] → L2 ρ H_2 := ⟨_, fun _ _ => Iff.rfl⟩
    refine (hX2 _ _).1 (h X2 ?_) _ ?_
    rotate_left
    · exact ⟨rfl, rfl, rfl, rfl, trivial⟩
    clear h
    intro y8 H_2 h
    refine (hX2 _ _).2 fun ρ hI => ?_
    obtain ⟨ρ0, rfl⟩ : ∃ ρ0, ρ = (Env.set (Env.set (Env.set (Env.set ρ0 5 (.int .i64 y8)) 4 (Sl.v (Sl.mk (some ⟨H.size, 0, none⟩) (IntKind.i64.wrap (((p0).n : Int) + 66)).toNat (IntKind.i64.wrap (((p0).n : Int) + 66)).toNat))) 3 (.int .i64 ((p0).n : Int))) 0 (Sl.v p0)) := ⟨ρ, hI.eq⟩
    clear hI; unfold F34_L2b at h; refine hL2 _ _ ?_
    refine HW.seq ?_
    refine HW.seq ?_
    refine HW.region ?_
    refine HList.vals (v := (.int .i64 y8)) rfl (HVal.move' rfl) ?_
    refine HList.vals (v := (Sl.v (Sl.mk (some ⟨H.size, 0, none⟩) (IntKind.i64.wrap (((p0).n : Int) + 66)).toNat (IntKind.i64.wrap (((p0).n : Int) + 66)).toNat))) rfl (HVal.move' rfl) ?_
    refine HList.vals (v := (.int .i64 (((Sl.mk (some ⟨H.size, 0, none⟩) (IntKind.i64.wrap (((p0).n : Int) + 66)).toNat (IntKind.i64.wrap (((p0).n : Int) + 66)).toNat)).n : Int))) rfl (HVal.len Tryd.runUnderlying22 rfl) ?_
    refine HList.vals (v := (.bool (decide (y8 < (((Sl.mk (some ⟨H.size, 0, none⟩) (IntKind.i64.wrap (((p0).n : Int) + 66)).toNat (IntKind.i64.wrap (((p0).n : Int) + 66)).toNat)).n : Int))))) rfl (HVal.lss rfl rfl) ?_
    refine HList.nil ?_
    refine nt ?_
    obtain ⟨hT, hF⟩ := h
    refine HW.cond (decide (y8 < (((Sl.mk (some ⟨H.size, 0, none⟩) (IntKind.i64.wrap (((p0).n : Int) + 66)).toNat (IntKind.i64.wrap (((p0).n : Int) + 66)).toNat)).n : Int))) rfl (fun hb12 => ?_) (fun hb12 => ?_)
    · have h := hT hb12
      clear hT hF
      refine HW.skip ?_
      refine nt ?_
      refine HW.cut (fun ρ H_3 => Env.Is ρ [(0, (Sl.v p0)), (3, (.int .i64 ((p0).n : Int))), (4, (Sl.v (Sl.mk (some ⟨H.size, 0, none⟩) (IntKind.i64.wrap (((p0).n : Int) + 66)).toNat (IntKind.i64.wrap (((p0).n : Int) + 66)).toNat))), (5, (.int .i64 y8))] ∧ F34_3 Q X2 p0 ((p0).n : Int) (Sl.mk (some ⟨H.size, 0, none⟩) (IntKind.i64.wrap (((p0).n : Int) + 66)).toNat (IntKind.i64.wrap (((p0).n : Int) + 66)).toNat) y8 H_3) ?_ ?_
      · refine HW.block ?_
        refine HW.seq ?_
        refine HW.region ?_
        refine HList.vals (v := (Sl.v (Sl.mk (some ⟨H.size, 0, none⟩) (IntKind.i64.wrap (((p0).n : Int) + 66)).toNat (IntKind.i64.wrap (((p0).n : Int) + 66)).toNat))) rfl (HVal.move' rfl) ?_
        refine HList.vals (v := (.int .i64 y8)) rfl (HVal.move' rfl) ?_
        refine HList.vals (v := (.int .i64 y8)) rfl (HVal.move' rfl) ?_
        refine HList.vals (v := (.int .i64 (IntKind.i64.wrap ((-71) - y8)))) rfl (HVal.sub rfl rfl) ?_
        refine HList.vals (v := (.int .i64 ((p0).n : Int))) rfl (HVal.move' rfl) ?_
        refine HList.vals (v := (.int .i64 (IntKind.i64.wrap ((IntKind.i64.wrap ((-71) - y8)) + ((p0).n : Int))))) rfl (HVal.add rfl rfl) ?_
        obtain ⟨a17, e18, b19, b20, h⟩ := h
        refine HList.vals (v := (.pointer (some (Addr.add a17 (y8.toNat * 1))))) rfl (HVal.indexAddr Tryd.runUnderlying22 Tryd.sizeOf3 (Sl.v_some rfl e18) rfl b19 b20) ?_
        obtain ⟨z23, z24, h⟩ := h
        refine HList.opsn (HOp.store1 Tryd.sizeOf3 rfl rfl rfl z23 z24) ?_
        rintro _ H21 e22
        replace h := h H21 e22
        refine HList.nil ?_
        refine nt ?_
        refine HW.seq ?_
        refine HW.region ?_
        refine HList.vals (v := (.int .i64 y8)) rfl (HVal.move' rfl) ?_
        refine HList.vals (v := (.int .i64 ((p0).n : Int))) rfl (HVal.move' rfl) ?_
        refine HList.vals (v := (.bool (decide (y8 < ((p0).n : Int))))) rfl (HVal.lss rfl rfl) ?_
        refine HList.nil ?_
        refine nt ?_
        obtain ⟨hT, hF⟩ := h
        refine HW.cond (decide (y8 < ((p0).n : Int))) rfl (fun hb25 => ?_) (fun hb25 => ?_)
        · have h := hT hb25
          clear hT hF
          refine HW.region ?_
          refine HList.vals (v := (Sl.v (Sl.mk (some ⟨H.size, 0, none⟩) (IntKind.i64.wrap (((p0).n : Int) + 66)).toNat (IntKind.i64.wrap (((p0).n : Int) + 66)).toNat))) rfl (HVal.move' rfl) ?_
          refine HList.vals (v := (.int .i64 y8)) rfl (HVal.move' rfl) ?_
          refine HList.vals (v := (Sl.v p0)) rfl (HVal.move' rfl) ?_
          refine HList.vals (v := (.int .i64 y8)) rfl (HVal.move' rfl) ?_
          obtain ⟨a26, e27, b28, b29, h⟩ := h
          refine HList.vals (v := (.pointer (some (Addr.add a26 (y8.toNat * 1))))) rfl (HVal.indexAddr Tryd.runUnderlying22 Tryd.sizeOf3 (Sl.v_some rfl e27) rfl b28 b29) ?_
          obtain ⟨x31, c30, h⟩ := h
          refine HList.vals (v := (.int .i64 x31)) rfl (HVal.load1 Tryd.isAgg3 rfl c30) ?_
          obtain ⟨a32, e33, b34, b35, h⟩ := h
          refine HList.vals (v := (.pointer (some (Addr.add a32 (y8.toNat * 1))))) rfl (HVal.indexAddr Tryd.runUnderlying22 Tryd.sizeOf3 (Sl.v_some rfl e33) rfl b34 b35) ?_
          obtain ⟨z38, z39, h⟩ := h
          refine HList.opsn (HOp.store1 Tryd.sizeOf3 rfl rfl rfl z38 z39) ?_
          rintro _ H36 e37
          replace h := h H36 e37
          refine HList.nil ?_
          refine nb ?_
          refine nt ?_
          exact ⟨⟨rfl, rfl, rfl, rfl, trivial⟩, h⟩
        · have h := hF hb25
          clear hT hF
          refine HW.skip ?_
          refine nb ?_
          refine nt ?_
          exact ⟨⟨rfl, rfl, rfl, rfl, trivial⟩, h⟩
      · rintro ρ H_3 ⟨hI, h⟩
        obtain ⟨ρ0, rfl⟩ : ∃ ρ0, ρ = (Env.set (Env.set (Env.set (Env.set ρ0 5 (.int .i64 y8)) 4 (Sl.v (Sl.mk (some ⟨H.size, 0, none⟩) (IntKind.i64.wrap (((p0).n : Int) + 66)).toNat (IntKind.i64.wrap (((p0).n : Int) + 66)).toNat))) 3 (.int .i64 ((p0).n : Int))) 0 (Sl.v p0)) := ⟨ρ, hI.eq⟩
        clear hI; unfold F34_3 at h
        refine HW.region ?_
        refine HList.vals (v := (.int .i64 y8)) rfl (HVal.move' rfl) ?_
        refine HList.vals (v := (.int .i64 (IntKind.i64.wrap (y8 + 1)))) rfl (HVal.add rfl rfl) ?_
        refine HList.vals (v := (.int .i64 (IntKind.i64.wrap (y8 + 1)))) rfl (HVal.assign' rfl) ?_
        refine HList.nil ?_
        refine nt ?_
        exact (hX2 _ _).1 h _ ⟨rfl, rfl, rfl, rfl, trivial⟩
    · have h := hF hb12
      clear hT hF
      refine HW.exit ?_
      refine te ?_
      refine te ?_
      refine be ?_
      refine nt ?_
      exact ⟨⟨rfl, trivial⟩, h⟩
  · rintro ρ H_1 ⟨hI, h⟩
    obtain ⟨ρ0, rfl⟩ : ∃ ρ0, ρ = (Env.set ρ0 4 (Sl.v (Sl.mk (some ⟨H.size, 0, none⟩) (IntKind.i64.wrap (((p0).n : Int) + 66)).toNat (IntKind.i64.wrap (((p0).n : Int) + 66)).toNat))) := ⟨ρ, hI.eq⟩
    clear hI; unfold F34_1 at h
    refine HW.seq ?_
    refine HW.region ?_
    refine HList.vals (v := (Sl.v (Sl.mk (some ⟨H.size, 0, none⟩) (IntKind.i64.wrap (((p0).n : Int) + 66)).toNat (IntKind.i64.wrap (((p0).n : Int) + 66)).toNat))) rfl (HVal.move' rfl) ?_
    refine HList.vals (v := (Sl.v (Sl.mk (some ⟨H.size, 0, none⟩) (IntKind.i64.wrap (((p0).n : Int) + 66)).toNat (IntKind.i64.wrap (((p0).n : Int) + 66)).toNat))) rfl (HVal.assign' rfl) ?_
    refine HList.nil ?_
    refine nt ?_
    refine HW.ret ?_
    exact ⟨_, resOf1 rfl Res1.t, ⟨(Sl.mk (some ⟨H.size, 0, none⟩) (IntKind.i64.wrap (((p0).n : Int) + 66)).toNat (IntKind.i64.wrap (((p0).n : Int) + 66)).toNat), rfl, h⟩⟩

def F44_1 (Q : Sl → Hp → Prop) (y16 : Sl) (H_1 : Hp) : Prop :=
Q y16 H_1
def F44_L2b (Q : Sl → Hp → Prop) (X2 : Sl → Int → Hp → Prop) (y3 : Sl) (y1 : Sl) (y2 : Int) (H_2 : Hp) : Prop :=
((decide (y2 < ((y3).n : Int))) = true → (∃ a5 : Addr, (y3).b = some a5 ∧ (0 : Int) ≤ y2 ∧ y2 < ((y3).n : Int) ∧ (
 ∃ x10 : Int, cell H_2 (Addr.add a5 (y2.toNat * 1)) = some (.int .i64 x10) ∧ (
 ∀ H11 : Hp, H11 = Array.push H_2 (.cells #[(.int .i64 x10)] 3) → (
 AppendF H11 3 1 8 #[(.int .i64 0)] y1 ((Sl.mk (some ⟨H_2.size, 0, none⟩) 1 1)).b ((Sl.mk (some ⟨H_2.size, 0, none⟩) 1 1)).n (fun (r15 : Sl) (H13 : Hp) => 
 X2 r15 (IntKind.i64.wrap (y2 + 1)) H13)))))) ∧
 ((decide (y2 < ((y3).n : Int))) = false → (F44_1 Q y1 H_2))
def F44_L2 (Q : Sl → Hp → Prop) (y3 : Sl) (y1 : Sl) (y2 : Int) (H_2 : Hp) : Prop :=
  ∀ X2 : Sl → Int → Hp → Prop, (∀ (y1 : Sl) (y2 : Int) (H_2 : Hp), F44_L2b Q X2 y3 y1 y2 H_2 → X2 y1 y2 H_2) → X2 y1 y2 H_2
def F44 (p0 : Sl) (H : Hp) (Q : Sl → Hp → Prop) : Prop :=
F44_L2 Q p0 Sl.nil 0 H
set_option maxRecDepth 100000 in
set_option maxHeartbeats 4000000 in
theorem walk44 {w0 : World} {p0 : Sl} {H : Hp} {Q : Sl → Hp → Prop} (h : F44 p0 H Q) :
    Good Tryd.prog w0 44 #[(Sl.v p0)] H (fun v H => ∃ (r0 : Sl) , v = (Sl.v r0) ∧ Q r0 H) := by
  unfold F44 at h
  refine Good.enter' (fn := Tryd.f44) Tryd.func44 rfl rfl rfl ?_
  refine HW.seq ?_
  refine HW.region ?_
  refine HList.vals (v := (Sl.v Sl.nil)) rfl (HVal.assign' rfl) ?_
  refine HList.nil ?_
  refine nt ?_
  refine HW.seq ?_
  refine HW.region ?_
  refine HList.vals (v := (Sl.v Sl.nil)) rfl (HVal.assign' rfl) ?_
  refine HList.nil ?_
  refine nt ?_
  refine HW.cut (fun ρ H_1 => ∃ (y16 : Sl), Env.Is ρ [(3, (Sl.v y16))] ∧ F44_1 Q y16 H_1) ?_ ?_
  · refine HW.seq ?_
    refine HW.region ?_
    refine HList.vals (v := (.int .i64 0)) rfl (HVal.assign' rfl) ?_
    refine HList.nil ?_
    refine nt ?_
    refine HW.block ?_
    refine HW.loop' (fun L2 hL2 => ?_)
    obtain ⟨X2, hX2⟩ : ∃ X2 : Sl → Int → Hp → Prop, ∀ (y1 : Sl) (y2 : Int) (H_2 : Hp), X2 y1 y2 H_2 ↔ ∀ ρ, Env.Is ρ [(0, (Sl.v p0)), (3, (Sl.v y1)), (4, (.int .i64 y2))] → L2 ρ H_2 := ⟨_, fun _ _ _ => Iff.rfl⟩
    refine (hX2 _ _ _).1 (h X2 ?_) _ ?_
    rotate_left
    · exact ⟨rfl, rfl, rfl, trivial⟩
    clear h
    intro y1 y2 H_2 h
    refine (hX2 _ _ _).2 fun ρ hI => ?_
    obtain ⟨ρ0, rfl⟩ : ∃ ρ0, ρ = (Env.set (Env.set (Env.set ρ0 4 (.int .i64 y2)) 3 (Sl.v y1)) 0 (Sl.v p0)) := ⟨ρ, hI.eq⟩
    clear hI; unfold F44_L2b at h; refine hL2 _ _ ?_
    refine HW.seq ?_
    refine HW.seq ?_
    refine HW.region ?_
    refine HList.vals (v := (.int .i64 y2)) rfl (HVal.move' rfl) ?_
    refine HList.vals (v := (Sl.v p0)) rfl (HVal.move' rfl) ?_
    refine HList.vals (v := (.int .i64 ((p0).n : Int))) rfl (HVal.len Tryd.runUnderlying22 rfl) ?_
    refine HList.vals (v := (.bool (decide (y2 < ((p0).n : Int))))) rfl (HVal.lss rfl rfl) ?_
    refine HList.nil ?_
    refine nt ?_
    obtain ⟨hT, hF⟩ := h
    refine HW.cond (decide (y2 < ((p0).n : Int))) rfl (fun hb4 => ?_) (fun hb4 => ?_)
    · have h := hT hb4
      clear hT hF
      refine HW.skip ?_
      refine nt ?_
      refine HW.seq ?_
      refine HW.block ?_
      refine HW.region ?_
      refine HList.vals (v := (Sl.v y1)) rfl (HVal.move' rfl) ?_
      refine HList.vals (v := (Sl.v p0)) rfl (HVal.move' rfl) ?_
      refine HList.vals (v := (.int .i64 y2)) rfl (HVal.move' rfl) ?_
      obtain ⟨a5, e6, b7, b8, h⟩ := h
      refine HList.vals (v := (.pointer (some (Addr.add a5 (y2.toNat * 1))))) rfl (HVal.indexAddr Tryd.runUnderlying22 Tryd.sizeOf3 (Sl.v_some rfl e6) rfl b7 b8) ?_
      obtain ⟨x10, c9, h⟩ := h
      refine HList.vals (v := (.int .i64 x10)) rfl (HVal.load1 Tryd.isAgg3 rfl c9) ?_
      refine HList.ops' rfl (HOp.buildSlice' (zs := [(.int .i64 0)]) (cs := [(.int .i64 x10)]) Tryd.runUnderlying22 Tryd.sizeOf3 Tryd.zeroValue3 (by decide) (by kernel_rfl) rfl (by decide)) ?_
      rintro _ H11 ⟨rfl, e12⟩
      replace h := h H11 e12
      refine HList.ops' rfl (HOp.append (k := 1) (b := 8) Tryd.runUnderlying22 Tryd.runUnderlying22 Tryd.typeInfo3 rfl rfl Tryd.zeroValue3 rfl rfl h) ?_
      rintro _ H13 ⟨r15, rfl, h⟩
      refine HList.vals (v := (Sl.v r15)) rfl (HVal.assign' rfl) ?_
      refine HList.nil ?_
      refine nb ?_
      refine nt ?_
      refine HW.region ?_
      refine HList.vals (v := (.int .i64 y2)) rfl (HVal.move' rfl) ?_
      refine HList.vals (v := (.int .i64 (IntKind.i64.wrap (y2 + 1)))) rfl (HVal.add rfl rfl) ?_
      refine HList.vals (v := (.int .i64 (IntKind.i64.wrap (y2 + 1)))) rfl (HVal.assign' rfl) ?_
      refine HList.nil ?_
      refine nt ?_
      exact (hX2 _ _ _).1 h _ ⟨rfl, rfl, rfl, trivial⟩
    · have h := hF hb4
      clear hT hF
      refine HW.exit ?_
      refine te ?_
      refine te ?_
      refine be ?_
      refine nt ?_
      exact ⟨y1, ⟨rfl, trivial⟩, h⟩
  · rintro ρ H_1 ⟨y16, hI, h⟩
    obtain ⟨ρ0, rfl⟩ : ∃ ρ0, ρ = (Env.set ρ0 3 (Sl.v y16)) := ⟨ρ, hI.eq⟩
    clear hI; unfold F44_1 at h
    refine HW.seq ?_
    refine HW.region ?_
    refine HList.vals (v := (Sl.v y16)) rfl (HVal.move' rfl) ?_
    refine HList.vals (v := (Sl.v y16)) rfl (HVal.assign' rfl) ?_
    refine HList.nil ?_
    refine nt ?_
    refine HW.ret ?_
    exact ⟨_, resOf1 rfl Res1.t, ⟨y16, rfl, h⟩⟩

def F35 (p0 : Sl) (H : Hp) (Q : Sl → Hp → Prop) : Prop :=
F44 p0 H (fun (r3 : Sl) (H1 : Hp) => 
 ∀ H4 : Hp, H4 = Array.push H1 (.cells #[(.int .i64 0)] 3) → (
 AppendF H4 3 1 8 #[(.int .i64 0)] r3 ((Sl.mk (some ⟨H1.size, 0, none⟩) 1 1)).b ((Sl.mk (some ⟨H1.size, 0, none⟩) 1 1)).n (fun (r8 : Sl) (H6 : Hp) => 
 Q r8 H6)))
set_option maxRecDepth 100000 in
set_option maxHeartbeats 4000000 in
theorem walk35 {w0 : World} {p0 : Sl} {H : Hp} {Q : Sl → Hp → Prop} (h : F35 p0 H Q) :
    Good Tryd.prog w0 35 #[(Sl.v p0)] H (fun v H => ∃ (r0 : Sl) , v = (Sl.v r0) ∧ Q r0 H) := by
  unfold F35 at h
  refine Good.enter' (fn := Tryd.f35) Tryd.func35 rfl rfl rfl ?_
  refine HW.seq ?_
  refine HW.region ?_
  refine HList.vals (v := (Sl.v Sl.nil)) rfl (HVal.assign' rfl) ?_
  refine HList.nil ?_
  refine nt ?_
  refine HW.seq ?_
  refine HW.region ?_
  refine HList.vals (v := (Sl.v p0)) rfl (HVal.move' rfl) ?_
  refine HList.ops' rfl (HOp.call' 44 [(Sl.v p0)] (cap := []) rfl rfl Tryd.call44 (walk44 h)) ?_
  rintro _ H1 ⟨r3, rfl, h⟩
  refine HList.ops' rfl (HOp.buildSlice' (zs := [(.int .i64 0)]) (cs := [(.int .i64 0)]) Tryd.runUnderlying22 Tryd.sizeOf3 Tryd.zeroValue3 (by decide) (by kernel_rfl) rfl (by decide)) ?_
  rintro _ H4 ⟨rfl, e5⟩
  replace h := h H4 e5
  refine HList.ops' rfl (HOp.append (k := 1) (b := 8) Tryd.runUnderlying22 Tryd.runUnderlying22 Tryd.typeInfo3 rfl rfl Tryd.zeroValue3 rfl rfl h) ?_
  rintro _ H6 ⟨r8, rfl, h⟩
  refine HList.vals (v := (Sl.v r8)) rfl (HVal.assign' rfl) ?_
  refine HList.nil ?_
  refine nt ?_
  refine HW.ret ?_
  exact ⟨_, resOf1 rfl Res1.t, ⟨r8, rfl, h⟩⟩

def F45_3 (Q : Bool → Hp → Prop) (X2 : Int → Hp → Prop) (y9 : Sl) (y10 : Int) (y19 : Bool) (H_3 : Hp) : Prop :=
(y19 = true → (Q false H_3)) ∧
 (y19 = false → (X2 (IntKind.i64.wrap (y10 + 1)) H_3))
def F45_L2b (Q : Bool → Hp → Prop) (X2 : Int → Hp → Prop) (y7 : Sl) (y6 : Int) (H_2 : Hp) : Prop :=
((decide (y6 < ((y7).n : Int))) = true → (∃ a11 : Addr, (y7).b = some a11 ∧ (0 : Int) ≤ y6 ∧ y6 < ((y7).n : Int) ∧ (
 ∃ x16 : Int, cell H_2 (Addr.add a11 (y6.toNat * 1)) = some (.int .i64 x16) ∧ (
 ((decide (x16 < 0)) = true → (F45_3 Q X2 y7 y6 true H_2)) ∧
 ((decide (x16 < 0)) = false → (∃ a20 : Addr, (y7).b = some a20 ∧ (0 : Int) ≤ y6 ∧ y6 < ((y7).n : Int) ∧ (
 ∃ x25 : Int, cell H_2 (Addr.add a20 (y6.toNat * 1)) = some (.int .i64 x25) ∧ (
 F45_3 Q X2 y7 y6 (decide ((2147483647 : Int) < x25)) H_2)))))))) ∧
 ((decide (y6 < ((y7).n : Int))) = false → (Q true H_2))
def F45_L2 (Q : Bool → Hp → Prop) (y7 : Sl) (y6 : Int) (H_2 : Hp) : Prop :=
  ∀ X2 : Int → Hp → Prop, (∀ (y6 : Int) (H_2 : Hp), F45_L2b Q X2 y7 y6 H_2 → X2 y6 H_2) → X2 y6 H_2
def F45_1 (Q : Bool → Hp → Prop) (y1 : Sl) (y4 : Bool) (H_1 : Hp) : Prop :=
(y4 = true → (Q false H_1)) ∧
 (y4 = false → (F45_L2 Q y1 0 H_1))
def F45 (p0 : Sl) (H : Hp) (Q : Bool → Hp → Prop) : Prop :=
((decide (((p0).n : Int) < 1)) = true → (F45_1 Q p0 true H)) ∧
 ((decide (((p0).n : Int) < 1)) = false → (F45_1 Q p0 (decide ((64 : Int) < ((p0).n : Int))) H))
set_option maxRecDepth 100000 in
set_option maxHeartbeats 4000000 in
theorem walk45 {w0 : World} {p0 : Sl} {H : Hp} {Q : Bool → Hp → Prop} (h : F45 p0 H Q) :
    Good Tryd.prog w0 45 #[(Sl.v p0)] H (fun v H => ∃ (r0 : Bool) , v = (.bool r0) ∧ Q r0 H) := by
  unfold F45 at h
  refine Good.enter' (fn := Tryd.f45) Tryd.func45 rfl rfl rfl ?_
  refine HW.seq ?_
  refine HW.region ?_
  refine HList.vals (v := (.bool false)) rfl (HVal.assign' rfl) ?_
  refine HList.nil ?_
  refine nt ?_
  refine HW.seq ?_
  refine HW.cut (fun ρ H_1 => ∃ (y4 : Bool), Env.Is ρ [(0, (Sl.v p0)), (11, (.bool y4))] ∧ F45_1 Q p0 y4 H_1) ?_ ?_
  · refine HW.region ?_
    refine HList.vals (v := (Sl.v p0)) rfl (HVal.move' rfl) ?_
    refine HList.vals (v := (.int .i64 ((p0).n : Int))) rfl (HVal.len Tryd.runUnderlying22 rfl) ?_
    refine HList.vals (v := (.bool (decide (((p0).n : Int) < 1)))) rfl (HVal.lss rfl rfl) ?_
    refine HList.vals (v := (.bool (decide (((p0).n : Int) < 1)))) rfl (HVal.move' rfl) ?_
    obtain ⟨hT, hF⟩ := h
    rcases Bool.eq_false_or_eq_true (decide (((p0).n : Int) < 1)) with hb2 | hb3
    · have h := hT hb2
      clear hT hF
      refine HList.gskips rfl rfl rfl rfl (congrArg Value.bool hb2) ?_
      refine HList.gskips rfl rfl rfl rfl (congrArg Value.bool hb2) ?_
      refine HList.gskips rfl rfl rfl rfl (congrArg Value.bool hb2) ?_
      refine HList.vals (v := (.bool true)) rfl (HVal.pickT rfl hb2 rfl) ?_
      refine HList.nil ?_
      refine nt ?_
      exact ⟨true, ⟨rfl, rfl, trivial⟩, h⟩
    · have h := hF hb3
      clear hT hF
      refine HList.gvals (v := (Sl.v p0)) rfl rfl rfl rfl (congrArg Value.bool hb3) (HVal.move' rfl) ?_
      refine HList.gvals (v := (.int .i64 ((p0).n : Int))) rfl rfl rfl rfl (congrArg Value.bool hb3) (HVal.len Tryd.runUnderlying22 rfl) ?_
      refine HList.gvals (v := (.bool (decide ((64 : Int) < ((p0).n : Int))))) rfl rfl rfl rfl (congrArg Value.bool hb3) (HVal.gtr rfl rfl) ?_
      refine HList.vals (v := (.bool (decide ((64 : Int) < ((p0).n : Int))))) rfl (HVal.pickF rfl hb3 rfl) ?_
      refine HList.nil ?_
      refine nt ?_
      exact ⟨(decide ((64 : Int) < ((p0).n : Int))), ⟨rfl, rfl, trivial⟩, h⟩
  · rintro ρ H_1 ⟨y4, hI, h⟩
    obtain ⟨ρ0, rfl⟩ : ∃ ρ0, ρ = (Env.set (Env.set ρ0 11 (.bool y4)) 0 (Sl.v p0)) := ⟨ρ, hI.eq⟩
    clear hI; unfold F45_1 at h
    obtain ⟨hT, hF⟩ := h
    refine HW.cond y4 rfl (fun hb5 => ?_) (fun hb5 => ?_)
    · have h := hT hb5
      clear hT hF
      refine HW.seq ?_
      refine HW.region ?_
      refine HList.vals (v := (.bool false)) rfl (HVal.assign' rfl) ?_
      refine HList.nil ?_
      refine nt ?_
      refine HW.ret ?_
      refine tr ?_
      exact ⟨_, resOf1 rfl Res1.t, ⟨false, rfl, h⟩⟩
    · have h := hF hb5
      clear hT hF
      refine HW.skip ?_
      refine nt ?_
      refine HW.seq ?_
      refine HW.seq ?_
      refine HW.region ?_
      refine HList.vals (v := (.int .i64 0)) rfl (HVal.assign' rfl) ?_
      refine HList.nil ?_
      refine nt ?_
      refine HW.block ?_
      refine HW.loop' (fun L2 hL2 => ?_)
      obtain ⟨X2, hX2⟩ : ∃ X2 : Int → Hp → Prop, ∀ (y6 : Int) (H_2 : Hp), X2 y6 H_2 ↔ ∀ ρ, Env.Is ρ [(0, (Sl.v p0)), (3, (.int .i64 y6))] → L2 ρ H_2 := ⟨_, fun _ _ => Iff.rfl⟩
      refine (hX2 _ _).1 (h X2 ?_) _ ?_
      rotate_left
      · exact ⟨rfl, rfl, trivial⟩
      clear h
      intro y6 H_2 h
      refine (hX2 _ _).2 fun ρ hI => ?_
      obtain ⟨ρ0, rfl⟩ : ∃ ρ0, ρ = (Env.set (Env.set ρ0 3 (.int .i64 y6)) 0 (Sl.v p0)) := ⟨ρ, hI.eq⟩
      clear hI; unfold F45_L2b at h; refine hL2 _ _ ?_
      refine HW.seq ?_
      refine HW.seq ?_
      refine HW.region ?_
      refine HList.vals (v := (.int .i64 y6)) rfl (HVal.move' rfl) ?_
      refine HList.vals (v := (Sl.v p0)) rfl (HVal.move' rfl) ?_
      refine HList.vals (v := (.int .i64 ((p0).n : Int))) rfl (HVal.len Tryd.runUnderlying22 rfl) ?_
      refine HList.vals (v := (.bool (decide (y6 < ((p0).n : Int))))) rfl (HVal.lss rfl rfl) ?_
      refine HList.nil ?_
      refine nt ?_
      obtain ⟨hT, hF⟩ := h
      refine HW.cond (decide (y6 < ((p0).n : Int))) rfl (fun hb8 => ?_) (fun hb8 => ?_)
      · have h := hT hb8
        clear hT hF
        refine HW.skip ?_
        refine nt ?_
        refine HW.seq ?_
        refine HW.block ?_
        refine HW.cut (fun ρ H_3 => ∃ (y19 : Bool), Env.Is ρ [(0, (Sl.v p0)), (3, (.int .i64 y6)), (29, (.bool y19))] ∧ F45_3 Q X2 p0 y6 y19 H_3) ?_ ?_
        · refine HW.region ?_
          refine HList.vals (v := (Sl.v p0)) rfl (HVal.move' rfl) ?_
          refine HList.vals (v := (.int .i64 y6)) rfl (HVal.move' rfl) ?_
          obtain ⟨a11, e12, b13, b14, h⟩ := h
          refine HList.vals (v := (.pointer (some (Addr.add a11 (y6.toNat * 1))))) rfl (HVal.indexAddr Tryd.runUnderlying22 Tryd.sizeOf3 (Sl.v_some rfl e12) rfl b13 b14) ?_
          obtain ⟨x16, c15, h⟩ := h
          refine HList.vals (v := (.int .i64 x16)) rfl (HVal.load1 Tryd.isAgg3 rfl c15) ?_
          refine HList.vals (v := (.bool (decide (x16 < 0)))) rfl (HVal.lss rfl rfl) ?_
          refine HList.vals (v := (.bool (decide (x16 < 0)))) rfl (HVal.move' rfl) ?_
          obtain ⟨hT, hF⟩ := h
          rcases Bool.eq_false_or_eq_true (decide (x16 < 0)) with hb17 | hb18
          · have h := hT hb17
            clear hT hF
            refine HList.gskips rfl rfl rfl rfl (congrArg Value.bool hb17) ?_
            refine HList.gskips rfl rfl rfl rfl (congrArg Value.bool hb17) ?_
            refine HList.gskips rfl rfl rfl rfl (congrArg Value.bool hb17) ?_
            refine HList.gskips rfl rfl rfl rfl (congrArg Value.bool hb17) ?_
            refine HList.gskips rfl rfl rfl rfl (congrArg Value.bool hb17) ?_
            refine HList.vals (v := (.bool true)) rfl (HVal.pickT rfl hb17 rfl) ?_
            refine HList.nil ?_
            refine nt ?_
            exact ⟨true, ⟨rfl, rfl, rfl, trivial⟩, h⟩
          · have h := hF hb18
            clear hT hF
            refine HList.gvals (v := (Sl.v p0)) rfl rfl rfl rfl (congrArg Value.bool hb18) (HVal.move' rfl) ?_
            refine HList.gvals (v := (.int .i64 y6)) rfl rfl rfl rfl (congrArg Value.bool hb18) (HVal.move' rfl) ?_
            obtain ⟨a20, e21, b22, b23, h⟩ := h
            refine HList.gvals (v := (.pointer (some (Addr.add a20 (y6.toNat * 1))))) rfl rfl rfl rfl (congrArg Value.bool hb18) (HVal.indexAddr Tryd.runUnderlying22 Tryd.sizeOf3 (Sl.v_some rfl e21) rfl b22 b23) ?_
            obtain ⟨x25, c24, h⟩ := h
            refine HList.gvals (v := (.int .i64 x25)) rfl rfl rfl rfl (congrArg Value.bool hb18) (HVal.load1 Tryd.isAgg3 rfl c24) ?_
            refine HList.gvals (v := (.bool (decide ((2147483647 : Int) < x25)))) rfl rfl rfl rfl (congrArg Value.bool hb18) (HVal.gtr rfl rfl) ?_
            refine HList.vals (v := (.bool (decide ((2147483647 : Int) < x25)))) rfl (HVal.pickF rfl hb18 rfl) ?_
            refine HList.nil ?_
            refine nt ?_
            exact ⟨(decide ((2147483647 : Int) < x25)), ⟨rfl, rfl, rfl, trivial⟩, h⟩
        · rintro ρ H_3 ⟨y19, hI, h⟩
          obtain ⟨ρ0, rfl⟩ : ∃ ρ0, ρ = (Env.set (Env.set (Env.set ρ0 29 (.bool y19)) 3 (.int .i64 y6)) 0 (Sl.v p0)) := ⟨ρ, hI.eq⟩
          clear hI; unfold F45_3 at h
          obtain ⟨hT, hF⟩ := h
          refine HW.cond y19 rfl (fun hb26 => ?_) (fun hb26 => ?_)
          · have h := hT hb26
            clear hT hF
            refine HW.seq ?_
            refine HW.region ?_
            refine HList.vals (v := (.bool false)) rfl (HVal.assign' rfl) ?_
            refine HList.nil ?_
            refine nt ?_
            refine HW.ret ?_
            refine br ?_
            refine tr ?_
            refine tr ?_
            refine br ?_
            refine tr ?_
            exact ⟨_, resOf1 rfl Res1.t, ⟨false, rfl, h⟩⟩
          · have h := hF hb26
            clear hT hF
            refine HW.skip ?_
            refine nb ?_
            refine nt ?_
            refine HW.region ?_
            refine HList.vals (v := (.int .i64 y6)) rfl (HVal.move' rfl) ?_
            refine HList.vals (v := (.int .i64 (IntKind.i64.wrap (y6 + 1)))) rfl (HVal.add rfl rfl) ?_
            refine HList.vals (v := (.int .i64 (IntKind.i64.wrap (y6 + 1)))) rfl (HVal.assign' rfl) ?_
            refine HList.nil ?_
            refine nt ?_
            exact (hX2 _ _).1 h _ ⟨rfl, rfl, trivial⟩
      · have h := hF hb8
        clear hT hF
        refine HW.exit ?_
        refine te ?_
        refine te ?_
        refine be ?_
        refine nt ?_
        refine HW.seq ?_
        refine HW.region ?_
        refine HList.vals (v := (.bool true)) rfl (HVal.assign' rfl) ?_
        refine HList.nil ?_
        refine nt ?_
        refine HW.ret ?_
        exact ⟨_, resOf1 rfl Res1.t, ⟨true, rfl, h⟩⟩

def F36 (p0 : Sl) (H : Hp) (Q : Sl → Int → Hp → Prop) : Prop :=
F45 p0 H (fun (r3 : Bool) (H1 : Hp) => 
 ((!r3) = true → (Q Sl.nil 120 H1)) ∧
 ((!r3) = false → (F44 p0 H1 (fun (r7 : Sl) (H5 : Hp) => 
 ∃ a8 : Addr, (r7).b = some a8 ∧ (0 : Int) ≤ (IntKind.i64.wrap (((r7).n : Int) - 1)) ∧ (IntKind.i64.wrap (((r7).n : Int) - 1)) < ((r7).n : Int) ∧ (
 ∃ x13 : Int, cell H5 (Addr.add a8 ((IntKind.i64.wrap (((r7).n : Int) - 1)).toNat * 1)) = some (.int .i64 x13) ∧ (
 ((decide (x13 = 2147483647)) = true → (Q Sl.nil 4 H5)) ∧
 ((decide (x13 = 2147483647)) = false → (∃ a15 : Addr, (r7).b = some a15 ∧ (0 : Int) ≤ (IntKind.i64.wrap (((r7).n : Int) - 1)) ∧ (IntKind.i64.wrap (((r7).n : Int) - 1)) < ((r7).n : Int) ∧ (
 ∃ x20 : Int, cell H5 (Addr.add a15 ((IntKind.i64.wrap (((r7).n : Int) - 1)).toNat * 1)) = some (.int .i64 x20) ∧ (
 ∃ a21 : Addr, (r7).b = some a21 ∧ (0 : Int) ≤ (IntKind.i64.wrap (((r7).n : Int) - 1)) ∧ (IntKind.i64.wrap (((r7).n : Int) - 1)) < ((r7).n : Int) ∧ (
 (cell H5 (Addr.add a21 ((IntKind.i64.wrap (((r7).n : Int) - 1)).toNat * 1))).isSome = true ∧ frz H5 (Addr.add a21 ((IntKind.i64.wrap (((r7).n : Int) - 1)).toNat * 1)) = false ∧ ∀ H25 : Hp, H25 = setc H5 (Addr.add a21 ((IntKind.i64.wrap (((r7).n : Int) - 1)).toNat * 1)) (.int .i64 (IntKind.i64.wrap (x20 + 1))) → (
 Q r7 0 H25))))))))))))
set_option maxRecDepth 100000 in
set_option maxHeartbeats 4000000 in
theorem walk36 {w0 : World} {p0 : Sl} {H : Hp} {Q : Sl → Int → Hp → Prop} (h : F36 p0 H Q) :
    Good Tryd.prog w0 36 #[(Sl.v p0)] H (fun v H => ∃ (r0 : Sl) (r1 : Int) , v = (.tuple #[(Sl.v r0), (.int .i64 r1)]) ∧ Q r0 r1 H) := by
  unfold F36 at h
  refine Good.enter' (fn := Tryd.f36) Tryd.func36 rfl rfl rfl ?_
  refine HW.seq ?_
  refine HW.region ?_
  refine HList.vals (v := (Sl.v Sl.nil)) rfl (HVal.assign' rfl) ?_
  refine HList.vals (v := (.int .i64 0)) rfl (HVal.assign' rfl) ?_
  refine HList.nil ?_
  refine nt ?_
  refine HW.seq ?_
  refine HW.seq ?_
  refine HW.region ?_
  refine HList.vals (v := (Sl.v p0)) rfl (HVal.move' rfl) ?_
  refine HList.ops' rfl (HOp.call' 45 [(Sl.v p0)] (cap := []) rfl rfl Tryd.call45 (walk45 h)) ?_
  rintro _ H1 ⟨r3, rfl, h⟩
  refine HList.vals (v := (.bool (!r3))) rfl (HVal.not rfl) ?_
  refine HList.nil ?_
  refine nt ?_
  obtain ⟨hT, hF⟩ := h
  refine HW.cond (!r3) rfl (fun hb4 => ?_) (fun hb4 => ?_)
  · have h := hT hb4
    clear hT hF
    refine HW.seq ?_
    refine HW.region ?_
    refine HList.vals (v := (Sl.v Sl.nil)) rfl (HVal.assign' rfl) ?_
    refine HList.vals (v := (.int .i64 120)) rfl (HVal.assign' rfl) ?_
    refine HList.nil ?_
    refine nt ?_
    refine HW.ret ?_
    refine tr ?_
    exact ⟨_, resOf2 rfl Res1.t Res1.t, ⟨Sl.nil, 120, rfl, h⟩⟩
  · have h := hF hb4
    clear hT hF
    refine HW.skip ?_
    refine nt ?_
    refine HW.seq ?_
    refine HW.region ?_
    refine HList.vals (v := (Sl.v p0)) rfl (HVal.move' rfl) ?_
    refine HList.ops' rfl (HOp.call' 44 [(Sl.v p0)] (cap := []) rfl rfl Tryd.call44 (walk44 h)) ?_
    rintro _ H5 ⟨r7, rfl, h⟩
    refine HList.vals (v := (Sl.v r7)) rfl (HVal.assign' rfl) ?_
    refine HList.nil ?_
    refine nt ?_
    refine HW.seq ?_
    refine HW.region ?_
    refine HList.vals (v := (Sl.v r7)) rfl (HVal.move' rfl) ?_
    refine HList.vals (v := (.int .i64 ((r7).n : Int))) rfl (HVal.len Tryd.runUnderlying22 rfl) ?_
    refine HList.vals (v := (.int .i64 (IntKind.i64.wrap (((r7).n : Int) - 1)))) rfl (HVal.sub rfl rfl) ?_
    refine HList.vals (v := (.int .i64 (IntKind.i64.wrap (((r7).n : Int) - 1)))) rfl (HVal.assign' rfl) ?_
    refine HList.nil ?_
    refine nt ?_
    refine HW.seq ?_
    refine HW.seq ?_
    refine HW.region ?_
    refine HList.vals (v := (Sl.v r7)) rfl (HVal.move' rfl) ?_
    refine HList.vals (v := (.int .i64 (IntKind.i64.wrap (((r7).n : Int) - 1)))) rfl (HVal.move' rfl) ?_
    obtain ⟨a8, e9, b10, b11, h⟩ := h
    refine HList.vals (v := (.pointer (some (Addr.add a8 ((IntKind.i64.wrap (((r7).n : Int) - 1)).toNat * 1))))) rfl (HVal.indexAddr Tryd.runUnderlying22 Tryd.sizeOf3 (Sl.v_some rfl e9) rfl b10 b11) ?_
    obtain ⟨x13, c12, h⟩ := h
    refine HList.vals (v := (.int .i64 x13)) rfl (HVal.load1 Tryd.isAgg3 rfl c12) ?_
    refine HList.vals (v := (.bool (decide (x13 = 2147483647)))) rfl (HVal.eqlI rfl rfl) ?_
    refine HList.nil ?_
    refine nt ?_
    obtain ⟨hT, hF⟩ := h
    refine HW.cond (decide (x13 = 2147483647)) rfl (fun hb14 => ?_) (fun hb14 => ?_)
    · have h := hT hb14
      clear hT hF
      refine HW.seq ?_
      refine HW.region ?_
      refine HList.vals (v := (Sl.v Sl.nil)) rfl (HVal.assign' rfl) ?_
      refine HList.vals (v := (.int .i64 4)) rfl (HVal.assign' rfl) ?_
      refine HList.nil ?_
      refine nt ?_
      refine HW.ret ?_
      refine tr ?_
      exact ⟨_, resOf2 rfl Res1.t Res1.t, ⟨Sl.nil, 4, rfl, h⟩⟩
    · have h := hF hb14
      clear hT hF
      refine HW.skip ?_
      refine nt ?_
      refine HW.seq ?_
      refine HW.region ?_
      refine HList.vals (v := (Sl.v r7)) rfl (HVal.move' rfl) ?_
      refine HList.vals (v := (.int .i64 (IntKind.i64.wrap (((r7).n : Int) - 1)))) rfl (HVal.move' rfl) ?_
      refine HList.vals (v := (Sl.v r7)) rfl (HVal.move' rfl) ?_
      refine HList.vals (v := (.int .i64 (IntKind.i64.wrap (((r7).n : Int) - 1)))) rfl (HVal.move' rfl) ?_
      obtain ⟨a15, e16, b17, b18, h⟩ := h
      refine HList.vals (v := (.pointer (some (Addr.add a15 ((IntKind.i64.wrap (((r7).n : Int) - 1)).toNat * 1))))) rfl (HVal.indexAddr Tryd.runUnderlying22 Tryd.sizeOf3 (Sl.v_some rfl e16) rfl b17 b18) ?_
      obtain ⟨x20, c19, h⟩ := h
      refine HList.vals (v := (.int .i64 x20)) rfl (HVal.load1 Tryd.isAgg3 rfl c19) ?_
      refine HList.vals (v := (.int .i64 (IntKind.i64.wrap (x20 + 1)))) rfl (HVal.add rfl rfl) ?_
      obtain ⟨a21, e22, b23, b24, h⟩ := h
      refine HList.vals (v := (.pointer (some (Addr.add a21 ((IntKind.i64.wrap (((r7).n : Int) - 1)).toNat * 1))))) rfl (HVal.indexAddr Tryd.runUnderlying22 Tryd.sizeOf3 (Sl.v_some rfl e22) rfl b23 b24) ?_
      obtain ⟨z27, z28, h⟩ := h
      refine HList.opsn (HOp.store1 Tryd.sizeOf3 rfl rfl rfl z27 z28) ?_
      rintro _ H25 e26
      replace h := h H25 e26
      refine HList.nil ?_
      refine nt ?_
      refine HW.seq ?_
      refine HW.region ?_
      refine HList.vals (v := (Sl.v r7)) rfl (HVal.move' rfl) ?_
      refine HList.vals (v := (Sl.v r7)) rfl (HVal.assign' rfl) ?_
      refine HList.vals (v := (.int .i64 0)) rfl (HVal.assign' rfl) ?_
      refine HList.nil ?_
      refine nt ?_
      refine HW.ret ?_
      exact ⟨_, resOf2 rfl Res1.t Res1.t, ⟨r7, 0, rfl, h⟩⟩

def F46_1 (Q : Int → Hp → Prop) (y21 : Int) (H_1 : Hp) : Prop :=
Q y21 H_1
def F46_L2b (Q : Int → Hp → Prop) (X2 : Int → Hp → Prop) (y2 : Sl) (y3 : Sl) (y1 : Int) (H_2 : Hp) : Prop :=
((decide (y1 < ((y2).n : Int))) = true → (((decide (y1 < ((y3).n : Int))) = true → (∃ a8 : Addr, (y2).b = some a8 ∧ (0 : Int) ≤ y1 ∧ y1 < ((y2).n : Int) ∧ (
 ∃ x13 : Int, cell H_2 (Addr.add a8 (y1.toNat * 1)) = some (.int .i64 x13) ∧ (
 ∃ a14 : Addr, (y3).b = some a14 ∧ (0 : Int) ≤ y1 ∧ y1 < ((y3).n : Int) ∧ (
 ∃ x19 : Int, cell H_2 (Addr.add a14 (y1.toNat * 1)) = some (.int .i64 x19) ∧ (
 ((decide (x13 = x19)) = true → (X2 (IntKind.i64.wrap (y1 + 1)) H_2)) ∧
 ((decide (x13 = x19)) = false → (F46_1 Q y1 H_2)))))))) ∧
 ((decide (y1 < ((y3).n : Int))) = false → (F46_1 Q y1 H_2)))) ∧
 ((decide (y1 < ((y2).n : Int))) = false → (F46_1 Q y1 H_2))
def F46_L2 (Q : Int → Hp → Prop) (y2 : Sl) (y3 : Sl) (y1 : Int) (H_2 : Hp) : Prop :=
  ∀ X2 : Int → Hp → Prop, (∀ (y1 : Int) (H_2 : Hp), F46_L2b Q X2 y2 y3 y1 H_2 → X2 y1 H_2) → X2 y1 H_2
def F46 (p0 : Sl) (p1 : Sl) (H : Hp) (Q : Int → Hp → Prop) : Prop :=
F46_L2 Q p0 p1 0 H
set_option maxRecDepth 100000 in
set_option maxHeartbeats 4000000 in
theorem walk46 {w0 : World} {p0 : Sl} {p1 : Sl} {H : Hp} {Q : Int → Hp → Prop} (h : F46 p0 p1 H Q) :
    Good Tryd.prog w0 46 #[(Sl.v p0), (Sl.v p1)] H (fun v H => ∃ (r0 : Int) , v = (.int .i64 r0) ∧ Q r0 H) := by
  unfold F46 at h
  refine Good.enter' (fn := Tryd.f46) Tryd.func46 rfl rfl rfl ?_
  refine HW.seq ?_
  refine HW.region ?_
  refine HList.vals (v := (.int .i64 0)) rfl (HVal.assign' rfl) ?_
  refine HList.nil ?_
  refine nt ?_
  refine HW.seq ?_
  refine HW.region ?_
  refine HList.vals (v := (.int .i64 0)) rfl (HVal.assign' rfl) ?_
  refine HList.nil ?_
  refine nt ?_
  refine HW.cut (fun ρ H_1 => ∃ (y21 : Int), Env.Is ρ [(5, (.int .i64 y21))] ∧ F46_1 Q y21 H_1) ?_ ?_
  · refine HW.block ?_
    refine HW.loop' (fun L2 hL2 => ?_)
    obtain ⟨X2, hX2⟩ : ∃ X2 : Int → Hp → Prop, ∀ (y1 : Int) (H_2 : Hp), X2 y1 H_2 ↔ ∀ ρ, Env.Is ρ [(0, (Sl.v p0)), (1, (Sl.v p1)), (5, (.int .i64 y1))] → L2 ρ H_2 := ⟨_, fun _ _ => Iff.rfl⟩
    refine (hX2 _ _).1 (h X2 ?_) _ ?_
    rotate_left
    · exact ⟨rfl, rfl, rfl, trivial⟩
    clear h
    intro y1 H_2 h
    refine (hX2 _ _).2 fun ρ hI => ?_
    obtain ⟨ρ0, rfl⟩ : ∃ ρ0, ρ = (Env.set (Env.set (Env.set ρ0 5 (.int .i64 y1)) 1 (Sl.v p1)) 0 (Sl.v p0)) := ⟨ρ, hI.eq⟩
    clear hI; unfold F46_L2b at h; refine hL2 _ _ ?_
    refine HW.seq ?_
    refine HW.seq ?_
    refine HW.draw mixed [(0, some []), (1, some []), (2, some []), (3, some []), (4, some []), (5, some []), (6, some []), (7, some []), (8, some []), (9, some []), (10, some []), (11, some []), (12, some []), (13, some []), (14, some []), (15, some []), (16, some []), (17, some []), (18, some []), (19, some []), (20, some [])] rfl (by kernel_rfl) (by kernel_rfl) ?_
    refine HPlan.takev (v := (.int .i64 y1)) rfl rfl (fun _ => HVal.move' rfl) ?_
    refine HPlan.takev (v := (Sl.v p0)) rfl rfl (fun _ => HVal.move' rfl) ?_
    refine HPlan.takev (v := (.int .i64 ((p0).n : Int))) rfl rfl (fun _ => HVal.len Tryd.runUnderlying22 rfl) ?_
    refine HPlan.takev (v := (.bool (decide (y1 < ((p0).n : Int))))) rfl rfl (fun _ => HVal.lss rfl rfl) ?_
    refine HPlan.takev (v := (.bool (decide (y1 < ((p0).n : Int))))) rfl rfl (fun _ => HVal.move' rfl) ?_
    obtain ⟨hT, hF⟩ := h
    rcases Bool.eq_false_or_eq_true (decide (y1 < ((p0).n : Int))) with hb4 | hb5
    · have h := hT hb4
      clear hT hF
      refine HPlan.gtakev (v := (.int .i64 y1)) rfl rfl rfl rfl rfl (congrArg Value.bool hb4) (fun _ => HVal.move' rfl) ?_
      refine HPlan.gtakev (v := (Sl.v p1)) rfl rfl rfl rfl rfl (congrArg Value.bool hb4) (fun _ => HVal.move' rfl) ?_
      refine HPlan.gtakev (v := (.int .i64 ((p1).n : Int))) rfl rfl rfl rfl rfl (congrArg Value.bool hb4) (fun _ => HVal.len Tryd.runUnderlying22 rfl) ?_
      refine HPlan.gtakev (v := (.bool (decide (y1 < ((p1).n : Int))))) rfl rfl rfl rfl rfl (congrArg Value.bool hb4) (fun _ => HVal.lss rfl rfl) ?_
      refine HPlan.takev (v := (.bool (decide (y1 < ((p1).n : Int))))) rfl rfl (fun _ => HVal.pickT rfl hb4 rfl) ?_
      refine HPlan.takev (v := (.bool (decide (y1 < ((p1).n : Int))))) rfl rfl (fun _ => HVal.move' rfl) ?_
      obtain ⟨hT, hF⟩ := h
      rcases Bool.eq_false_or_eq_true (decide (y1 < ((p1).n : Int))) with hb6 | hb7
      · have h := hT hb6
        clear hT hF
        refine HPlan.gtakev (v := (Sl.v p0)) rfl rfl rfl rfl rfl (congrArg Value.bool hb6) (fun _ => HVal.move' rfl) ?_
        refine HPlan.gtakev (v := (.int .i64 y1)) rfl rfl rfl rfl rfl (congrArg Value.bool hb6) (fun _ => HVal.move' rfl) ?_
        obtain ⟨a8, e9, b10, b11, h⟩ := h
        refine HPlan.gtakev (v := (.pointer (some (Addr.add a8 (y1.toNat * 1))))) rfl rfl rfl rfl rfl (congrArg Value.bool hb6) (fun _ => HVal.indexAddr Tryd.runUnderlying22 Tryd.sizeOf3 (Sl.v_some rfl e9) rfl b10 b11) ?_
        obtain ⟨x13, c12, h⟩ := h
        refine HPlan.gtakel (v := (.int .i64 x13)) (fun X => cell X (Addr.add a8 (y1.toNat * 1)) = some (.int .i64 x13)) rfl rfl rfl rfl rfl (congrArg Value.bool hb6) (fun _ hX => HVal.load1 Tryd.isAgg3 rfl hX) c12 ?_
        refine HPlan.gtakev (v := (Sl.v p1)) rfl rfl rfl rfl rfl (congrArg Value.bool hb6) (fun _ => HVal.move' rfl) ?_
        refine HPlan.gtakev (v := (.int .i64 y1)) rfl rfl rfl rfl rfl (congrArg Value.bool hb6) (fun _ => HVal.move' rfl) ?_
        obtain ⟨a14, e15, b16, b17, h⟩ := h
        refine HPlan.gtakev (v := (.pointer (some (Addr.add a14 (y1.toNat * 1))))) rfl rfl rfl rfl rfl (congrArg Value.bool hb6) (fun _ => HVal.indexAddr Tryd.runUnderlying22 Tryd.sizeOf3 (Sl.v_some rfl e15) rfl b16 b17) ?_
        obtain ⟨x19, c18, h⟩ := h
        refine HPlan.gtakel (v := (.int .i64 x19)) (fun X => cell X (Addr.add a14 (y1.toNat * 1)) = some (.int .i64 x19)) rfl rfl rfl rfl rfl (congrArg Value.bool hb6) (fun _ hX => HVal.load1 Tryd.isAgg3 rfl hX) c18 ?_
        refine HPlan.gtakev (v := (.bool (decide (x13 = x19)))) rfl rfl rfl rfl rfl (congrArg Value.bool hb6) (fun _ => HVal.eqlI rfl rfl) ?_
        refine HPlan.takev (v := (.bool (decide (x13 = x19)))) rfl rfl (fun _ => HVal.pickT rfl hb6 rfl) ?_
        refine HPlan.done ?_
        refine nt ?_
        obtain ⟨hT, hF⟩ := h
        refine HW.cond (decide (x13 = x19)) rfl (fun hb20 => ?_) (fun hb20 => ?_)
        · have h := hT hb20
          clear hT hF
          refine HW.skip ?_
          refine nt ?_
          refine HW.block ?_
          refine HW.region ?_
          refine HList.vals (v := (.int .i64 y1)) rfl (HVal.move' rfl) ?_
          refine HList.vals (v := (.int .i64 (IntKind.i64.wrap (y1 + 1)))) rfl (HVal.add rfl rfl) ?_
          refine HList.vals (v := (.int .i64 (IntKind.i64.wrap (y1 + 1)))) rfl (HVal.assign' rfl) ?_
          refine HList.nil ?_
          refine nb ?_
          refine nt ?_
          exact (hX2 _ _).1 h _ ⟨rfl, rfl, rfl, trivial⟩
        · have h := hF hb20
          clear hT hF
          refine HW.exit ?_
          refine te ?_
          refine te ?_
          refine be ?_
          refine nt ?_
          exact ⟨y1, ⟨rfl, trivial⟩, h⟩
      · have h := hF hb7
        clear hT hF
        refine HPlan.takegskip rfl rfl rfl rfl (congrArg Value.bool hb7) ?_
        refine HPlan.takegskip rfl rfl rfl rfl (congrArg Value.bool hb7) ?_
        refine HPlan.takegskip rfl rfl rfl rfl (congrArg Value.bool hb7) ?_
        refine HPlan.takegskip rfl rfl rfl rfl (congrArg Value.bool hb7) ?_
        refine HPlan.takegskip rfl rfl rfl rfl (congrArg Value.bool hb7) ?_
        refine HPlan.takegskip rfl rfl rfl rfl (congrArg Value.bool hb7) ?_
        refine HPlan.takegskip rfl rfl rfl rfl (congrArg Value.bool hb7) ?_
        refine HPlan.takegskip rfl rfl rfl rfl (congrArg Value.bool hb7) ?_
        refine HPlan.takegskip rfl rfl rfl rfl (congrArg Value.bool hb7) ?_
        refine HPlan.takev (v := (.bool false)) rfl rfl (fun _ => HVal.pickF rfl hb7 rfl) ?_
        refine HPlan.done ?_
        refine nt ?_
        refine HW.condF false rfl rfl ?_
        refine HW.exit ?_
        refine te ?_
        refine te ?_
        refine be ?_
        refine nt ?_
        exact ⟨y1, ⟨rfl, trivial⟩, h⟩
    · have h := hF hb5
      clear hT hF
      refine HPlan.takegskip rfl rfl rfl rfl (congrArg Value.bool hb5) ?_
      refine HPlan.takegskip rfl rfl rfl rfl (congrArg Value.bool hb5) ?_
      refine HPlan.takegskip rfl rfl rfl rfl (congrArg Value.bool hb5) ?_
      refine HPlan.takegskip rfl rfl rfl rfl (congrArg Value.bool hb5) ?_
      refine HPlan.takev (v := (.bool false)) rfl rfl (fun _ => HVal.pickF rfl hb5 rfl) ?_
      refine HPlan.takev (v := (.bool false)) rfl rfl (fun _ => HVal.move' rfl) ?_
      refine HPlan.takegskip rfl rfl rfl rfl rfl ?_
      refine HPlan.takegskip rfl rfl rfl rfl rfl ?_
      refine HPlan.takegskip rfl rfl rfl rfl rfl ?_
      refine HPlan.takegskip rfl rfl rfl rfl rfl ?_
      refine HPlan.takegskip rfl rfl rfl rfl rfl ?_
      refine HPlan.takegskip rfl rfl rfl rfl rfl ?_
      refine HPlan.takegskip rfl rfl rfl rfl rfl ?_
      refine HPlan.takegskip rfl rfl rfl rfl rfl ?_
      refine HPlan.takegskip rfl rfl rfl rfl rfl ?_
      refine HPlan.takev (v := (.bool false)) rfl rfl (fun _ => HVal.pickF rfl rfl rfl) ?_
      refine HPlan.done ?_
      refine nt ?_
      refine HW.condF false rfl rfl ?_
      refine HW.exit ?_
      refine te ?_
      refine te ?_
      refine be ?_
      refine nt ?_
      exact ⟨y1, ⟨rfl, trivial⟩, h⟩
  · rintro ρ H_1 ⟨y21, hI, h⟩
    obtain ⟨ρ0, rfl⟩ : ∃ ρ0, ρ = (Env.set ρ0 5 (.int .i64 y21)) := ⟨ρ, hI.eq⟩
    clear hI; unfold F46_1 at h
    refine HW.seq ?_
    refine HW.region ?_
    refine HList.vals (v := (.int .i64 y21)) rfl (HVal.move' rfl) ?_
    refine HList.vals (v := (.int .i64 y21)) rfl (HVal.assign' rfl) ?_
    refine HList.nil ?_
    refine nt ?_
    refine HW.ret ?_
    exact ⟨_, resOf1 rfl Res1.t, ⟨y21, rfl, h⟩⟩

def F37_1 (Q : Bool → Hp → Prop) (y4 : Sl) (y5 : Sl) (y6 : Int) (y9 : Bool) (H_1 : Hp) : Prop :=
(y9 = true → (Q false H_1)) ∧
 (y9 = false → (((decide (y6 = ((y4).n : Int))) = true → (Q true H_1)) ∧
 ((decide (y6 = ((y4).n : Int))) = false → (((decide (((y4).n : Int) = ((y5).n : Int))) = true → (((decide (y6 = (IntKind.i64.wrap (((y4).n : Int) - 1)))) = true → (∃ a16 : Addr, (y5).b = some a16 ∧ (0 : Int) ≤ y6 ∧ y6 < ((y5).n : Int) ∧ (
 ∃ x21 : Int, cell H_1 (Addr.add a16 (y6.toNat * 1)) = some (.int .i64 x21) ∧ (
 ∃ a22 : Addr, (y4).b = some a22 ∧ (0 : Int) ≤ y6 ∧ y6 < ((y4).n : Int) ∧ (
 ∃ x27 : Int, cell H_1 (Addr.add a22 (y6.toNat * 1)) = some (.int .i64 x27) ∧ (
 Q (decide (x27 < x21)) H_1)))))) ∧
 ((decide (y6 = (IntKind.i64.wrap (((y4).n : Int) - 1)))) = false → (Q false H_1)))) ∧
 ((decide (((y4).n : Int) = ((y5).n : Int))) = false → (Q false H_1))))))
def F37 (p0 : Sl) (p1 : Sl) (H : Hp) (Q : Bool → Hp → Prop) : Prop :=
F46 p0 p1 H (fun (r3 : Int) (H1 : Hp) => 
 ((decide (((p0).n : Int) = 0)) = true → (F37_1 Q p0 p1 r3 true H1)) ∧
 ((decide (((p0).n : Int) = 0)) = false → (F37_1 Q p0 p1 r3 (decide (((p1).n : Int) < ((p0).n : Int))) H1)))
set_option maxRecDepth 100000 in
set_option maxHeartbeats 4000000 in
theorem walk37 {w0 : World} {p0 : Sl} {p1 : Sl} {H : Hp} {Q : Bool → Hp → Prop} (h : F37 p0 p1 H Q) :
    Good Tryd.prog w0 37 #[(Sl.v p0), (Sl.v p1)] H (fun v H => ∃ (r0 : Bool) , v = (.bool r0) ∧ Q r0 H) := by
  unfold F37 at h
  refine Good.enter' (fn := Tryd.f37) Tryd.func37 rfl rfl rfl ?_
  refine HW.seq ?_
  refine HW.region ?_
  refine HList.vals (v := (.bool false)) rfl (HVal.assign' rfl) ?_
  refine HList.nil ?_
  refine nt ?_
  refine HW.seq ?_
  refine HW.region ?_
  refine HList.vals (v := (Sl.v p0)) rfl (HVal.move' rfl) ?_
  refine HList.vals (v := (Sl.v p1)) rfl (HVal.move' rfl) ?_
  refine HList.ops' rfl (HOp.call' 46 [(Sl.v p0), (Sl.v p1)] (cap := []) rfl rfl Tryd.call46 (walk46 h)) ?_
  rintro _ H1 ⟨r3, rfl, h⟩
  refine HList.vals (v := (.int .i64 r3)) rfl (HVal.assign' rfl) ?_
  refine HList.nil ?_
  refine nt ?_
  refine HW.seq ?_
  refine HW.cut (fun ρ H_1 => ∃ (y9 : Bool), Env.Is ρ [(0, (Sl.v p0)), (1, (Sl.v p1)), (5, (.int .i64 r3)), (18, (.bool y9))] ∧ F37_1 Q p0 p1 r3 y9 H_1) ?_ ?_
  · refine HW.region ?_
    refine HList.vals (v := (Sl.v p0)) rfl (HVal.move' rfl) ?_
    refine HList.vals (v := (.int .i64 ((p0).n : Int))) rfl (HVal.len Tryd.runUnderlying22 rfl) ?_
    refine HList.vals (v := (.bool (decide (((p0).n : Int) = 0)))) rfl (HVal.eqlI rfl rfl) ?_
    refine HList.vals (v := (.bool (decide (((p0).n : Int) = 0)))) rfl (HVal.move' rfl) ?_
    obtain ⟨hT, hF⟩ := h
    rcases Bool.eq_false_or_eq_true (decide (((p0).n : Int) = 0)) with hb7 | hb8
    · have h := hT hb7
      clear hT hF
      refine HList.gskips rfl rfl rfl rfl (congrArg Value.bool hb7) ?_
      refine HList.gskips rfl rfl rfl rfl (congrArg Value.bool hb7) ?_
      refine HList.gskips rfl rfl rfl rfl (congrArg Value.bool hb7) ?_
      refine HList.gskips rfl rfl rfl rfl (congrArg Value.bool hb7) ?_
      refine HList.gskips rfl rfl rfl rfl (congrArg Value.bool hb7) ?_
      refine HList.vals (v := (.bool true)) rfl (HVal.pickT rfl hb7 rfl) ?_
      refine HList.nil ?_
      refine nt ?_
      exact ⟨true, ⟨rfl, rfl, rfl, rfl, trivial⟩, h⟩
    · have h := hF hb8
      clear hT hF
      refine HList.gvals (v := (Sl.v p1)) rfl rfl rfl rfl (congrArg Value.bool hb8) (HVal.move' rfl) ?_
      refine HList.gvals (v := (.int .i64 ((p1).n : Int))) rfl rfl rfl rfl (congrArg Value.bool hb8) (HVal.len Tryd.runUnderlying22 rfl) ?_
      refine HList.gvals (v := (Sl.v p0)) rfl rfl rfl rfl (congrArg Value.bool hb8) (HVal.move' rfl) ?_
      refine HList.gvals (v := (.int .i64 ((p0).n : Int))) rfl rfl rfl rfl (congrArg Value.bool hb8) (HVal.len Tryd.runUnderlying22 rfl) ?_
      refine HList.gvals (v := (.bool (decide (((p1).n : Int) < ((p0).n : Int))))) rfl rfl rfl rfl (congrArg Value.bool hb8) (HVal.lss rfl rfl) ?_
      refine HList.vals (v := (.bool (decide (((p1).n : Int) < ((p0).n : Int))))) rfl (HVal.pickF rfl hb8 rfl) ?_
      refine HList.nil ?_
      refine nt ?_
      exact ⟨(decide (((p1).n : Int) < ((p0).n : Int))), ⟨rfl, rfl, rfl, rfl, trivial⟩, h⟩
  · rintro ρ H_1 ⟨y9, hI, h⟩
    obtain ⟨ρ0, rfl⟩ : ∃ ρ0, ρ = (Env.set (Env.set (Env.set (Env.set ρ0 18 (.bool y9)) 5 (.int .i64 r3)) 1 (Sl.v p1)) 0 (Sl.v p0)) := ⟨ρ, hI.eq⟩
    clear hI; unfold F37_1 at h
    obtain ⟨hT, hF⟩ := h
    refine HW.cond y9 rfl (fun hb10 => ?_) (fun hb10 => ?_)
    · have h := hT hb10
      clear hT hF
      refine HW.seq ?_
      refine HW.region ?_
      refine HList.vals (v := (.bool false)) rfl (HVal.assign' rfl) ?_
      refine HList.nil ?_
      refine nt ?_
      refine HW.ret ?_
      refine tr ?_
      exact ⟨_, resOf1 rfl Res1.t, ⟨false, rfl, h⟩⟩
    · have h := hF hb10
      clear hT hF
      refine HW.skip ?_
      refine nt ?_
      refine HW.seq ?_
      refine HW.seq ?_
      refine HW.region ?_
      refine HList.vals (v := (.int .i64 r3)) rfl (HVal.move' rfl) ?_
      refine HList.vals (v := (Sl.v p0)) rfl (HVal.move' rfl) ?_
      refine HList.vals (v := (.int .i64 ((p0).n : Int))) rfl (HVal.len Tryd.runUnderlying22 rfl) ?_
      refine HList.vals (v := (.bool (decide (r3 = ((p0).n : Int))))) rfl (HVal.eqlI rfl rfl) ?_
      refine HList.nil ?_
      refine nt ?_
      obtain ⟨hT, hF⟩ := h
      refine HW.cond (decide (r3 = ((p0).n : Int))) rfl (fun hb11 => ?_) (fun hb11 => ?_)
      · have h := hT hb11
        clear hT hF
        refine HW.seq ?_
        refine HW.region ?_
        refine HList.vals (v := (.bool true)) rfl (HVal.assign' rfl) ?_
        refine HList.nil ?_
        refine nt ?_
        refine HW.ret ?_
        refine tr ?_
        exact ⟨_, resOf1 rfl Res1.t, ⟨true, rfl, h⟩⟩
      · have h := hF hb11
        clear hT hF
        refine HW.skip ?_
        refine nt ?_
        refine HW.seq ?_
        refine HW.draw mixed [(0, some []), (1, some []), (2, some []), (3, some []), (4, some []), (5, some []), (6, some []), (7, some []), (8, some []), (9, some []), (10, some []), (11, some []), (12, some []), (13, some []), (14, some []), (15, some []), (16, some []), (17, some []), (18, some []), (19, some []), (20, some []), (21, some []), (22, some []), (23, some [])] rfl (by kernel_rfl) (by kernel_rfl) ?_
        refine HPlan.takev (v := (Sl.v p0)) rfl rfl (fun _ => HVal.move' rfl) ?_
        refine HPlan.takev (v := (.int .i64 ((p0).n : Int))) rfl rfl (fun _ => HVal.len Tryd.runUnderlying22 rfl) ?_
        refine HPlan.takev (v := (Sl.v p1)) rfl rfl (fun _ => HVal.move' rfl) ?_
        refine HPlan.takev (v := (.int .i64 ((p1).n : Int))) rfl rfl (fun _ => HVal.len Tryd.runUnderlying22 rfl) ?_
        refine HPlan.takev (v := (.bool (decide (((p0).n : Int) = ((p1).n : Int))))) rfl rfl (fun _ => HVal.eqlI rfl rfl) ?_
        refine HPlan.takev (v := (.bool (decide (((p0).n : Int) = ((p1).n : Int))))) rfl rfl (fun _ => HVal.move' rfl) ?_
        obtain ⟨hT, hF⟩ := h
        rcases Bool.eq_false_or_eq_true (decide (((p0).n : Int) = ((p1).n : Int))) with hb12 | hb13
        · have h := hT hb12
          clear hT hF
          refine HPlan.gtakev (v := (.int .i64 r3)) rfl rfl rfl rfl rfl (congrArg Value.bool hb12) (fun _ => HVal.move' rfl) ?_
          refine HPlan.gtakev (v := (Sl.v p0)) rfl rfl rfl rfl rfl (congrArg Value.bool hb12) (fun _ => HVal.move' rfl) ?_
          refine HPlan.gtakev (v := (.int .i64 ((p0).n : Int))) rfl rfl rfl rfl rfl (congrArg Value.bool hb12) (fun _ => HVal.len Tryd.runUnderlying22 rfl) ?_
          refine HPlan.gtakev (v := (.int .i64 (IntKind.i64.wrap (((p0).n : Int) - 1)))) rfl rfl rfl rfl rfl (congrArg Value.bool hb12) (fun _ => HVal.sub rfl rfl) ?_
          refine HPlan.gtakev (v := (.bool (decide (r3 = (IntKind.i64.wrap (((p0).n : Int) - 1)))))) rfl rfl rfl rfl rfl (congrArg Value.bool hb12) (fun _ => HVal.eqlI rfl rfl) ?_
          refine HPlan.takev (v := (.bool (decide (r3 = (IntKind.i64.wrap (((p0).n : Int) - 1)))))) rfl rfl (fun _ => HVal.pickT rfl hb12 rfl) ?_
          refine HPlan.takev (v := (.bool (decide (r3 = (IntKind.i64.wrap (((p0).n : Int) - 1)))))) rfl rfl (fun _ => HVal.move' rfl) ?_
          obtain ⟨hT, hF⟩ := h
          rcases Bool.eq_false_or_eq_true (decide (r3 = (IntKind.i64.wrap (((p0).n : Int) - 1)))) with hb14 | hb15
          · have h := hT hb14
            clear hT hF
            refine HPlan.gtakev (v := (Sl.v p1)) rfl rfl rfl rfl rfl (congrArg Value.bool hb14) (fun _ => HVal.move' rfl) ?_
            refine HPlan.gtakev (v := (.int .i64 r3)) rfl rfl rfl rfl rfl (congrArg Value.bool hb14) (fun _ => HVal.move' rfl) ?_
            obtain ⟨a16, e17, b18, b19, h⟩ := h
            refine HPlan.gtakev (v := (.pointer (some (Addr.add a16 (r3.toNat * 1))))) rfl rfl rfl rfl rfl (congrArg Value.bool hb14) (fun _ => HVal.indexAddr Tryd.runUnderlying22 Tryd.sizeOf3 (Sl.v_some rfl e17) rfl b18 b19) ?_
            obtain ⟨x21, c20, h⟩ := h
            refine HPlan.gtakel (v := (.int .i64 x21)) (fun X => cell X (Addr.add a16 (r3.toNat * 1)) = some (.int .i64 x21)) rfl rfl rfl rfl rfl (congrArg Value.bool hb14) (fun _ hX => HVal.load1 Tryd.isAgg3 rfl hX) c20 ?_
            refine HPlan.gtakev (v := (Sl.v p0)) rfl rfl rfl rfl rfl (congrArg Value.bool hb14) (fun _ => HVal.move' rfl) ?_
            refine HPlan.gtakev (v := (.int .i64 r3)) rfl rfl rfl rfl rfl (congrArg Value.bool hb14) (fun _ => HVal.move' rfl) ?_
            obtain ⟨a22, e23, b24, b25, h⟩ := h
            refine HPlan.gtakev (v := (.pointer (some (Addr.add a22 (r3.toNat * 1))))) rfl rfl rfl rfl rfl (congrArg Value.bool hb14) (fun _ => HVal.indexAddr Tryd.runUnderlying22 Tryd.sizeOf3 (Sl.v_some rfl e23) rfl b24 b25) ?_
            obtain ⟨x27, c26, h⟩ := h
            refine HPlan.gtakel (v := (.int .i64 x27)) (fun X => cell X (Addr.add a22 (r3.toNat * 1)) = some (.int .i64 x27)) rfl rfl rfl rfl rfl (congrArg Value.bool hb14) (fun _ hX => HVal.load1 Tryd.isAgg3 rfl hX) c26 ?_
            refine HPlan.gtakev (v := (.bool (decide (x27 < x21)))) rfl rfl rfl rfl rfl (congrArg Value.bool hb14) (fun _ => HVal.gtr rfl rfl) ?_
            refine HPlan.takev (v := (.bool (decide (x27 < x21)))) rfl rfl (fun _ => HVal.pickT rfl hb14 rfl) ?_
            refine HPlan.takev (v := (.bool (decide (x27 < x21)))) rfl rfl (fun _ => HVal.assign' rfl) ?_
            refine HPlan.done ?_
            refine nt ?_
            refine HW.ret ?_
            exact ⟨_, resOf1 rfl Res1.t, ⟨(decide (x27 < x21)), rfl, h⟩⟩
          · have h := hF hb15
            clear hT hF
            refine HPlan.takegskip rfl rfl rfl rfl (congrArg Value.bool hb15) ?_
            refine HPlan.takegskip rfl rfl rfl rfl (congrArg Value.bool hb15) ?_
            refine HPlan.takegskip rfl rfl rfl rfl (congrArg Value.bool hb15) ?_
            refine HPlan.takegskip rfl rfl rfl rfl (congrArg Value.bool hb15) ?_
            refine HPlan.takegskip rfl rfl rfl rfl (congrArg Value.bool hb15) ?_
            refine HPlan.takegskip rfl rfl rfl rfl (congrArg Value.bool hb15) ?_
            refine HPlan.takegskip rfl rfl rfl rfl (congrArg Value.bool hb15) ?_
            refine HPlan.takegskip rfl rfl rfl rfl (congrArg Value.bool hb15) ?_
            refine HPlan.takegskip rfl rfl rfl rfl (congrArg Value.bool hb15) ?_
            refine HPlan.takev (v := (.bool false)) rfl rfl (fun _ => HVal.pickF rfl hb15 rfl) ?_
            refine HPlan.takev (v := (.bool false)) rfl rfl (fun _ => HVal.assign' rfl) ?_
            refine HPlan.done ?_
            refine nt ?_
            refine HW.ret ?_
            exact ⟨_, resOf1 rfl Res1.t, ⟨false, rfl, h⟩⟩
        · have h := hF hb13
          clear hT hF
          refine HPlan.takegskip rfl rfl rfl rfl (congrArg Value.bool hb13) ?_
          refine HPlan.takegskip rfl rfl rfl rfl (congrArg Value.bool hb13) ?_
          refine HPlan.takegskip rfl rfl rfl rfl (congrArg Value.bool hb13) ?_
          refine HPlan.takegskip rfl rfl rfl rfl (congrArg Value.bool hb13) ?_
          refine HPlan.takegskip rfl rfl rfl rfl (congrArg Value.bool hb13) ?_
          refine HPlan.takev (v := (.bool false)) rfl rfl (fun _ => HVal.pickF rfl hb13 rfl) ?_
          refine HPlan.takev (v := (.bool false)) rfl rfl (fun _ => HVal.move' rfl) ?_
          refine HPlan.takegskip rfl rfl rfl rfl rfl ?_
          refine HPlan.takegskip rfl rfl rfl rfl rfl ?_
          refine HPlan.takegskip rfl rfl rfl rfl rfl ?_
          refine HPlan.takegskip rfl rfl rfl rfl rfl ?_
          refine HPlan.takegskip rfl rfl rfl rfl rfl ?_
          refine HPlan.takegskip rfl rfl rfl rfl rfl ?_
          refine HPlan.takegskip rfl rfl rfl rfl rfl ?_
          refine HPlan.takegskip rfl rfl rfl rfl rfl ?_
          refine HPlan.takegskip rfl rfl rfl rfl rfl ?_
          refine HPlan.takev (v := (.bool false)) rfl rfl (fun _ => HVal.pickF rfl rfl rfl) ?_
          refine HPlan.takev (v := (.bool false)) rfl rfl (fun _ => HVal.assign' rfl) ?_
          refine HPlan.done ?_
          refine nt ?_
          refine HW.ret ?_
          exact ⟨_, resOf1 rfl Res1.t, ⟨false, rfl, h⟩⟩

def F38_2 (Q : Int → Hp → Prop) (y14 : Bool) (H_2 : Hp) : Prop :=
(y14 = true → (Q 1 H_2)) ∧
 (y14 = false → (Q (-1) H_2))
def F38_1 (Q : Int → Hp → Prop) (y4 : Sl) (y5 : Sl) (y6 : Int) (y9 : Bool) (H_1 : Hp) : Prop :=
(y9 = true → (Q 0 H_1)) ∧
 (y9 = false → (((decide (y6 = ((y4).n : Int))) = true → (Q (-1) H_1)) ∧
 ((decide (y6 = ((y4).n : Int))) = false → (((decide (y6 = ((y5).n : Int))) = true → (F38_2 Q true H_1)) ∧
 ((decide (y6 = ((y5).n : Int))) = false → (∃ a15 : Addr, (y4).b = some a15 ∧ (0 : Int) ≤ y6 ∧ y6 < ((y4).n : Int) ∧ (
 ∃ x20 : Int, cell H_1 (Addr.add a15 (y6.toNat * 1)) = some (.int .i64 x20) ∧ (
 ∃ a21 : Addr, (y5).b = some a21 ∧ (0 : Int) ≤ y6 ∧ y6 < ((y5).n : Int) ∧ (
 ∃ x26 : Int, cell H_1 (Addr.add a21 (y6.toNat * 1)) = some (.int .i64 x26) ∧ (
 F38_2 Q (decide (x26 < x20)) H_1))))))))))
def F38 (p0 : Sl) (p1 : Sl) (H : Hp) (Q : Int → Hp → Prop) : Prop :=
F46 p0 p1 H (fun (r3 : Int) (H1 : Hp) => 
 ((decide (r3 = ((p0).n : Int))) = true → (F38_1 Q p0 p1 r3 (decide (r3 = ((p1).n : Int))) H1)) ∧
 ((decide (r3 = ((p0).n : Int))) = false → (F38_1 Q p0 p1 r3 false H1)))
set_option maxRecDepth 100000 in
set_option maxHeartbeats 4000000 in
theorem walk38 {w0 : World} {p0 : Sl} {p1 : Sl} {H : Hp} {Q : Int → Hp → Prop} (h : F38 p0 p1 H Q) :
    Good Tryd.prog w0 38 #[(Sl.v p0), (Sl.v p1)] H (fun v H => ∃ (r0 : Int) , v = (.int .i64 r0) ∧ Q r0 H) := by
  unfold F38 at h
  refine Good.enter' (fn := Tryd.f38) Tryd.func38 rfl rfl rfl ?_
  refine HW.seq ?_
  refine HW.region ?_
  refine HList.vals (v := (.int .i64 0)) rfl (HVal.assign' rfl) ?_
  refine HList.nil ?_
  refine nt ?_
  refine HW.seq ?_
  refine HW.region ?_
  refine HList.vals (v := (Sl.v p0)) rfl (HVal.move' rfl) ?_
  refine HList.vals (v := (Sl.v p1)) rfl (HVal.move' rfl) ?_
  refine HList.ops' rfl (HOp.call' 46 [(Sl.v p0), (Sl.v p1)] (cap := []) rfl rfl Tryd.call46 (walk46 h)) ?_
  rintro _ H1 ⟨r3, rfl, h⟩
  refine HList.vals (v := (.int .i64 r3)) rfl (HVal.assign' rfl) ?_
  refine HList.nil ?_
  refine nt ?_
  refine HW.seq ?_
  refine HW.cut (fun ρ H_1 => ∃ (y9 : Bool), Env.Is ρ [(0, (Sl.v p0)), (1, (Sl.v p1)), (5, (.int .i64 r3)), (18, (.bool y9))] ∧ F38_1 Q p0 p1 r3 y9 H_1) ?_ ?_
  · refine HW.region ?_
    refine HList.vals (v := (.int .i64 r3)) rfl (HVal.move' rfl) ?_
    refine HList.vals (v := (Sl.v p0)) rfl (HVal.move' rfl) ?_
    refine HList.vals (v := (.int .i64 ((p0).n : Int))) rfl (HVal.len Tryd.runUnderlying22 rfl) ?_
    refine HList.vals (v := (.bool (decide (r3 = ((p0).n : Int))))) rfl (HVal.eqlI rfl rfl) ?_
    refine HList.vals (v := (.bool (decide (r3 = ((p0).n : Int))))) rfl (HVal.move' rfl) ?_
    obtain ⟨hT, hF⟩ := h
    rcases Bool.eq_false_or_eq_true (decide (r3 = ((p0).n : Int))) with hb7 | hb8
    · have h := hT hb7
      clear hT hF
      refine HList.gvals (v := (.int .i64 r3)) rfl rfl rfl rfl (congrArg Value.bool hb7) (HVal.move' rfl) ?_
      refine HList.gvals (v := (Sl.v p1)) rfl rfl rfl rfl (congrArg Value.bool hb7) (HVal.move' rfl) ?_
      refine HList.gvals (v := (.int .i64 ((p1).n : Int))) rfl rfl rfl rfl (congrArg Value.bool hb7) (HVal.len Tryd.runUnderlying22 rfl) ?_
      refine HList.gvals (v := (.bool (decide (r3 = ((p1).n : Int))))) rfl rfl rfl rfl (congrArg Value.bool hb7) (HVal.eqlI rfl rfl) ?_
      refine HList.vals (v := (.bool (decide (r3 = ((p1).n : Int))))) rfl (HVal.pickT rfl hb7 rfl) ?_
      refine HList.nil ?_
      refine nt ?_
      exact ⟨(decide (r3 = ((p1).n : Int))), ⟨rfl, rfl, rfl, rfl, trivial⟩, h⟩
    · have h := hF hb8
      clear hT hF
      refine HList.gskips rfl rfl rfl rfl (congrArg Value.bool hb8) ?_
      refine HList.gskips rfl rfl rfl rfl (congrArg Value.bool hb8) ?_
      refine HList.gskips rfl rfl rfl rfl (congrArg Value.bool hb8) ?_
      refine HList.gskips rfl rfl rfl rfl (congrArg Value.bool hb8) ?_
      refine HList.vals (v := (.bool false)) rfl (HVal.pickF rfl hb8 rfl) ?_
      refine HList.nil ?_
      refine nt ?_
      exact ⟨false, ⟨rfl, rfl, rfl, rfl, trivial⟩, h⟩
  · rintro ρ H_1 ⟨y9, hI, h⟩
    obtain ⟨ρ0, rfl⟩ : ∃ ρ0, ρ = (Env.set (Env.set (Env.set (Env.set ρ0 18 (.bool y9)) 5 (.int .i64 r3)) 1 (Sl.v p1)) 0 (Sl.v p0)) := ⟨ρ, hI.eq⟩
    clear hI; unfold F38_1 at h
    obtain ⟨hT, hF⟩ := h
    refine HW.cond y9 rfl (fun hb10 => ?_) (fun hb10 => ?_)
    · have h := hT hb10
      clear hT hF
      refine HW.seq ?_
      refine HW.region ?_
      refine HList.vals (v := (.int .i64 0)) rfl (HVal.assign' rfl) ?_
      refine HList.nil ?_
      refine nt ?_
      refine HW.ret ?_
      refine tr ?_
      exact ⟨_, resOf1 rfl Res1.t, ⟨0, rfl, h⟩⟩
    · have h := hF hb10
      clear hT hF
      refine HW.skip ?_
      refine nt ?_
      refine HW.seq ?_
      refine HW.seq ?_
      refine HW.region ?_
      refine HList.vals (v := (.int .i64 r3)) rfl (HVal.move' rfl) ?_
      refine HList.vals (v := (Sl.v p0)) rfl (HVal.move' rfl) ?_
      refine HList.vals (v := (.int .i64 ((p0).n : Int))) rfl (HVal.len Tryd.runUnderlying22 rfl) ?_
      refine HList.vals (v := (.bool (decide (r3 = ((p0).n : Int))))) rfl (HVal.eqlI rfl rfl) ?_
      refine HList.nil ?_
      refine nt ?_
      obtain ⟨hT, hF⟩ := h
      refine HW.cond (decide (r3 = ((p0).n : Int))) rfl (fun hb11 => ?_) (fun hb11 => ?_)
      · have h := hT hb11
        clear hT hF
        refine HW.seq ?_
        refine HW.region ?_
        refine HList.vals (v := (.int .i64 (-1))) rfl (HVal.assign' rfl) ?_
        refine HList.nil ?_
        refine nt ?_
        refine HW.ret ?_
        refine tr ?_
        exact ⟨_, resOf1 rfl Res1.t, ⟨(-1), rfl, h⟩⟩
      · have h := hF hb11
        clear hT hF
        refine HW.skip ?_
        refine nt ?_
        refine HW.seq ?_
        refine HW.cut (fun ρ H_2 => ∃ (y14 : Bool), Env.Is ρ [(37, (.bool y14))] ∧ F38_2 Q y14 H_2) ?_ ?_
        · refine HW.draw mixed [(0, some []), (1, some []), (2, some []), (3, some []), (4, some []), (5, some []), (6, some []), (7, some []), (8, some []), (9, some []), (10, some []), (11, some []), (12, some []), (13, some []), (14, some [])] rfl (by kernel_rfl) (by kernel_rfl) ?_
          refine HPlan.takev (v := (.int .i64 r3)) rfl rfl (fun _ => HVal.move' rfl) ?_
          refine HPlan.takev (v := (Sl.v p1)) rfl rfl (fun _ => HVal.move' rfl) ?_
          refine HPlan.takev (v := (.int .i64 ((p1).n : Int))) rfl rfl (fun _ => HVal.len Tryd.runUnderlying22 rfl) ?_
          refine HPlan.takev (v := (.bool (decide (r3 = ((p1).n : Int))))) rfl rfl (fun _ => HVal.eqlI rfl rfl) ?_
          refine HPlan.takev (v := (.bool (decide (r3 = ((p1).n : Int))))) rfl rfl (fun _ => HVal.move' rfl) ?_
          obtain ⟨hT, hF⟩ := h
          rcases Bool.eq_false_or_eq_true (decide (r3 = ((p1).n : Int))) with hb12 | hb13
          · have h := hT hb12
            clear hT hF
            refine HPlan.takegskip rfl rfl rfl rfl (congrArg Value.bool hb12) ?_
            refine HPlan.takegskip rfl rfl rfl rfl (congrArg Value.bool hb12) ?_
            refine HPlan.takegskip rfl rfl rfl rfl (congrArg Value.bool hb12) ?_
            refine HPlan.takegskip rfl rfl rfl rfl (congrArg Value.bool hb12) ?_
            refine HPlan.takegskip rfl rfl rfl rfl (congrArg Value.bool hb12) ?_
            refine HPlan.takegskip rfl rfl rfl rfl (congrArg Value.bool hb12) ?_
            refine HPlan.takegskip rfl rfl rfl rfl (congrArg Value.bool hb12) ?_
            refine HPlan.takegskip rfl rfl rfl rfl (congrArg Value.bool hb12) ?_
            refine HPlan.takegskip rfl rfl rfl rfl (congrArg Value.bool hb12) ?_
            refine HPlan.takev (v := (.bool true)) rfl rfl (fun _ => HVal.pickT rfl hb12 rfl) ?_
            refine HPlan.done ?_
            refine nt ?_
            exact ⟨true, ⟨rfl, trivial⟩, h⟩
          · have h := hF hb13
            clear hT hF
            refine HPlan.gtakev (v := (Sl.v p0)) rfl rfl rfl rfl rfl (congrArg Value.bool hb13) (fun _ => HVal.move' rfl) ?_
            refine HPlan.gtakev (v := (.int .i64 r3)) rfl rfl rfl rfl rfl (congrArg Value.bool hb13) (fun _ => HVal.move' rfl) ?_
            obtain ⟨a15, e16, b17, b18, h⟩ := h
            refine HPlan.gtakev (v := (.pointer (some (Addr.add a15 (r3.toNat * 1))))) rfl rfl rfl rfl rfl (congrArg Value.bool hb13) (fun _ => HVal.indexAddr Tryd.runUnderlying22 Tryd.sizeOf3 (Sl.v_some rfl e16) rfl b17 b18) ?_
            obtain ⟨x20, c19, h⟩ := h
            refine HPlan.gtakel (v := (.int .i64 x20)) (fun X => cell X (Addr.add a15 (r3.toNat * 1)) = some (.int .i64 x20)) rfl rfl rfl rfl rfl (congrArg Value.bool hb13) (fun _ hX => HVal.load1 Tryd.isAgg3 rfl hX) c19 ?_
            refine HPlan.gtakev (v := (Sl.v p1)) rfl rfl rfl rfl rfl (congrArg Value.bool hb13) (fun _ => HVal.move' rfl) ?_
            refine HPlan.gtakev (v := (.int .i64 r3)) rfl rfl rfl rfl rfl (congrArg Value.bool hb13) (fun _ => HVal.move' rfl) ?_
            obtain ⟨a21, e22, b23, b24, h⟩ := h
            refine HPlan.gtakev (v := (.pointer (some (Addr.add a21 (r3.toNat * 1))))) rfl rfl rfl rfl rfl (congrArg Value.bool hb13) (fun _ => HVal.indexAddr Tryd.runUnderlying22 Tryd.sizeOf3 (Sl.v_some rfl e22) rfl b23 b24) ?_
            obtain ⟨x26, c25, h⟩ := h
            refine HPlan.gtakel (v := (.int .i64 x26)) (fun X => cell X (Addr.add a21 (r3.toNat * 1)) = some (.int .i64 x26)) rfl rfl rfl rfl rfl (congrArg Value.bool hb13) (fun _ hX => HVal.load1 Tryd.isAgg3 rfl hX) c25 ?_
            refine HPlan.gtakev (v := (.bool (decide (x26 < x20)))) rfl rfl rfl rfl rfl (congrArg Value.bool hb13) (fun _ => HVal.gtr rfl rfl) ?_
            refine HPlan.takev (v := (.bool (decide (x26 < x20)))) rfl rfl (fun _ => HVal.pickF rfl hb13 rfl) ?_
            refine HPlan.done ?_
            refine nt ?_
            exact ⟨(decide (x26 < x20)), ⟨rfl, trivial⟩, h⟩
        · rintro ρ H_2 ⟨y14, hI, h⟩
          obtain ⟨ρ0, rfl⟩ : ∃ ρ0, ρ = (Env.set ρ0 37 (.bool y14)) := ⟨ρ, hI.eq⟩
          clear hI; unfold F38_2 at h
          obtain ⟨hT, hF⟩ := h
          refine HW.cond y14 rfl (fun hb27 => ?_) (fun hb27 => ?_)
          · have h := hT hb27
            clear hT hF
            refine HW.seq ?_
            refine HW.region ?_
            refine HList.vals (v := (.int .i64 1)) rfl (HVal.assign' rfl) ?_
            refine HList.nil ?_
            refine nt ?_
            refine HW.ret ?_
            refine tr ?_
            exact ⟨_, resOf1 rfl Res1.t, ⟨1, rfl, h⟩⟩
          · have h := hF hb27
            clear hT hF
            refine HW.skip ?_
            refine nt ?_
            refine HW.seq ?_
            refine HW.region ?_
            refine HList.vals (v := (.int .i64 (-1))) rfl (HVal.assign' rfl) ?_
            refine HList.nil ?_
            refine nt ?_
            refine HW.ret ?_
            exact ⟨_, resOf1 rfl Res1.t, ⟨(-1), rfl, h⟩⟩

def F39_1 (Q : ByteArray → Int → Hp → Prop) (y29 : ByteArray) (H_1 : Hp) : Prop :=
Q y29 0 H_1
def F39_L2b (Q : ByteArray → Int → Hp → Prop) (X2 : ByteArray → Int → Hp → Prop) (y16 : Sl) (y14 : ByteArray) (y15 : Int) (H_2 : Hp) : Prop :=
((decide (y15 < ((y16).n : Int))) = true → ((y14).size + (S__).size ≤ 9223372036854775807 ∧ (
 ∃ a19 : Addr, (y16).b = some a19 ∧ (0 : Int) ≤ y15 ∧ y15 < ((y16).n : Int) ∧ (
 ∃ x24 : Int, cell H_2 (Addr.add a19 (y15.toNat * 1)) = some (.int .i64 x24) ∧ (
 F47 x24 H_2 (fun (r27 : ByteArray) (H25 : Hp) => 
 ((y14 ++ S__)).size + (r27).size ≤ 9223372036854775807 ∧ (
 X2 ((y14 ++ S__) ++ r27) (IntKind.i64.wrap (y15 + 1)) H25))))))) ∧
 ((decide (y15 < ((y16).n : Int))) = false → (F39_1 Q y14 H_2))
def F39_L2 (Q : ByteArray → Int → Hp → Prop) (y16 : Sl) (y14 : ByteArray) (y15 : Int) (H_2 : Hp) : Prop :=
  ∀ X2 : ByteArray → Int → Hp → Prop, (∀ (y14 : ByteArray) (y15 : Int) (H_2 : Hp), F39_L2b Q X2 y16 y14 y15 H_2 → X2 y14 y15 H_2) → X2 y14 y15 H_2
def F39 (p0 : Sl) (H : Hp) (Q : ByteArray → Int → Hp → Prop) : Prop :=
F45 p0 H (fun (r3 : Bool) (H1 : Hp) => 
 ((!r3) = true → (Q (ByteArray.mk #[]) 120 H1)) ∧
 ((!r3) = false → (∃ a5 : Addr, (p0).b = some a5 ∧ (0 : Int) ≤ 0 ∧ (0 : Int) < ((p0).n : Int) ∧ (
 ∃ x10 : Int, cell H1 (Addr.add a5 ((0 : Int).toNat * 1)) = some (.int .i64 x10) ∧ (
 F47 x10 H1 (fun (r13 : ByteArray) (H11 : Hp) => 
 F39_L2 Q p0 r13 1 H11))))))
set_option maxRecDepth 100000 in
set_option maxHeartbeats 4000000 in
theorem walk39 {w0 : World} {p0 : Sl} {H : Hp} {Q : ByteArray → Int → Hp → Prop} (h : F39 p0 H Q) :
    Good Tryd.prog w0 39 #[(Sl.v p0)] H (fun v H => ∃ (r0 : ByteArray) (r1 : Int) , v = (.tuple #[(.string r0), (.int .i64 r1)]) ∧ Q r0 r1 H) := by
  unfold F39 at h
  refine Good.enter' (fn := Tryd.f39) Tryd.func39 rfl rfl rfl ?_
  refine HW.seq ?_
  refine HW.region ?_
  refine HList.vals (v := (.string (ByteArray.mk #[]))) rfl (HVal.assign' rfl) ?_
  refine HList.vals (v := (.int .i64 0)) rfl (HVal.assign' rfl) ?_
  refine HList.nil ?_
  refine nt ?_
  refine HW.seq ?_
  refine HW.seq ?_
  refine HW.region ?_
  refine HList.vals (v := (Sl.v p0)) rfl (HVal.move' rfl) ?_
  refine HList.ops' rfl (HOp.call' 45 [(Sl.v p0)] (cap := []) rfl rfl Tryd.call45 (walk45 h)) ?_
  rintro _ H1 ⟨r3, rfl, h⟩
  refine HList.vals (v := (.bool (!r3))) rfl (HVal.not rfl) ?_
  refine HList.nil ?_
  refine nt ?_
  obtain ⟨hT, hF⟩ := h
  refine HW.cond (!r3) rfl (fun hb4 => ?_) (fun hb4 => ?_)
  · have h := hT hb4
    clear hT hF
    refine HW.seq ?_
    refine HW.region ?_
    refine HList.vals (v := (.string (ByteArray.mk #[]))) rfl (HVal.assign' rfl) ?_
    refine HList.vals (v := (.int .i64 120)) rfl (HVal.assign' rfl) ?_
    refine HList.nil ?_
    refine nt ?_
    refine HW.ret ?_
    refine tr ?_
    exact ⟨_, resOf2 rfl Res1.t Res1.t, ⟨(ByteArray.mk #[]), 120, rfl, h⟩⟩
  · have h := hF hb4
    clear hT hF
    refine HW.skip ?_
    refine nt ?_
    refine HW.seq ?_
    refine HW.region ?_
    refine HList.vals (v := (Sl.v p0)) rfl (HVal.move' rfl) ?_
    obtain ⟨a5, e6, b7, b8, h⟩ := h
    refine HList.vals (v := (.pointer (some (Addr.add a5 ((0 : Int).toNat * 1))))) rfl (HVal.indexAddr Tryd.runUnderlying22 Tryd.sizeOf3 (Sl.v_some rfl e6) rfl b7 b8) ?_
    obtain ⟨x10, c9, h⟩ := h
    refine HList.vals (v := (.int .i64 x10)) rfl (HVal.load1 Tryd.isAgg3 rfl c9) ?_
    refine HList.ops' rfl (HOp.call' 47 [(.int .i64 x10)] (cap := []) rfl rfl Tryd.call47 (walk47 h)) ?_
    rintro _ H11 ⟨r13, rfl, h⟩
    refine HList.vals (v := (.string r13)) rfl (HVal.assign' rfl) ?_
    refine HList.nil ?_
    refine nt ?_
    refine HW.cut (fun ρ H_1 => ∃ (y29 : ByteArray), Env.Is ρ [(4, (.string y29))] ∧ F39_1 Q y29 H_1) ?_ ?_
    · refine HW.seq ?_
      refine HW.region ?_
      refine HList.vals (v := (.int .i64 1)) rfl (HVal.assign' rfl) ?_
      refine HList.nil ?_
      refine nt ?_
      refine HW.block ?_
      refine HW.loop' (fun L2 hL2 => ?_)
      obtain ⟨X2, hX2⟩ : ∃ X2 : ByteArray → Int → Hp → Prop, ∀ (y14 : ByteArray) (y15 : Int) (H_2 : Hp), X2 y14 y15 H_2 ↔ ∀ ρ, Env.Is ρ [(0, (Sl.v p0)), (4, (.string y14)), (5, (.int .i64 y15))] → L2 ρ H_2 := ⟨_, fun _ _ _ => Iff.rfl⟩
      refine (hX2 _ _ _).1 (h X2 ?_) _ ?_
      rotate_left
      · exact ⟨rfl, rfl, rfl, trivial⟩
      clear h
      intro y14 y15 H_2 h
      refine (hX2 _ _ _).2 fun ρ hI => ?_
      obtain ⟨ρ0, rfl⟩ : ∃ ρ0, ρ = (Env.set (Env.set (Env.set ρ0 5 (.int .i64 y15)) 4 (.string y14)) 0 (Sl.v p0)) := ⟨ρ, hI.eq⟩
      clear hI; unfold F39_L2b at h; refine hL2 _ _ ?_
      refine HW.seq ?_
      refine HW.seq ?_
      refine HW.region ?_
      refine HList.vals (v := (.int .i64 y15)) rfl (HVal.move' rfl) ?_
      refine HList.vals (v := (Sl.v p0)) rfl (HVal.move' rfl) ?_
      refine HList.vals (v := (.int .i64 ((p0).n : Int))) rfl (HVal.len Tryd.runUnderlying22 rfl) ?_
      refine HList.vals (v := (.bool (decide (y15 < ((p0).n : Int))))) rfl (HVal.lss rfl rfl) ?_
      refine HList.nil ?_
      refine nt ?_
      obtain ⟨hT, hF⟩ := h
      refine HW.cond (decide (y15 < ((p0).n : Int))) rfl (fun hb17 => ?_) (fun hb17 => ?_)
      · have h := hT hb17
        clear hT hF
        refine HW.skip ?_
        refine nt ?_
        refine HW.seq ?_
        refine HW.block ?_
        refine HW.region ?_
        refine HList.vals (v := (.string y14)) rfl (HVal.move' rfl) ?_
        obtain ⟨z18, h⟩ := h
        refine HList.vals (v := (.string (y14 ++ S__))) rfl (HVal.addS rfl rfl z18) ?_
        refine HList.vals (v := (Sl.v p0)) rfl (HVal.move' rfl) ?_
        refine HList.vals (v := (.int .i64 y15)) rfl (HVal.move' rfl) ?_
        obtain ⟨a19, e20, b21, b22, h⟩ := h
        refine HList.vals (v := (.pointer (some (Addr.add a19 (y15.toNat * 1))))) rfl (HVal.indexAddr Tryd.runUnderlying22 Tryd.sizeOf3 (Sl.v_some rfl e20) rfl b21 b22) ?_
        obtain ⟨x24, c23, h⟩ := h
        refine HList.vals (v := (.int .i64 x24)) rfl (HVal.load1 Tryd.isAgg3 rfl c23) ?_
        refine HList.ops' rfl (HOp.call' 47 [(.int .i64 x24)] (cap := []) rfl rfl Tryd.call47 (walk47 h)) ?_
        rintro _ H25 ⟨r27, rfl, h⟩
        obtain ⟨z28, h⟩ := h
        refine HList.vals (v := (.string ((y14 ++ S__) ++ r27))) rfl (HVal.addS rfl rfl z28) ?_
        refine HList.vals (v := (.string ((y14 ++ S__) ++ r27))) rfl (HVal.assign' rfl) ?_
        refine HList.nil ?_
        refine nb ?_
        refine nt ?_
        refine HW.region ?_
        refine HList.vals (v := (.int .i64 y15)) rfl (HVal.move' rfl) ?_
        refine HList.vals (v := (.int .i64 (IntKind.i64.wrap (y15 + 1)))) rfl (HVal.add rfl rfl) ?_
        refine HList.vals (v := (.int .i64 (IntKind.i64.wrap (y15 + 1)))) rfl (HVal.assign' rfl) ?_
        refine HList.nil ?_
        refine nt ?_
        exact (hX2 _ _ _).1 h _ ⟨rfl, rfl, rfl, trivial⟩
      · have h := hF hb17
        clear hT hF
        refine HW.exit ?_
        refine te ?_
        refine te ?_
        refine be ?_
        refine nt ?_
        exact ⟨y14, ⟨rfl, trivial⟩, h⟩
    · rintro ρ H_1 ⟨y29, hI, h⟩
      obtain ⟨ρ0, rfl⟩ : ∃ ρ0, ρ = (Env.set ρ0 4 (.string y29)) := ⟨ρ, hI.eq⟩
      clear hI; unfold F39_1 at h
      refine HW.seq ?_
      refine HW.region ?_
      refine HList.vals (v := (.string y29)) rfl (HVal.move' rfl) ?_
      refine HList.vals (v := (.string y29)) rfl (HVal.assign' rfl) ?_
      refine HList.vals (v := (.int .i64 0)) rfl (HVal.assign' rfl) ?_
      refine HList.nil ?_
      refine nt ?_
      refine HW.ret ?_
      exact ⟨_, resOf2 rfl Res1.t Res1.t, ⟨y29, 0, rfl, h⟩⟩

def F40_5 (Q : Sl → Int → Hp → Prop) (y47 : Sl) (y50 : Bool) (H_5 : Hp) : Prop :=
(y50 = true → (Q Sl.nil 120 H_5)) ∧
 (y50 = false → (Q y47 0 H_5))
def F40_1 (Q : Sl → Int → Hp → Prop) (y5 : ByteArray) (y42 : Sl) (H_1 : Hp) : Prop :=
F39 y42 H_1 (fun (r45 : ByteArray) (r46 : Int) (H43 : Hp) => 
 ((decide (r46 ≠ 0)) = true → (F40_5 Q y42 true H43)) ∧
 ((decide (r46 ≠ 0)) = false → (F40_5 Q y42 (!(seq r45 y5)) H43)))
def F40_3 (Q : Sl → Int → Hp → Prop) (X2 : Sl → Int → Hp → Prop) (y11 : ByteArray) (y12 : Sl) (y13 : Sl) (y14 : Int) (y36 : Int) (H_3 : Hp) : Prop :=
∀ H37 : Hp, H37 = Array.push H_3 (.cells #[(.int .i64 y36)] 3) → (
 AppendF H37 3 1 8 #[(.int .i64 0)] y12 ((Sl.mk (some ⟨H_3.size, 0, none⟩) 1 1)).b ((Sl.mk (some ⟨H_3.size, 0, none⟩) 1 1)).n (fun (r41 : Sl) (H39 : Hp) => 
 X2 r41 (IntKind.i64.wrap (y14 + 1)) H39))
def F40_L4b (Q : Sl → Int → Hp → Prop) (X2 : Sl → Int → Hp → Prop) (X4 : Int → Int → Hp → Prop) (y17 : ByteArray) (y18 : Sl) (y19 : Sl) (y20 : Int) (y15 : Int) (y16 : Int) (H_4 : Hp) : Prop :=
∃ a21 : Addr, (y19).b = some a21 ∧ (0 : Int) ≤ y20 ∧ y20 < ((y19).n : Int) ∧ (
 ∃ x26 : ByteArray, cell H_4 (Addr.add a21 (y20.toNat * 1)) = some (.string x26) ∧ (
 ((decide (y16 < ((x26).size : Int))) = true → (∃ a28 : Addr, (y19).b = some a28 ∧ (0 : Int) ≤ y20 ∧ y20 < ((y19).n : Int) ∧ (
 ∃ x33 : ByteArray, cell H_4 (Addr.add a28 (y20.toNat * 1)) = some (.string x33) ∧ (
 (0 : Int) ≤ y16 ∧ y16.toNat < (x33).size ∧ (
 X4 (IntKind.i64.wrap ((IntKind.i64.wrap ((IntKind.i64.wrap (y15 * 10)) + (IntKind.i64.wrap (bt x33 y16.toNat)))) - 48)) (IntKind.i64.wrap (y16 + 1)) H_4))))) ∧
 ((decide (y16 < ((x26).size : Int))) = false → (F40_3 Q X2 y17 y18 y19 y20 y15 H_4))))
def F40_L4 (Q : Sl → Int → Hp → Prop) (X2 : Sl → Int → Hp → Prop) (y17 : ByteArray) (y18 : Sl) (y19 : Sl) (y20 : Int) (y15 : Int) (y16 : Int) (H_4 : Hp) : Prop :=
  ∀ X4 : Int → Int → Hp → Prop, (∀ (y15 : Int) (y16 : Int) (H_4 : Hp), F40_L4b Q X2 X4 y17 y18 y19 y20 y15 y16 H_4 → X4 y15 y16 H_4) → X4 y15 y16 H_4
def F40_L2b (Q : Sl → Int → Hp → Prop) (X2 : Sl → Int → Hp → Prop) (y8 : ByteArray) (y9 : Sl) (y6 : Sl) (y7 : Int) (H_2 : Hp) : Prop :=
((decide (y7 < ((y9).n : Int))) = true → (F40_L4 Q X2 y8 y6 y9 y7 0 0 H_2)) ∧
 ((decide (y7 < ((y9).n : Int))) = false → (F40_1 Q y8 y6 H_2))
def F40_L2 (Q : Sl → Int → Hp → Prop) (y8 : ByteArray) (y9 : Sl) (y6 : Sl) (y7 : Int) (H_2 : Hp) : Prop :=
  ∀ X2 : Sl → Int → Hp → Prop, (∀ (y6 : Sl) (y7 : Int) (H_2 : Hp), F40_L2b Q X2 y8 y9 y6 y7 H_2 → X2 y6 y7 H_2) → X2 y6 y7 H_2
def F40 (p0 : ByteArray) (H : Hp) (Q : Sl → Int → Hp → Prop) : Prop :=
((decide ((704 : Int) < ((p0).size : Int))) = true → (Q Sl.nil 120 H)) ∧
 ((decide ((704 : Int) < ((p0).size : Int))) = false → (F48 p0 S__ H (fun (r4 : Sl) (H2 : Hp) => 
 F40_L2 Q p0 r4 Sl.nil 0 H2)))
set_option maxRecDepth 100000 in
set_option maxHeartbeats 4000000 in
theorem walk40 {w0 : World} {p0 : ByteArray} {H : Hp} {Q : Sl → Int → Hp → Prop} (h : F40 p0 H Q) :
    Good Tryd.prog w0 40 #[(.string p0)] H (fun v H => ∃ (r0 : Sl) (r1 : Int) , v = (.tuple #[(Sl.v r0), (.int .i64 r1)]) ∧ Q r0 r1 H) := by
  unfold F40 at h
  refine Good.enter' (fn := Tryd.f40) Tryd.func40 rfl rfl rfl ?_
  refine HW.seq ?_
  refine HW.region ?_
  refine HList.vals (v := (Sl.v Sl.nil)) rfl (HVal.assign' rfl) ?_
  refine HList.vals (v := (.int .i64 0)) rfl (HVal.assign' rfl) ?_
  refine HList.nil ?_
  refine nt ?_
  refine HW.seq ?_
  refine HW.seq ?_
  refine HW.region ?_
  refine HList.vals (v := (.string p0)) rfl (HVal.move' rfl) ?_
  refine HList.vals (v := (.int .i64 ((p0).size : Int))) rfl (HVal.lenS Tryd.runUnderlying9 rfl) ?_
  refine HList.vals (v := (.bool (decide ((704 : Int) < ((p0).size : Int))))) rfl (HVal.gtr rfl rfl) ?_
  refine HList.nil ?_
  refine nt ?_
  obtain ⟨hT, hF⟩ := h
  refine HW.cond (decide ((704 : Int) < ((p0).size : Int))) rfl (fun hb1 => ?_) (fun hb1 => ?_)
  · have h := hT hb1
    clear hT hF
    refine HW.seq ?_
    refine HW.region ?_
    refine HList.vals (v := (Sl.v Sl.nil)) rfl (HVal.assign' rfl) ?_
    refine HList.vals (v := (.int .i64 120)) rfl (HVal.assign' rfl) ?_
    refine HList.nil ?_
    refine nt ?_
    refine HW.ret ?_
    refine tr ?_
    exact ⟨_, resOf2 rfl Res1.t Res1.t, ⟨Sl.nil, 120, rfl, h⟩⟩
  · have h := hF hb1
    clear hT hF
    refine HW.skip ?_
    refine nt ?_
    refine HW.seq ?_
    refine HW.region ?_
    refine HList.vals (v := (Sl.v Sl.nil)) rfl (HVal.assign' rfl) ?_
    refine HList.nil ?_
    refine nt ?_
    refine HW.seq ?_
    refine HW.region ?_
    refine HList.vals (v := (.string p0)) rfl (HVal.move' rfl) ?_
    refine HList.ops' rfl (HOp.call' 48 [(.string p0), (.string S__)] (cap := []) rfl rfl Tryd.call48 (walk48 h)) ?_
    rintro _ H2 ⟨r4, rfl, h⟩
    refine HList.vals (v := (Sl.v r4)) rfl (HVal.assign' rfl) ?_
    refine HList.nil ?_
    refine nt ?_
    refine HW.cut (fun ρ H_1 => ∃ (y42 : Sl), Env.Is ρ [(0, (.string p0)), (4, (Sl.v y42))] ∧ F40_1 Q p0 y42 H_1) ?_ ?_
    · refine HW.seq ?_
      refine HW.region ?_
      refine HList.vals (v := (.int .i64 0)) rfl (HVal.assign' rfl) ?_
      refine HList.nil ?_
      refine nt ?_
      refine HW.block ?_
      refine HW.loop' (fun L2 hL2 => ?_)
      obtain ⟨X2, hX2⟩ : ∃ X2 : Sl → Int → Hp → Prop, ∀ (y6 : Sl) (y7 : Int) (H_2 : Hp), X2 y6 y7 H_2 ↔ ∀ ρ, Env.Is ρ [(0, (.string p0)), (5, (Sl.v r4)), (4, (Sl.v y6)), (6, (.int .i64 y7))] → L2 ρ H_2 := ⟨_, fun _ _ _ => Iff.rfl⟩
      refine (hX2 _ _ _).1 (h X2 ?_) _ ?_
      rotate_left
      · exact ⟨rfl, rfl, rfl, rfl, trivial⟩
      clear h
      intro y6 y7 H_2 h
      refine (hX2 _ _ _).2 fun ρ hI => ?_
      obtain ⟨ρ0, rfl⟩ : ∃ ρ0, ρ = (Env.set (Env.set (Env.set (Env.set ρ0 6 (.int .i64 y7)) 4 (Sl.v y6)) 5 (Sl.v r4)) 0 (.string p0)) := ⟨ρ, hI.eq⟩
      clear hI; unfold F40_L2b at h; refine hL2 _ _ ?_
      refine HW.seq ?_
      refine HW.seq ?_
      refine HW.region ?_
      refine HList.vals (v := (.int .i64 y7)) rfl (HVal.move' rfl) ?_
      refine HList.vals (v := (Sl.v r4)) rfl (HVal.move' rfl) ?_
      refine HList.vals (v := (.int .i64 ((r4).n : Int))) rfl (HVal.len Tryd.runUnderlying61 rfl) ?_
      refine HList.vals (v := (.bool (decide (y7 < ((r4).n : Int))))) rfl (HVal.lss rfl rfl) ?_
      refine HList.nil ?_
      refine nt ?_
      obtain ⟨hT, hF⟩ := h
      refine HW.cond (decide (y7 < ((r4).n : Int))) rfl (fun hb10 => ?_) (fun hb10 => ?_)
      · have h := hT hb10
        clear hT hF
        refine HW.skip ?_
        refine nt ?_
        refine HW.seq ?_
        refine HW.block ?_
        refine HW.seq ?_
        refine HW.region ?_
        refine HList.vals (v := (.int .i64 0)) rfl (HVal.assign' rfl) ?_
        refine HList.nil ?_
        refine nt ?_
        refine HW.cut (fun ρ H_3 => ∃ (y36 : Int), Env.Is ρ [(0, (.string p0)), (4, (Sl.v y6)), (5, (Sl.v r4)), (6, (.int .i64 y7)), (7, (.int .i64 y36))] ∧ F40_3 Q X2 p0 y6 r4 y7 y36 H_3) ?_ ?_
        · refine HW.seq ?_
          refine HW.region ?_
          refine HList.vals (v := (.int .i64 0)) rfl (HVal.assign' rfl) ?_
          refine HList.nil ?_
          refine nt ?_
          refine HW.block ?_
          refine HW.loop' (fun L4 hL4 => ?_)
          obtain ⟨X4, hX4⟩ : ∃ X4 : Int → Int → Hp → Prop, ∀ (y15 : Int) (y16 : Int) (H_4 : Hp), X4 y15 y16 H_4 ↔ ∀ ρ, Env.Is ρ [(0, (.string p0)), (4, (Sl.v y6)), (5, (Sl.v r4)), (6, (.int .i64 y7)), (7, (.int .i64 y15)), (8, (.int .i64 y16))] → L4 ρ H_4 := ⟨_, fun _ _ _ => Iff.rfl⟩
          refine (hX4 _ _ _).1 (h X4 ?_) _ ?_
          rotate_left
          · exact ⟨rfl, rfl, rfl, rfl, rfl, rfl, trivial⟩
          clear h
          intro y15 y16 H_4 h
          refine (hX4 _ _ _).2 fun ρ hI => ?_
          obtain ⟨ρ0, rfl⟩ : ∃ ρ0, ρ = (Env.set (Env.set (Env.set (Env.set (Env.set (Env.set ρ0 8 (.int .i64 y16)) 7 (.int .i64 y15)) 6 (.int .i64 y7)) 5 (Sl.v r4)) 4 (Sl.v y6)) 0 (.string p0)) := ⟨ρ, hI.eq⟩
          clear hI; unfold F40_L4b at h; refine hL4 _ _ ?_
          refine HW.seq ?_
          refine HW.seq ?_
          refine HW.region ?_
          refine HList.vals (v := (.int .i64 y16)) rfl (HVal.move' rfl) ?_
          refine HList.vals (v := (Sl.v r4)) rfl (HVal.move' rfl) ?_
          refine HList.vals (v := (.int .i64 y7)) rfl (HVal.move' rfl) ?_
          obtain ⟨a21, e22, b23, b24, h⟩ := h
          refine HList.vals (v := (.pointer (some (Addr.add a21 (y7.toNat * 1))))) rfl (HVal.indexAddr Tryd.runUnderlying61 Tryd.sizeOf9 (Sl.v_some rfl e22) rfl b23 b24) ?_
          obtain ⟨x26, c25, h⟩ := h
          refine HList.vals (v := (.string x26)) rfl (HVal.load1 Tryd.isAgg9 rfl c25) ?_
          refine HList.vals (v := (.int .i64 ((x26).size : Int))) rfl (HVal.lenS Tryd.runUnderlying9 rfl) ?_
          refine HList.vals (v := (.bool (decide (y16 < ((x26).size : Int))))) rfl (HVal.lss rfl rfl) ?_
          refine HList.nil ?_
          refine nt ?_
          obtain ⟨hT, hF⟩ := h
          refine HW.cond (decide (y16 < ((x26).size : Int))) rfl (fun hb27 => ?_) (fun hb27 => ?_)
          · have h := hT hb27
            clear hT hF
            refine HW.skip ?_
            refine nt ?_
            refine HW.seq ?_
            refine HW.block ?_
            refine HW.region ?_
            refine HList.vals (v := (.int .i64 y15)) rfl (HVal.move' rfl) ?_
            refine HList.vals (v := (.int .i64 (IntKind.i64.wrap (y15 * 10)))) rfl (HVal.mul rfl rfl) ?_
            refine HList.vals (v := (Sl.v r4)) rfl (HVal.move' rfl) ?_
            refine HList.vals (v := (.int .i64 y7)) rfl (HVal.move' rfl) ?_
            obtain ⟨a28, e29, b30, b31, h⟩ := h
            refine HList.vals (v := (.pointer (some (Addr.add a28 (y7.toNat * 1))))) rfl (HVal.indexAddr Tryd.runUnderlying61 Tryd.sizeOf9 (Sl.v_some rfl e29) rfl b30 b31) ?_
            obtain ⟨x33, c32, h⟩ := h
            refine HList.vals (v := (.string x33)) rfl (HVal.load1 Tryd.isAgg9 rfl c32) ?_
            refine HList.vals (v := (.int .i64 y16)) rfl (HVal.move' rfl) ?_
            obtain ⟨b34, b35, h⟩ := h
            refine HList.vals (v := (.int .u8 (bt x33 y16.toNat))) rfl (HVal.indexS' Tryd.runUnderlying9 rfl rfl b34 b35) ?_
            refine HList.vals (v := (.int .i64 (IntKind.i64.wrap (bt x33 y16.toNat)))) rfl (HVal.convI Tryd.runUnderlying5 Tryd.runUnderlying3 rfl) ?_
            refine HList.vals (v := (.int .i64 (IntKind.i64.wrap ((IntKind.i64.wrap (y15 * 10)) + (IntKind.i64.wrap (bt x33 y16.toNat)))))) rfl (HVal.add rfl rfl) ?_
            refine HList.vals (v := (.int .i64 (IntKind.i64.wrap ((IntKind.i64.wrap ((IntKind.i64.wrap (y15 * 10)) + (IntKind.i64.wrap (bt x33 y16.toNat)))) - 48)))) rfl (HVal.sub rfl rfl) ?_
            refine HList.vals (v := (.int .i64 (IntKind.i64.wrap ((IntKind.i64.wrap ((IntKind.i64.wrap (y15 * 10)) + (IntKind.i64.wrap (bt x33 y16.toNat)))) - 48)))) rfl (HVal.assign' rfl) ?_
            refine HList.nil ?_
            refine nb ?_
            refine nt ?_
            refine HW.region ?_
            refine HList.vals (v := (.int .i64 y16)) rfl (HVal.move' rfl) ?_
            refine HList.vals (v := (.int .i64 (IntKind.i64.wrap (y16 + 1)))) rfl (HVal.add rfl rfl) ?_
            refine HList.vals (v := (.int .i64 (IntKind.i64.wrap (y16 + 1)))) rfl (HVal.assign' rfl) ?_
            refine HList.nil ?_
            refine nt ?_
            exact (hX4 _ _ _).1 h _ ⟨rfl, rfl, rfl, rfl, rfl, rfl, trivial⟩
          · have h := hF hb27
            clear hT hF
            refine HW.exit ?_
            refine te ?_
            refine te ?_
            refine be ?_
            refine nt ?_
            exact ⟨y15, ⟨rfl, rfl, rfl, rfl, rfl, trivial⟩, h⟩
        · rintro ρ H_3 ⟨y36, hI, h⟩
          obtain ⟨ρ0, rfl⟩ : ∃ ρ0, ρ = (Env.set (Env.set (Env.set (Env.set (Env.set ρ0 7 (.int .i64 y36)) 6 (.int .i64 y7)) 5 (Sl.v r4)) 4 (Sl.v y6)) 0 (.string p0)) := ⟨ρ, hI.eq⟩
          clear hI; unfold F40_3 at h
          refine HW.region ?_
          refine HList.vals (v := (Sl.v y6)) rfl (HVal.move' rfl) ?_
          refine HList.vals (v := (.int .i64 y36)) rfl (HVal.move' rfl) ?_
          refine HList.ops' rfl (HOp.buildSlice' (zs := [(.int .i64 0)]) (cs := [(.int .i64 y36)]) Tryd.runUnderlying22 Tryd.sizeOf3 Tryd.zeroValue3 (by decide) (by kernel_rfl) rfl (by decide)) ?_
          rintro _ H37 ⟨rfl, e38⟩
          replace h := h H37 e38
          refine HList.ops' rfl (HOp.append (k := 1) (b := 8) Tryd.runUnderlying22 Tryd.runUnderlying22 Tryd.typeInfo3 rfl rfl Tryd.zeroValue3 rfl rfl h) ?_
          rintro _ H39 ⟨r41, rfl, h⟩
          refine HList.vals (v := (Sl.v r41)) rfl (HVal.assign' rfl) ?_
          refine HList.nil ?_
          refine nb ?_
          refine nt ?_
          refine HW.region ?_
          refine HList.vals (v := (.int .i64 y7)) rfl (HVal.move' rfl) ?_
          refine HList.vals (v := (.int .i64 (IntKind.i64.wrap (y7 + 1)))) rfl (HVal.add rfl rfl) ?_
          refine HList.vals (v := (.int .i64 (IntKind.i64.wrap (y7 + 1)))) rfl (HVal.assign' rfl) ?_
          refine HList.nil ?_
          refine nt ?_
          exact (hX2 _ _ _).1 h _ ⟨rfl, rfl, rfl, rfl, trivial⟩
      · have h := hF hb10
        clear hT hF
        refine HW.exit ?_
        refine te ?_
        refine te ?_
        refine be ?_
        refine nt ?_
        exact ⟨y6, ⟨rfl, rfl, trivial⟩, h⟩
    · rintro ρ H_1 ⟨y42, hI, h⟩
      obtain ⟨ρ0, rfl⟩ : ∃ ρ0, ρ = (Env.set (Env.set ρ0 4 (Sl.v y42)) 0 (.string p0)) := ⟨ρ, hI.eq⟩
      clear hI; unfold F40_1 at h
      refine HW.seq ?_
      refine HW.region ?_
      refine HList.vals (v := (Sl.v y42)) rfl (HVal.move' rfl) ?_
      refine HList.ops' rfl (HOp.call' 39 [(Sl.v y42)] (cap := []) rfl rfl Tryd.call39 (walk39 h)) ?_
      rintro _ H43 ⟨r45, r46, rfl, h⟩
      refine HList.vals (v := (.tuple #[(.string r45), (.int .i64 r46)])) rfl (HVal.move' rfl) ?_
      refine HList.vals (v := (.string r45)) rfl (HVal.extract rfl rfl) ?_
      refine HList.vals (v := (.int .i64 r46)) rfl (HVal.extract rfl rfl) ?_
      refine HList.vals (v := (.string r45)) rfl (HVal.assign' rfl) ?_
      refine HList.vals (v := (.int .i64 r46)) rfl (HVal.assign' rfl) ?_
      refine HList.nil ?_
      refine nt ?_
      refine HW.seq ?_
      refine HW.cut (fun ρ H_5 => ∃ (y50 : Bool), Env.Is ρ [(4, (Sl.v y42)), (57, (.bool y50))] ∧ F40_5 Q y42 y50 H_5) ?_ ?_
      · refine HW.region ?_
        refine HList.vals (v := (.int .i64 r46)) rfl (HVal.move' rfl) ?_
        refine HList.vals (v := (.bool (decide (r46 ≠ 0)))) rfl (HVal.neqI rfl rfl) ?_
        refine HList.vals (v := (.bool (decide (r46 ≠ 0)))) rfl (HVal.move' rfl) ?_
        obtain ⟨hT, hF⟩ := h
        rcases Bool.eq_false_or_eq_true (decide (r46 ≠ 0)) with hb48 | hb49
        · have h := hT hb48
          clear hT hF
          refine HList.gskips rfl rfl rfl rfl (congrArg Value.bool hb48) ?_
          refine HList.gskips rfl rfl rfl rfl (congrArg Value.bool hb48) ?_
          refine HList.gskips rfl rfl rfl rfl (congrArg Value.bool hb48) ?_
          refine HList.vals (v := (.bool true)) rfl (HVal.pickT rfl hb48 rfl) ?_
          refine HList.nil ?_
          refine nt ?_
          exact ⟨true, ⟨rfl, rfl, trivial⟩, h⟩
        · have h := hF hb49
          clear hT hF
          refine HList.gvals (v := (.string r45)) rfl rfl rfl rfl (congrArg Value.bool hb49) (HVal.move' rfl) ?_
          refine HList.gvals (v := (.string p0)) rfl rfl rfl rfl (congrArg Value.bool hb49) (HVal.move' rfl) ?_
          refine HList.gvals (v := (.bool (!(seq r45 p0)))) rfl rfl rfl rfl (congrArg Value.bool hb49) (HVal.neqS rfl rfl) ?_
          refine HList.vals (v := (.bool (!(seq r45 p0)))) rfl (HVal.pickF rfl hb49 rfl) ?_
          refine HList.nil ?_
          refine nt ?_
          exact ⟨(!(seq r45 p0)), ⟨rfl, rfl, trivial⟩, h⟩
      · rintro ρ H_5 ⟨y50, hI, h⟩
        obtain ⟨ρ0, rfl⟩ : ∃ ρ0, ρ = (Env.set (Env.set ρ0 57 (.bool y50)) 4 (Sl.v y42)) := ⟨ρ, hI.eq⟩
        clear hI; unfold F40_5 at h
        obtain ⟨hT, hF⟩ := h
        refine HW.cond y50 rfl (fun hb51 => ?_) (fun hb51 => ?_)
        · have h := hT hb51
          clear hT hF
          refine HW.seq ?_
          refine HW.region ?_
          refine HList.vals (v := (Sl.v Sl.nil)) rfl (HVal.assign' rfl) ?_
          refine HList.vals (v := (.int .i64 120)) rfl (HVal.assign' rfl) ?_
          refine HList.nil ?_
          refine nt ?_
          refine HW.ret ?_
          refine tr ?_
          exact ⟨_, resOf2 rfl Res1.t Res1.t, ⟨Sl.nil, 120, rfl, h⟩⟩
        · have h := hF hb51
          clear hT hF
          refine HW.skip ?_
          refine nt ?_
          refine HW.seq ?_
          refine HW.region ?_
          refine HList.vals (v := (Sl.v y42)) rfl (HVal.move' rfl) ?_
          refine HList.vals (v := (Sl.v y42)) rfl (HVal.assign' rfl) ?_
          refine HList.vals (v := (.int .i64 0)) rfl (HVal.assign' rfl) ?_
          refine HList.nil ?_
          refine nt ?_
          refine HW.ret ?_
          exact ⟨_, resOf2 rfl Res1.t Res1.t, ⟨y42, 0, rfl, h⟩⟩

def F19_1 (Q : Bool → Hp → Prop) (y25 : Addr) (y26 : Sl) (y27 : Sl) (y43 : Bool) (H_1 : Hp) : Prop :=
(y43 = true → (∃ x120 : Sl, cell H_1 (Addr.add y25 1) = some (Sl.v x120) ∧ (
 F34 x120 H_1 (fun (r123 : Sl) (H121 : Hp) => 
 F15 y26 r123 H121 (fun (r126 : Bool) (H124 : Hp) => 
 (r126 = true → (∃ x130 : Sl, cell H124 (Addr.add y25 2) = some (Sl.v x130) ∧ (
 F34 x130 H124 (fun (r133 : Sl) (H131 : Hp) => 
 F15 y27 r133 H131 (fun (r136 : Bool) (H134 : Hp) => 
 Q r136 H134))))) ∧
 (r126 = false → (Q false H124))))))) ∧
 (y43 = false → (Q false H_1))
def F19 (p0_0 : Int) (p0_1 : Sl) (p0_2 : Sl) (p0_3 : ByteArray) (H : Hp) (Q : Bool → Hp → Prop) : Prop :=
∀ H1 : Hp, H1 = Array.push H (.cells #[(.int .i64 p0_0), (Sl.v p0_1), (Sl.v p0_2), (.string p0_3)] 41) → (
 ∃ x4 : Sl, cell H1 (Addr.add ⟨H.size, 0, none⟩ 1) = some (Sl.v x4) ∧ (
 F34 x4 H1 (fun (r7 : Sl) (H5 : Hp) => 
 ∃ x9 : Sl, cell H5 (Addr.add ⟨H.size, 0, none⟩ 2) = some (Sl.v x9) ∧ (
 F34 x9 H5 (fun (r12 : Sl) (H10 : Hp) => 
 ∃ x14 : Sl, cell H10 (Addr.add ⟨H.size, 0, none⟩ 1) = some (Sl.v x14) ∧ (
 (0 : Int) ≤ ((x14).n : Int) ∧ 0 ≤ ((x14).n : Int).toNat ∧ ((x14).n : Int).toNat ≤ (r7).c ∧ (r7).c ≤ (r7).c ∧ (
 ∃ x20 : Sl, cell H10 (Addr.add ⟨H.size, 0, none⟩ 2) = some (Sl.v x20) ∧ (
 (0 : Int) ≤ ((x20).n : Int) ∧ 0 ≤ ((x20).n : Int).toNat ∧ ((x20).n : Int).toNat ≤ (r12).c ∧ (r12).c ≤ (r12).c ∧ (
 ∃ x29 : Int, cell H10 ⟨H.size, 0, none⟩ = some (.int .i64 x29) ∧ (
 ((decide (x29 = 1)) = true → (∃ x32 : Sl, cell H10 (Addr.add ⟨H.size, 0, none⟩ 1) = some (Sl.v x32) ∧ (
 F12 (Sl.cut r7 1 0 (((x14).n : Int).toNat) ((r7).c)) H10 (fun (r35 : Sl) (H33 : Hp) => 
 cell H33 (Addr.add ⟨H.size, 0, none⟩ 1) = some (Sl.v x32) ∧ (
 F35 x32 H33 (fun (r39 : Sl) (H37 : Hp) => 
 F15 r35 r39 H37 (fun (r42 : Bool) (H40 : Hp) => 
 F19_1 Q ⟨H.size, 0, none⟩ r7 r12 r42 H40))))))) ∧
 ((decide (x29 = 1)) = false → (((decide (x29 = 2)) = true → (F11 (Sl.cut r7 1 0 (((x14).n : Int).toNat) ((r7).c)) H10 (fun (r47 : Sl) (r48 : Int) (H45 : Hp) => 
 ∃ x50 : Sl, cell H45 (Addr.add ⟨H.size, 0, none⟩ 1) = some (Sl.v x50) ∧ (
 F36 x50 H45 (fun (r53 : Sl) (r54 : Int) (H51 : Hp) => 
 F15 r47 r53 H51 (fun (r57 : Bool) (H55 : Hp) => 
 (r57 = true → (F19_1 Q ⟨H.size, 0, none⟩ r7 r12 (decide (r48 = r54)) H55)) ∧
 (r57 = false → (F19_1 Q ⟨H.size, 0, none⟩ r7 r12 false H55)))))))) ∧
 ((decide (x29 = 2)) = false → (((decide (x29 = 3)) = true → (∃ x62 : Sl, cell H10 (Addr.add ⟨H.size, 0, none⟩ 1) = some (Sl.v x62) ∧ (
 ∃ x64 : Sl, cell H10 (Addr.add ⟨H.size, 0, none⟩ 2) = some (Sl.v x64) ∧ (
 F30 (Sl.cut r7 1 0 (((x14).n : Int).toNat) ((r7).c)) (Sl.cut r12 1 0 (((x20).n : Int).toNat) ((r12).c)) H10 (fun (r67 : Bool) (H65 : Hp) => 
 cell H65 (Addr.add ⟨H.size, 0, none⟩ 2) = some (Sl.v x64) ∧ cell H65 (Addr.add ⟨H.size, 0, none⟩ 1) = some (Sl.v x62) ∧ (
 F37 x62 x64 H65 (fun (r72 : Bool) (H70 : Hp) => 
 F19_1 Q ⟨H.size, 0, none⟩ r7 r12 (r67 == r72) H70))))))) ∧
 ((decide (x29 = 3)) = false → (((decide (x29 = 4)) = true → (∃ x75 : Sl, cell H10 (Addr.add ⟨H.size, 0, none⟩ 1) = some (Sl.v x75) ∧ (
 ∃ x77 : Sl, cell H10 (Addr.add ⟨H.size, 0, none⟩ 2) = some (Sl.v x77) ∧ (
 F14 (Sl.cut r7 1 0 (((x14).n : Int).toNat) ((r7).c)) (Sl.cut r12 1 0 (((x20).n : Int).toNat) ((r12).c)) H10 (fun (r80 : Int) (H78 : Hp) => 
 cell H78 (Addr.add ⟨H.size, 0, none⟩ 2) = some (Sl.v x77) ∧ cell H78 (Addr.add ⟨H.size, 0, none⟩ 1) = some (Sl.v x75) ∧ (
 F38 x75 x77 H78 (fun (r85 : Int) (H83 : Hp) => 
 F19_1 Q ⟨H.size, 0, none⟩ r7 r12 (decide (r80 = r85)) H83))))))) ∧
 ((decide (x29 = 4)) = false → (((decide (x29 = 5)) = true → (F17 (Sl.cut r7 1 0 (((x14).n : Int).toNat) ((r7).c)) H10 (fun (r89 : ByteArray) (r90 : Int) (H87 : Hp) => 
 ∃ x92 : Sl, cell H87 (Addr.add ⟨H.size, 0, none⟩ 1) = some (Sl.v x92) ∧ (
 F39 x92 H87 (fun (r95 : ByteArray) (r96 : Int) (H93 : Hp) => 
 ((seq r89 r95) = true → (F19_1 Q ⟨H.size, 0, none⟩ r7 r12 (decide (r90 = r96)) H93)) ∧
 ((seq r89 r95) = false → (F19_1 Q ⟨H.size, 0, none⟩ r7 r12 false H93))))))) ∧
 ((decide (x29 = 5)) = false → (((decide (x29 = 6)) = true → (∃ x101 : ByteArray, cell H10 (Addr.add ⟨H.size, 0, none⟩ 3) = some (.string x101) ∧ (
 F18 x101 H10 (fun (r104 : Sl) (r105 : Int) (H102 : Hp) => 
 ∃ x107 : ByteArray, cell H102 (Addr.add ⟨H.size, 0, none⟩ 3) = some (.string x107) ∧ (
 F40 x107 H102 (fun (r110 : Sl) (r111 : Int) (H108 : Hp) => 
 F15 r104 r110 H108 (fun (r114 : Bool) (H112 : Hp) => 
 (r114 = true → (F19_1 Q ⟨H.size, 0, none⟩ r7 r12 (decide (r105 = r111)) H112)) ∧
 (r114 = false → (F19_1 Q ⟨H.size, 0, none⟩ r7 r12 false H112))))))))) ∧
 ((decide (x29 = 6)) = false → (F19_1 Q ⟨H.size, 0, none⟩ r7 r12 true H10))))))))))))))))))))))
set_option maxRecDepth 100000 in
set_option maxHeartbeats 4000000 in
theorem walk19 {w0 : World} {p0_0 : Int} {p0_1 : Sl} {p0_2 : Sl} {p0_3 : ByteArray} {H : Hp} {Q : Bool → Hp → Prop} (h : F19 p0_0 p0_1 p0_2 p0_3 H Q) :
    Good Tryd.prog w0 19 #[(.agg #[(.int .i64 p0_0), (Sl.v p0_1), (Sl.v p0_2), (.string p0_3)])] H (fun v H => ∃ (r0 : Bool) , v = (.bool r0) ∧ Q r0 H) := by
  unfold F19 at h
  refine Good.enter' (fn := Tryd.f19) Tryd.func19 rfl rfl rfl ?_
  refine HW.seq ?_
  refine HW.region ?_
  refine HList.ops' rfl (HOp.box (v := (.agg #[(.int .i64 p0_0), (Sl.v p0_1), (Sl.v p0_2), (.string p0_3)])) rfl) ?_
  rintro _ H1 ⟨rfl, e2⟩
  replace h := h H1 e2
  refine HList.vals (v := (.bool false)) rfl (HVal.assign' rfl) ?_
  refine HList.nil ?_
  refine nt ?_
  refine HW.seq ?_
  refine HW.region ?_
  refine HList.vals (v := (.pointer (some (Addr.add ⟨H.size, 0, none⟩ 1)))) rfl (HVal.fieldAddr' Tryd.runUnderlying41 rfl rfl Tryd.sizeOf22 rfl) ?_
  obtain ⟨x4, c3, h⟩ := h
  refine HList.vals (v := (Sl.v x4)) rfl (HVal.load1 Tryd.isAgg22 rfl c3) ?_
  refine HList.ops' rfl (HOp.call' 34 [(Sl.v x4)] (cap := []) rfl rfl Tryd.call34 (walk34 h)) ?_
  rintro _ H5 ⟨r7, rfl, h⟩
  refine HList.vals (v := (Sl.v r7)) rfl (HVal.assign' rfl) ?_
  refine HList.nil ?_
  refine nt ?_
  refine HW.seq ?_
  refine HW.region ?_
  refine HList.vals (v := (.pointer (some (Addr.add ⟨H.size, 0, none⟩ 2)))) rfl (HVal.fieldAddr' Tryd.runUnderlying41 rfl rfl Tryd.sizeOf22 rfl) ?_
  obtain ⟨x9, c8, h⟩ := h
  refine HList.vals (v := (Sl.v x9)) rfl (HVal.load1 Tryd.isAgg22 rfl c8) ?_
  refine HList.ops' rfl (HOp.call' 34 [(Sl.v x9)] (cap := []) rfl rfl Tryd.call34 (walk34 h)) ?_
  rintro _ H10 ⟨r12, rfl, h⟩
  refine HList.vals (v := (Sl.v r12)) rfl (HVal.assign' rfl) ?_
  refine HList.nil ?_
  refine nt ?_
  refine HW.seq ?_
  refine HW.draw mixed [(0, some []), (1, some []), (2, some []), (3, some []), (4, some []), (5, some []), (6, some []), (7, some []), (8, some []), (9, some []), (10, some []), (11, some [])] rfl (by kernel_rfl) (by kernel_rfl) ?_
  refine HPlan.takev (v := (Sl.v r7)) rfl rfl (fun _ => HVal.move' rfl) ?_
  refine HPlan.takev (v := (.pointer (some (Addr.add ⟨H.size, 0, none⟩ 1)))) rfl rfl (fun _ => HVal.fieldAddr' Tryd.runUnderlying41 rfl rfl Tryd.sizeOf22 rfl) ?_
  obtain ⟨x14, c13, h⟩ := h
  refine HPlan.takel (v := (Sl.v x14)) (fun X => cell X (Addr.add ⟨H.size, 0, none⟩ 1) = some (Sl.v x14)) rfl rfl (fun _ hX => HVal.load1 Tryd.isAgg22 rfl hX) c13 ?_
  refine HPlan.takev (v := (.int .i64 ((x14).n : Int))) rfl rfl (fun _ => HVal.len Tryd.runUnderlying22 rfl) ?_
  obtain ⟨z15, z16, z17, z18, h⟩ := h
  refine HPlan.takev (v := (Sl.v (Sl.cut r7 1 0 (((x14).n : Int).toNat) ((r7).c)))) rfl rfl (fun _ => HVal.slice _ _ _ Tryd.runUnderlying22 Tryd.sizeOf3 rfl rfl ⟨_, _, rfl, z15, rfl⟩ rfl (by decide) z16 z17 z18) ?_
  refine HPlan.takev (v := (Sl.v r12)) rfl rfl (fun _ => HVal.move' rfl) ?_
  refine HPlan.takev (v := (.pointer (some (Addr.add ⟨H.size, 0, none⟩ 2)))) rfl rfl (fun _ => HVal.fieldAddr' Tryd.runUnderlying41 rfl rfl Tryd.sizeOf22 rfl) ?_
  obtain ⟨x20, c19, h⟩ := h
  refine HPlan.takel (v := (Sl.v x20)) (fun X => cell X (Addr.add ⟨H.size, 0, none⟩ 2) = some (Sl.v x20)) rfl rfl (fun _ hX => HVal.load1 Tryd.isAgg22 rfl hX) c19 ?_
  refine HPlan.takev (v := (.int .i64 ((x20).n : Int))) rfl rfl (fun _ => HVal.len Tryd.runUnderlying22 rfl) ?_
  obtain ⟨z21, z22, z23, z24, h⟩ := h
  refine HPlan.takev (v := (Sl.v (Sl.cut r12 1 0 (((x20).n : Int).toNat) ((r12).c)))) rfl rfl (fun _ => HVal.slice _ _ _ Tryd.runUnderlying22 Tryd.sizeOf3 rfl rfl ⟨_, _, rfl, z21, rfl⟩ rfl (by decide) z22 z23 z24) ?_
  refine HPlan.takev (v := (Sl.v (Sl.cut r7 1 0 (((x14).n : Int).toNat) ((r7).c)))) rfl rfl (fun _ => HVal.assign' rfl) ?_
  refine HPlan.takev (v := (Sl.v (Sl.cut r12 1 0 (((x20).n : Int).toNat) ((r12).c)))) rfl rfl (fun _ => HVal.assign' rfl) ?_
  refine HPlan.done ?_
  refine nt ?_
  refine HW.seq ?_
  refine HW.region ?_
  refine HList.vals (v := (.bool true)) rfl (HVal.assign' rfl) ?_
  refine HList.nil ?_
  refine nt ?_
  refine HW.cut (fun ρ H_1 => ∃ (y43 : Bool), Env.Is ρ [(1, (.pointer (some ⟨H.size, 0, none⟩))), (3, (Sl.v r7)), (4, (Sl.v r12)), (7, (.bool y43))] ∧ F19_1 Q ⟨H.size, 0, none⟩ r7 r12 y43 H_1) ?_ ?_
  · refine HW.seq ?_
    refine HW.region ?_
    refine HList.vals (v := (.pointer (some ⟨H.size, 0, none⟩))) rfl (HVal.fieldAddr0 Tryd.runUnderlying41 rfl rfl Tryd.sizeOf3 rfl) ?_
    obtain ⟨x29, c28, h⟩ := h
    refine HList.vals (v := (.int .i64 x29)) rfl (HVal.load1 Tryd.isAgg3 rfl c28) ?_
    refine HList.nil ?_
    refine nt ?_
    refine HW.block ?_
    refine HW.seq ?_
    refine HW.region ?_
    refine HList.vals (v := (.bool (decide (x29 = 1)))) rfl (HVal.eqlI rfl rfl) ?_
    refine HList.vals (v := (.bool (decide (x29 = 1)))) rfl (HVal.assign' rfl) ?_
    refine HList.nil ?_
    refine nt ?_
    obtain ⟨hT, hF⟩ := h
    refine HW.cond (decide (x29 = 1)) rfl (fun hb30 => ?_) (fun hb30 => ?_)
    · have h := hT hb30
      clear hT hF
      refine HW.draw mixed [(0, some []), (2, some []), (3, some [4]), (1, none), (4, none), (5, none), (6, some [])] rfl (by kernel_rfl) (by kernel_rfl) ?_
      refine HPlan.takev (v := (Sl.v (Sl.cut r7 1 0 (((x14).n : Int).toNat) ((r7).c)))) rfl rfl (fun _ => HVal.move' rfl) ?_
      refine HPlan.takev (v := (.pointer (some (Addr.add ⟨H.size, 0, none⟩ 1)))) rfl rfl (fun _ => HVal.fieldAddr' Tryd.runUnderlying41 rfl rfl Tryd.sizeOf22 rfl) ?_
      obtain ⟨x32, c31, h⟩ := h
      refine HPlan.takel (v := (Sl.v x32)) (fun X => cell X (Addr.add ⟨H.size, 0, none⟩ 1) = some (Sl.v x32)) rfl rfl (fun _ hX => HVal.load1 Tryd.isAgg22 rfl hX) c31 ?_
      refine HPlan.ops' rfl rfl (HOp.call' 12 [(Sl.v (Sl.cut r7 1 0 (((x14).n : Int).toNat) ((r7).c)))] (cap := []) rfl rfl Tryd.call12 (walk12 h)) ?_
      rintro _ H33 ⟨r35, rfl, h⟩
      obtain ⟨s36, h⟩ := h
      refine ⟨SC_of ⟨fun _ => s36, trivial⟩, ?_⟩
      refine HPlan.ops' rfl rfl (HOp.call' 35 [(Sl.v x32)] (cap := []) rfl rfl Tryd.call35 (walk35 h)) ?_
      rintro _ H37 ⟨r39, rfl, h⟩
      refine ⟨SC_of ⟨fun e => absurd e (by decide), trivial⟩, ?_⟩
      refine HPlan.ops' rfl rfl (HOp.call' 15 [(Sl.v r35), (Sl.v r39)] (cap := []) rfl rfl Tryd.call15 (walk15 h)) ?_
      rintro _ H40 ⟨r42, rfl, h⟩
      refine ⟨SC_of ⟨fun e => absurd e (by decide), trivial⟩, ?_⟩
      refine HPlan.takev (v := (.bool r42)) rfl rfl (fun _ => HVal.assign' rfl) ?_
      refine HPlan.done ?_
      refine nb ?_
      refine nt ?_
      exact ⟨r42, ⟨rfl, rfl, rfl, rfl, trivial⟩, h⟩
    · have h := hF hb30
      clear hT hF
      refine HW.seq ?_
      refine HW.region ?_
      refine HList.vals (v := (.bool (decide (x29 = 2)))) rfl (HVal.eqlI rfl rfl) ?_
      refine HList.vals (v := (.bool (decide (x29 = 2)))) rfl (HVal.assign' rfl) ?_
      refine HList.nil ?_
      refine nt ?_
      obtain ⟨hT, hF⟩ := h
      refine HW.cond (decide (x29 = 2)) rfl (fun hb44 => ?_) (fun hb44 => ?_)
      · have h := hT hb44
        clear hT hF
        refine HW.seq ?_
        refine HW.region ?_
        refine HList.vals (v := (Sl.v (Sl.cut r7 1 0 (((x14).n : Int).toNat) ((r7).c)))) rfl (HVal.move' rfl) ?_
        refine HList.ops' rfl (HOp.call' 11 [(Sl.v (Sl.cut r7 1 0 (((x14).n : Int).toNat) ((r7).c)))] (cap := []) rfl rfl Tryd.call11 (walk11 h)) ?_
        rintro _ H45 ⟨r47, r48, rfl, h⟩
        refine HList.vals (v := (.tuple #[(Sl.v r47), (.int .i64 r48)])) rfl (HVal.move' rfl) ?_
        refine HList.vals (v := (Sl.v r47)) rfl (HVal.extract rfl rfl) ?_
        refine HList.vals (v := (.int .i64 r48)) rfl (HVal.extract rfl rfl) ?_
        refine HList.vals (v := (Sl.v r47)) rfl (HVal.assign' rfl) ?_
        refine HList.vals (v := (.int .i64 r48)) rfl (HVal.assign' rfl) ?_
        refine HList.nil ?_
        refine nt ?_
        refine HW.seq ?_
        refine HW.region ?_
        refine HList.vals (v := (.pointer (some (Addr.add ⟨H.size, 0, none⟩ 1)))) rfl (HVal.fieldAddr' Tryd.runUnderlying41 rfl rfl Tryd.sizeOf22 rfl) ?_
        obtain ⟨x50, c49, h⟩ := h
        refine HList.vals (v := (Sl.v x50)) rfl (HVal.load1 Tryd.isAgg22 rfl c49) ?_
        refine HList.ops' rfl (HOp.call' 36 [(Sl.v x50)] (cap := []) rfl rfl Tryd.call36 (walk36 h)) ?_
        rintro _ H51 ⟨r53, r54, rfl, h⟩
        refine HList.vals (v := (.tuple #[(Sl.v r53), (.int .i64 r54)])) rfl (HVal.move' rfl) ?_
        refine HList.vals (v := (Sl.v r53)) rfl (HVal.extract rfl rfl) ?_
        refine HList.vals (v := (.int .i64 r54)) rfl (HVal.extract rfl rfl) ?_
        refine HList.vals (v := (Sl.v r53)) rfl (HVal.assign' rfl) ?_
        refine HList.vals (v := (.int .i64 r54)) rfl (HVal.assign' rfl) ?_
        refine HList.nil ?_
        refine nt ?_
        refine HW.region ?_
        refine HList.vals (v := (Sl.v r47)) rfl (HVal.move' rfl) ?_
        refine HList.vals (v := (Sl.v r53)) rfl (HVal.move' rfl) ?_
        refine HList.ops' rfl (HOp.call' 15 [(Sl.v r47), (Sl.v r53)] (cap := []) rfl rfl Tryd.call15 (walk15 h)) ?_
        rintro _ H55 ⟨r57, rfl, h⟩
        refine HList.vals (v := (.bool r57)) rfl (HVal.move' rfl) ?_
        obtain ⟨hT, hF⟩ := h
        rcases Bool.eq_false_or_eq_true r57 with hb58 | hb59
        · have h := hT hb58
          clear hT hF
          refine HList.gvals (v := (.int .i64 r48)) rfl rfl rfl rfl (congrArg Value.bool hb58) (HVal.move' rfl) ?_
          refine HList.gvals (v := (.int .i64 r54)) rfl rfl rfl rfl (congrArg Value.bool hb58) (HVal.move' rfl) ?_
          refine HList.gvals (v := (.bool (decide (r48 = r54)))) rfl rfl rfl rfl (congrArg Value.bool hb58) (HVal.eqlI rfl rfl) ?_
          refine HList.vals (v := (.bool (decide (r48 = r54)))) rfl (HVal.pickT rfl hb58 rfl) ?_
          refine HList.vals (v := (.bool (decide (r48 = r54)))) rfl (HVal.assign' rfl) ?_
          refine HList.nil ?_
          refine nb ?_
          refine nt ?_
          exact ⟨(decide (r48 = r54)), ⟨rfl, rfl, rfl, rfl, trivial⟩, h⟩
        · have h := hF hb59
          clear hT hF
          refine HList.gskips rfl rfl rfl rfl (congrArg Value.bool hb59) ?_
          refine HList.gskips rfl rfl rfl rfl (congrArg Value.bool hb59) ?_
          refine HList.gskips rfl rfl rfl rfl (congrArg Value.bool hb59) ?_
          refine HList.vals (v := (.bool false)) rfl (HVal.pickF rfl hb59 rfl) ?_
          refine HList.vals (v := (.bool false)) rfl (HVal.assign' rfl) ?_
          refine HList.nil ?_
          refine nb ?_
          refine nt ?_
          exact ⟨false, ⟨rfl, rfl, rfl, rfl, trivial⟩, h⟩
      · have h := hF hb44
        clear hT hF
        refine HW.seq ?_
        refine HW.region ?_
        refine HList.vals (v := (.bool (decide (x29 = 3)))) rfl (HVal.eqlI rfl rfl) ?_
        refine HList.vals (v := (.bool (decide (x29 = 3)))) rfl (HVal.assign' rfl) ?_
        refine HList.nil ?_
        refine nt ?_
        obtain ⟨hT, hF⟩ := h
        refine HW.cond (decide (x29 = 3)) rfl (fun hb60 => ?_) (fun hb60 => ?_)
        · have h := hT hb60
          clear hT hF
          refine HW.draw mixed [(0, some []), (1, some []), (3, some []), (4, some [7]), (5, some []), (6, some [7]), (2, none), (7, none), (8, some []), (9, some [])] rfl (by kernel_rfl) (by kernel_rfl) ?_
          refine HPlan.takev (v := (Sl.v (Sl.cut r7 1 0 (((x14).n : Int).toNat) ((r7).c)))) rfl rfl (fun _ => HVal.move' rfl) ?_
          refine HPlan.takev (v := (Sl.v (Sl.cut r12 1 0 (((x20).n : Int).toNat) ((r12).c)))) rfl rfl (fun _ => HVal.move' rfl) ?_
          refine HPlan.takev (v := (.pointer (some (Addr.add ⟨H.size, 0, none⟩ 1)))) rfl rfl (fun _ => HVal.fieldAddr' Tryd.runUnderlying41 rfl rfl Tryd.sizeOf22 rfl) ?_
          obtain ⟨x62, c61, h⟩ := h
          refine HPlan.takel (v := (Sl.v x62)) (fun X => cell X (Addr.add ⟨H.size, 0, none⟩ 1) = some (Sl.v x62)) rfl rfl (fun _ hX => HVal.load1 Tryd.isAgg22 rfl hX) c61 ?_
          refine HPlan.takev (v := (.pointer (some (Addr.add ⟨H.size, 0, none⟩ 2)))) rfl rfl (fun _ => HVal.fieldAddr' Tryd.runUnderlying41 rfl rfl Tryd.sizeOf22 rfl) ?_
          obtain ⟨x64, c63, h⟩ := h
          refine HPlan.takel (v := (Sl.v x64)) (fun X => cell X (Addr.add ⟨H.size, 0, none⟩ 2) = some (Sl.v x64)) rfl rfl (fun _ hX => HVal.load1 Tryd.isAgg22 rfl hX) c63 ?_
          refine HPlan.ops' rfl rfl (HOp.call' 30 [(Sl.v (Sl.cut r7 1 0 (((x14).n : Int).toNat) ((r7).c))), (Sl.v (Sl.cut r12 1 0 (((x20).n : Int).toNat) ((r12).c)))] (cap := []) rfl rfl Tryd.call30 (walk30 h)) ?_
          rintro _ H65 ⟨r67, rfl, h⟩
          obtain ⟨s68, s69, h⟩ := h
          refine ⟨SC_of ⟨fun _ => s68, fun _ => s69, trivial⟩, ?_⟩
          refine HPlan.ops' rfl rfl (HOp.call' 37 [(Sl.v x62), (Sl.v x64)] (cap := []) rfl rfl Tryd.call37 (walk37 h)) ?_
          rintro _ H70 ⟨r72, rfl, h⟩
          refine ⟨SC_of ⟨fun e => absurd e (by decide), fun e => absurd e (by decide), trivial⟩, ?_⟩
          refine HPlan.takev (v := (.bool (r67 == r72))) rfl rfl (fun _ => HVal.eqlB Tryd.underlying4 rfl rfl) ?_
          refine HPlan.takev (v := (.bool (r67 == r72))) rfl rfl (fun _ => HVal.assign' rfl) ?_
          refine HPlan.done ?_
          refine nb ?_
          refine nt ?_
          exact ⟨(r67 == r72), ⟨rfl, rfl, rfl, rfl, trivial⟩, h⟩
        · have h := hF hb60
          clear hT hF
          refine HW.seq ?_
          refine HW.region ?_
          refine HList.vals (v := (.bool (decide (x29 = 4)))) rfl (HVal.eqlI rfl rfl) ?_
          refine HList.vals (v := (.bool (decide (x29 = 4)))) rfl (HVal.assign' rfl) ?_
          refine HList.nil ?_
          refine nt ?_
          obtain ⟨hT, hF⟩ := h
          refine HW.cond (decide (x29 = 4)) rfl (fun hb73 => ?_) (fun hb73 => ?_)
          · have h := hT hb73
            clear hT hF
            refine HW.draw mixed [(0, some []), (1, some []), (3, some []), (4, some [7]), (5, some []), (6, some [7]), (2, none), (7, none), (8, some []), (9, some [])] rfl (by kernel_rfl) (by kernel_rfl) ?_
            refine HPlan.takev (v := (Sl.v (Sl.cut r7 1 0 (((x14).n : Int).toNat) ((r7).c)))) rfl rfl (fun _ => HVal.move' rfl) ?_
            refine HPlan.takev (v := (Sl.v (Sl.cut r12 1 0 (((x20).n : Int).toNat) ((r12).c)))) rfl rfl (fun _ => HVal.move' rfl) ?_
            refine HPlan.takev (v := (.pointer (some (Addr.add ⟨H.size, 0, none⟩ 1)))) rfl rfl (fun _ => HVal.fieldAddr' Tryd.runUnderlying41 rfl rfl Tryd.sizeOf22 rfl) ?_
            obtain ⟨x75, c74, h⟩ := h
            refine HPlan.takel (v := (Sl.v x75)) (fun X => cell X (Addr.add ⟨H.size, 0, none⟩ 1) = some (Sl.v x75)) rfl rfl (fun _ hX => HVal.load1 Tryd.isAgg22 rfl hX) c74 ?_
            refine HPlan.takev (v := (.pointer (some (Addr.add ⟨H.size, 0, none⟩ 2)))) rfl rfl (fun _ => HVal.fieldAddr' Tryd.runUnderlying41 rfl rfl Tryd.sizeOf22 rfl) ?_
            obtain ⟨x77, c76, h⟩ := h
            refine HPlan.takel (v := (Sl.v x77)) (fun X => cell X (Addr.add ⟨H.size, 0, none⟩ 2) = some (Sl.v x77)) rfl rfl (fun _ hX => HVal.load1 Tryd.isAgg22 rfl hX) c76 ?_
            refine HPlan.ops' rfl rfl (HOp.call' 14 [(Sl.v (Sl.cut r7 1 0 (((x14).n : Int).toNat) ((r7).c))), (Sl.v (Sl.cut r12 1 0 (((x20).n : Int).toNat) ((r12).c)))] (cap := []) rfl rfl Tryd.call14 (walk14 h)) ?_
            rintro _ H78 ⟨r80, rfl, h⟩
            obtain ⟨s81, s82, h⟩ := h
            refine ⟨SC_of ⟨fun _ => s81, fun _ => s82, trivial⟩, ?_⟩
            refine HPlan.ops' rfl rfl (HOp.call' 38 [(Sl.v x75), (Sl.v x77)] (cap := []) rfl rfl Tryd.call38 (walk38 h)) ?_
            rintro _ H83 ⟨r85, rfl, h⟩
            refine ⟨SC_of ⟨fun e => absurd e (by decide), fun e => absurd e (by decide), trivial⟩, ?_⟩
            refine HPlan.takev (v := (.bool (decide (r80 = r85)))) rfl rfl (fun _ => HVal.eqlI rfl rfl) ?_
            refine HPlan.takev (v := (.bool (decide (r80 = r85)))) rfl rfl (fun _ => HVal.assign' rfl) ?_
            refine HPlan.done ?_
            refine nb ?_
            refine nt ?_
            exact ⟨(decide (r80 = r85)), ⟨rfl, rfl, rfl, rfl, trivial⟩, h⟩
          · have h := hF hb73
            clear hT hF
            refine HW.seq ?_
            refine HW.region ?_
            refine HList.vals (v := (.bool (decide (x29 = 5)))) rfl (HVal.eqlI rfl rfl) ?_
            refine HList.vals (v := (.bool (decide (x29 = 5)))) rfl (HVal.assign' rfl) ?_
            refine HList.nil ?_
            refine nt ?_
            obtain ⟨hT, hF⟩ := h
            refine HW.cond (decide (x29 = 5)) rfl (fun hb86 => ?_) (fun hb86 => ?_)
            · have h := hT hb86
              clear hT hF
              refine HW.seq ?_
              refine HW.region ?_
              refine HList.vals (v := (Sl.v (Sl.cut r7 1 0 (((x14).n : Int).toNat) ((r7).c)))) rfl (HVal.move' rfl) ?_
              refine HList.ops' rfl (HOp.call' 17 [(Sl.v (Sl.cut r7 1 0 (((x14).n : Int).toNat) ((r7).c)))] (cap := []) rfl rfl Tryd.call17 (walk17 h)) ?_
              rintro _ H87 ⟨r89, r90, rfl, h⟩
              refine HList.vals (v := (.tuple #[(.string r89), (.int .i64 r90)])) rfl (HVal.move' rfl) ?_
              refine HList.vals (v := (.string r89)) rfl (HVal.extract rfl rfl) ?_
              refine HList.vals (v := (.int .i64 r90)) rfl (HVal.extract rfl rfl) ?_
              refine HList.vals (v := (.string r89)) rfl (HVal.assign' rfl) ?_
              refine HList.vals (v := (.int .i64 r90)) rfl (HVal.assign' rfl) ?_
              refine HList.nil ?_
              refine nt ?_
              refine HW.seq ?_
              refine HW.region ?_
              refine HList.vals (v := (.pointer (some (Addr.add ⟨H.size, 0, none⟩ 1)))) rfl (HVal.fieldAddr' Tryd.runUnderlying41 rfl rfl Tryd.sizeOf22 rfl) ?_
              obtain ⟨x92, c91, h⟩ := h
              refine HList.vals (v := (Sl.v x92)) rfl (HVal.load1 Tryd.isAgg22 rfl c91) ?_
              refine HList.ops' rfl (HOp.call' 39 [(Sl.v x92)] (cap := []) rfl rfl Tryd.call39 (walk39 h)) ?_
              rintro _ H93 ⟨r95, r96, rfl, h⟩
              refine HList.vals (v := (.tuple #[(.string r95), (.int .i64 r96)])) rfl (HVal.move' rfl) ?_
              refine HList.vals (v := (.string r95)) rfl (HVal.extract rfl rfl) ?_
              refine HList.vals (v := (.int .i64 r96)) rfl (HVal.extract rfl rfl) ?_
              refine HList.vals (v := (.string r95)) rfl (HVal.assign' rfl) ?_
              refine HList.vals (v := (.int .i64 r96)) rfl (HVal.assign' rfl) ?_
              refine HList.nil ?_
              refine nt ?_
              refine HW.region ?_
              refine HList.vals (v := (.string r89)) rfl (HVal.move' rfl) ?_
              refine HList.vals (v := (.string r95)) rfl (HVal.move' rfl) ?_
              refine HList.vals (v := (.bool (seq r89 r95))) rfl (HVal.eqlS rfl rfl) ?_
              refine HList.vals (v := (.bool (seq r89 r95))) rfl (HVal.move' rfl) ?_
              obtain ⟨hT, hF⟩ := h
              rcases Bool.eq_false_or_eq_true (seq r89 r95) with hb97 | hb98
              · have h := hT hb97
                clear hT hF
                refine HList.gvals (v := (.int .i64 r90)) rfl rfl rfl rfl (congrArg Value.bool hb97) (HVal.move' rfl) ?_
                refine HList.gvals (v := (.int .i64 r96)) rfl rfl rfl rfl (congrArg Value.bool hb97) (HVal.move' rfl) ?_
                refine HList.gvals (v := (.bool (decide (r90 = r96)))) rfl rfl rfl rfl (congrArg Value.bool hb97) (HVal.eqlI rfl rfl) ?_
                refine HList.vals (v := (.bool (decide (r90 = r96)))) rfl (HVal.pickT rfl hb97 rfl) ?_
                refine HList.vals (v := (.bool (decide (r90 = r96)))) rfl (HVal.assign' rfl) ?_
                refine HList.nil ?_
                refine nb ?_
                refine nt ?_
                exact ⟨(decide (r90 = r96)), ⟨rfl, rfl, rfl, rfl, trivial⟩, h⟩
              · have h := hF hb98
                clear hT hF
                refine HList.gskips rfl rfl rfl rfl (congrArg Value.bool hb98) ?_
                refine HList.gskips rfl rfl rfl rfl (congrArg Value.bool hb98) ?_
                refine HList.gskips rfl rfl rfl rfl (congrArg Value.bool hb98) ?_
                refine HList.vals (v := (.bool false)) rfl (HVal.pickF rfl hb98 rfl) ?_
                refine HList.vals (v := (.bool false)) rfl (HVal.assign' rfl) ?_
                refine HList.nil ?_
                refine nb ?_
                refine nt ?_
                exact ⟨false, ⟨rfl, rfl, rfl, rfl, trivial⟩, h⟩
            · have h := hF hb86
              clear hT hF
              refine HW.seq ?_
              refine HW.region ?_
              refine HList.vals (v := (.bool (decide (x29 = 6)))) rfl (HVal.eqlI rfl rfl) ?_
              refine HList.vals (v := (.bool (decide (x29 = 6)))) rfl (HVal.assign' rfl) ?_
              refine HList.nil ?_
              refine nt ?_
              obtain ⟨hT, hF⟩ := h
              refine HW.cond (decide (x29 = 6)) rfl (fun hb99 => ?_) (fun hb99 => ?_)
              · have h := hT hb99
                clear hT hF
                refine HW.seq ?_
                refine HW.region ?_
                refine HList.vals (v := (.pointer (some (Addr.add ⟨H.size, 0, none⟩ 3)))) rfl (HVal.fieldAddr' Tryd.runUnderlying41 rfl rfl Tryd.sizeOf9 rfl) ?_
                obtain ⟨x101, c100, h⟩ := h
                refine HList.vals (v := (.string x101)) rfl (HVal.load1 Tryd.isAgg9 rfl c100) ?_
                refine HList.ops' rfl (HOp.call' 18 [(.string x101)] (cap := []) rfl rfl Tryd.call18 (walk18 h)) ?_
                rintro _ H102 ⟨r104, r105, rfl, h⟩
                refine HList.vals (v := (.tuple #[(Sl.v r104), (.int .i64 r105)])) rfl (HVal.move' rfl) ?_
                refine HList.vals (v := (Sl.v r104)) rfl (HVal.extract rfl rfl) ?_
                refine HList.vals (v := (.int .i64 r105)) rfl (HVal.extract rfl rfl) ?_
                refine HList.vals (v := (Sl.v r104)) rfl (HVal.assign' rfl) ?_
                refine HList.vals (v := (.int .i64 r105)) rfl (HVal.assign' rfl) ?_
                refine HList.nil ?_
                refine nt ?_
                refine HW.seq ?_
                refine HW.region ?_
                refine HList.vals (v := (.pointer (some (Addr.add ⟨H.size, 0, none⟩ 3)))) rfl (HVal.fieldAddr' Tryd.runUnderlying41 rfl rfl Tryd.sizeOf9 rfl) ?_
                obtain ⟨x107, c106, h⟩ := h
                refine HList.vals (v := (.string x107)) rfl (HVal.load1 Tryd.isAgg9 rfl c106) ?_
                refine HList.ops' rfl (HOp.call' 40 [(.string x107)] (cap := []) rfl rfl Tryd.call40 (walk40 h)) ?_
                rintro _ H108 ⟨r110, r111, rfl, h⟩
                refine HList.vals (v := (.tuple #[(Sl.v r110), (.int .i64 r111)])) rfl (HVal.move' rfl) ?_
                refine HList.vals (v := (Sl.v r110)) rfl (HVal.extract rfl rfl) ?_
                refine HList.vals (v := (.int .i64 r111)) rfl (HVal.extract rfl rfl) ?_
                refine HList.vals (v := (Sl.v r110)) rfl (HVal.assign' rfl) ?_
                refine HList.vals (v := (.int .i64 r111)) rfl (HVal.assign' rfl) ?_
                refine HList.nil ?_
                refine nt ?_
                refine HW.region ?_
                refine HList.vals (v := (Sl.v r104)) rfl (HVal.move' rfl) ?_
                refine HList.vals (v := (Sl.v r110)) rfl (HVal.move' rfl) ?_
                refine HList.ops' rfl (HOp.call' 15 [(Sl.v r104), (Sl.v r110)] (cap := []) rfl rfl Tryd.call15 (walk15 h)) ?_
                rintro _ H112 ⟨r114, rfl, h⟩
                refine HList.vals (v := (.bool r114)) rfl (HVal.move' rfl) ?_
                obtain ⟨hT, hF⟩ := h
                rcases Bool.eq_false_or_eq_true r114 with hb115 | hb116
                · have h := hT hb115
                  clear hT hF
                  refine HList.gvals (v := (.int .i64 r105)) rfl rfl rfl rfl (congrArg Value.bool hb115) (HVal.move' rfl) ?_
                  refine HList.gvals (v := (.int .i64 r111)) rfl rfl rfl rfl (congrArg Value.bool hb115) (HVal.move' rfl) ?_
                  refine HList.gvals (v := (.bool (decide (r105 = r111)))) rfl rfl rfl rfl (congrArg Value.bool hb115) (HVal.eqlI rfl rfl) ?_
                  refine HList.vals (v := (.bool (decide (r105 = r111)))) rfl (HVal.pickT rfl hb115 rfl) ?_
                  refine HList.vals (v := (.bool (decide (r105 = r111)))) rfl (HVal.assign' rfl) ?_
                  refine HList.nil ?_
                  refine nb ?_
                  refine nt ?_
                  exact ⟨(decide (r105 = r111)), ⟨rfl, rfl, rfl, rfl, trivial⟩, h⟩
                · have h := hF hb116
                  clear hT hF
                  refine HList.gskips rfl rfl rfl rfl (congrArg Value.bool hb116) ?_
                  refine HList.gskips rfl rfl rfl rfl (congrArg Value.bool hb116) ?_
                  refine HList.gskips rfl rfl rfl rfl (congrArg Value.bool hb116) ?_
                  refine HList.vals (v := (.bool false)) rfl (HVal.pickF rfl hb116 rfl) ?_
                  refine HList.vals (v := (.bool false)) rfl (HVal.assign' rfl) ?_
                  refine HList.nil ?_
                  refine nb ?_
                  refine nt ?_
                  exact ⟨false, ⟨rfl, rfl, rfl, rfl, trivial⟩, h⟩
              · have h := hF hb99
                clear hT hF
                refine HW.skip ?_
                refine nb ?_
                refine nt ?_
                exact ⟨true, ⟨rfl, rfl, rfl, rfl, trivial⟩, h⟩
  · rintro ρ H_1 ⟨y43, hI, h⟩
    obtain ⟨ρ0, rfl⟩ : ∃ ρ0, ρ = (Env.set (Env.set (Env.set (Env.set ρ0 7 (.bool y43)) 4 (Sl.v r12)) 3 (Sl.v r7)) 1 (.pointer (some ⟨H.size, 0, none⟩))) := ⟨ρ, hI.eq⟩
    clear hI; unfold F19_1 at h
    refine HW.seq ?_
    refine HW.region ?_
    refine HList.vals (v := (.bool y43)) rfl (HVal.move' rfl) ?_
    refine HList.vals (v := (.bool y43)) rfl (HVal.move' rfl) ?_
    obtain ⟨hT, hF⟩ := h
    rcases Bool.eq_false_or_eq_true y43 with hb117 | hb118
    · have h := hT hb117
      clear hT hF
      refine HList.gvals (v := (Sl.v r7)) rfl rfl rfl rfl (congrArg Value.bool hb117) (HVal.move' rfl) ?_
      refine HList.gvals (v := (.pointer (some (Addr.add ⟨H.size, 0, none⟩ 1)))) rfl rfl rfl rfl (congrArg Value.bool hb117) (HVal.fieldAddr' Tryd.runUnderlying41 rfl rfl Tryd.sizeOf22 rfl) ?_
      obtain ⟨x120, c119, h⟩ := h
      refine HList.gvals (v := (Sl.v x120)) rfl rfl rfl rfl (congrArg Value.bool hb117) (HVal.load1 Tryd.isAgg22 rfl c119) ?_
      refine HList.gops rfl rfl rfl rfl (congrArg Value.bool hb117) (HOp.call' 34 [(Sl.v x120)] (cap := []) rfl rfl Tryd.call34 (walk34 h)) ?_
      rintro _ H121 ⟨r123, rfl, h⟩
      refine HList.gops rfl rfl rfl rfl (congrArg Value.bool hb117) (HOp.call' 15 [(Sl.v r7), (Sl.v r123)] (cap := []) rfl rfl Tryd.call15 (walk15 h)) ?_
      rintro _ H124 ⟨r126, rfl, h⟩
      refine HList.vals (v := (.bool r126)) rfl (HVal.pickT rfl hb117 rfl) ?_
      refine HList.vals (v := (.bool r126)) rfl (HVal.move' rfl) ?_
      obtain ⟨hT, hF⟩ := h
      rcases Bool.eq_false_or_eq_true r126 with hb127 | hb128
      · have h := hT hb127
        clear hT hF
        refine HList.gvals (v := (Sl.v r12)) rfl rfl rfl rfl (congrArg Value.bool hb127) (HVal.move' rfl) ?_
        refine HList.gvals (v := (.pointer (some (Addr.add ⟨H.size, 0, none⟩ 2)))) rfl rfl rfl rfl (congrArg Value.bool hb127) (HVal.fieldAddr' Tryd.runUnderlying41 rfl rfl Tryd.sizeOf22 rfl) ?_
        obtain ⟨x130, c129, h⟩ := h
        refine HList.gvals (v := (Sl.v x130)) rfl rfl rfl rfl (congrArg Value.bool hb127) (HVal.load1 Tryd.isAgg22 rfl c129) ?_
        refine HList.gops rfl rfl rfl rfl (congrArg Value.bool hb127) (HOp.call' 34 [(Sl.v x130)] (cap := []) rfl rfl Tryd.call34 (walk34 h)) ?_
        rintro _ H131 ⟨r133, rfl, h⟩
        refine HList.gops rfl rfl rfl rfl (congrArg Value.bool hb127) (HOp.call' 15 [(Sl.v r12), (Sl.v r133)] (cap := []) rfl rfl Tryd.call15 (walk15 h)) ?_
        rintro _ H134 ⟨r136, rfl, h⟩
        refine HList.vals (v := (.bool r136)) rfl (HVal.pickT rfl hb127 rfl) ?_
        refine HList.vals (v := (.bool r136)) rfl (HVal.assign' rfl) ?_
        refine HList.nil ?_
        refine nt ?_
        refine HW.ret ?_
        exact ⟨_, resOf1 rfl Res1.t, ⟨r136, rfl, h⟩⟩
      · have h := hF hb128
        clear hT hF
        refine HList.gskips rfl rfl rfl rfl (congrArg Value.bool hb128) ?_
        refine HList.gskips rfl rfl rfl rfl (congrArg Value.bool hb128) ?_
        refine HList.gskips rfl rfl rfl rfl (congrArg Value.bool hb128) ?_
        refine HList.gskips rfl rfl rfl rfl (congrArg Value.bool hb128) ?_
        refine HList.gskips rfl rfl rfl rfl (congrArg Value.bool hb128) ?_
        refine HList.vals (v := (.bool false)) rfl (HVal.pickF rfl hb128 rfl) ?_
        refine HList.vals (v := (.bool false)) rfl (HVal.assign' rfl) ?_
        refine HList.nil ?_
        refine nt ?_
        refine HW.ret ?_
        exact ⟨_, resOf1 rfl Res1.t, ⟨false, rfl, h⟩⟩
    · have h := hF hb118
      clear hT hF
      refine HList.gskips rfl rfl rfl rfl (congrArg Value.bool hb118) ?_
      refine HList.gskips rfl rfl rfl rfl (congrArg Value.bool hb118) ?_
      refine HList.gskips rfl rfl rfl rfl (congrArg Value.bool hb118) ?_
      refine HList.gskips rfl rfl rfl rfl (congrArg Value.bool hb118) ?_
      refine HList.gskips rfl rfl rfl rfl (congrArg Value.bool hb118) ?_
      refine HList.vals (v := (.bool false)) rfl (HVal.pickF rfl hb118 rfl) ?_
      refine HList.vals (v := (.bool false)) rfl (HVal.move' rfl) ?_
      refine HList.gskips rfl rfl rfl rfl rfl ?_
      refine HList.gskips rfl rfl rfl rfl rfl ?_
      refine HList.gskips rfl rfl rfl rfl rfl ?_
      refine HList.gskips rfl rfl rfl rfl rfl ?_
      refine HList.gskips rfl rfl rfl rfl rfl ?_
      refine HList.vals (v := (.bool false)) rfl (HVal.pickF rfl rfl rfl) ?_
      refine HList.vals (v := (.bool false)) rfl (HVal.assign' rfl) ?_
      refine HList.nil ?_
      refine nt ?_
      refine HW.ret ?_
      exact ⟨_, resOf1 rfl Res1.t, ⟨false, rfl, h⟩⟩

def F6_L1b (Q : Bool → Hp → Prop) (X1 : Int → Hp → Prop) (y6 : Sl) (y5 : Int) (H_1 : Hp) : Prop :=
((decide (y5 < ((y6).n : Int))) = true → (∃ a8 : Addr, (y6).b = some a8 ∧ (0 : Int) ≤ y5 ∧ y5 < ((y6).n : Int) ∧ (
 ∃ (x13 : Int) (x14 : Sl) (x15 : Sl) (x16 : ByteArray), cells H_1 (Addr.add a8 (y5.toNat * 4)) [(.int .i64 x13), (Sl.v x14), (Sl.v x15), (.string x16)] 0 ∧ (
 F19 x13 x14 x15 x16 H_1 (fun (r19 : Bool) (H17 : Hp) => 
 ((!r19) = true → (Q false H17)) ∧
 ((!r19) = false → (X1 (IntKind.i64.wrap (y5 + 1)) H17))))))) ∧
 ((decide (y5 < ((y6).n : Int))) = false → (Q true H_1))
def F6_L1 (Q : Bool → Hp → Prop) (y6 : Sl) (y5 : Int) (H_1 : Hp) : Prop :=
  ∀ X1 : Int → Hp → Prop, (∀ (y5 : Int) (H_1 : Hp), F6_L1b Q X1 y6 y5 H_1 → X1 y5 H_1) → X1 y5 H_1
def F6 (p0 : Sl) (H : Hp) (Q : Bool → Hp → Prop) : Prop :=
F9 H (fun (r3 : Bool) (H1 : Hp) => 
 ((!r3) = true → (Q false H1)) ∧
 ((!r3) = false → (F6_L1 Q p0 0 H1)))
set_option maxRecDepth 100000 in
set_option maxHeartbeats 4000000 in
theorem walk6 {w0 : World} {p0 : Sl} {H : Hp} {Q : Bool → Hp → Prop} (h : F6 p0 H Q) :
    Good Tryd.prog w0 6 #[(Sl.v p0)] H (fun v H => ∃ (r0 : Bool) , v = (.bool r0) ∧ Q r0 H) := by
  unfold F6 at h
  refine Good.enter' (fn := Tryd.f6) Tryd.func6 rfl rfl rfl ?_
  refine HW.seq ?_
  refine HW.region ?_
  refine HList.vals (v := (.bool false)) rfl (HVal.assign' rfl) ?_
  refine HList.nil ?_
  refine nt ?_
  refine HW.seq ?_
  refine HW.seq ?_
  refine HW.region ?_
  refine HList.ops' rfl (HOp.call' 9 [] (cap := []) rfl rfl Tryd.call9 (walk9 h)) ?_
  rintro _ H1 ⟨r3, rfl, h⟩
  refine HList.vals (v := (.bool (!r3))) rfl (HVal.not rfl) ?_
  refine HList.nil ?_
  refine nt ?_
  obtain ⟨hT, hF⟩ := h
  refine HW.cond (!r3) rfl (fun hb4 => ?_) (fun hb4 => ?_)
  · have h := hT hb4
    clear hT hF
    refine HW.seq ?_
    refine HW.region ?_
    refine HList.vals (v := (.bool false)) rfl (HVal.assign' rfl) ?_
    refine HList.nil ?_
    refine nt ?_
    refine HW.ret ?_
    refine tr ?_
    exact ⟨_, resOf1 rfl Res1.t, ⟨false, rfl, h⟩⟩
  · have h := hF hb4
    clear hT hF
    refine HW.skip ?_
    refine nt ?_
    refine HW.seq ?_
    refine HW.seq ?_
    refine HW.region ?_
    refine HList.vals (v := (.int .i64 0)) rfl (HVal.assign' rfl) ?_
    refine HList.nil ?_
    refine nt ?_
    refine HW.block ?_
    refine HW.loop' (fun L1 hL1 => ?_)
    obtain ⟨X1, hX1⟩ : ∃ X1 : Int → Hp → Prop, ∀ (y5 : Int) (H_1 : Hp), X1 y5 H_1 ↔ ∀ ρ, Env.Is ρ [(0, (Sl.v p0)), (3, (.int .i64 y5))] → L1 ρ H_1 := ⟨_, fun _ _ => Iff.rfl⟩
    refine (hX1 _ _).1 (h X1 ?_) _ ?_
    rotate_left
    · exact ⟨rfl, rfl, trivial⟩
    clear h
    intro y5 H_1 h
    refine (hX1 _ _).2 fun ρ hI => ?_
    obtain ⟨ρ0, rfl⟩ : ∃ ρ0, ρ = (Env.set (Env.set ρ0 3 (.int .i64 y5)) 0 (Sl.v p0)) := ⟨ρ, hI.eq⟩
    clear hI; unfold F6_L1b at h; refine hL1 _ _ ?_
    refine HW.seq ?_
    refine HW.seq ?_
    refine HW.region ?_
    refine HList.vals (v := (.int .i64 y5)) rfl (HVal.move' rfl) ?_
    refine HList.vals (v := (Sl.v p0)) rfl (HVal.move' rfl) ?_
    refine HList.vals (v := (.int .i64 ((p0).n : Int))) rfl (HVal.len Tryd.runUnderlying38 rfl) ?_
    refine HList.vals (v := (.bool (decide (y5 < ((p0).n : Int))))) rfl (HVal.lss rfl rfl) ?_
    refine HList.nil ?_
    refine nt ?_
    obtain ⟨hT, hF⟩ := h
    refine HW.cond (decide (y5 < ((p0).n : Int))) rfl (fun hb7 => ?_) (fun hb7 => ?_)
    · have h := hT hb7
      clear hT hF
      refine HW.skip ?_
      refine nt ?_
      refine HW.seq ?_
      refine HW.block ?_
      refine HW.seq ?_
      refine HW.region ?_
      refine HList.vals (v := (Sl.v p0)) rfl (HVal.move' rfl) ?_
      refine HList.vals (v := (.int .i64 y5)) rfl (HVal.move' rfl) ?_
      obtain ⟨a8, e9, b10, b11, h⟩ := h
      refine HList.vals (v := (.pointer (some (Addr.add a8 (y5.toNat * 4))))) rfl (HVal.indexAddr Tryd.runUnderlying38 Tryd.sizeOf41 (Sl.v_some rfl e9) rfl b10 b11) ?_
      obtain ⟨x13, x14, x15, x16, c12, h⟩ := h
      refine HList.vals (v := (.agg #[(.int .i64 x13), (Sl.v x14), (Sl.v x15), (.string x16)])) rfl (HVal.loadN [(.int .i64 x13), (Sl.v x14), (Sl.v x15), (.string x16)] Tryd.isAgg41 Tryd.sizeOf41 rfl c12) ?_
      refine HList.ops' rfl (HOp.call' 19 [(.agg #[(.int .i64 x13), (Sl.v x14), (Sl.v x15), (.string x16)])] (cap := []) rfl rfl Tryd.call19 (walk19 h)) ?_
      rintro _ H17 ⟨r19, rfl, h⟩
      refine HList.vals (v := (.bool (!r19))) rfl (HVal.not rfl) ?_
      refine HList.nil ?_
      refine nt ?_
      obtain ⟨hT, hF⟩ := h
      refine HW.cond (!r19) rfl (fun hb20 => ?_) (fun hb20 => ?_)
      · have h := hT hb20
        clear hT hF
        refine HW.seq ?_
        refine HW.region ?_
        refine HList.vals (v := (.bool false)) rfl (HVal.assign' rfl) ?_
        refine HList.nil ?_
        refine nt ?_
        refine HW.ret ?_
        refine br ?_
        refine tr ?_
        refine tr ?_
        refine br ?_
        refine tr ?_
        exact ⟨_, resOf1 rfl Res1.t, ⟨false, rfl, h⟩⟩
      · have h := hF hb20
        clear hT hF
        refine HW.skip ?_
        refine nb ?_
        refine nt ?_
        refine HW.region ?_
        refine HList.vals (v := (.int .i64 y5)) rfl (HVal.move' rfl) ?_
        refine HList.vals (v := (.int .i64 (IntKind.i64.wrap (y5 + 1)))) rfl (HVal.add rfl rfl) ?_
        refine HList.vals (v := (.int .i64 (IntKind.i64.wrap (y5 + 1)))) rfl (HVal.assign' rfl) ?_
        refine HList.nil ?_
        refine nt ?_
        exact (hX1 _ _).1 h _ ⟨rfl, rfl, trivial⟩
    · have h := hF hb7
      clear hT hF
      refine HW.exit ?_
      refine te ?_
      refine te ?_
      refine be ?_
      refine nt ?_
      refine HW.seq ?_
      refine HW.region ?_
      refine HList.vals (v := (.bool true)) rfl (HVal.assign' rfl) ?_
      refine HList.nil ?_
      refine nt ?_
      refine HW.ret ?_
      exact ⟨_, resOf1 rfl Res1.t, ⟨true, rfl, h⟩⟩

def F20_1 (Q : Sl → Hp → Prop) (y11 : Sl) (H_1 : Hp) : Prop :=
Q y11 H_1
def F20 (p0_0 : Int) (p0_1 : Sl) (p0_2 : Sl) (p0_3 : ByteArray) (H : Hp) (Q : Sl → Hp → Prop) : Prop :=
∀ H1 : Hp, H1 = Array.push H (.cells #[(.int .i64 p0_0), (Sl.v p0_1), (Sl.v p0_2), (.string p0_3)] 41) → (
 ∃ x4 : Int, cell H1 ⟨H.size, 0, none⟩ = some (.int .i64 x4) ∧ (
 ((decide (x4 = 1)) = true → (∃ x7 : Sl, cell H1 (Addr.add ⟨H.size, 0, none⟩ 1) = some (Sl.v x7) ∧ (
 F12 x7 H1 (fun (r10 : Sl) (H8 : Hp) => 
 F20_1 Q r10 H8)))) ∧
 ((decide (x4 = 1)) = false → (((decide (x4 = 2)) = true → (∃ x14 : Sl, cell H1 (Addr.add ⟨H.size, 0, none⟩ 1) = some (Sl.v x14) ∧ (
 F11 x14 H1 (fun (r17 : Sl) (r18 : Int) (H15 : Hp) => 
 F20_1 Q r17 H15)))) ∧
 ((decide (x4 = 2)) = false → (((decide (x4 = 6)) = true → (∃ x21 : ByteArray, cell H1 (Addr.add ⟨H.size, 0, none⟩ 3) = some (.string x21) ∧ (
 F18 x21 H1 (fun (r24 : Sl) (r25 : Int) (H22 : Hp) => 
 F20_1 Q r24 H22)))) ∧
 ((decide (x4 = 6)) = false → (F20_1 Q Sl.nil H1))))))))
set_option maxRecDepth 100000 in
set_option maxHeartbeats 4000000 in
theorem walk20 {w0 : World} {p0_0 : Int} {p0_1 : Sl} {p0_2 : Sl} {p0_3 : ByteArray} {H : Hp} {Q : Sl → Hp → Prop} (h : F20 p0_0 p0_1 p0_2 p0_3 H Q) :
    Good Tryd.prog w0 20 #[(.agg #[(.int .i64 p0_0), (Sl.v p0_1), (Sl.v p0_2), (.string p0_3)])] H (fun v H => ∃ (r0 : Sl) , v = (Sl.v r0) ∧ Q r0 H) := by
  unfold F20 at h
  refine Good.enter' (fn := Tryd.f20) Tryd.func20 rfl rfl rfl ?_
  refine HW.seq ?_
  refine HW.region ?_
  refine HList.ops' rfl (HOp.box (v := (.agg #[(.int .i64 p0_0), (Sl.v p0_1), (Sl.v p0_2), (.string p0_3)])) rfl) ?_
  rintro _ H1 ⟨rfl, e2⟩
  replace h := h H1 e2
  refine HList.vals (v := (Sl.v Sl.nil)) rfl (HVal.assign' rfl) ?_
  refine HList.nil ?_
  refine nt ?_
  refine HW.seq ?_
  refine HW.region ?_
  refine HList.vals (v := (Sl.v Sl.nil)) rfl (HVal.assign' rfl) ?_
  refine HList.nil ?_
  refine nt ?_
  refine HW.cut (fun ρ H_1 => ∃ (y11 : Sl), Env.Is ρ [(3, (Sl.v y11))] ∧ F20_1 Q y11 H_1) ?_ ?_
  · refine HW.seq ?_
    refine HW.region ?_
    refine HList.vals (v := (.pointer (some ⟨H.size, 0, none⟩))) rfl (HVal.fieldAddr0 Tryd.runUnderlying41 rfl rfl Tryd.sizeOf3 rfl) ?_
    obtain ⟨x4, c3, h⟩ := h
    refine HList.vals (v := (.int .i64 x4)) rfl (HVal.load1 Tryd.isAgg3 rfl c3) ?_
    refine HList.nil ?_
    refine nt ?_
    refine HW.block ?_
    refine HW.seq ?_
    refine HW.region ?_
    refine HList.vals (v := (.bool (decide (x4 = 1)))) rfl (HVal.eqlI rfl rfl) ?_
    refine HList.vals (v := (.bool (decide (x4 = 1)))) rfl (HVal.assign' rfl) ?_
    refine HList.nil ?_
    refine nt ?_
    obtain ⟨hT, hF⟩ := h
    refine HW.cond (decide (x4 = 1)) rfl (fun hb5 => ?_) (fun hb5 => ?_)
    · have h := hT hb5
      clear hT hF
      refine HW.region ?_
      refine HList.vals (v := (.pointer (some (Addr.add ⟨H.size, 0, none⟩ 1)))) rfl (HVal.fieldAddr' Tryd.runUnderlying41 rfl rfl Tryd.sizeOf22 rfl) ?_
      obtain ⟨x7, c6, h⟩ := h
      refine HList.vals (v := (Sl.v x7)) rfl (HVal.load1 Tryd.isAgg22 rfl c6) ?_
      refine HList.ops' rfl (HOp.call' 12 [(Sl.v x7)] (cap := []) rfl rfl Tryd.call12 (walk12 h)) ?_
      rintro _ H8 ⟨r10, rfl, h⟩
      refine HList.vals (v := (Sl.v r10)) rfl (HVal.assign' rfl) ?_
      refine HList.nil ?_
      refine nb ?_
      refine nt ?_
      exact ⟨r10, ⟨rfl, trivial⟩, h⟩
    · have h := hF hb5
      clear hT hF
      refine HW.seq ?_
      refine HW.region ?_
      refine HList.vals (v := (.bool (decide (x4 = 2)))) rfl (HVal.eqlI rfl rfl) ?_
      refine HList.vals (v := (.bool (decide (x4 = 2)))) rfl (HVal.assign' rfl) ?_
      refine HList.nil ?_
      refine nt ?_
      obtain ⟨hT, hF⟩ := h
      refine HW.cond (decide (x4 = 2)) rfl (fun hb12 => ?_) (fun hb12 => ?_)
      · have h := hT hb12
        clear hT hF
        refine HW.region ?_
        refine HList.vals (v := (.pointer (some (Addr.add ⟨H.size, 0, none⟩ 1)))) rfl (HVal.fieldAddr' Tryd.runUnderlying41 rfl rfl Tryd.sizeOf22 rfl) ?_
        obtain ⟨x14, c13, h⟩ := h
        refine HList.vals (v := (Sl.v x14)) rfl (HVal.load1 Tryd.isAgg22 rfl c13) ?_
        refine HList.ops' rfl (HOp.call' 11 [(Sl.v x14)] (cap := []) rfl rfl Tryd.call11 (walk11 h)) ?_
        rintro _ H15 ⟨r17, r18, rfl, h⟩
        refine HList.vals (v := (.tuple #[(Sl.v r17), (.int .i64 r18)])) rfl (HVal.move' rfl) ?_
        refine HList.vals (v := (Sl.v r17)) rfl (HVal.extract rfl rfl) ?_
        refine HList.vals (v := (.int .i64 r18)) rfl (HVal.extract rfl rfl) ?_
        refine HList.vals (v := (Sl.v r17)) rfl (HVal.assign' rfl) ?_
        refine HList.nil ?_
        refine nb ?_
        refine nt ?_
        exact ⟨r17, ⟨rfl, trivial⟩, h⟩
      · have h := hF hb12
        clear hT hF
        refine HW.seq ?_
        refine HW.region ?_
        refine HList.vals (v := (.bool (decide (x4 = 6)))) rfl (HVal.eqlI rfl rfl) ?_
        refine HList.vals (v := (.bool (decide (x4 = 6)))) rfl (HVal.assign' rfl) ?_
        refine HList.nil ?_
        refine nt ?_
        obtain ⟨hT, hF⟩ := h
        refine HW.cond (decide (x4 = 6)) rfl (fun hb19 => ?_) (fun hb19 => ?_)
        · have h := hT hb19
          clear hT hF
          refine HW.region ?_
          refine HList.vals (v := (.pointer (some (Addr.add ⟨H.size, 0, none⟩ 3)))) rfl (HVal.fieldAddr' Tryd.runUnderlying41 rfl rfl Tryd.sizeOf9 rfl) ?_
          obtain ⟨x21, c20, h⟩ := h
          refine HList.vals (v := (.string x21)) rfl (HVal.load1 Tryd.isAgg9 rfl c20) ?_
          refine HList.ops' rfl (HOp.call' 18 [(.string x21)] (cap := []) rfl rfl Tryd.call18 (walk18 h)) ?_
          rintro _ H22 ⟨r24, r25, rfl, h⟩
          refine HList.vals (v := (.tuple #[(Sl.v r24), (.int .i64 r25)])) rfl (HVal.move' rfl) ?_
          refine HList.vals (v := (Sl.v r24)) rfl (HVal.extract rfl rfl) ?_
          refine HList.vals (v := (.int .i64 r25)) rfl (HVal.extract rfl rfl) ?_
          refine HList.vals (v := (Sl.v r24)) rfl (HVal.assign' rfl) ?_
          refine HList.nil ?_
          refine nb ?_
          refine nt ?_
          exact ⟨r24, ⟨rfl, trivial⟩, h⟩
        · have h := hF hb19
          clear hT hF
          refine HW.skip ?_
          refine nb ?_
          refine nt ?_
          exact ⟨Sl.nil, ⟨rfl, trivial⟩, h⟩
  · rintro ρ H_1 ⟨y11, hI, h⟩
    obtain ⟨ρ0, rfl⟩ : ∃ ρ0, ρ = (Env.set ρ0 3 (Sl.v y11)) := ⟨ρ, hI.eq⟩
    clear hI; unfold F20_1 at h
    refine HW.seq ?_
    refine HW.region ?_
    refine HList.vals (v := (Sl.v y11)) rfl (HVal.move' rfl) ?_
    refine HList.vals (v := (Sl.v y11)) rfl (HVal.assign' rfl) ?_
    refine HList.nil ?_
    refine nt ?_
    refine HW.ret ?_
    exact ⟨_, resOf1 rfl Res1.t, ⟨y11, rfl, h⟩⟩

def F41_1 (Q : Hp → Prop) (y5 : (Option Addr)) (y6 : Sl) (H_1 : Hp) : Prop :=
∃ a20 : Addr, y5 = some a20 ∧ (
 ∃ x23 : Int, cell H_1 (Addr.add a20 1) = some (.int .i64 x23) ∧ (
 ∃ a24 : Addr, y5 = some a24 ∧ (
 (cell H_1 (Addr.add a24 1)).isSome = true ∧ frz H_1 (Addr.add a24 1) = false ∧ ∀ H26 : Hp, H26 = setc H_1 (Addr.add a24 1) (.int .i64 (IntKind.i64.wrap ((IntKind.i64.wrap (x23 + 800)) + (IntKind.i64.wrap (16 * ((y6).n : Int)))))) → (
 ∃ a30 : Addr, y5 = some a30 ∧ (
 ∃ x33 : Int, cell H26 (Addr.add a30 1) = some (.int .i64 x33) ∧ (
 ((decide (x33 ≤ 33554432)) = true → (∃ a35 : Addr, y5 = some a35 ∧ (
 ∃ x38 : Sl, cell H26 a35 = some (Sl.v x38) ∧ (
 ∀ H39 : Hp, H39 = Array.push H26 (.cells #[(Sl.v y6), (Sl.v Sl.nil)] 22) → (
 AppendF H39 22 1 24 #[(Sl.v Sl.nil)] x38 ((Sl.mk (some ⟨H26.size, 0, none⟩) 2 2)).b ((Sl.mk (some ⟨H26.size, 0, none⟩) 2 2)).n (fun (r43 : Sl) (H41 : Hp) => 
 ∃ a44 : Addr, y5 = some a44 ∧ (
 (cell H41 a44).isSome = true ∧ frz H41 a44 = false ∧ ∀ H46 : Hp, H46 = setc H41 a44 (Sl.v r43) → (
 Q H46)))))))) ∧
 ((decide (x33 ≤ 33554432)) = false → (Q H26))))))))
def F41_L2b (Q : Hp → Prop) (X2 : Int → Hp → Prop) (y8 : (Option Addr)) (y9 : Sl) (y10 : Int) (y7 : Int) (H_2 : Hp) : Prop :=
((decide (y7 < ((y9).n : Int))) = true → (∃ a12 : Addr, (y9).b = some a12 ∧ (0 : Int) ≤ y7 ∧ y7 < ((y9).n : Int) ∧ (
 (cell H_2 (Addr.add a12 (y7.toNat * 1))).isSome = true ∧ frz H_2 (Addr.add a12 (y7.toNat * 1)) = false ∧ ∀ H16 : Hp, H16 = setc H_2 (Addr.add a12 (y7.toNat * 1)) (.int .i64 y10) → (
 X2 (IntKind.i64.wrap (y7 + 1)) H16)))) ∧
 ((decide (y7 < ((y9).n : Int))) = false → (F41_1 Q y8 y9 H_2))
def F41_L2 (Q : Hp → Prop) (y8 : (Option Addr)) (y9 : Sl) (y10 : Int) (y7 : Int) (H_2 : Hp) : Prop :=
  ∀ X2 : Int → Hp → Prop, (∀ (y7 : Int) (H_2 : Hp), F41_L2b Q X2 y8 y9 y10 y7 H_2 → X2 y7 H_2) → X2 y7 H_2
def F41 (p0 : (Option Addr)) (p1 : Sl) (H : Hp) (Q : Hp → Prop) : Prop :=
∃ a1 : Addr, p0 = some a1 ∧ (
 ∃ x4 : Sl, cell H a1 = some (Sl.v x4) ∧ (
 F41_L2 Q p0 p1 (IntKind.i64.wrap (1000000 + (IntKind.i64.wrap (Int.tdiv ((x4).n : Int) (2 : Int))))) 0 H))
set_option maxRecDepth 100000 in
set_option maxHeartbeats 4000000 in
theorem walk41 {w0 : World} {p0 : (Option Addr)} {p1 : Sl} {H : Hp} {Q : Hp → Prop} (h : F41 p0 p1 H Q) :
    Good Tryd.prog w0 41 #[(.pointer p0), (Sl.v p1)] H (fun v H => v = (.tuple #[]) ∧ Q H) := by
  unfold F41 at h
  refine Good.enter' (fn := Tryd.f41) Tryd.func41 rfl rfl rfl ?_
  refine HW.seq ?_
  refine HW.region ?_
  refine HList.vals (v := (.pointer p0)) rfl (HVal.move' rfl) ?_
  obtain ⟨a1, e2, h⟩ := h
  refine HList.vals (v := (.pointer (some a1))) rfl (HVal.nilCheck (congrArg Value.pointer e2)) ?_
  refine HList.vals (v := (.pointer (some a1))) rfl (HVal.fieldAddr0 Tryd.runUnderlying44 rfl rfl Tryd.sizeOf25 rfl) ?_
  obtain ⟨x4, c3, h⟩ := h
  refine HList.vals (v := (Sl.v x4)) rfl (HVal.load1 Tryd.isAgg25 rfl c3) ?_
  refine HList.vals (v := (.int .i64 ((x4).n : Int))) rfl (HVal.len Tryd.runUnderlying25 rfl) ?_
  refine HList.vals (v := (.int .i64 (IntKind.i64.wrap (Int.tdiv ((x4).n : Int) (2 : Int))))) rfl (HVal.quo rfl rfl (by decide)) ?_
  refine HList.vals (v := (.int .i64 (IntKind.i64.wrap (1000000 + (IntKind.i64.wrap (Int.tdiv ((x4).n : Int) (2 : Int))))))) rfl (HVal.add rfl rfl) ?_
  refine HList.vals (v := (.int .i64 (IntKind.i64.wrap (1000000 + (IntKind.i64.wrap (Int.tdiv ((x4).n : Int) (2 : Int))))))) rfl (HVal.assign' rfl) ?_
  refine HList.nil ?_
  refine nt ?_
  refine HW.cut (fun ρ H_1 => Env.Is ρ [(0, (.pointer p0)), (1, (Sl.v p1))] ∧ F41_1 Q p0 p1 H_1) ?_ ?_
  · refine HW.seq ?_
    refine HW.region ?_
    refine HList.vals (v := (.int .i64 0)) rfl (HVal.assign' rfl) ?_
    refine HList.nil ?_
    refine nt ?_
    refine HW.block ?_
    refine HW.loop' (fun L2 hL2 => ?_)
    obtain ⟨X2, hX2⟩ : ∃ X2 : Int → Hp → Prop, ∀ (y7 : Int) (H_2 : Hp), X2 y7 H_2 ↔ ∀ ρ, Env.Is ρ [(0, (.pointer p0)), (1, (Sl.v p1)), (4, (.int .i64 (IntKind.i64.wrap (1000000 + (IntKind.i64.wrap (Int.tdiv ((x4).n : Int) (2 : Int))))))), (5, (.int .i64 y7))] → L2 ρ H_2 := ⟨_, fun _ _ => Iff.rfl⟩
    refine (hX2 _ _).1 (h X2 ?_) _ ?_
    rotate_left
    · exact ⟨rfl, rfl, rfl, rfl, trivial⟩
    clear h
    intro y7 H_2 h
    refine (hX2 _ _).2 fun ρ hI => ?_
    obtain ⟨ρ0, rfl⟩ : ∃ ρ0, ρ = (Env.set (Env.set (Env.set (Env.set ρ0 5 (.int .i64 y7)) 4 (.int .i64 (IntKind.i64.wrap (1000000 + (IntKind.i64.wrap (Int.tdiv ((x4).n : Int) (2 : Int))))))) 1 (Sl.v p1)) 0 (.pointer p0)) := ⟨ρ, hI.eq⟩
    clear hI; unfold F41_L2b at h; refine hL2 _ _ ?_
    refine HW.seq ?_
    refine HW.seq ?_
    refine HW.region ?_
    refine HList.vals (v := (.int .i64 y7)) rfl (HVal.move' rfl) ?_
    refine HList.vals (v := (Sl.v p1)) rfl (HVal.move' rfl) ?_
    refine HList.vals (v := (.int .i64 ((p1).n : Int))) rfl (HVal.len Tryd.runUnderlying22 rfl) ?_
    refine HList.vals (v := (.bool (decide (y7 < ((p1).n : Int))))) rfl (HVal.lss rfl rfl) ?_
    refine HList.nil ?_
    refine nt ?_
    obtain ⟨hT, hF⟩ := h
    refine HW.cond (decide (y7 < ((p1).n : Int))) rfl (fun hb11 => ?_) (fun hb11 => ?_)
    · have h := hT hb11
      clear hT hF
      refine HW.skip ?_
      refine nt ?_
      refine HW.seq ?_
      refine HW.block ?_
      refine HW.region ?_
      refine HList.vals (v := (Sl.v p1)) rfl (HVal.move' rfl) ?_
      refine HList.vals (v := (.int .i64 y7)) rfl (HVal.move' rfl) ?_
      refine HList.vals (v := (.int .i64 (IntKind.i64.wrap (1000000 + (IntKind.i64.wrap (Int.tdiv ((x4).n : Int) (2 : Int))))))) rfl (HVal.move' rfl) ?_
      obtain ⟨a12, e13, b14, b15, h⟩ := h
      refine HList.vals (v := (.pointer (some (Addr.add a12 (y7.toNat * 1))))) rfl (HVal.indexAddr Tryd.runUnderlying22 Tryd.sizeOf3 (Sl.v_some rfl e13) rfl b14 b15) ?_
      obtain ⟨z18, z19, h⟩ := h
      refine HList.opsn (HOp.store1 Tryd.sizeOf3 rfl rfl rfl z18 z19) ?_
      rintro _ H16 e17
      replace h := h H16 e17
      refine HList.nil ?_
      refine nb ?_
      refine nt ?_
      refine HW.region ?_
      refine HList.vals (v := (.int .i64 y7)) rfl (HVal.move' rfl) ?_
      refine HList.vals (v := (.int .i64 (IntKind.i64.wrap (y7 + 1)))) rfl (HVal.add rfl rfl) ?_
      refine HList.vals (v := (.int .i64 (IntKind.i64.wrap (y7 + 1)))) rfl (HVal.assign' rfl) ?_
      refine HList.nil ?_
      refine nt ?_
      exact (hX2 _ _).1 h _ ⟨rfl, rfl, rfl, rfl, trivial⟩
    · have h := hF hb11
      clear hT hF
      refine HW.exit ?_
      refine te ?_
      refine te ?_
      refine be ?_
      refine nt ?_
      exact ⟨⟨rfl, rfl, trivial⟩, h⟩
  · rintro ρ H_1 ⟨hI, h⟩
    obtain ⟨ρ0, rfl⟩ : ∃ ρ0, ρ = (Env.set (Env.set ρ0 1 (Sl.v p1)) 0 (.pointer p0)) := ⟨ρ, hI.eq⟩
    clear hI; unfold F41_1 at h
    refine HW.seq ?_
    refine HW.region ?_
    refine HList.vals (v := (.pointer p0)) rfl (HVal.move' rfl) ?_
    refine HList.vals (v := (.pointer p0)) rfl (HVal.move' rfl) ?_
    obtain ⟨a20, e21, h⟩ := h
    refine HList.vals (v := (.pointer (some a20))) rfl (HVal.nilCheck (congrArg Value.pointer e21)) ?_
    refine HList.vals (v := (.pointer (some (Addr.add a20 1)))) rfl (HVal.fieldAddr' Tryd.runUnderlying44 rfl rfl Tryd.sizeOf3 rfl) ?_
    obtain ⟨x23, c22, h⟩ := h
    refine HList.vals (v := (.int .i64 x23)) rfl (HVal.load1 Tryd.isAgg3 rfl c22) ?_
    refine HList.vals (v := (.int .i64 (IntKind.i64.wrap (x23 + 800)))) rfl (HVal.add rfl rfl) ?_
    refine HList.vals (v := (Sl.v p1)) rfl (HVal.move' rfl) ?_
    refine HList.vals (v := (.int .i64 ((p1).n : Int))) rfl (HVal.len Tryd.runUnderlying22 rfl) ?_
    refine HList.vals (v := (.int .i64 (IntKind.i64.wrap (16 * ((p1).n : Int))))) rfl (HVal.mul rfl rfl) ?_
    refine HList.vals (v := (.int .i64 (IntKind.i64.wrap ((IntKind.i64.wrap (x23 + 800)) + (IntKind.i64.wrap (16 * ((p1).n : Int))))))) rfl (HVal.add rfl rfl) ?_
    obtain ⟨a24, e25, h⟩ := h
    refine HList.vals (v := (.pointer (some a24))) rfl (HVal.nilCheck (congrArg Value.pointer e25)) ?_
    refine HList.vals (v := (.pointer (some (Addr.add a24 1)))) rfl (HVal.fieldAddr' Tryd.runUnderlying44 rfl rfl Tryd.sizeOf3 rfl) ?_
    obtain ⟨z28, z29, h⟩ := h
    refine HList.opsn (HOp.store1 Tryd.sizeOf3 rfl rfl rfl z28 z29) ?_
    rintro _ H26 e27
    replace h := h H26 e27
    refine HList.nil ?_
    refine nt ?_
    refine HW.seq ?_
    refine HW.region ?_
    refine HList.vals (v := (.pointer p0)) rfl (HVal.move' rfl) ?_
    obtain ⟨a30, e31, h⟩ := h
    refine HList.vals (v := (.pointer (some a30))) rfl (HVal.nilCheck (congrArg Value.pointer e31)) ?_
    refine HList.vals (v := (.pointer (some (Addr.add a30 1)))) rfl (HVal.fieldAddr' Tryd.runUnderlying44 rfl rfl Tryd.sizeOf3 rfl) ?_
    obtain ⟨x33, c32, h⟩ := h
    refine HList.vals (v := (.int .i64 x33)) rfl (HVal.load1 Tryd.isAgg3 rfl c32) ?_
    refine HList.vals (v := (.bool (decide (x33 ≤ 33554432)))) rfl (HVal.leq rfl rfl) ?_
    refine HList.nil ?_
    refine nt ?_
    obtain ⟨hT, hF⟩ := h
    refine HW.cond (decide (x33 ≤ 33554432)) rfl (fun hb34 => ?_) (fun hb34 => ?_)
    · have h := hT hb34
      clear hT hF
      refine HW.region ?_
      refine HList.vals (v := (.pointer p0)) rfl (HVal.move' rfl) ?_
      refine HList.vals (v := (.pointer p0)) rfl (HVal.move' rfl) ?_
      obtain ⟨a35, e36, h⟩ := h
      refine HList.vals (v := (.pointer (some a35))) rfl (HVal.nilCheck (congrArg Value.pointer e36)) ?_
      refine HList.vals (v := (.pointer (some a35))) rfl (HVal.fieldAddr0 Tryd.runUnderlying44 rfl rfl Tryd.sizeOf25 rfl) ?_
      obtain ⟨x38, c37, h⟩ := h
      refine HList.vals (v := (Sl.v x38)) rfl (HVal.load1 Tryd.isAgg25 rfl c37) ?_
      refine HList.vals (v := (Sl.v p1)) rfl (HVal.move' rfl) ?_
      refine HList.ops' rfl (HOp.buildSlice' (zs := [(Sl.v Sl.nil), (Sl.v Sl.nil)]) (cs := [(Sl.v p1), (Sl.v Sl.nil)]) Tryd.runUnderlying25 Tryd.sizeOf22 Tryd.zeroValue22 (by decide) (by kernel_rfl) rfl (by decide)) ?_
      rintro _ H39 ⟨rfl, e40⟩
      replace h := h H39 e40
      refine HList.ops' rfl (HOp.append (k := 1) (b := 24) Tryd.runUnderlying25 Tryd.runUnderlying25 Tryd.typeInfo22 rfl rfl Tryd.zeroValue22 rfl rfl h) ?_
      rintro _ H41 ⟨r43, rfl, h⟩
      obtain ⟨a44, e45, h⟩ := h
      refine HList.vals (v := (.pointer (some a44))) rfl (HVal.nilCheck (congrArg Value.pointer e45)) ?_
      refine HList.vals (v := (.pointer (some a44))) rfl (HVal.fieldAddr0 Tryd.runUnderlying44 rfl rfl Tryd.sizeOf25 rfl) ?_
      obtain ⟨z48, z49, h⟩ := h
      refine HList.opsn (HOp.store1 Tryd.sizeOf25 rfl rfl rfl z48 z49) ?_
      rintro _ H46 e47
      replace h := h H46 e47
      refine HList.nil ?_
      exact ⟨_, resOf0 rfl , ⟨rfl, h⟩⟩
    · have h := hF hb34
      clear hT hF
      refine HW.skip ?_
      exact ⟨_, resOf0 rfl , ⟨rfl, h⟩⟩

def F49 (p0 : Int) (H : Hp) (Q : Int → Hp → Prop) : Prop :=
Q (if (70000 : Int) < p0 then 70000 else p0) H
set_option maxRecDepth 100000 in
set_option maxHeartbeats 4000000 in
theorem walk49 {w0 : World} {p0 : Int} {H : Hp} {Q : Int → Hp → Prop} (h : F49 p0 H Q) :
    Good Tryd.prog w0 49 #[(.int .i64 p0)] H (fun v H => ∃ (r0 : Int) , v = (.int .i64 r0) ∧ Q r0 H) := by
  unfold F49 at h
  refine Good.enter' (fn := Tryd.f49) Tryd.func49 rfl rfl rfl ?_
  refine HW.seq ?_
  refine HW.region ?_
  refine HList.vals (v := (.int .i64 0)) rfl (HVal.assign' rfl) ?_
  refine HList.nil ?_
  refine nt ?_
  refine HW.seq ?_
  refine HW.region ?_
  refine HList.vals (v := (.int .i64 p0)) rfl (HVal.move' rfl) ?_
  refine HList.vals (v := (.int .i64 (if (70000 : Int) < p0 then 70000 else p0))) rfl (HVal.min rfl rfl) ?_
  refine HList.vals (v := (.int .i64 (if (70000 : Int) < p0 then 70000 else p0))) rfl (HVal.assign' rfl) ?_
  refine HList.nil ?_
  refine nt ?_
  refine HW.ret ?_
  exact ⟨_, resOf1 rfl Res1.t, ⟨(if (70000 : Int) < p0 then 70000 else p0), rfl, h⟩⟩

end Go.Hw
