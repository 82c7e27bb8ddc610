/- The walks of this seat, printed by a program of this session (wip/tools/gen.py): of each function what it does to the heap, and that it does so. -/
import Derived.Test.YtphnfleopkcmlaaHwM
import Derived.Test.YtphnfleopkcmlaaProg
import Derived.Test.YtphnfleopkcmlaaWAux
import Derived.Test.YtphnfleopkcmlaaWalkB
set_option linter.unusedVariables false
set_option linter.unusedSimpArgs false
namespace Go.Hw
open Go Go.Proofs
def F20_1 (Q : Int → Hp → Prop) (y89 : Sl) (H_1 : Hp) : Prop :=
Q ((y89).n : Int) H_1
def F20_3 (Q : Int → Hp → Prop) (X2 : Sl → Int → Hp → Prop) (y9 : (Option Addr)) (y10 : Sl) (y11 : Int) (y88 : Sl) (H_3 : Hp) : Prop :=
X2 y88 (IntKind.i64.wrap (y11 + 1)) H_3
def F20_5 (Q : Int → Hp → Prop) (X2 : Sl → Int → Hp → Prop) (X4 : Sl → Int → Hp → Prop) (y29 : (Option Addr)) (y30 : Sl) (y31 : Int) (y32 : Sl) (y33 : Int) (y87 : Sl) (H_5 : Hp) : Prop :=
X4 y87 (IntKind.i64.wrap (y33 + 1)) H_5
def F20_6 (Q : Int → Hp → Prop) (X2 : Sl → Int → Hp → Prop) (X4 : Sl → Int → Hp → Prop) (y34 : (Option Addr)) (y35 : Sl) (y36 : Sl) (y37 : Int) (y38 : Sl) (y39 : Int) (y73 : Bool) (H_6 : Hp) : Prop :=
((!y73) = true → (∃ a75 : Addr, (y38).b = some a75 ∧ (0 : Int) ≤ y39 ∧ y39 < ((y38).n : Int) ∧ (
 ∃ (x80 : Int) (x81 : Int), cells H_6 (Addr.add a75 (y39.toNat * 2)) [(.int .i64 x80), (.int .i64 x81)] 0 ∧ (
 ∀ H82 : Hp, H82 = Array.push H_6 (.cells #[(.int .i64 x80), (.int .i64 x81)] 32) → (
 AppendF H82 32 2 16 #[(.int .i64 0), (.int .i64 0)] y35 ((Sl.mk (some ⟨H_6.size, 0, none⟩) 1 1)).b ((Sl.mk (some ⟨H_6.size, 0, none⟩) 1 1)).n (fun (r86 : Sl) (H84 : Hp) => 
 F20_5 Q X2 X4 y34 y36 y37 y38 y39 r86 H84)))))) ∧
 ((!y73) = false → (F20_5 Q X2 X4 y34 y36 y37 y38 y39 y35 H_6))
def F20_8 (Q : Int → Hp → Prop) (X2 : Sl → Int → Hp → Prop) (X4 : Sl → Int → Hp → Prop) (X7 : Bool → Int → Hp → Prop) (y49 : (Option Addr)) (y50 : Sl) (y51 : Sl) (y52 : Int) (y53 : Sl) (y54 : Int) (y55 : Int) (y58 : Bool) (H_8 : Hp) : Prop :=
X7 y58 (IntKind.i64.wrap (y55 + 1)) H_8
def F20_L7b (Q : Int → Hp → Prop) (X2 : Sl → Int → Hp → Prop) (X4 : Sl → Int → Hp → Prop) (X7 : Bool → Int → Hp → Prop) (y42 : (Option Addr)) (y43 : Sl) (y44 : Sl) (y45 : Int) (y46 : Sl) (y47 : Int) (y40 : Bool) (y41 : Int) (H_7 : Hp) : Prop :=
((decide (y41 < ((y43).n : Int))) = true → ((y40 = true → (F20_8 Q X2 X4 X7 y42 y43 y44 y45 y46 y47 y41 true H_7)) ∧
 (y40 = false → (∃ a59 : Addr, (y43).b = some a59 ∧ (0 : Int) ≤ y41 ∧ y41 < ((y43).n : Int) ∧ (
 ∃ (x64 : Int) (x65 : Int), cells H_7 (Addr.add a59 (y41.toNat * 2)) [(.int .i64 x64), (.int .i64 x65)] 0 ∧ (
 ∃ a66 : Addr, (y46).b = some a66 ∧ (0 : Int) ≤ y47 ∧ y47 < ((y46).n : Int) ∧ (
 ∃ (x71 : Int) (x72 : Int), cells H_7 (Addr.add a66 (y47.toNat * 2)) [(.int .i64 x71), (.int .i64 x72)] 0 ∧ (
 F20_8 Q X2 X4 X7 y42 y43 y44 y45 y46 y47 y41 (decide (x64 = x71) && decide (x65 = x72)) H_7)))))))) ∧
 ((decide (y41 < ((y43).n : Int))) = false → (F20_6 Q X2 X4 y42 y43 y44 y45 y46 y47 y40 H_7))
def F20_L7 (Q : Int → Hp → Prop) (X2 : Sl → Int → Hp → Prop) (X4 : Sl → Int → Hp → Prop) (y42 : (Option Addr)) (y43 : Sl) (y44 : Sl) (y45 : Int) (y46 : Sl) (y47 : Int) (y40 : Bool) (y41 : Int) (H_7 : Hp) : Prop :=
  ∀ X7 : Bool → Int → Hp → Prop, (∀ (y40 : Bool) (y41 : Int) (H_7 : Hp), F20_L7b Q X2 X4 X7 y42 y43 y44 y45 y46 y47 y40 y41 H_7 → X7 y40 y41 H_7) → X7 y40 y41 H_7
def F20_L4b (Q : Int → Hp → Prop) (X2 : Sl → Int → Hp → Prop) (X4 : Sl → Int → Hp → Prop) (y24 : (Option Addr)) (y25 : Sl) (y26 : Int) (y27 : Sl) (y22 : Sl) (y23 : Int) (H_4 : Hp) : Prop :=
((decide (y23 < ((y27).n : Int))) = true → (F20_L7 Q X2 X4 y24 y22 y25 y26 y27 y23 false 0 H_4)) ∧
 ((decide (y23 < ((y27).n : Int))) = false → (F20_3 Q X2 y24 y25 y26 y22 H_4))
def F20_L4 (Q : Int → Hp → Prop) (X2 : Sl → Int → Hp → Prop) (y24 : (Option Addr)) (y25 : Sl) (y26 : Int) (y27 : Sl) (y22 : Sl) (y23 : Int) (H_4 : Hp) : Prop :=
  ∀ X4 : Sl → Int → Hp → Prop, (∀ (y22 : Sl) (y23 : Int) (H_4 : Hp), F20_L4b Q X2 X4 y24 y25 y26 y27 y22 y23 H_4 → X4 y22 y23 H_4) → X4 y22 y23 H_4
def F20_L2b (Q : Int → Hp → Prop) (X2 : Sl → Int → Hp → Prop) (y6 : (Option Addr)) (y7 : Sl) (y4 : Sl) (y5 : Int) (H_2 : Hp) : Prop :=
((decide (y5 < ((y7).n : Int))) = true → (∃ a12 : Addr, (y7).b = some a12 ∧ (0 : Int) ≤ y5 ∧ y5 < ((y7).n : Int) ∧ (
 ∃ x17 : Int, cell H_2 (Addr.add a12 (y5.toNat * 1)) = some (.int .i64 x17) ∧ (
 F22 y6 x17 H_2 (fun (r20 : Sl) (r21 : Int) (H18 : Hp) => 
 F20_L4 Q X2 y6 y7 y5 r20 y4 0 H18))))) ∧
 ((decide (y5 < ((y7).n : Int))) = false → (F20_1 Q y4 H_2))
def F20_L2 (Q : Int → Hp → Prop) (y6 : (Option Addr)) (y7 : Sl) (y4 : Sl) (y5 : Int) (H_2 : Hp) : Prop :=
  ∀ X2 : Sl → Int → Hp → Prop, (∀ (y4 : Sl) (y5 : Int) (H_2 : Hp), F20_L2b Q X2 y6 y7 y4 y5 H_2 → X2 y4 y5 H_2) → X2 y4 y5 H_2
def F20 (p0 : (Option Addr)) (H : Hp) (Q : Int → Hp → Prop) : Prop :=
F21 p0 H (fun (r3 : Sl) (H1 : Hp) => 
 F20_L2 Q p0 r3 Sl.nil 0 H1)
set_option maxRecDepth 100000 in
set_option maxHeartbeats 4000000 in
theorem walk20 {w0 : World} {p0 : (Option Addr)} {H : Hp} {Q : Int → Hp → Prop} (h : F20 p0 H Q) :
    Good Try.prog w0 20 #[(.pointer p0)] H (fun v H => ∃ (r0 : Int) , v = (.int .i64 r0) ∧ Q r0 H) := by
  unfold F20 at h
  refine Good.enter' (fn := Try.f20) Try.func20 rfl rfl rfl ?_
  refine HW.seq ?_
  refine HW.region ?_
  refine HList.vals (v := (.int .i64 0)) rfl (HVal.assign' rfl) ?_
  refine HList.nil ?_
  refine nt ?_
  refine HW.seq ?_
  refine HW.region ?_
  refine HList.vals (v := (Sl.v Sl.nil)) rfl (HVal.assign' rfl) ?_
  refine HList.nil ?_
  refine nt ?_
  refine HW.seq ?_
  refine HW.region ?_
  refine HList.vals (v := (.pointer p0)) rfl (HVal.move' rfl) ?_
  refine HList.ops' rfl (HOp.call' 21 [(.pointer p0)] (cap := []) rfl rfl Try.call21 (walk21 h)) ?_
  rintro _ H1 ⟨r3, rfl, h⟩
  refine HList.vals (v := (Sl.v r3)) rfl (HVal.assign' rfl) ?_
  refine HList.nil ?_
  refine nt ?_
  refine HW.cut (fun ρ H_1 => ∃ (y89 : Sl), Env.Is ρ [(3, (Sl.v y89))] ∧ F20_1 Q y89 H_1) ?_ ?_
  · refine HW.seq ?_
    refine HW.region ?_
    refine HList.vals (v := (.int .i64 0)) rfl (HVal.assign' rfl) ?_
    refine HList.nil ?_
    refine nt ?_
    refine HW.block ?_
    refine HW.loop' (fun L2 hL2 => ?_)
    obtain ⟨X2, hX2⟩ : ∃ X2 : Sl → Int → Hp → Prop, ∀ (y4 : Sl) (y5 : Int) (H_2 : Hp), X2 y4 y5 H_2 ↔ ∀ ρ, Env.Is ρ [(0, (.pointer p0)), (4, (Sl.v r3)), (3, (Sl.v y4)), (5, (.int .i64 y5))] → L2 ρ H_2 := ⟨_, fun _ _ _ => Iff.rfl⟩
    refine (hX2 _ _ _).1 (h X2 ?_) _ ?_
    rotate_left
    · exact ⟨rfl, rfl, rfl, rfl, trivial⟩
    clear h
    intro y4 y5 H_2 h
    refine (hX2 _ _ _).2 fun ρ hI => ?_
    obtain ⟨ρ0, rfl⟩ : ∃ ρ0, ρ = (Env.set (Env.set (Env.set (Env.set ρ0 5 (.int .i64 y5)) 3 (Sl.v y4)) 4 (Sl.v r3)) 0 (.pointer p0)) := ⟨ρ, hI.eq⟩
    clear hI; unfold F20_L2b at h; refine hL2 _ _ ?_
    refine HW.seq ?_
    refine HW.seq ?_
    refine HW.region ?_
    refine HList.vals (v := (.int .i64 y5)) rfl (HVal.move' rfl) ?_
    refine HList.vals (v := (Sl.v r3)) rfl (HVal.move' rfl) ?_
    refine HList.vals (v := (.int .i64 ((r3).n : Int))) rfl (HVal.len Try.runUnderlying50 rfl) ?_
    refine HList.vals (v := (.bool (decide (y5 < ((r3).n : Int))))) rfl (HVal.lss rfl rfl) ?_
    refine HList.nil ?_
    refine nt ?_
    obtain ⟨hT, hF⟩ := h
    refine HW.cond (decide (y5 < ((r3).n : Int))) rfl (fun hb8 => ?_) (fun hb8 => ?_)
    · have h := hT hb8
      clear hT hF
      refine HW.skip ?_
      refine nt ?_
      refine HW.cut (fun ρ H_3 => ∃ (y88 : Sl), Env.Is ρ [(0, (.pointer p0)), (4, (Sl.v r3)), (5, (.int .i64 y5)), (3, (Sl.v y88))] ∧ F20_3 Q X2 p0 r3 y5 y88 H_3) ?_ ?_
      · refine HW.block ?_
        refine HW.seq ?_
        refine HW.region ?_
        refine HList.vals (v := (.pointer p0)) rfl (HVal.move' rfl) ?_
        refine HList.vals (v := (Sl.v r3)) rfl (HVal.move' rfl) ?_
        refine HList.vals (v := (.int .i64 y5)) rfl (HVal.move' rfl) ?_
        obtain ⟨a12, e13, b14, b15, h⟩ := h
        refine HList.vals (v := (.pointer (some (Addr.add a12 (y5.toNat * 1))))) rfl (HVal.indexAddr Try.runUnderlying50 Try.sizeOf3 (Sl.v_some rfl e13) rfl b14 b15) ?_
        obtain ⟨x17, c16, h⟩ := h
        refine HList.vals (v := (.int .i64 x17)) rfl (HVal.load1 Try.isAgg3 rfl c16) ?_
        refine HList.ops' rfl (HOp.call' 22 [(.pointer p0), (.int .i64 x17)] (cap := []) rfl rfl Try.call22 (walk22 h)) ?_
        rintro _ H18 ⟨r20, r21, rfl, h⟩
        refine HList.vals (v := (.tuple #[(Sl.v r20), (.int .i64 r21)])) rfl (HVal.move' rfl) ?_
        refine HList.vals (v := (Sl.v r20)) rfl (HVal.extract rfl rfl) ?_
        refine HList.vals (v := (.int .i64 r21)) rfl (HVal.extract rfl rfl) ?_
        refine HList.vals (v := (Sl.v r20)) rfl (HVal.assign' rfl) ?_
        refine HList.vals (v := (.int .i64 r21)) rfl (HVal.assign' rfl) ?_
        refine HList.nil ?_
        refine nt ?_
        refine HW.seq ?_
        refine HW.region ?_
        refine HList.vals (v := (.int .i64 0)) rfl (HVal.assign' rfl) ?_
        refine HList.nil ?_
        refine nt ?_
        refine HW.block ?_
        refine HW.loop' (fun L4 hL4 => ?_)
        obtain ⟨X4, hX4⟩ : ∃ X4 : Sl → Int → Hp → Prop, ∀ (y22 : Sl) (y23 : Int) (H_4 : Hp), X4 y22 y23 H_4 ↔ ∀ ρ, Env.Is ρ [(0, (.pointer p0)), (4, (Sl.v r3)), (5, (.int .i64 y5)), (6, (Sl.v r20)), (3, (Sl.v y22)), (8, (.int .i64 y23))] → L4 ρ H_4 := ⟨_, fun _ _ _ => Iff.rfl⟩
        refine (hX4 _ _ _).1 (h X4 ?_) _ ?_
        rotate_left
        · exact ⟨rfl, rfl, rfl, rfl, rfl, rfl, trivial⟩
        clear h
        intro y22 y23 H_4 h
        refine (hX4 _ _ _).2 fun ρ hI => ?_
        obtain ⟨ρ0, rfl⟩ : ∃ ρ0, ρ = (Env.set (Env.set (Env.set (Env.set (Env.set (Env.set ρ0 8 (.int .i64 y23)) 3 (Sl.v y22)) 6 (Sl.v r20)) 5 (.int .i64 y5)) 4 (Sl.v r3)) 0 (.pointer p0)) := ⟨ρ, hI.eq⟩
        clear hI; unfold F20_L4b at h; refine hL4 _ _ ?_
        refine HW.seq ?_
        refine HW.seq ?_
        refine HW.region ?_
        refine HList.vals (v := (.int .i64 y23)) rfl (HVal.move' rfl) ?_
        refine HList.vals (v := (Sl.v r20)) rfl (HVal.move' rfl) ?_
        refine HList.vals (v := (.int .i64 ((r20).n : Int))) rfl (HVal.len Try.runUnderlying41 rfl) ?_
        refine HList.vals (v := (.bool (decide (y23 < ((r20).n : Int))))) rfl (HVal.lss rfl rfl) ?_
        refine HList.nil ?_
        refine nt ?_
        obtain ⟨hT, hF⟩ := h
        refine HW.cond (decide (y23 < ((r20).n : Int))) rfl (fun hb28 => ?_) (fun hb28 => ?_)
        · have h := hT hb28
          clear hT hF
          refine HW.skip ?_
          refine nt ?_
          refine HW.cut (fun ρ H_5 => ∃ (y87 : Sl), Env.Is ρ [(0, (.pointer p0)), (4, (Sl.v r3)), (5, (.int .i64 y5)), (6, (Sl.v r20)), (8, (.int .i64 y23)), (3, (Sl.v y87))] ∧ F20_5 Q X2 X4 p0 r3 y5 r20 y23 y87 H_5) ?_ ?_
          · refine HW.block ?_
            refine HW.seq ?_
            refine HW.region ?_
            refine HList.vals (v := (.bool false)) rfl (HVal.assign' rfl) ?_
            refine HList.nil ?_
            refine nt ?_
            refine HW.cut (fun ρ H_6 => ∃ (y73 : Bool), Env.Is ρ [(0, (.pointer p0)), (3, (Sl.v y22)), (4, (Sl.v r3)), (5, (.int .i64 y5)), (6, (Sl.v r20)), (8, (.int .i64 y23)), (9, (.bool y73))] ∧ F20_6 Q X2 X4 p0 y22 r3 y5 r20 y23 y73 H_6) ?_ ?_
            · refine HW.seq ?_
              refine HW.region ?_
              refine HList.vals (v := (.int .i64 0)) rfl (HVal.assign' rfl) ?_
              refine HList.nil ?_
              refine nt ?_
              refine HW.block ?_
              refine HW.loop' (fun L7 hL7 => ?_)
              obtain ⟨X7, hX7⟩ : ∃ X7 : Bool → Int → Hp → Prop, ∀ (y40 : Bool) (y41 : Int) (H_7 : Hp), X7 y40 y41 H_7 ↔ ∀ ρ, Env.Is ρ [(0, (.pointer p0)), (3, (Sl.v y22)), (4, (Sl.v r3)), (5, (.int .i64 y5)), (6, (Sl.v r20)), (8, (.int .i64 y23)), (9, (.bool y40)), (10, (.int .i64 y41))] → L7 ρ H_7 := ⟨_, fun _ _ _ => Iff.rfl⟩
              refine (hX7 _ _ _).1 (h X7 ?_) _ ?_
              rotate_left
              · exact ⟨rfl, rfl, rfl, rfl, rfl, rfl, rfl, rfl, trivial⟩
              clear h
              intro y40 y41 H_7 h
              refine (hX7 _ _ _).2 fun ρ hI => ?_
              obtain ⟨ρ0, rfl⟩ : ∃ ρ0, ρ = (Env.set (Env.set (Env.set (Env.set (Env.set (Env.set (Env.set (Env.set ρ0 10 (.int .i64 y41)) 9 (.bool y40)) 8 (.int .i64 y23)) 6 (Sl.v r20)) 5 (.int .i64 y5)) 4 (Sl.v r3)) 3 (Sl.v y22)) 0 (.pointer p0)) := ⟨ρ, hI.eq⟩
              clear hI; unfold F20_L7b at h; refine hL7 _ _ ?_
              refine HW.seq ?_
              refine HW.seq ?_
              refine HW.region ?_
              refine HList.vals (v := (.int .i64 y41)) rfl (HVal.move' rfl) ?_
              refine HList.vals (v := (Sl.v y22)) rfl (HVal.move' rfl) ?_
              refine HList.vals (v := (.int .i64 ((y22).n : Int))) rfl (HVal.len Try.runUnderlying41 rfl) ?_
              refine HList.vals (v := (.bool (decide (y41 < ((y22).n : Int))))) rfl (HVal.lss rfl rfl) ?_
              refine HList.nil ?_
              refine nt ?_
              obtain ⟨hT, hF⟩ := h
              refine HW.cond (decide (y41 < ((y22).n : Int))) rfl (fun hb48 => ?_) (fun hb48 => ?_)
              · have h := hT hb48
                clear hT hF
                refine HW.skip ?_
                refine nt ?_
                refine HW.cut (fun ρ H_8 => ∃ (y58 : Bool), Env.Is ρ [(0, (.pointer p0)), (3, (Sl.v y22)), (4, (Sl.v r3)), (5, (.int .i64 y5)), (6, (Sl.v r20)), (8, (.int .i64 y23)), (10, (.int .i64 y41)), (9, (.bool y58))] ∧ F20_8 Q X2 X4 X7 p0 y22 r3 y5 r20 y23 y41 y58 H_8) ?_ ?_
                · refine HW.block ?_
                  refine HW.draw mixed [(0, some []), (1, some []), (2, some []), (3, some []), (4, some []), (5, some []), (6, some []), (7, some []), (8, some []), (9, some []), (10, some []), (11, some []), (12, some [])] rfl (by kernel_rfl) (by kernel_rfl) ?_
                  refine HPlan.takev (v := (.bool y40)) rfl rfl (fun _ => HVal.move' rfl) ?_
                  refine HPlan.takev (v := (.bool y40)) rfl rfl (fun _ => HVal.move' rfl) ?_
                  obtain ⟨hT, hF⟩ := h
                  rcases Bool.eq_false_or_eq_true y40 with hb56 | hb57
                  · have h := hT hb56
                    clear hT hF
                    refine HPlan.takegskip rfl rfl rfl rfl (congrArg Value.bool hb56) ?_
                    refine HPlan.takegskip rfl rfl rfl rfl (congrArg Value.bool hb56) ?_
                    refine HPlan.takegskip rfl rfl rfl rfl (congrArg Value.bool hb56) ?_
                    refine HPlan.takegskip rfl rfl rfl rfl (congrArg Value.bool hb56) ?_
                    refine HPlan.takegskip rfl rfl rfl rfl (congrArg Value.bool hb56) ?_
                    refine HPlan.takegskip rfl rfl rfl rfl (congrArg Value.bool hb56) ?_
                    refine HPlan.takegskip rfl rfl rfl rfl (congrArg Value.bool hb56) ?_
                    refine HPlan.takegskip rfl rfl rfl rfl (congrArg Value.bool hb56) ?_
                    refine HPlan.takegskip rfl rfl rfl rfl (congrArg Value.bool hb56) ?_
                    refine HPlan.takev (v := (.bool true)) rfl rfl (fun _ => HVal.pickT rfl hb56 rfl) ?_
                    refine HPlan.takev (v := (.bool true)) rfl rfl (fun _ => HVal.assign' rfl) ?_
                    refine HPlan.done ?_
                    refine nb ?_
                    refine nt ?_
                    exact ⟨true, ⟨rfl, rfl, rfl, rfl, rfl, rfl, rfl, rfl, trivial⟩, h⟩
                  · have h := hF hb57
                    clear hT hF
                    refine HPlan.gtakev (v := (Sl.v y22)) rfl rfl rfl rfl rfl (congrArg Value.bool hb57) (fun _ => HVal.move' rfl) ?_
                    refine HPlan.gtakev (v := (.int .i64 y41)) rfl rfl rfl rfl rfl (congrArg Value.bool hb57) (fun _ => HVal.move' rfl) ?_
                    obtain ⟨a59, e60, b61, b62, h⟩ := h
                    refine HPlan.gtakev (v := (.pointer (some (Addr.add a59 (y41.toNat * 2))))) rfl rfl rfl rfl rfl (congrArg Value.bool hb57) (fun _ => HVal.indexAddr Try.runUnderlying41 Try.sizeOf32 (Sl.v_some rfl e60) rfl b61 b62) ?_
                    obtain ⟨x64, x65, c63, h⟩ := h
                    refine HPlan.gtakel (v := (.agg #[(.int .i64 x64), (.int .i64 x65)])) (fun X => cells X (Addr.add a59 (y41.toNat * 2)) [(.int .i64 x64), (.int .i64 x65)] 0) rfl rfl rfl rfl rfl (congrArg Value.bool hb57) (fun _ hX => HVal.loadN [(.int .i64 x64), (.int .i64 x65)] Try.isAgg32 Try.sizeOf32 rfl hX) c63 ?_
                    refine HPlan.gtakev (v := (Sl.v r20)) rfl rfl rfl rfl rfl (congrArg Value.bool hb57) (fun _ => HVal.move' rfl) ?_
                    refine HPlan.gtakev (v := (.int .i64 y23)) rfl rfl rfl rfl rfl (congrArg Value.bool hb57) (fun _ => HVal.move' rfl) ?_
                    obtain ⟨a66, e67, b68, b69, h⟩ := h
                    refine HPlan.gtakev (v := (.pointer (some (Addr.add a66 (y23.toNat * 2))))) rfl rfl rfl rfl rfl (congrArg Value.bool hb57) (fun _ => HVal.indexAddr Try.runUnderlying41 Try.sizeOf32 (Sl.v_some rfl e67) rfl b68 b69) ?_
                    obtain ⟨x71, x72, c70, h⟩ := h
                    refine HPlan.gtakel (v := (.agg #[(.int .i64 x71), (.int .i64 x72)])) (fun X => cells X (Addr.add a66 (y23.toNat * 2)) [(.int .i64 x71), (.int .i64 x72)] 0) rfl rfl rfl rfl rfl (congrArg Value.bool hb57) (fun _ hX => HVal.loadN [(.int .i64 x71), (.int .i64 x72)] Try.isAgg32 Try.sizeOf32 rfl hX) c70 ?_
                    refine HPlan.gtakev (v := (.bool (decide (x64 = x71) && decide (x65 = x72)))) rfl rfl rfl rfl rfl (congrArg Value.bool hb57) (fun _ => eqs32_eql rfl rfl) ?_
                    refine HPlan.takev (v := (.bool (decide (x64 = x71) && decide (x65 = x72)))) rfl rfl (fun _ => HVal.pickF rfl hb57 rfl) ?_
                    refine HPlan.takev (v := (.bool (decide (x64 = x71) && decide (x65 = x72)))) rfl rfl (fun _ => HVal.assign' rfl) ?_
                    refine HPlan.done ?_
                    refine nb ?_
                    refine nt ?_
                    exact ⟨(decide (x64 = x71) && decide (x65 = x72)), ⟨rfl, rfl, rfl, rfl, rfl, rfl, rfl, rfl, trivial⟩, h⟩
                · rintro ρ H_8 ⟨y58, hI, h⟩
                  obtain ⟨ρ0, rfl⟩ : ∃ ρ0, ρ = (Env.set (Env.set (Env.set (Env.set (Env.set (Env.set (Env.set (Env.set ρ0 9 (.bool y58)) 10 (.int .i64 y41)) 8 (.int .i64 y23)) 6 (Sl.v r20)) 5 (.int .i64 y5)) 4 (Sl.v r3)) 3 (Sl.v y22)) 0 (.pointer p0)) := ⟨ρ, hI.eq⟩
                  clear hI; unfold F20_8 at h
                  refine HW.region ?_
                  refine HList.vals (v := (.int .i64 y41)) rfl (HVal.move' rfl) ?_
                  refine HList.vals (v := (.int .i64 (IntKind.i64.wrap (y41 + 1)))) rfl (HVal.add rfl rfl) ?_
                  refine HList.vals (v := (.int .i64 (IntKind.i64.wrap (y41 + 1)))) rfl (HVal.assign' rfl) ?_
                  refine HList.nil ?_
                  refine nt ?_
                  exact (hX7 _ _ _).1 h _ ⟨rfl, rfl, rfl, rfl, rfl, rfl, rfl, rfl, trivial⟩
              · have h := hF hb48
                clear hT hF
                refine HW.exit ?_
                refine te ?_
                refine te ?_
                refine be ?_
                refine nt ?_
                exact ⟨y40, ⟨rfl, rfl, rfl, rfl, rfl, rfl, rfl, trivial⟩, h⟩
            · rintro ρ H_6 ⟨y73, hI, h⟩
              obtain ⟨ρ0, rfl⟩ : ∃ ρ0, ρ = (Env.set (Env.set (Env.set (Env.set (Env.set (Env.set (Env.set ρ0 9 (.bool y73)) 8 (.int .i64 y23)) 6 (Sl.v r20)) 5 (.int .i64 y5)) 4 (Sl.v r3)) 3 (Sl.v y22)) 0 (.pointer p0)) := ⟨ρ, hI.eq⟩
              clear hI; unfold F20_6 at h
              refine HW.seq ?_
              refine HW.region ?_
              refine HList.vals (v := (.bool y73)) rfl (HVal.move' rfl) ?_
              refine HList.vals (v := (.bool (!y73))) rfl (HVal.not rfl) ?_
              refine HList.nil ?_
              refine nt ?_
              obtain ⟨hT, hF⟩ := h
              refine HW.cond (!y73) rfl (fun hb74 => ?_) (fun hb74 => ?_)
              · have h := hT hb74
                clear hT hF
                refine HW.region ?_
                refine HList.vals (v := (Sl.v y22)) rfl (HVal.move' rfl) ?_
                refine HList.vals (v := (Sl.v r20)) rfl (HVal.move' rfl) ?_
                refine HList.vals (v := (.int .i64 y23)) rfl (HVal.move' rfl) ?_
                obtain ⟨a75, e76, b77, b78, h⟩ := h
                refine HList.vals (v := (.pointer (some (Addr.add a75 (y23.toNat * 2))))) rfl (HVal.indexAddr Try.runUnderlying41 Try.sizeOf32 (Sl.v_some rfl e76) rfl b77 b78) ?_
                obtain ⟨x80, x81, c79, h⟩ := h
                refine HList.vals (v := (.agg #[(.int .i64 x80), (.int .i64 x81)])) rfl (HVal.loadN [(.int .i64 x80), (.int .i64 x81)] Try.isAgg32 Try.sizeOf32 rfl c79) ?_
                refine HList.ops' rfl (HOp.buildSlice' (zs := [(.int .i64 0), (.int .i64 0)]) (cs := [(.int .i64 x80), (.int .i64 x81)]) Try.runUnderlying41 Try.sizeOf32 Try.zeroValue32 (by decide) (by kernel_rfl) rfl (by decide)) ?_
                rintro _ H82 ⟨rfl, e83⟩
                replace h := h H82 e83
                refine HList.ops' rfl (HOp.append (k := 2) (b := 16) Try.runUnderlying41 Try.runUnderlying41 Try.typeInfo32 rfl rfl Try.zeroValue32 rfl rfl h) ?_
                rintro _ H84 ⟨r86, rfl, h⟩
                refine HList.vals (v := (Sl.v r86)) rfl (HVal.assign' rfl) ?_
                refine HList.nil ?_
                refine nb ?_
                refine nt ?_
                exact ⟨r86, ⟨rfl, rfl, rfl, rfl, rfl, rfl, trivial⟩, h⟩
              · have h := hF hb74
                clear hT hF
                refine HW.skip ?_
                refine nb ?_
                refine nt ?_
                exact ⟨y22, ⟨rfl, rfl, rfl, rfl, rfl, rfl, trivial⟩, h⟩
          · rintro ρ H_5 ⟨y87, hI, h⟩
            obtain ⟨ρ0, rfl⟩ : ∃ ρ0, ρ = (Env.set (Env.set (Env.set (Env.set (Env.set (Env.set ρ0 3 (Sl.v y87)) 8 (.int .i64 y23)) 6 (Sl.v r20)) 5 (.int .i64 y5)) 4 (Sl.v r3)) 0 (.pointer p0)) := ⟨ρ, hI.eq⟩
            clear hI; unfold F20_5 at h
            refine HW.region ?_
            refine HList.vals (v := (.int .i64 y23)) rfl (HVal.move' rfl) ?_
            refine HList.vals (v := (.int .i64 (IntKind.i64.wrap (y23 + 1)))) rfl (HVal.add rfl rfl) ?_
            refine HList.vals (v := (.int .i64 (IntKind.i64.wrap (y23 + 1)))) rfl (HVal.assign' rfl) ?_
            refine HList.nil ?_
            refine nt ?_
            exact (hX4 _ _ _).1 h _ ⟨rfl, rfl, rfl, rfl, rfl, rfl, trivial⟩
        · have h := hF hb28
          clear hT hF
          refine HW.exit ?_
          refine te ?_
          refine te ?_
          refine be ?_
          refine nb ?_
          refine nt ?_
          exact ⟨y22, ⟨rfl, rfl, rfl, rfl, trivial⟩, h⟩
      · rintro ρ H_3 ⟨y88, hI, h⟩
        obtain ⟨ρ0, rfl⟩ : ∃ ρ0, ρ = (Env.set (Env.set (Env.set (Env.set ρ0 3 (Sl.v y88)) 5 (.int .i64 y5)) 4 (Sl.v r3)) 0 (.pointer p0)) := ⟨ρ, hI.eq⟩
        clear hI; unfold F20_3 at h
        refine HW.region ?_
        refine HList.vals (v := (.int .i64 y5)) rfl (HVal.move' rfl) ?_
        refine HList.vals (v := (.int .i64 (IntKind.i64.wrap (y5 + 1)))) rfl (HVal.add rfl rfl) ?_
        refine HList.vals (v := (.int .i64 (IntKind.i64.wrap (y5 + 1)))) rfl (HVal.assign' rfl) ?_
        refine HList.nil ?_
        refine nt ?_
        exact (hX2 _ _ _).1 h _ ⟨rfl, rfl, rfl, rfl, trivial⟩
    · have h := hF hb8
      clear hT hF
      refine HW.exit ?_
      refine te ?_
      refine te ?_
      refine be ?_
      refine nt ?_
      exact ⟨y4, ⟨rfl, trivial⟩, h⟩
  · rintro ρ H_1 ⟨y89, hI, h⟩
    obtain ⟨ρ0, rfl⟩ : ∃ ρ0, ρ = (Env.set ρ0 3 (Sl.v y89)) := ⟨ρ, hI.eq⟩
    clear hI; unfold F20_1 at h
    refine HW.seq ?_
    refine HW.region ?_
    refine HList.vals (v := (Sl.v y89)) rfl (HVal.move' rfl) ?_
    refine HList.vals (v := (.int .i64 ((y89).n : Int))) rfl (HVal.len Try.runUnderlying41 rfl) ?_
    refine HList.vals (v := (.int .i64 ((y89).n : Int))) rfl (HVal.assign' rfl) ?_
    refine HList.nil ?_
    refine nt ?_
    refine HW.ret ?_
    exact ⟨_, resOf1 rfl Res1.t, ⟨((y89).n : Int), rfl, h⟩⟩

def F5_4 (Q : Bool → Hp → Prop) (y70 : (Option Addr)) (H_4 : Hp) : Prop :=
F13 y70 0 1 H_4 (fun (r121 : Int) (r122 : Int) (H119 : Hp) => 
 ((decide (r122 = 0)) = true → (((decide (r121 = 0)) = true → (F19 y70 H119 (fun (r129 : Int) (H127 : Hp) => 
 Q (decide (r129 = 1)) H127))) ∧
 ((decide (r121 = 0)) = false → (Q false H119)))) ∧
 ((decide (r122 = 0)) = false → (Q false H119)))
def F5_7 (Q : Bool → Hp → Prop) (X5 : Int → Hp → Prop) (y104 : Sl) (y105 : (Option Addr)) (y106 : Int) (y109 : Bool) (H_7 : Hp) : Prop :=
(y109 = true → (Q false H_7)) ∧
 (y109 = false → (X5 (IntKind.i64.wrap (y106 + 1)) H_7))
def F5_6 (Q : Bool → Hp → Prop) (X5 : Int → Hp → Prop) (y78 : Sl) (y79 : (Option Addr)) (y80 : Int) (y81 : Sl) (y91 : Int) (H_6 : Hp) : Prop :=
∃ a92 : Addr, (y81).b = some a92 ∧ (0 : Int) ≤ y91 ∧ y91 < ((y81).n : Int) ∧ (
 ∃ x97 : Int, cell H_6 (Addr.add a92 (y91.toNat * 1)) = some (.int .i64 x97) ∧ (
 F16 y79 x97 H_6 (fun (r100 : Int) (H98 : Hp) => 
 F19 y79 H98 (fun (r103 : Int) (H101 : Hp) => 
 ((decide (r100 ≠ 0)) = true → (F5_7 Q X5 y78 y79 y80 true H101)) ∧
 ((decide (r100 ≠ 0)) = false → (F20 y79 H101 (fun (r112 : Int) (H110 : Hp) => 
 ((decide (r103 ≠ r112)) = true → (F5_7 Q X5 y78 y79 y80 true H110)) ∧
 ((decide (r103 ≠ r112)) = false → (F21 y79 H110 (fun (r117 : Sl) (H115 : Hp) => 
 F5_7 Q X5 y78 y79 y80 (decide (((r117).n : Int) ≠ (IntKind.i64.wrap (((y81).n : Int) - 1)))) H115))))))))))
def F5_L5b (Q : Bool → Hp → Prop) (X5 : Int → Hp → Prop) (y72 : Sl) (y73 : (Option Addr)) (y71 : Int) (H_5 : Hp) : Prop :=
F21 y73 H_5 (fun (r76 : Sl) (H74 : Hp) => 
 ((decide (((r76).n : Int) = 0)) = true → (F5_4 Q y73 H74)) ∧
 ((decide (((r76).n : Int) = 0)) = false → (((decide (y71 < ((y72).n : Int))) = true → (∃ a83 : Addr, (y72).b = some a83 ∧ (0 : Int) ≤ y71 ∧ y71 < ((y72).n : Int) ∧ (
 ∃ x88 : Int, cell H74 (Addr.add a83 (y71.toNat * 1)) = some (.int .i64 x88) ∧ (
 ((r76).n : Int) ≠ 0 ∧ (
 ((decide ((Int.tmod x88 ((r76).n : Int)) < 0)) = true → (F5_6 Q X5 y72 y73 y71 r76 (IntKind.i64.wrap ((Int.tmod x88 ((r76).n : Int)) + ((r76).n : Int))) H74)) ∧
 ((decide ((Int.tmod x88 ((r76).n : Int)) < 0)) = false → (F5_6 Q X5 y72 y73 y71 r76 (Int.tmod x88 ((r76).n : Int)) H74))))))) ∧
 ((decide (y71 < ((y72).n : Int))) = false → (F5_6 Q X5 y72 y73 y71 r76 0 H74)))))
def F5_L5 (Q : Bool → Hp → Prop) (y72 : Sl) (y73 : (Option Addr)) (y71 : Int) (H_5 : Hp) : Prop :=
  ∀ X5 : Int → Hp → Prop, (∀ (y71 : Int) (H_5 : Hp), F5_L5b Q X5 y72 y73 y71 H_5 → X5 y71 H_5) → X5 y71 H_5
def F5_1 (Q : Bool → Hp → Prop) (y9 : Sl) (y10 : (Option Addr)) (H_1 : Hp) : Prop :=
F5_L5 Q y9 y10 0 H_1
def F5_3 (Q : Bool → Hp → Prop) (X2 : Int → Hp → Prop) (y33 : Sl) (y34 : Sl) (y35 : (Option Addr)) (y36 : Int) (H_3 : Hp) : Prop :=
F19 y35 H_3 (fun (r65 : Int) (H63 : Hp) => 
 F20 y35 H63 (fun (r68 : Int) (H66 : Hp) => 
 ((decide (r65 ≠ r68)) = true → (Q false H66)) ∧
 ((decide (r65 ≠ r68)) = false → (X2 (IntKind.i64.wrap (y36 + 1)) H66))))
def F5_L2b (Q : Bool → Hp → Prop) (X2 : Int → Hp → Prop) (y12 : Sl) (y13 : Sl) (y14 : (Option Addr)) (y11 : Int) (H_2 : Hp) : Prop :=
((decide (y11 < ((y12).n : Int))) = true → (((decide (y11 < 150)) = true → (∃ a18 : Addr, (y12).b = some a18 ∧ (0 : Int) ≤ y11 ∧ y11 < ((y12).n : Int) ∧ (
 ∃ (x23 : Int) (x24 : Int) (x25 : Int) (x26 : Int) (x27 : Int), cells H_2 (Addr.add a18 (y11.toNat * 5)) [(.int .i64 x23), (.int .i64 x24), (.int .i64 x25), (.int .i64 x26), (.int .i64 x27)] 0 ∧ (
 ∀ H28 : Hp, H28 = Array.push H_2 (.cells #[(.int .i64 0), (.int .i64 0), (.int .i64 0), (.int .i64 0), (.int .i64 0)] 34) → (
 mayw H28 ⟨H_2.size, 0, none⟩ 5 0 ∧ ∀ H30 : Hp, H30 = sets H28 ⟨H_2.size, 0, none⟩ [(.int .i64 x23), (.int .i64 x24), (.int .i64 x25), (.int .i64 x26), (.int .i64 x27)] 0 → (
 ∃ x38 : Int, cell H30 ⟨H_2.size, 0, none⟩ = some (.int .i64 x38) ∧ (
 ((decide (x38 = 1)) = true → (∃ (x41 : Int) (x42 : Int), cells H30 (Addr.add ⟨H_2.size, 0, none⟩ 3) [(.int .i64 x41), (.int .i64 x42)] 0 ∧ (
 F13 y14 x41 x42 H30 (fun (r45 : Int) (r46 : Int) (H43 : Hp) => 
 F5_3 Q X2 y12 y13 y14 y11 H43)))) ∧
 ((decide (x38 = 1)) = false → (((decide (x38 = 2)) = true → (∃ x49 : Int, cell H30 (Addr.add ⟨H_2.size, 0, none⟩ 2) = some (.int .i64 x49) ∧ (
 ∃ (x51 : Int) (x52 : Int), cells H30 (Addr.add ⟨H_2.size, 0, none⟩ 3) [(.int .i64 x51), (.int .i64 x52)] 0 ∧ (
 F14 y14 x49 x51 x52 H30 (fun (r55 : Int) (r56 : Int) (H53 : Hp) => 
 F5_3 Q X2 y12 y13 y14 y11 H53))))) ∧
 ((decide (x38 = 2)) = false → (((decide (x38 = 3)) = true → (∃ x59 : Int, cell H30 (Addr.add ⟨H_2.size, 0, none⟩ 2) = some (.int .i64 x59) ∧ (
 F16 y14 x59 H30 (fun (r62 : Int) (H60 : Hp) => 
 F5_3 Q X2 y12 y13 y14 y11 H60)))) ∧
 ((decide (x38 = 3)) = false → (F5_3 Q X2 y12 y13 y14 y11 H30))))))))))))) ∧
 ((decide (y11 < 150)) = false → (F5_1 Q y13 y14 H_2)))) ∧
 ((decide (y11 < ((y12).n : Int))) = false → (F5_1 Q y13 y14 H_2))
def F5_L2 (Q : Bool → Hp → Prop) (y12 : Sl) (y13 : Sl) (y14 : (Option Addr)) (y11 : Int) (H_2 : Hp) : Prop :=
  ∀ X2 : Int → Hp → Prop, (∀ (y11 : Int) (H_2 : Hp), F5_L2b Q X2 y12 y13 y14 y11 H_2 → X2 y11 H_2) → X2 y11 H_2
def F5 (p0 : Int) (p1 : Sl) (p2 : Sl) (H : Hp) (Q : Bool → Hp → Prop) : Prop :=
F8 H (fun (r3 : Bool) (H1 : Hp) => 
 ((!r3) = true → (Q false H1)) ∧
 ((!r3) = false → (F12 p0 H1 (fun (r7 : (Option Addr)) (H5 : Hp) => 
 ((r7.isNone) = true → (Q false H5)) ∧
 ((r7.isNone) = false → (F5_L2 Q p1 p2 r7 0 H5))))))
set_option maxRecDepth 100000 in
set_option maxHeartbeats 4000000 in
theorem walk5 {w0 : World} {p0 : Int} {p1 : Sl} {p2 : Sl} {H : Hp} {Q : Bool → Hp → Prop} (h : F5 p0 p1 p2 H Q) :
    Good Try.prog w0 5 #[(.int .i64 p0), (Sl.v p1), (Sl.v p2)] H (fun v H => ∃ (r0 : Bool) , v = (.bool r0) ∧ Q r0 H) := by
  unfold F5 at h
  refine Good.enter' (fn := Try.f5) Try.func5 rfl rfl rfl ?_
  refine HW.seq ?_
  refine HW.region ?_
  refine HList.vals (v := (.bool false)) rfl (HVal.assign' rfl) ?_
  refine HList.nil ?_
  refine nt ?_
  refine HW.seq ?_
  refine HW.region ?_
  refine HList.ops' rfl (HOp.call' 8 [] (cap := []) rfl rfl Try.call8 (walk8 h)) ?_
  rintro _ H1 ⟨r3, rfl, h⟩
  refine HList.vals (v := (.bool r3)) rfl (HVal.assign' rfl) ?_
  refine HList.nil ?_
  refine nt ?_
  refine HW.seq ?_
  refine HW.seq ?_
  refine HW.region ?_
  refine HList.vals (v := (.bool r3)) rfl (HVal.move' rfl) ?_
  refine HList.vals (v := (.bool (!r3))) rfl (HVal.not rfl) ?_
  refine HList.nil ?_
  refine nt ?_
  obtain ⟨hT, hF⟩ := h
  refine HW.cond (!r3) rfl (fun hb4 => ?_) (fun hb4 => ?_)
  · have h := hT hb4
    clear hT hF
    refine HW.seq ?_
    refine HW.region ?_
    refine HList.vals (v := (.bool false)) rfl (HVal.assign' rfl) ?_
    refine HList.nil ?_
    refine nt ?_
    refine HW.ret ?_
    refine tr ?_
    exact ⟨_, resOf1 rfl Res1.t, ⟨false, rfl, h⟩⟩
  · have h := hF hb4
    clear hT hF
    refine HW.skip ?_
    refine nt ?_
    refine HW.seq ?_
    refine HW.region ?_
    refine HList.vals (v := (.int .i64 p0)) rfl (HVal.move' rfl) ?_
    refine HList.ops' rfl (HOp.call' 12 [(.int .i64 p0)] (cap := []) rfl rfl Try.call12 (walk12 h)) ?_
    rintro _ H5 ⟨r7, rfl, h⟩
    refine HList.vals (v := (.pointer r7)) rfl (HVal.assign' rfl) ?_
    refine HList.nil ?_
    refine nt ?_
    refine HW.seq ?_
    refine HW.seq ?_
    refine HW.region ?_
    refine HList.vals (v := (.pointer r7)) rfl (HVal.move' rfl) ?_
    refine HList.vals (v := (.bool (r7.isNone))) rfl (HVal.eqlPN Try.underlying24 rfl rfl) ?_
    refine HList.nil ?_
    refine nt ?_
    obtain ⟨hT, hF⟩ := h
    refine HW.cond (r7.isNone) rfl (fun hb8 => ?_) (fun hb8 => ?_)
    · have h := hT hb8
      clear hT hF
      refine HW.seq ?_
      refine HW.region ?_
      refine HList.vals (v := (.bool false)) rfl (HVal.assign' rfl) ?_
      refine HList.nil ?_
      refine nt ?_
      refine HW.ret ?_
      refine tr ?_
      exact ⟨_, resOf1 rfl Res1.t, ⟨false, rfl, h⟩⟩
    · have h := hF hb8
      clear hT hF
      refine HW.skip ?_
      refine nt ?_
      refine HW.cut (fun ρ H_1 => Env.Is ρ [(2, (Sl.v p2)), (8, (.pointer r7))] ∧ F5_1 Q p2 r7 H_1) ?_ ?_
      · refine HW.seq ?_
        refine HW.region ?_
        refine HList.vals (v := (.int .i64 0)) rfl (HVal.assign' rfl) ?_
        refine HList.nil ?_
        refine nt ?_
        refine HW.block ?_
        refine HW.loop' (fun L2 hL2 => ?_)
        obtain ⟨X2, hX2⟩ : ∃ X2 : Int → Hp → Prop, ∀ (y11 : Int) (H_2 : Hp), X2 y11 H_2 ↔ ∀ ρ, Env.Is ρ [(1, (Sl.v p1)), (2, (Sl.v p2)), (8, (.pointer r7)), (9, (.int .i64 y11))] → L2 ρ H_2 := ⟨_, fun _ _ => Iff.rfl⟩
        refine (hX2 _ _).1 (h X2 ?_) _ ?_
        rotate_left
        · exact ⟨rfl, rfl, rfl, rfl, trivial⟩
        clear h
        intro y11 H_2 h
        refine (hX2 _ _).2 fun ρ hI => ?_
        obtain ⟨ρ0, rfl⟩ : ∃ ρ0, ρ = (Env.set (Env.set (Env.set (Env.set ρ0 9 (.int .i64 y11)) 8 (.pointer r7)) 2 (Sl.v p2)) 1 (Sl.v p1)) := ⟨ρ, hI.eq⟩
        clear hI; unfold F5_L2b at h; refine hL2 _ _ ?_
        refine HW.seq ?_
        refine HW.seq ?_
        refine HW.region ?_
        refine HList.vals (v := (.int .i64 y11)) rfl (HVal.move' rfl) ?_
        refine HList.vals (v := (Sl.v p1)) rfl (HVal.move' rfl) ?_
        refine HList.vals (v := (.int .i64 ((p1).n : Int))) rfl (HVal.len Try.runUnderlying22 rfl) ?_
        refine HList.vals (v := (.bool (decide (y11 < ((p1).n : Int))))) rfl (HVal.lss rfl rfl) ?_
        refine HList.vals (v := (.bool (decide (y11 < ((p1).n : Int))))) rfl (HVal.move' rfl) ?_
        obtain ⟨hT, hF⟩ := h
        rcases Bool.eq_false_or_eq_true (decide (y11 < ((p1).n : Int))) with hb15 | hb16
        · have h := hT hb15
          clear hT hF
          refine HList.gvals (v := (.int .i64 y11)) rfl rfl rfl rfl (congrArg Value.bool hb15) (HVal.move' rfl) ?_
          refine HList.gvals (v := (.bool (decide (y11 < 150)))) rfl rfl rfl rfl (congrArg Value.bool hb15) (HVal.lss rfl rfl) ?_
          refine HList.vals (v := (.bool (decide (y11 < 150)))) rfl (HVal.pickT rfl hb15 rfl) ?_
          refine HList.nil ?_
          refine nt ?_
          obtain ⟨hT, hF⟩ := h
          refine HW.cond (decide (y11 < 150)) rfl (fun hb17 => ?_) (fun hb17 => ?_)
          · have h := hT hb17
            clear hT hF
            refine HW.skip ?_
            refine nt ?_
            refine HW.seq ?_
            refine HW.block ?_
            refine HW.seq ?_
            refine HW.region ?_
            refine HList.vals (v := (Sl.v p1)) rfl (HVal.move' rfl) ?_
            refine HList.vals (v := (.int .i64 y11)) rfl (HVal.move' rfl) ?_
            obtain ⟨a18, e19, b20, b21, h⟩ := h
            refine HList.vals (v := (.pointer (some (Addr.add a18 (y11.toNat * 5))))) rfl (HVal.indexAddr Try.runUnderlying22 Try.sizeOf34 (Sl.v_some rfl e19) rfl b20 b21) ?_
            obtain ⟨x23, x24, x25, x26, x27, c22, h⟩ := h
            refine HList.vals (v := (.agg #[(.int .i64 x23), (.int .i64 x24), (.int .i64 x25), (.int .i64 x26), (.int .i64 x27)])) rfl (HVal.loadN [(.int .i64 x23), (.int .i64 x24), (.int .i64 x25), (.int .i64 x26), (.int .i64 x27)] Try.isAgg34 Try.sizeOf34 rfl c22) ?_
            refine HList.ops' rfl (HOp.alloc Try.zeroValue34) ?_
            rintro _ H28 ⟨rfl, e29⟩
            replace h := h H28 e29
            obtain ⟨z32, h⟩ := h
            refine HList.opsn (HOp.storeN' (l := [(.int .i64 x23), (.int .i64 x24), (.int .i64 x25), (.int .i64 x26), (.int .i64 x27)]) Try.sizeOf34 rfl rfl rfl z32) ?_
            rintro _ H30 e31
            replace h := h H30 e31
            refine HList.nil ?_
            refine nt ?_
            refine HW.cut (fun ρ H_3 => Env.Is ρ [(1, (Sl.v p1)), (2, (Sl.v p2)), (8, (.pointer r7)), (9, (.int .i64 y11))] ∧ F5_3 Q X2 p1 p2 r7 y11 H_3) ?_ ?_
            · refine HW.seq ?_
              refine HW.region ?_
              refine HList.vals (v := (.pointer (some ⟨H_2.size, 0, none⟩))) rfl (HVal.fieldAddr0 Try.runUnderlying34 rfl rfl Try.sizeOf3 rfl) ?_
              obtain ⟨x38, c37, h⟩ := h
              refine HList.vals (v := (.int .i64 x38)) rfl (HVal.load1 Try.isAgg3 rfl c37) ?_
              refine HList.nil ?_
              refine nt ?_
              refine HW.block ?_
              refine HW.seq ?_
              refine HW.region ?_
              refine HList.vals (v := (.bool (decide (x38 = 1)))) rfl (HVal.eqlI rfl rfl) ?_
              refine HList.vals (v := (.bool (decide (x38 = 1)))) rfl (HVal.assign' rfl) ?_
              refine HList.nil ?_
              refine nt ?_
              obtain ⟨hT, hF⟩ := h
              refine HW.cond (decide (x38 = 1)) rfl (fun hb39 => ?_) (fun hb39 => ?_)
              · have h := hT hb39
                clear hT hF
                refine HW.region ?_
                refine HList.vals (v := (.pointer r7)) rfl (HVal.move' rfl) ?_
                refine HList.vals (v := (.pointer (some (Addr.add ⟨H_2.size, 0, none⟩ 3)))) rfl (HVal.fieldAddr' Try.runUnderlying34 rfl rfl Try.sizeOf32 rfl) ?_
                obtain ⟨x41, x42, c40, h⟩ := h
                refine HList.vals (v := (.agg #[(.int .i64 x41), (.int .i64 x42)])) rfl (HVal.loadN [(.int .i64 x41), (.int .i64 x42)] Try.isAgg32 Try.sizeOf32 rfl c40) ?_
                refine HList.ops' rfl (HOp.call' 13 [(.pointer r7), (.agg #[(.int .i64 x41), (.int .i64 x42)])] (cap := []) rfl rfl Try.call13 (walk13 h)) ?_
                rintro _ H43 ⟨r45, r46, rfl, h⟩
                refine HList.nil ?_
                refine nb ?_
                refine nt ?_
                exact ⟨⟨rfl, rfl, rfl, rfl, trivial⟩, h⟩
              · have h := hF hb39
                clear hT hF
                refine HW.seq ?_
                refine HW.region ?_
                refine HList.vals (v := (.bool (decide (x38 = 2)))) rfl (HVal.eqlI rfl rfl) ?_
                refine HList.vals (v := (.bool (decide (x38 = 2)))) rfl (HVal.assign' rfl) ?_
                refine HList.nil ?_
                refine nt ?_
                obtain ⟨hT, hF⟩ := h
                refine HW.cond (decide (x38 = 2)) rfl (fun hb47 => ?_) (fun hb47 => ?_)
                · have h := hT hb47
                  clear hT hF
                  refine HW.region ?_
                  refine HList.vals (v := (.pointer r7)) rfl (HVal.move' rfl) ?_
                  refine HList.vals (v := (.pointer (some (Addr.add ⟨H_2.size, 0, none⟩ 2)))) rfl (HVal.fieldAddr' Try.runUnderlying34 rfl rfl Try.sizeOf3 rfl) ?_
                  obtain ⟨x49, c48, h⟩ := h
                  refine HList.vals (v := (.int .i64 x49)) rfl (HVal.load1 Try.isAgg3 rfl c48) ?_
                  refine HList.vals (v := (.pointer (some (Addr.add ⟨H_2.size, 0, none⟩ 3)))) rfl (HVal.fieldAddr' Try.runUnderlying34 rfl rfl Try.sizeOf32 rfl) ?_
                  obtain ⟨x51, x52, c50, h⟩ := h
                  refine HList.vals (v := (.agg #[(.int .i64 x51), (.int .i64 x52)])) rfl (HVal.loadN [(.int .i64 x51), (.int .i64 x52)] Try.isAgg32 Try.sizeOf32 rfl c50) ?_
                  refine HList.ops' rfl (HOp.call' 14 [(.pointer r7), (.int .i64 x49), (.agg #[(.int .i64 x51), (.int .i64 x52)])] (cap := []) rfl rfl Try.call14 (walk14 h)) ?_
                  rintro _ H53 ⟨r55, r56, rfl, h⟩
                  refine HList.nil ?_
                  refine nb ?_
                  refine nt ?_
                  exact ⟨⟨rfl, rfl, rfl, rfl, trivial⟩, h⟩
                · have h := hF hb47
                  clear hT hF
                  refine HW.seq ?_
                  refine HW.region ?_
                  refine HList.vals (v := (.bool (decide (x38 = 3)))) rfl (HVal.eqlI rfl rfl) ?_
                  refine HList.vals (v := (.bool (decide (x38 = 3)))) rfl (HVal.assign' rfl) ?_
                  refine HList.nil ?_
                  refine nt ?_
                  obtain ⟨hT, hF⟩ := h
                  refine HW.cond (decide (x38 = 3)) rfl (fun hb57 => ?_) (fun hb57 => ?_)
                  · have h := hT hb57
                    clear hT hF
                    refine HW.region ?_
                    refine HList.vals (v := (.pointer r7)) rfl (HVal.move' rfl) ?_
                    refine HList.vals (v := (.pointer (some (Addr.add ⟨H_2.size, 0, none⟩ 2)))) rfl (HVal.fieldAddr' Try.runUnderlying34 rfl rfl Try.sizeOf3 rfl) ?_
                    obtain ⟨x59, c58, h⟩ := h
                    refine HList.vals (v := (.int .i64 x59)) rfl (HVal.load1 Try.isAgg3 rfl c58) ?_
                    refine HList.ops' rfl (HOp.call' 16 [(.pointer r7), (.int .i64 x59)] (cap := []) rfl rfl Try.call16 (walk16 h)) ?_
                    rintro _ H60 ⟨r62, rfl, h⟩
                    refine HList.nil ?_
                    refine nb ?_
                    refine nt ?_
                    exact ⟨⟨rfl, rfl, rfl, rfl, trivial⟩, h⟩
                  · have h := hF hb57
                    clear hT hF
                    refine HW.skip ?_
                    refine nb ?_
                    refine nt ?_
                    exact ⟨⟨rfl, rfl, rfl, rfl, trivial⟩, h⟩
            · rintro ρ H_3 ⟨hI, h⟩
              obtain ⟨ρ0, rfl⟩ : ∃ ρ0, ρ = (Env.set (Env.set (Env.set (Env.set ρ0 9 (.int .i64 y11)) 8 (.pointer r7)) 2 (Sl.v p2)) 1 (Sl.v p1)) := ⟨ρ, hI.eq⟩
              clear hI; unfold F5_3 at h
              refine HW.seq ?_
              refine HW.region ?_
              refine HList.vals (v := (.pointer r7)) rfl (HVal.move' rfl) ?_
              refine HList.ops' rfl (HOp.call' 19 [(.pointer r7)] (cap := []) rfl rfl Try.call19 (walk19 h)) ?_
              rintro _ H63 ⟨r65, rfl, h⟩
              refine HList.vals (v := (.int .i64 r65)) rfl (HVal.assign' rfl) ?_
              refine HList.nil ?_
              refine nt ?_
              refine HW.seq ?_
              refine HW.region ?_
              refine HList.vals (v := (.int .i64 r65)) rfl (HVal.move' rfl) ?_
              refine HList.vals (v := (.pointer r7)) rfl (HVal.move' rfl) ?_
              refine HList.ops' rfl (HOp.call' 20 [(.pointer r7)] (cap := []) rfl rfl Try.call20 (walk20 h)) ?_
              rintro _ H66 ⟨r68, rfl, h⟩
              refine HList.vals (v := (.bool (decide (r65 ≠ r68)))) rfl (HVal.neqI rfl rfl) ?_
              refine HList.nil ?_
              refine nt ?_
              obtain ⟨hT, hF⟩ := h
              refine HW.cond (decide (r65 ≠ r68)) rfl (fun hb69 => ?_) (fun hb69 => ?_)
              · have h := hT hb69
                clear hT hF
                refine HW.seq ?_
                refine HW.region ?_
                refine HList.vals (v := (.bool false)) rfl (HVal.assign' rfl) ?_
                refine HList.nil ?_
                refine nt ?_
                refine HW.ret ?_
                refine br ?_
                refine tr ?_
                refine tr ?_
                refine br ?_
                refine tr ?_
                exact ⟨_, resOf1 rfl Res1.t, ⟨false, rfl, h⟩⟩
              · have h := hF hb69
                clear hT hF
                refine HW.skip ?_
                refine nb ?_
                refine nt ?_
                refine HW.region ?_
                refine HList.vals (v := (.int .i64 y11)) rfl (HVal.move' rfl) ?_
                refine HList.vals (v := (.int .i64 (IntKind.i64.wrap (y11 + 1)))) rfl (HVal.add rfl rfl) ?_
                refine HList.vals (v := (.int .i64 (IntKind.i64.wrap (y11 + 1)))) rfl (HVal.assign' rfl) ?_
                refine HList.nil ?_
                refine nt ?_
                exact (hX2 _ _).1 h _ ⟨rfl, rfl, rfl, rfl, trivial⟩
          · have h := hF hb17
            clear hT hF
            refine HW.exit ?_
            refine te ?_
            refine te ?_
            refine be ?_
            refine nt ?_
            exact ⟨⟨rfl, rfl, trivial⟩, h⟩
        · have h := hF hb16
          clear hT hF
          refine HList.gskips rfl rfl rfl rfl (congrArg Value.bool hb16) ?_
          refine HList.gskips rfl rfl rfl rfl (congrArg Value.bool hb16) ?_
          refine HList.vals (v := (.bool false)) rfl (HVal.pickF rfl hb16 rfl) ?_
          refine HList.nil ?_
          refine nt ?_
          refine HW.condF false rfl rfl ?_
          refine HW.exit ?_
          refine te ?_
          refine te ?_
          refine be ?_
          refine nt ?_
          exact ⟨⟨rfl, rfl, trivial⟩, h⟩
      · rintro ρ H_1 ⟨hI, h⟩
        obtain ⟨ρ0, rfl⟩ : ∃ ρ0, ρ = (Env.set (Env.set ρ0 8 (.pointer r7)) 2 (Sl.v p2)) := ⟨ρ, hI.eq⟩
        clear hI; unfold F5_1 at h
        refine HW.cut (fun ρ H_4 => Env.Is ρ [(8, (.pointer r7))] ∧ F5_4 Q r7 H_4) ?_ ?_
        · refine HW.seq ?_
          refine HW.region ?_
          refine HList.vals (v := (.int .i64 0)) rfl (HVal.assign' rfl) ?_
          refine HList.nil ?_
          refine nt ?_
          refine HW.block ?_
          refine HW.loop' (fun L5 hL5 => ?_)
          obtain ⟨X5, hX5⟩ : ∃ X5 : Int → Hp → Prop, ∀ (y71 : Int) (H_5 : Hp), X5 y71 H_5 ↔ ∀ ρ, Env.Is ρ [(2, (Sl.v p2)), (8, (.pointer r7)), (12, (.int .i64 y71))] → L5 ρ H_5 := ⟨_, fun _ _ => Iff.rfl⟩
          refine (hX5 _ _).1 (h X5 ?_) _ ?_
          rotate_left
          · exact ⟨rfl, rfl, rfl, trivial⟩
          clear h
          intro y71 H_5 h
          refine (hX5 _ _).2 fun ρ hI => ?_
          obtain ⟨ρ0, rfl⟩ : ∃ ρ0, ρ = (Env.set (Env.set (Env.set ρ0 12 (.int .i64 y71)) 8 (.pointer r7)) 2 (Sl.v p2)) := ⟨ρ, hI.eq⟩
          clear hI; unfold F5_L5b at h; refine hL5 _ _ ?_
          refine HW.seq ?_
          refine HW.block ?_
          refine HW.seq ?_
          refine HW.region ?_
          refine HList.vals (v := (.pointer r7)) rfl (HVal.move' rfl) ?_
          refine HList.ops' rfl (HOp.call' 21 [(.pointer r7)] (cap := []) rfl rfl Try.call21 (walk21 h)) ?_
          rintro _ H74 ⟨r76, rfl, h⟩
          refine HList.vals (v := (Sl.v r76)) rfl (HVal.assign' rfl) ?_
          refine HList.nil ?_
          refine nt ?_
          refine HW.seq ?_
          refine HW.seq ?_
          refine HW.region ?_
          refine HList.vals (v := (Sl.v r76)) rfl (HVal.move' rfl) ?_
          refine HList.vals (v := (.int .i64 ((r76).n : Int))) rfl (HVal.len Try.runUnderlying50 rfl) ?_
          refine HList.vals (v := (.bool (decide (((r76).n : Int) = 0)))) rfl (HVal.eqlI rfl rfl) ?_
          refine HList.nil ?_
          refine nt ?_
          obtain ⟨hT, hF⟩ := h
          refine HW.cond (decide (((r76).n : Int) = 0)) rfl (fun hb77 => ?_) (fun hb77 => ?_)
          · have h := hT hb77
            clear hT hF
            refine HW.exit ?_
            refine te ?_
            refine bx rfl ?_
            refine te ?_
            refine te ?_
            refine be ?_
            refine nt ?_
            exact ⟨⟨rfl, trivial⟩, h⟩
          · have h := hF hb77
            clear hT hF
            refine HW.skip ?_
            refine nt ?_
            refine HW.seq ?_
            refine HW.region ?_
            refine HList.vals (v := (.int .i64 0)) rfl (HVal.assign' rfl) ?_
            refine HList.nil ?_
            refine nt ?_
            refine HW.cut (fun ρ H_6 => ∃ (y91 : Int), Env.Is ρ [(2, (Sl.v p2)), (8, (.pointer r7)), (12, (.int .i64 y71)), (13, (Sl.v r76)), (14, (.int .i64 y91))] ∧ F5_6 Q X5 p2 r7 y71 r76 y91 H_6) ?_ ?_
            · refine HW.seq ?_
              refine HW.region ?_
              refine HList.vals (v := (.int .i64 y71)) rfl (HVal.move' rfl) ?_
              refine HList.vals (v := (Sl.v p2)) rfl (HVal.move' rfl) ?_
              refine HList.vals (v := (.int .i64 ((p2).n : Int))) rfl (HVal.len Try.runUnderlying50 rfl) ?_
              refine HList.vals (v := (.bool (decide (y71 < ((p2).n : Int))))) rfl (HVal.lss rfl rfl) ?_
              refine HList.nil ?_
              refine nt ?_
              obtain ⟨hT, hF⟩ := h
              refine HW.cond (decide (y71 < ((p2).n : Int))) rfl (fun hb82 => ?_) (fun hb82 => ?_)
              · have h := hT hb82
                clear hT hF
                refine HW.seq ?_
                refine HW.region ?_
                refine HList.vals (v := (Sl.v p2)) rfl (HVal.move' rfl) ?_
                refine HList.vals (v := (.int .i64 y71)) rfl (HVal.move' rfl) ?_
                obtain ⟨a83, e84, b85, b86, h⟩ := h
                refine HList.vals (v := (.pointer (some (Addr.add a83 (y71.toNat * 1))))) rfl (HVal.indexAddr Try.runUnderlying50 Try.sizeOf3 (Sl.v_some rfl e84) rfl b85 b86) ?_
                obtain ⟨x88, c87, h⟩ := h
                refine HList.vals (v := (.int .i64 x88)) rfl (HVal.load1 Try.isAgg3 rfl c87) ?_
                refine HList.vals (v := (Sl.v r76)) rfl (HVal.move' rfl) ?_
                refine HList.vals (v := (.int .i64 ((r76).n : Int))) rfl (HVal.len Try.runUnderlying50 rfl) ?_
                obtain ⟨z89, h⟩ := h
                refine HList.vals (v := (.int .i64 (Int.tmod x88 ((r76).n : Int)))) rfl (HVal.rem rfl rfl z89) ?_
                refine HList.vals (v := (.int .i64 (Int.tmod x88 ((r76).n : Int)))) rfl (HVal.assign' rfl) ?_
                refine HList.nil ?_
                refine nt ?_
                refine HW.seq ?_
                refine HW.region ?_
                refine HList.vals (v := (.int .i64 (Int.tmod x88 ((r76).n : Int)))) rfl (HVal.move' rfl) ?_
                refine HList.vals (v := (.bool (decide ((Int.tmod x88 ((r76).n : Int)) < 0)))) rfl (HVal.lss rfl rfl) ?_
                refine HList.nil ?_
                refine nt ?_
                obtain ⟨hT, hF⟩ := h
                refine HW.cond (decide ((Int.tmod x88 ((r76).n : Int)) < 0)) rfl (fun hb90 => ?_) (fun hb90 => ?_)
                · have h := hT hb90
                  clear hT hF
                  refine HW.region ?_
                  refine HList.vals (v := (.int .i64 (Int.tmod x88 ((r76).n : Int)))) rfl (HVal.move' rfl) ?_
                  refine HList.vals (v := (Sl.v r76)) rfl (HVal.move' rfl) ?_
                  refine HList.vals (v := (.int .i64 ((r76).n : Int))) rfl (HVal.len Try.runUnderlying50 rfl) ?_
                  refine HList.vals (v := (.int .i64 (IntKind.i64.wrap ((Int.tmod x88 ((r76).n : Int)) + ((r76).n : Int))))) rfl (HVal.add rfl rfl) ?_
                  refine HList.vals (v := (.int .i64 (IntKind.i64.wrap ((Int.tmod x88 ((r76).n : Int)) + ((r76).n : Int))))) rfl (HVal.assign' rfl) ?_
                  refine HList.nil ?_
                  refine nt ?_
                  exact ⟨(IntKind.i64.wrap ((Int.tmod x88 ((r76).n : Int)) + ((r76).n : Int))), ⟨rfl, rfl, rfl, rfl, rfl, trivial⟩, h⟩
                · have h := hF hb90
                  clear hT hF
                  refine HW.skip ?_
                  refine nt ?_
                  exact ⟨(Int.tmod x88 ((r76).n : Int)), ⟨rfl, rfl, rfl, rfl, rfl, trivial⟩, h⟩
              · have h := hF hb82
                clear hT hF
                refine HW.skip ?_
                refine nt ?_
                exact ⟨0, ⟨rfl, rfl, rfl, rfl, rfl, trivial⟩, h⟩
            · rintro ρ H_6 ⟨y91, hI, h⟩
              obtain ⟨ρ0, rfl⟩ : ∃ ρ0, ρ = (Env.set (Env.set (Env.set (Env.set (Env.set ρ0 14 (.int .i64 y91)) 13 (Sl.v r76)) 12 (.int .i64 y71)) 8 (.pointer r7)) 2 (Sl.v p2)) := ⟨ρ, hI.eq⟩
              clear hI; unfold F5_6 at h
              refine HW.seq ?_
              refine HW.region ?_
              refine HList.vals (v := (.pointer r7)) rfl (HVal.move' rfl) ?_
              refine HList.vals (v := (Sl.v r76)) rfl (HVal.move' rfl) ?_
              refine HList.vals (v := (.int .i64 y91)) rfl (HVal.move' rfl) ?_
              obtain ⟨a92, e93, b94, b95, h⟩ := h
              refine HList.vals (v := (.pointer (some (Addr.add a92 (y91.toNat * 1))))) rfl (HVal.indexAddr Try.runUnderlying50 Try.sizeOf3 (Sl.v_some rfl e93) rfl b94 b95) ?_
              obtain ⟨x97, c96, h⟩ := h
              refine HList.vals (v := (.int .i64 x97)) rfl (HVal.load1 Try.isAgg3 rfl c96) ?_
              refine HList.ops' rfl (HOp.call' 16 [(.pointer r7), (.int .i64 x97)] (cap := []) rfl rfl Try.call16 (walk16 h)) ?_
              rintro _ H98 ⟨r100, rfl, h⟩
              refine HList.vals (v := (.int .i64 r100)) rfl (HVal.assign' rfl) ?_
              refine HList.nil ?_
              refine nt ?_
              refine HW.seq ?_
              refine HW.region ?_
              refine HList.vals (v := (.pointer r7)) rfl (HVal.move' rfl) ?_
              refine HList.ops' rfl (HOp.call' 19 [(.pointer r7)] (cap := []) rfl rfl Try.call19 (walk19 h)) ?_
              rintro _ H101 ⟨r103, rfl, h⟩
              refine HList.vals (v := (.int .i64 r103)) rfl (HVal.assign' rfl) ?_
              refine HList.nil ?_
              refine nt ?_
              refine HW.cut (fun ρ H_7 => ∃ (y109 : Bool), Env.Is ρ [(2, (Sl.v p2)), (8, (.pointer r7)), (12, (.int .i64 y71)), (116, (.bool y109))] ∧ F5_7 Q X5 p2 r7 y71 y109 H_7) ?_ ?_
              · refine HW.region ?_
                refine HList.vals (v := (.int .i64 r100)) rfl (HVal.move' rfl) ?_
                refine HList.vals (v := (.bool (decide (r100 ≠ 0)))) rfl (HVal.neqI rfl rfl) ?_
                refine HList.vals (v := (.bool (decide (r100 ≠ 0)))) rfl (HVal.move' rfl) ?_
                obtain ⟨hT, hF⟩ := h
                rcases Bool.eq_false_or_eq_true (decide (r100 ≠ 0)) with hb107 | hb108
                · have h := hT hb107
                  clear hT hF
                  refine HList.gskips rfl rfl rfl rfl (congrArg Value.bool hb107) ?_
                  refine HList.gskips rfl rfl rfl rfl (congrArg Value.bool hb107) ?_
                  refine HList.gskips rfl rfl rfl rfl (congrArg Value.bool hb107) ?_
                  refine HList.gskips rfl rfl rfl rfl (congrArg Value.bool hb107) ?_
                  refine HList.vals (v := (.bool true)) rfl (HVal.pickT rfl hb107 rfl) ?_
                  refine HList.vals (v := (.bool true)) rfl (HVal.move' rfl) ?_
                  refine HList.gskips rfl rfl rfl rfl rfl ?_
                  refine HList.gskips rfl rfl rfl rfl rfl ?_
                  refine HList.gskips rfl rfl rfl rfl rfl ?_
                  refine HList.gskips rfl rfl rfl rfl rfl ?_
                  refine HList.gskips rfl rfl rfl rfl rfl ?_
                  refine HList.gskips rfl rfl rfl rfl rfl ?_
                  refine HList.gskips rfl rfl rfl rfl rfl ?_
                  refine HList.vals (v := (.bool true)) rfl (HVal.pickT rfl rfl rfl) ?_
                  refine HList.nil ?_
                  refine nt ?_
                  exact ⟨true, ⟨rfl, rfl, rfl, rfl, trivial⟩, h⟩
                · have h := hF hb108
                  clear hT hF
                  refine HList.gvals (v := (.int .i64 r103)) rfl rfl rfl rfl (congrArg Value.bool hb108) (HVal.move' rfl) ?_
                  refine HList.gvals (v := (.pointer r7)) rfl rfl rfl rfl (congrArg Value.bool hb108) (HVal.move' rfl) ?_
                  refine HList.gops rfl rfl rfl rfl (congrArg Value.bool hb108) (HOp.call' 20 [(.pointer r7)] (cap := []) rfl rfl Try.call20 (walk20 h)) ?_
                  rintro _ H110 ⟨r112, rfl, h⟩
                  refine HList.gvals (v := (.bool (decide (r103 ≠ r112)))) rfl rfl rfl rfl (congrArg Value.bool hb108) (HVal.neqI rfl rfl) ?_
                  refine HList.vals (v := (.bool (decide (r103 ≠ r112)))) rfl (HVal.pickF rfl hb108 rfl) ?_
                  refine HList.vals (v := (.bool (decide (r103 ≠ r112)))) rfl (HVal.move' rfl) ?_
                  obtain ⟨hT, hF⟩ := h
                  rcases Bool.eq_false_or_eq_true (decide (r103 ≠ r112)) with hb113 | hb114
                  · have h := hT hb113
                    clear hT hF
                    refine HList.gskips rfl rfl rfl rfl (congrArg Value.bool hb113) ?_
                    refine HList.gskips rfl rfl rfl rfl (congrArg Value.bool hb113) ?_
                    refine HList.gskips rfl rfl rfl rfl (congrArg Value.bool hb113) ?_
                    refine HList.gskips rfl rfl rfl rfl (congrArg Value.bool hb113) ?_
                    refine HList.gskips rfl rfl rfl rfl (congrArg Value.bool hb113) ?_
                    refine HList.gskips rfl rfl rfl rfl (congrArg Value.bool hb113) ?_
                    refine HList.gskips rfl rfl rfl rfl (congrArg Value.bool hb113) ?_
                    refine HList.vals (v := (.bool true)) rfl (HVal.pickT rfl hb113 rfl) ?_
                    refine HList.nil ?_
                    refine nt ?_
                    exact ⟨true, ⟨rfl, rfl, rfl, rfl, trivial⟩, h⟩
                  · have h := hF hb114
                    clear hT hF
                    refine HList.gvals (v := (.pointer r7)) rfl rfl rfl rfl (congrArg Value.bool hb114) (HVal.move' rfl) ?_
                    refine HList.gops rfl rfl rfl rfl (congrArg Value.bool hb114) (HOp.call' 21 [(.pointer r7)] (cap := []) rfl rfl Try.call21 (walk21 h)) ?_
                    rintro _ H115 ⟨r117, rfl, h⟩
                    refine HList.gvals (v := (.int .i64 ((r117).n : Int))) rfl rfl rfl rfl (congrArg Value.bool hb114) (HVal.len Try.runUnderlying50 rfl) ?_
                    refine HList.gvals (v := (Sl.v r76)) rfl rfl rfl rfl (congrArg Value.bool hb114) (HVal.move' rfl) ?_
                    refine HList.gvals (v := (.int .i64 ((r76).n : Int))) rfl rfl rfl rfl (congrArg Value.bool hb114) (HVal.len Try.runUnderlying50 rfl) ?_
                    refine HList.gvals (v := (.int .i64 (IntKind.i64.wrap (((r76).n : Int) - 1)))) rfl rfl rfl rfl (congrArg Value.bool hb114) (HVal.sub rfl rfl) ?_
                    refine HList.gvals (v := (.bool (decide (((r117).n : Int) ≠ (IntKind.i64.wrap (((r76).n : Int) - 1)))))) rfl rfl rfl rfl (congrArg Value.bool hb114) (HVal.neqI rfl rfl) ?_
                    refine HList.vals (v := (.bool (decide (((r117).n : Int) ≠ (IntKind.i64.wrap (((r76).n : Int) - 1)))))) rfl (HVal.pickF rfl hb114 rfl) ?_
                    refine HList.nil ?_
                    refine nt ?_
                    exact ⟨(decide (((r117).n : Int) ≠ (IntKind.i64.wrap (((r76).n : Int) - 1)))), ⟨rfl, rfl, rfl, rfl, trivial⟩, h⟩
              · rintro ρ H_7 ⟨y109, hI, h⟩
                obtain ⟨ρ0, rfl⟩ : ∃ ρ0, ρ = (Env.set (Env.set (Env.set (Env.set ρ0 116 (.bool y109)) 12 (.int .i64 y71)) 8 (.pointer r7)) 2 (Sl.v p2)) := ⟨ρ, hI.eq⟩
                clear hI; unfold F5_7 at h
                obtain ⟨hT, hF⟩ := h
                refine HW.cond y109 rfl (fun hb118 => ?_) (fun hb118 => ?_)
                · have h := hT hb118
                  clear hT hF
                  refine HW.seq ?_
                  refine HW.region ?_
                  refine HList.vals (v := (.bool false)) rfl (HVal.assign' rfl) ?_
                  refine HList.nil ?_
                  refine nt ?_
                  refine HW.ret ?_
                  refine br ?_
                  refine tr ?_
                  refine tr ?_
                  refine br ?_
                  refine tr ?_
                  exact ⟨_, resOf1 rfl Res1.t, ⟨false, rfl, h⟩⟩
                · have h := hF hb118
                  clear hT hF
                  refine HW.skip ?_
                  refine nb ?_
                  refine nt ?_
                  refine HW.region ?_
                  refine HList.vals (v := (.int .i64 y71)) rfl (HVal.move' rfl) ?_
                  refine HList.vals (v := (.int .i64 (IntKind.i64.wrap (y71 + 1)))) rfl (HVal.add rfl rfl) ?_
                  refine HList.vals (v := (.int .i64 (IntKind.i64.wrap (y71 + 1)))) rfl (HVal.assign' rfl) ?_
                  refine HList.nil ?_
                  refine nt ?_
                  exact (hX5 _ _).1 h _ ⟨rfl, rfl, rfl, trivial⟩
        · rintro ρ H_4 ⟨hI, h⟩
          obtain ⟨ρ0, rfl⟩ : ∃ ρ0, ρ = (Env.set ρ0 8 (.pointer r7)) := ⟨ρ, hI.eq⟩
          clear hI; unfold F5_4 at h
          refine HW.seq ?_
          refine HW.region ?_
          refine HList.vals (v := (.pointer r7)) rfl (HVal.move' rfl) ?_
          refine HList.vals (v := (.agg #[(.int .i64 0), (.int .i64 1)])) rfl (HVal.build' (cs := [(.int .i64 0), (.int .i64 1)]) Try.runUnderlying32 Try.zeroValue32 places32 rfl) ?_
          refine HList.ops' rfl (HOp.call' 13 [(.pointer r7), (.agg #[(.int .i64 0), (.int .i64 1)])] (cap := []) rfl rfl Try.call13 (walk13 h)) ?_
          rintro _ H119 ⟨r121, r122, rfl, h⟩
          refine HList.vals (v := (.tuple #[(.int .i64 r121), (.int .i64 r122)])) rfl (HVal.move' rfl) ?_
          refine HList.vals (v := (.int .i64 r121)) rfl (HVal.extract rfl rfl) ?_
          refine HList.vals (v := (.int .i64 r122)) rfl (HVal.extract rfl rfl) ?_
          refine HList.vals (v := (.int .i64 r121)) rfl (HVal.assign' rfl) ?_
          refine HList.vals (v := (.int .i64 r122)) rfl (HVal.assign' rfl) ?_
          refine HList.nil ?_
          refine nt ?_
          refine HW.seq ?_
          refine HW.region ?_
          refine HList.vals (v := (.int .i64 r122)) rfl (HVal.move' rfl) ?_
          refine HList.vals (v := (.bool (decide (r122 = 0)))) rfl (HVal.eqlI rfl rfl) ?_
          refine HList.vals (v := (.bool (decide (r122 = 0)))) rfl (HVal.move' rfl) ?_
          obtain ⟨hT, hF⟩ := h
          rcases Bool.eq_false_or_eq_true (decide (r122 = 0)) with hb123 | hb124
          · have h := hT hb123
            clear hT hF
            refine HList.gvals (v := (.int .i64 r121)) rfl rfl rfl rfl (congrArg Value.bool hb123) (HVal.move' rfl) ?_
            refine HList.gvals (v := (.bool (decide (r121 = 0)))) rfl rfl rfl rfl (congrArg Value.bool hb123) (HVal.eqlI rfl rfl) ?_
            refine HList.vals (v := (.bool (decide (r121 = 0)))) rfl (HVal.pickT rfl hb123 rfl) ?_
            refine HList.vals (v := (.bool (decide (r121 = 0)))) rfl (HVal.move' rfl) ?_
            obtain ⟨hT, hF⟩ := h
            rcases Bool.eq_false_or_eq_true (decide (r121 = 0)) with hb125 | hb126
            · have h := hT hb125
              clear hT hF
              refine HList.gvals (v := (.pointer r7)) rfl rfl rfl rfl (congrArg Value.bool hb125) (HVal.move' rfl) ?_
              refine HList.gops rfl rfl rfl rfl (congrArg Value.bool hb125) (HOp.call' 19 [(.pointer r7)] (cap := []) rfl rfl Try.call19 (walk19 h)) ?_
              rintro _ H127 ⟨r129, rfl, h⟩
              refine HList.gvals (v := (.bool (decide (r129 = 1)))) rfl rfl rfl rfl (congrArg Value.bool hb125) (HVal.eqlI rfl rfl) ?_
              refine HList.vals (v := (.bool (decide (r129 = 1)))) rfl (HVal.pickT rfl hb125 rfl) ?_
              refine HList.vals (v := (.bool (decide (r129 = 1)))) rfl (HVal.assign' rfl) ?_
              refine HList.nil ?_
              refine nt ?_
              refine HW.ret ?_
              exact ⟨_, resOf1 rfl Res1.t, ⟨(decide (r129 = 1)), rfl, h⟩⟩
            · have h := hF hb126
              clear hT hF
              refine HList.gskips rfl rfl rfl rfl (congrArg Value.bool hb126) ?_
              refine HList.gskips rfl rfl rfl rfl (congrArg Value.bool hb126) ?_
              refine HList.gskips rfl rfl rfl rfl (congrArg Value.bool hb126) ?_
              refine HList.vals (v := (.bool false)) rfl (HVal.pickF rfl hb126 rfl) ?_
              refine HList.vals (v := (.bool false)) rfl (HVal.assign' rfl) ?_
              refine HList.nil ?_
              refine nt ?_
              refine HW.ret ?_
              exact ⟨_, resOf1 rfl Res1.t, ⟨false, rfl, h⟩⟩
          · have h := hF hb124
            clear hT hF
            refine HList.gskips rfl rfl rfl rfl (congrArg Value.bool hb124) ?_
            refine HList.gskips rfl rfl rfl rfl (congrArg Value.bool hb124) ?_
            refine HList.vals (v := (.bool false)) rfl (HVal.pickF rfl hb124 rfl) ?_
            refine HList.vals (v := (.bool false)) rfl (HVal.move' rfl) ?_
            refine HList.gskips rfl rfl rfl rfl rfl ?_
            refine HList.gskips rfl rfl rfl rfl rfl ?_
            refine HList.gskips rfl rfl rfl rfl rfl ?_
            refine HList.vals (v := (.bool false)) rfl (HVal.pickF rfl rfl rfl) ?_
            refine HList.vals (v := (.bool false)) rfl (HVal.assign' rfl) ?_
            refine HList.nil ?_
            refine nt ?_
            refine HW.ret ?_
            exact ⟨_, resOf1 rfl Res1.t, ⟨false, rfl, h⟩⟩

def F6_8 (Q : Bool → Hp → Prop) (X1 : Sl → Int → Int → Hp → Prop) (y200 : Sl) (y201 : Sl) (y202 : (Option Addr)) (y203 : Sl) (y204 : Int) (y205 : Int) (y208 : Bool) (H_8 : Hp) : Prop :=
(y208 = true → (Q false H_8)) ∧
 (y208 = false → (X1 y203 y205 (IntKind.i64.wrap (y204 + 1)) H_8))
def F6_6 (Q : Bool → Hp → Prop) (X1 : Sl → Int → Int → Hp → Prop) (y166 : Sl) (y167 : Sl) (y168 : (Option Addr)) (y169 : Sl) (y170 : Int) (y171 : Int) (y172 : Int) (H_6 : Hp) : Prop :=
F16 y168 y170 H_6 (fun (r195 : Int) (H193 : Hp) => 
 F22 y168 y172 H193 (fun (r198 : Sl) (r199 : Int) (H196 : Hp) => 
 ((decide (r195 ≠ 0)) = true → (F6_8 Q X1 y166 y167 y168 y169 y171 y172 true H196)) ∧
 ((decide (r195 ≠ 0)) = false → (((decide (r199 ≠ 0)) = true → (F6_8 Q X1 y166 y167 y168 y169 y171 y172 true H196)) ∧
 ((decide (r199 ≠ 0)) = false → (F23 r198 y169 H196 (fun (r213 : Bool) (H211 : Hp) => 
 ((!r213) = true → (F6_8 Q X1 y166 y167 y168 y169 y171 y172 true H211)) ∧
 ((!r213) = false → (F19 y168 H211 (fun (r218 : Int) (H216 : Hp) => 
 ((decide (r218 ≠ ((y169).n : Int))) = true → (F6_8 Q X1 y166 y167 y168 y169 y171 y172 true H216)) ∧
 ((decide (r218 ≠ ((y169).n : Int))) = false → (F21 y168 H216 (fun (r223 : Sl) (H221 : Hp) => 
 F6_8 Q X1 y166 y167 y168 y169 y171 y172 (decide (((r223).n : Int) ≠ 1)) H221)))))))))))))
def F6_L7b (Q : Bool → Hp → Prop) (X1 : Sl → Int → Int → Hp → Prop) (X7 : Int → Hp → Prop) (y174 : Sl) (y175 : Sl) (y176 : (Option Addr)) (y177 : Sl) (y178 : Int) (y179 : Int) (y180 : Sl) (y181 : Int) (y173 : Int) (H_7 : Hp) : Prop :=
((decide (y173 < ((y180).n : Int))) = true → (∃ a183 : Addr, (y180).b = some a183 ∧ (0 : Int) ≤ (IntKind.i64.wrap ((IntKind.i64.wrap (((y180).n : Int) - 1)) - y173)) ∧ (IntKind.i64.wrap ((IntKind.i64.wrap (((y180).n : Int) - 1)) - y173)) < ((y180).n : Int) ∧ (
 ∃ x188 : Int, cell H_7 (Addr.add a183 ((IntKind.i64.wrap ((IntKind.i64.wrap (((y180).n : Int) - 1)) - y173)).toNat * 1)) = some (.int .i64 x188) ∧ (
 F16 y176 x188 H_7 (fun (r191 : Int) (H189 : Hp) => 
 ((decide (r191 ≠ 0)) = true → (Q false H189)) ∧
 ((decide (r191 ≠ 0)) = false → (X7 (IntKind.i64.wrap (y173 + 1)) H189))))))) ∧
 ((decide (y173 < ((y180).n : Int))) = false → (F6_6 Q X1 y174 y175 y176 y177 y178 y179 y181 H_7))
def F6_L7 (Q : Bool → Hp → Prop) (X1 : Sl → Int → Int → Hp → Prop) (y174 : Sl) (y175 : Sl) (y176 : (Option Addr)) (y177 : Sl) (y178 : Int) (y179 : Int) (y180 : Sl) (y181 : Int) (y173 : Int) (H_7 : Hp) : Prop :=
  ∀ X7 : Int → Hp → Prop, (∀ (y173 : Int) (H_7 : Hp), F6_L7b Q X1 X7 y174 y175 y176 y177 y178 y179 y180 y181 y173 H_7 → X7 y173 H_7) → X7 y173 H_7
def F6_4 (Q : Bool → Hp → Prop) (X1 : Sl → Int → Int → Hp → Prop) (y96 : Sl) (y97 : Sl) (y98 : (Option Addr)) (y99 : Sl) (y100 : Int) (y101 : Int) (y102 : Addr) (y149 : Sl) (H_4 : Hp) : Prop :=
∃ (x151 : Int) (x152 : Int), cells H_4 y102 [(.int .i64 x151), (.int .i64 x152)] 0 ∧ (
 F14 y98 y100 x151 x152 H_4 (fun (r155 : Int) (r156 : Int) (H153 : Hp) => 
 ((decide (r156 ≠ 0)) = true → (Q false H153)) ∧
 ((decide (r156 ≠ 0)) = false → (∃ (x159 : Int) (x160 : Int), cells H153 y102 [(.int .i64 x159), (.int .i64 x160)] 0 ∧ (
 ∀ H161 : Hp, H161 = Array.push H153 (.cells #[(.int .i64 x159), (.int .i64 x160)] 32) → (
 AppendF H161 32 2 16 #[(.int .i64 0), (.int .i64 0)] y99 ((Sl.mk (some ⟨H153.size, 0, none⟩) 1 1)).b ((Sl.mk (some ⟨H153.size, 0, none⟩) 1 1)).n (fun (r165 : Sl) (H163 : Hp) => 
 F6_L7 Q X1 y96 y97 y98 r165 y100 y101 y149 r155 0 H163)))))))
def F6_L5b (Q : Bool → Hp → Prop) (X1 : Sl → Int → Int → Hp → Prop) (X5 : Sl → Int → Hp → Prop) (y105 : Sl) (y106 : Sl) (y107 : (Option Addr)) (y108 : Sl) (y109 : Int) (y110 : Int) (y111 : Addr) (y112 : Addr) (y103 : Sl) (y104 : Int) (H_5 : Hp) : Prop :=
((decide (y104 < ((y106).n : Int))) = true → (((decide (y104 < 4)) = true → (∃ (x117 : Int) (x118 : Int), cells H_5 y112 [(.int .i64 x117), (.int .i64 x118)] 0 ∧ (
 ∀ H119 : Hp, H119 = Array.push H_5 (.cells #[(.int .i64 0), (.int .i64 0)] 32) → (
 mayw H119 ⟨H_5.size, 0, none⟩ 2 0 ∧ ∀ H121 : Hp, H121 = sets H119 ⟨H_5.size, 0, none⟩ [(.int .i64 x117), (.int .i64 x118)] 0 → (
 ∃ x125 : Int, cell H121 (Addr.add y111 1) = some (.int .i64 x125) ∧ (
 ∃ a126 : Addr, (y106).b = some a126 ∧ (0 : Int) ≤ y104 ∧ y104 < ((y106).n : Int) ∧ (
 ∃ x131 : Int, cell H121 (Addr.add a126 (y104.toNat * 1)) = some (.int .u8 x131) ∧ (
 (cell H121 (Addr.add ⟨H_5.size, 0, none⟩ 1)).isSome = true ∧ frz H121 (Addr.add ⟨H_5.size, 0, none⟩ 1) = false ∧ ∀ H132 : Hp, H132 = setc H121 (Addr.add ⟨H_5.size, 0, none⟩ 1) (.int .i64 (IntKind.i64.wrap ((IntKind.i64.wrap (x125 + 1)) + (Int.tmod (IntKind.i64.wrap x131) (4 : Int))))) → (
 ∃ (x137 : Int) (x138 : Int), cells H132 ⟨H_5.size, 0, none⟩ [(.int .i64 x137), (.int .i64 x138)] 0 ∧ (
 F14 y107 y109 x137 x138 H132 (fun (r141 : Int) (r142 : Int) (H139 : Hp) => 
 ((decide (r142 ≠ 0)) = true → (Q false H139)) ∧
 ((decide (r142 ≠ 0)) = false → (∀ H144 : Hp, H144 = Array.push H139 (.cells #[(.int .i64 r141)] 3) → (
 AppendF H144 3 1 8 #[(.int .i64 0)] y103 ((Sl.mk (some ⟨H139.size, 0, none⟩) 1 1)).b ((Sl.mk (some ⟨H139.size, 0, none⟩) 1 1)).n (fun (r148 : Sl) (H146 : Hp) => 
 X5 r148 (IntKind.i64.wrap (y104 + 1)) H146))))))))))))))) ∧
 ((decide (y104 < 4)) = false → (F6_4 Q X1 y105 y106 y107 y108 y109 y110 y112 y103 H_5)))) ∧
 ((decide (y104 < ((y106).n : Int))) = false → (F6_4 Q X1 y105 y106 y107 y108 y109 y110 y112 y103 H_5))
def F6_L5 (Q : Bool → Hp → Prop) (X1 : Sl → Int → Int → Hp → Prop) (y105 : Sl) (y106 : Sl) (y107 : (Option Addr)) (y108 : Sl) (y109 : Int) (y110 : Int) (y111 : Addr) (y112 : Addr) (y103 : Sl) (y104 : Int) (H_5 : Hp) : Prop :=
  ∀ X5 : Sl → Int → Hp → Prop, (∀ (y103 : Sl) (y104 : Int) (H_5 : Hp), F6_L5b Q X1 X5 y105 y106 y107 y108 y109 y110 y111 y112 y103 y104 H_5 → X5 y103 y104 H_5) → X5 y103 y104 H_5
def F6_2 (Q : Bool → Hp → Prop) (X1 : Sl → Int → Int → Hp → Prop) (y62 : Sl) (y63 : Sl) (y64 : (Option Addr)) (y65 : Sl) (y66 : Int) (y67 : Int) (y68 : Addr) (y69 : Addr) (H_2 : Hp) : Prop :=
F6_L5 Q X1 y62 y63 y64 y65 y66 y67 y68 y69 Sl.nil 0 H_2
def F6_3 (Q : Bool → Hp → Prop) (X1 : Sl → Int → Int → Hp → Prop) (y70 : Sl) (y71 : Sl) (y72 : (Option Addr)) (y73 : Sl) (y74 : Int) (y75 : Int) (y76 : Addr) (y77 : Addr) (y88 : Bool) (H_3 : Hp) : Prop :=
(y88 = true → (∃ x91 : Int, cell H_3 y77 = some (.int .i64 x91) ∧ (
 (cell H_3 y77).isSome = true ∧ frz H_3 y77 = false ∧ ∀ H92 : Hp, H92 = setc H_3 y77 (.int .i64 (IntKind.i64.wrap (x91 + 1))) → (
 F6_2 Q X1 y70 y71 y72 y73 y74 y75 y76 y77 H92)))) ∧
 (y88 = false → (F6_2 Q X1 y70 y71 y72 y73 y74 y75 y76 y77 H_3))
def F6_L1b (Q : Bool → Hp → Prop) (X1 : Sl → Int → Int → Hp → Prop) (y26 : Sl) (y27 : Sl) (y28 : (Option Addr)) (y23 : Sl) (y24 : Int) (y25 : Int) (H_1 : Hp) : Prop :=
((decide (y25 < ((y26).n : Int))) = true → (((decide (y25 < 200)) = true → (∃ a32 : Addr, (y23).b = some a32 ∧ (0 : Int) ≤ (IntKind.i64.wrap (((y23).n : Int) - 1)) ∧ (IntKind.i64.wrap (((y23).n : Int) - 1)) < ((y23).n : Int) ∧ (
 ∃ (x37 : Int) (x38 : Int), cells H_1 (Addr.add a32 ((IntKind.i64.wrap (((y23).n : Int) - 1)).toNat * 2)) [(.int .i64 x37), (.int .i64 x38)] 0 ∧ (
 ∀ H39 : Hp, H39 = Array.push H_1 (.cells #[(.int .i64 0), (.int .i64 0)] 32) → (
 mayw H39 ⟨H_1.size, 0, none⟩ 2 0 ∧ ∀ H41 : Hp, H41 = sets H39 ⟨H_1.size, 0, none⟩ [(.int .i64 x37), (.int .i64 x38)] 0 → (
 ∃ x45 : Int, cell H41 ⟨H_1.size, 0, none⟩ = some (.int .i64 x45) ∧ (
 ∃ x47 : Int, cell H41 (Addr.add ⟨H_1.size, 0, none⟩ 1) = some (.int .i64 x47) ∧ (
 ∃ a48 : Addr, (y26).b = some a48 ∧ (0 : Int) ≤ y25 ∧ y25 < ((y26).n : Int) ∧ (
 ∃ x53 : Int, cell H41 (Addr.add a48 (y25.toNat * 1)) = some (.int .u8 x53) ∧ (
 ∀ H54 : Hp, H54 = Array.push H41 (.cells #[(.int .i64 0), (.int .i64 0)] 32) → (
 cell H54 (Addr.add a48 (y25.toNat * 1)) = some (.int .u8 x53) ∧ cell H54 (Addr.add ⟨H_1.size, 0, none⟩ 1) = some (.int .i64 x47) ∧ cell H54 ⟨H_1.size, 0, none⟩ = some (.int .i64 x45) ∧ (
 mayw H54 ⟨H41.size, 0, none⟩ 2 0 ∧ ∀ H59 : Hp, H59 = sets H54 ⟨H41.size, 0, none⟩ [(.int .i64 x45), (.int .i64 (IntKind.i64.wrap ((IntKind.i64.wrap (x47 + 1)) + (Int.tmod (IntKind.i64.wrap (Int.tdiv (IntKind.i64.wrap x53) (2 : Int))) (3 : Int)))))] 0 → (
 ∃ a78 : Addr, (y26).b = some a78 ∧ (0 : Int) ≤ y25 ∧ y25 < ((y26).n : Int) ∧ (
 ∃ x83 : Int, cell H59 (Addr.add a78 (y25.toNat * 1)) = some (.int .u8 x83) ∧ (
 ((decide ((Int.tmod x83 (2 : Int)) = 1)) = true → (∃ x87 : Int, cell H59 ⟨H41.size, 0, none⟩ = some (.int .i64 x87) ∧ (
 F6_3 Q X1 y26 y27 y28 y23 y24 y25 ⟨H_1.size, 0, none⟩ ⟨H41.size, 0, none⟩ (decide (x87 < 7)) H59))) ∧
 ((decide ((Int.tmod x83 (2 : Int)) = 1)) = false → (F6_3 Q X1 y26 y27 y28 y23 y24 y25 ⟨H_1.size, 0, none⟩ ⟨H41.size, 0, none⟩ false H59))))))))))))))))) ∧
 ((decide (y25 < 200)) = false → (Q true H_1)))) ∧
 ((decide (y25 < ((y26).n : Int))) = false → (Q true H_1))
def F6_L1 (Q : Bool → Hp → Prop) (y26 : Sl) (y27 : Sl) (y28 : (Option Addr)) (y23 : Sl) (y24 : Int) (y25 : Int) (H_1 : Hp) : Prop :=
  ∀ X1 : Sl → Int → Int → Hp → Prop, (∀ (y23 : Sl) (y24 : Int) (y25 : Int) (H_1 : Hp), F6_L1b Q X1 y26 y27 y28 y23 y24 y25 H_1 → X1 y23 y24 y25 H_1) → X1 y23 y24 y25 H_1
def F6 (p0 : Sl) (p1 : Sl) (H : Hp) (Q : Bool → Hp → Prop) : Prop :=
F8 H (fun (r3 : Bool) (H1 : Hp) => 
 ((!r3) = true → (Q false H1)) ∧
 ((!r3) = false → (F12 8 H1 (fun (r7 : (Option Addr)) (H5 : Hp) => 
 ((r7.isNone) = true → (Q false H5)) ∧
 ((r7.isNone) = false → (∀ H9 : Hp, H9 = Array.push H5 (.cells #[(.int .i64 0), (.int .i64 1)] 32) → (
 ∃ a11 : Addr, ((Sl.mk (some ⟨H5.size, 0, none⟩) 1 1)).b = some a11 ∧ (0 : Int) ≤ 0 ∧ (0 : Int) < (((Sl.mk (some ⟨H5.size, 0, none⟩) 1 1)).n : Int) ∧ (
 ∃ (x16 : Int) (x17 : Int), cells H9 (Addr.add a11 ((0 : Int).toNat * 2)) [(.int .i64 x16), (.int .i64 x17)] 0 ∧ (
 F13 r7 x16 x17 H9 (fun (r20 : Int) (r21 : Int) (H18 : Hp) => 
 ((decide (r21 ≠ 0)) = true → (Q false H18)) ∧
 ((decide (r21 ≠ 0)) = false → (F6_L1 Q p0 p1 r7 (Sl.mk (some ⟨H5.size, 0, none⟩) 1 1) r20 0 H18))))))))))))
set_option maxRecDepth 100000 in
set_option maxHeartbeats 4000000 in
theorem walk6 {w0 : World} {p0 : Sl} {p1 : Sl} {H : Hp} {Q : Bool → Hp → Prop} (h : F6 p0 p1 H Q) :
    Good Try.prog w0 6 #[(Sl.v p0), (Sl.v p1)] H (fun v H => ∃ (r0 : Bool) , v = (.bool r0) ∧ Q r0 H) := by
  unfold F6 at h
  refine Good.enter' (fn := Try.f6) Try.func6 rfl rfl rfl ?_
  refine HW.seq ?_
  refine HW.region ?_
  refine HList.vals (v := (.bool false)) rfl (HVal.assign' rfl) ?_
  refine HList.nil ?_
  refine nt ?_
  refine HW.seq ?_
  refine HW.region ?_
  refine HList.ops' rfl (HOp.call' 8 [] (cap := []) rfl rfl Try.call8 (walk8 h)) ?_
  rintro _ H1 ⟨r3, rfl, h⟩
  refine HList.vals (v := (.bool r3)) rfl (HVal.assign' rfl) ?_
  refine HList.nil ?_
  refine nt ?_
  refine HW.seq ?_
  refine HW.seq ?_
  refine HW.region ?_
  refine HList.vals (v := (.bool r3)) rfl (HVal.move' rfl) ?_
  refine HList.vals (v := (.bool (!r3))) rfl (HVal.not rfl) ?_
  refine HList.nil ?_
  refine nt ?_
  obtain ⟨hT, hF⟩ := h
  refine HW.cond (!r3) rfl (fun hb4 => ?_) (fun hb4 => ?_)
  · have h := hT hb4
    clear hT hF
    refine HW.seq ?_
    refine HW.region ?_
    refine HList.vals (v := (.bool false)) rfl (HVal.assign' rfl) ?_
    refine HList.nil ?_
    refine nt ?_
    refine HW.ret ?_
    refine tr ?_
    exact ⟨_, resOf1 rfl Res1.t, ⟨false, rfl, h⟩⟩
  · have h := hF hb4
    clear hT hF
    refine HW.skip ?_
    refine nt ?_
    refine HW.seq ?_
    refine HW.region ?_
    refine HList.ops' rfl (HOp.call' 12 [(.int .i64 8)] (cap := []) rfl rfl Try.call12 (walk12 h)) ?_
    rintro _ H5 ⟨r7, rfl, h⟩
    refine HList.vals (v := (.pointer r7)) rfl (HVal.assign' rfl) ?_
    refine HList.nil ?_
    refine nt ?_
    refine HW.seq ?_
    refine HW.seq ?_
    refine HW.region ?_
    refine HList.vals (v := (.pointer r7)) rfl (HVal.move' rfl) ?_
    refine HList.vals (v := (.bool (r7.isNone))) rfl (HVal.eqlPN Try.underlying24 rfl rfl) ?_
    refine HList.nil ?_
    refine nt ?_
    obtain ⟨hT, hF⟩ := h
    refine HW.cond (r7.isNone) rfl (fun hb8 => ?_) (fun hb8 => ?_)
    · have h := hT hb8
      clear hT hF
      refine HW.seq ?_
      refine HW.region ?_
      refine HList.vals (v := (.bool false)) rfl (HVal.assign' rfl) ?_
      refine HList.nil ?_
      refine nt ?_
      refine HW.ret ?_
      refine tr ?_
      exact ⟨_, resOf1 rfl Res1.t, ⟨false, rfl, h⟩⟩
    · have h := hF hb8
      clear hT hF
      refine HW.skip ?_
      refine nt ?_
      refine HW.seq ?_
      refine HW.region ?_
      refine HList.vals (v := (.agg #[(.int .i64 0), (.int .i64 1)])) rfl (HVal.build' (cs := [(.int .i64 0), (.int .i64 1)]) Try.runUnderlying32 Try.zeroValue32 places32 rfl) ?_
      refine HList.ops' rfl (HOp.buildSlice' (zs := [(.int .i64 0), (.int .i64 0)]) (cs := [(.int .i64 0), (.int .i64 1)]) Try.runUnderlying41 Try.sizeOf32 Try.zeroValue32 (by decide) (by kernel_rfl) rfl (by decide)) ?_
      rintro _ H9 ⟨rfl, e10⟩
      replace h := h H9 e10
      refine HList.vals (v := (Sl.v (Sl.mk (some ⟨H5.size, 0, none⟩) 1 1))) rfl (HVal.assign' rfl) ?_
      refine HList.nil ?_
      refine nt ?_
      refine HW.seq ?_
      refine HW.region ?_
      refine HList.vals (v := (.pointer r7)) rfl (HVal.move' rfl) ?_
      refine HList.vals (v := (Sl.v (Sl.mk (some ⟨H5.size, 0, none⟩) 1 1))) rfl (HVal.move' rfl) ?_
      obtain ⟨a11, e12, b13, b14, h⟩ := h
      refine HList.vals (v := (.pointer (some (Addr.add a11 ((0 : Int).toNat * 2))))) rfl (HVal.indexAddr Try.runUnderlying41 Try.sizeOf32 (Sl.v_some rfl e12) rfl b13 b14) ?_
      obtain ⟨x16, x17, c15, h⟩ := h
      refine HList.vals (v := (.agg #[(.int .i64 x16), (.int .i64 x17)])) rfl (HVal.loadN [(.int .i64 x16), (.int .i64 x17)] Try.isAgg32 Try.sizeOf32 rfl c15) ?_
      refine HList.ops' rfl (HOp.call' 13 [(.pointer r7), (.agg #[(.int .i64 x16), (.int .i64 x17)])] (cap := []) rfl rfl Try.call13 (walk13 h)) ?_
      rintro _ H18 ⟨r20, r21, rfl, h⟩
      refine HList.vals (v := (.tuple #[(.int .i64 r20), (.int .i64 r21)])) rfl (HVal.move' rfl) ?_
      refine HList.vals (v := (.int .i64 r20)) rfl (HVal.extract rfl rfl) ?_
      refine HList.vals (v := (.int .i64 r21)) rfl (HVal.extract rfl rfl) ?_
      refine HList.vals (v := (.int .i64 r20)) rfl (HVal.assign' rfl) ?_
      refine HList.vals (v := (.int .i64 r21)) rfl (HVal.assign' rfl) ?_
      refine HList.nil ?_
      refine nt ?_
      refine HW.seq ?_
      refine HW.seq ?_
      refine HW.region ?_
      refine HList.vals (v := (.int .i64 r21)) rfl (HVal.move' rfl) ?_
      refine HList.vals (v := (.bool (decide (r21 ≠ 0)))) rfl (HVal.neqI rfl rfl) ?_
      refine HList.nil ?_
      refine nt ?_
      obtain ⟨hT, hF⟩ := h
      refine HW.cond (decide (r21 ≠ 0)) rfl (fun hb22 => ?_) (fun hb22 => ?_)
      · have h := hT hb22
        clear hT hF
        refine HW.seq ?_
        refine HW.region ?_
        refine HList.vals (v := (.bool false)) rfl (HVal.assign' rfl) ?_
        refine HList.nil ?_
        refine nt ?_
        refine HW.ret ?_
        refine tr ?_
        exact ⟨_, resOf1 rfl Res1.t, ⟨false, rfl, h⟩⟩
      · have h := hF hb22
        clear hT hF
        refine HW.skip ?_
        refine nt ?_
        refine HW.seq ?_
        refine HW.seq ?_
        refine HW.region ?_
        refine HList.vals (v := (.int .i64 0)) rfl (HVal.assign' rfl) ?_
        refine HList.nil ?_
        refine nt ?_
        refine HW.block ?_
        refine HW.loop' (fun L1 hL1 => ?_)
        obtain ⟨X1, hX1⟩ : ∃ X1 : Sl → Int → Int → Hp → Prop, ∀ (y23 : Sl) (y24 : Int) (y25 : Int) (H_1 : Hp), X1 y23 y24 y25 H_1 ↔ ∀ ρ, Env.Is ρ [(0, (Sl.v p0)), (1, (Sl.v p1)), (6, (.pointer r7)), (7, (Sl.v y23)), (8, (.int .i64 y24)), (10, (.int .i64 y25))] → L1 ρ H_1 := ⟨_, fun _ _ _ _ => Iff.rfl⟩
        refine (hX1 _ _ _ _).1 (h X1 ?_) _ ?_
        rotate_left
        · exact ⟨rfl, rfl, rfl, rfl, rfl, rfl, trivial⟩
        clear h
        intro y23 y24 y25 H_1 h
        refine (hX1 _ _ _ _).2 fun ρ hI => ?_
        obtain ⟨ρ0, rfl⟩ : ∃ ρ0, ρ = (Env.set (Env.set (Env.set (Env.set (Env.set (Env.set ρ0 10 (.int .i64 y25)) 8 (.int .i64 y24)) 7 (Sl.v y23)) 6 (.pointer r7)) 1 (Sl.v p1)) 0 (Sl.v p0)) := ⟨ρ, hI.eq⟩
        clear hI; unfold F6_L1b at h; refine hL1 _ _ ?_
        refine HW.seq ?_
        refine HW.seq ?_
        refine HW.region ?_
        refine HList.vals (v := (.int .i64 y25)) rfl (HVal.move' rfl) ?_
        refine HList.vals (v := (Sl.v p0)) rfl (HVal.move' rfl) ?_
        refine HList.vals (v := (.int .i64 ((p0).n : Int))) rfl (HVal.len Try.runUnderlying55 rfl) ?_
        refine HList.vals (v := (.bool (decide (y25 < ((p0).n : Int))))) rfl (HVal.lss rfl rfl) ?_
        refine HList.vals (v := (.bool (decide (y25 < ((p0).n : Int))))) rfl (HVal.move' rfl) ?_
        obtain ⟨hT, hF⟩ := h
        rcases Bool.eq_false_or_eq_true (decide (y25 < ((p0).n : Int))) with hb29 | hb30
        · have h := hT hb29
          clear hT hF
          refine HList.gvals (v := (.int .i64 y25)) rfl rfl rfl rfl (congrArg Value.bool hb29) (HVal.move' rfl) ?_
          refine HList.gvals (v := (.bool (decide (y25 < 200)))) rfl rfl rfl rfl (congrArg Value.bool hb29) (HVal.lss rfl rfl) ?_
          refine HList.vals (v := (.bool (decide (y25 < 200)))) rfl (HVal.pickT rfl hb29 rfl) ?_
          refine HList.nil ?_
          refine nt ?_
          obtain ⟨hT, hF⟩ := h
          refine HW.cond (decide (y25 < 200)) rfl (fun hb31 => ?_) (fun hb31 => ?_)
          · have h := hT hb31
            clear hT hF
            refine HW.skip ?_
            refine nt ?_
            refine HW.seq ?_
            refine HW.block ?_
            refine HW.seq ?_
            refine HW.region ?_
            refine HList.vals (v := (Sl.v y23)) rfl (HVal.move' rfl) ?_
            refine HList.vals (v := (Sl.v y23)) rfl (HVal.move' rfl) ?_
            refine HList.vals (v := (.int .i64 ((y23).n : Int))) rfl (HVal.len Try.runUnderlying41 rfl) ?_
            refine HList.vals (v := (.int .i64 (IntKind.i64.wrap (((y23).n : Int) - 1)))) rfl (HVal.sub rfl rfl) ?_
            obtain ⟨a32, e33, b34, b35, h⟩ := h
            refine HList.vals (v := (.pointer (some (Addr.add a32 ((IntKind.i64.wrap (((y23).n : Int) - 1)).toNat * 2))))) rfl (HVal.indexAddr Try.runUnderlying41 Try.sizeOf32 (Sl.v_some rfl e33) rfl b34 b35) ?_
            obtain ⟨x37, x38, c36, h⟩ := h
            refine HList.vals (v := (.agg #[(.int .i64 x37), (.int .i64 x38)])) rfl (HVal.loadN [(.int .i64 x37), (.int .i64 x38)] Try.isAgg32 Try.sizeOf32 rfl c36) ?_
            refine HList.ops' rfl (HOp.alloc Try.zeroValue32) ?_
            rintro _ H39 ⟨rfl, e40⟩
            replace h := h H39 e40
            obtain ⟨z43, h⟩ := h
            refine HList.opsn (HOp.storeN' (l := [(.int .i64 x37), (.int .i64 x38)]) Try.sizeOf32 rfl rfl rfl z43) ?_
            rintro _ H41 e42
            replace h := h H41 e42
            refine HList.nil ?_
            refine nt ?_
            refine HW.seq ?_
            refine HW.draw mixed [(0, some []), (1, some [15]), (2, some []), (3, some [15]), (4, some []), (5, some []), (6, some []), (7, some []), (8, some [15]), (9, some []), (10, some []), (11, some []), (12, some []), (13, some []), (14, none), (15, none)] rfl (by kernel_rfl) (by kernel_rfl) ?_
            refine HPlan.takev (v := (.pointer (some ⟨H_1.size, 0, none⟩))) rfl rfl (fun _ => HVal.fieldAddr0 Try.runUnderlying32 rfl rfl Try.sizeOf3 rfl) ?_
            obtain ⟨x45, c44, h⟩ := h
            refine HPlan.takel (v := (.int .i64 x45)) (fun X => cell X ⟨H_1.size, 0, none⟩ = some (.int .i64 x45)) rfl rfl (fun _ hX => HVal.load1 Try.isAgg3 rfl hX) c44 ?_
            refine HPlan.takev (v := (.pointer (some (Addr.add ⟨H_1.size, 0, none⟩ 1)))) rfl rfl (fun _ => HVal.fieldAddr' Try.runUnderlying32 rfl rfl Try.sizeOf2 rfl) ?_
            obtain ⟨x47, c46, h⟩ := h
            refine HPlan.takel (v := (.int .i64 x47)) (fun X => cell X (Addr.add ⟨H_1.size, 0, none⟩ 1) = some (.int .i64 x47)) rfl rfl (fun _ hX => HVal.load1 Try.isAgg2 rfl hX) c46 ?_
            refine HPlan.takev (v := (.int .i64 (IntKind.i64.wrap (x47 + 1)))) rfl rfl (fun _ => HVal.add rfl rfl) ?_
            refine HPlan.takev (v := (Sl.v p0)) rfl rfl (fun _ => HVal.move' rfl) ?_
            refine HPlan.takev (v := (.int .i64 y25)) rfl rfl (fun _ => HVal.move' rfl) ?_
            obtain ⟨a48, e49, b50, b51, h⟩ := h
            refine HPlan.takev (v := (.pointer (some (Addr.add a48 (y25.toNat * 1))))) rfl rfl (fun _ => HVal.indexAddr Try.runUnderlying55 Try.sizeOf5 (Sl.v_some rfl e49) rfl b50 b51) ?_
            obtain ⟨x53, c52, h⟩ := h
            refine HPlan.takel (v := (.int .u8 x53)) (fun X => cell X (Addr.add a48 (y25.toNat * 1)) = some (.int .u8 x53)) rfl rfl (fun _ hX => HVal.load1 Try.isAgg5 rfl hX) c52 ?_
            refine HPlan.takev (v := (.int .i64 (IntKind.i64.wrap x53))) rfl rfl (fun _ => HVal.convI Try.runUnderlying5 Try.runUnderlying2 rfl) ?_
            refine HPlan.takev (v := (.int .i64 (IntKind.i64.wrap (Int.tdiv (IntKind.i64.wrap x53) (2 : Int))))) rfl rfl (fun _ => HVal.quo rfl rfl (by decide)) ?_
            refine HPlan.takev (v := (.int .i64 (Int.tmod (IntKind.i64.wrap (Int.tdiv (IntKind.i64.wrap x53) (2 : Int))) (3 : Int)))) rfl rfl (fun _ => HVal.rem rfl rfl (by decide)) ?_
            refine HPlan.takev (v := (.int .i64 (IntKind.i64.wrap ((IntKind.i64.wrap (x47 + 1)) + (Int.tmod (IntKind.i64.wrap (Int.tdiv (IntKind.i64.wrap x53) (2 : Int))) (3 : Int)))))) rfl rfl (fun _ => HVal.add rfl rfl) ?_
            refine HPlan.takev (v := (.agg #[(.int .i64 x45), (.int .i64 (IntKind.i64.wrap ((IntKind.i64.wrap (x47 + 1)) + (Int.tmod (IntKind.i64.wrap (Int.tdiv (IntKind.i64.wrap x53) (2 : Int))) (3 : Int)))))])) rfl rfl (fun _ => HVal.build' (cs := [(.int .i64 x45), (.int .i64 (IntKind.i64.wrap ((IntKind.i64.wrap (x47 + 1)) + (Int.tmod (IntKind.i64.wrap (Int.tdiv (IntKind.i64.wrap x53) (2 : Int))) (3 : Int)))))]) Try.runUnderlying32 Try.zeroValue32 places32 rfl) ?_
            refine HPlan.ops' rfl rfl (HOp.alloc Try.zeroValue32) ?_
            rintro _ H54 ⟨rfl, e55⟩
            replace h := h H54 e55
            obtain ⟨s56, s57, s58, h⟩ := h
            refine ⟨SC_of ⟨fun _ => s56, fun _ => s57, fun _ => s58, trivial⟩, ?_⟩
            obtain ⟨z61, h⟩ := h
            refine HPlan.opsn rfl (HOp.storeN' (l := [(.int .i64 x45), (.int .i64 (IntKind.i64.wrap ((IntKind.i64.wrap (x47 + 1)) + (Int.tmod (IntKind.i64.wrap (Int.tdiv (IntKind.i64.wrap x53) (2 : Int))) (3 : Int)))))]) Try.sizeOf32 rfl rfl rfl z61) ?_
            rintro _ H59 e60
            replace h := h H59 e60
            refine ⟨SC_of ⟨fun e => absurd e (by decide), fun e => absurd e (by decide), fun e => absurd e (by decide), trivial⟩, ?_⟩
            refine HPlan.done ?_
            refine nt ?_
            refine HW.cut (fun ρ H_2 => Env.Is ρ [(0, (Sl.v p0)), (1, (Sl.v p1)), (6, (.pointer r7)), (7, (Sl.v y23)), (8, (.int .i64 y24)), (10, (.int .i64 y25)), (11, (.pointer (some ⟨H_1.size, 0, none⟩))), (12, (.pointer (some ⟨H41.size, 0, none⟩)))] ∧ F6_2 Q X1 p0 p1 r7 y23 y24 y25 ⟨H_1.size, 0, none⟩ ⟨H41.size, 0, none⟩ H_2) ?_ ?_
            · refine HW.cut (fun ρ H_3 => ∃ (y88 : Bool), Env.Is ρ [(0, (Sl.v p0)), (1, (Sl.v p1)), (6, (.pointer r7)), (7, (Sl.v y23)), (8, (.int .i64 y24)), (10, (.int .i64 y25)), (11, (.pointer (some ⟨H_1.size, 0, none⟩))), (12, (.pointer (some ⟨H41.size, 0, none⟩))), (82, (.bool y88))] ∧ F6_3 Q X1 p0 p1 r7 y23 y24 y25 ⟨H_1.size, 0, none⟩ ⟨H41.size, 0, none⟩ y88 H_3) ?_ ?_
              · refine HW.region ?_
                refine HList.vals (v := (Sl.v p0)) rfl (HVal.move' rfl) ?_
                refine HList.vals (v := (.int .i64 y25)) rfl (HVal.move' rfl) ?_
                obtain ⟨a78, e79, b80, b81, h⟩ := h
                refine HList.vals (v := (.pointer (some (Addr.add a78 (y25.toNat * 1))))) rfl (HVal.indexAddr Try.runUnderlying55 Try.sizeOf5 (Sl.v_some rfl e79) rfl b80 b81) ?_
                obtain ⟨x83, c82, h⟩ := h
                refine HList.vals (v := (.int .u8 x83)) rfl (HVal.load1 Try.isAgg5 rfl c82) ?_
                refine HList.vals (v := (.int .u8 (Int.tmod x83 (2 : Int)))) rfl (HVal.rem rfl rfl (by decide)) ?_
                refine HList.vals (v := (.bool (decide ((Int.tmod x83 (2 : Int)) = 1)))) rfl (HVal.eqlI rfl rfl) ?_
                refine HList.vals (v := (.bool (decide ((Int.tmod x83 (2 : Int)) = 1)))) rfl (HVal.move' rfl) ?_
                obtain ⟨hT, hF⟩ := h
                rcases Bool.eq_false_or_eq_true (decide ((Int.tmod x83 (2 : Int)) = 1)) with hb84 | hb85
                · have h := hT hb84
                  clear hT hF
                  refine HList.gvals (v := (.pointer (some ⟨H41.size, 0, none⟩))) rfl rfl rfl rfl (congrArg Value.bool hb84) (HVal.fieldAddr0 Try.runUnderlying32 rfl rfl Try.sizeOf3 rfl) ?_
                  obtain ⟨x87, c86, h⟩ := h
                  refine HList.gvals (v := (.int .i64 x87)) rfl rfl rfl rfl (congrArg Value.bool hb84) (HVal.load1 Try.isAgg3 rfl c86) ?_
                  refine HList.gvals (v := (.bool (decide (x87 < 7)))) rfl rfl rfl rfl (congrArg Value.bool hb84) (HVal.lss rfl rfl) ?_
                  refine HList.vals (v := (.bool (decide (x87 < 7)))) rfl (HVal.pickT rfl hb84 rfl) ?_
                  refine HList.nil ?_
                  refine nt ?_
                  exact ⟨(decide (x87 < 7)), ⟨rfl, rfl, rfl, rfl, rfl, rfl, rfl, rfl, rfl, trivial⟩, h⟩
                · have h := hF hb85
                  clear hT hF
                  refine HList.gskips rfl rfl rfl rfl (congrArg Value.bool hb85) ?_
                  refine HList.gskips rfl rfl rfl rfl (congrArg Value.bool hb85) ?_
                  refine HList.gskips rfl rfl rfl rfl (congrArg Value.bool hb85) ?_
                  refine HList.vals (v := (.bool false)) rfl (HVal.pickF rfl hb85 rfl) ?_
                  refine HList.nil ?_
                  refine nt ?_
                  exact ⟨false, ⟨rfl, rfl, rfl, rfl, rfl, rfl, rfl, rfl, rfl, trivial⟩, h⟩
              · rintro ρ H_3 ⟨y88, hI, h⟩
                obtain ⟨ρ0, rfl⟩ : ∃ ρ0, ρ = (Env.set (Env.set (Env.set (Env.set (Env.set (Env.set (Env.set (Env.set (Env.set ρ0 82 (.bool y88)) 12 (.pointer (some ⟨H41.size, 0, none⟩))) 11 (.pointer (some ⟨H_1.size, 0, none⟩))) 10 (.int .i64 y25)) 8 (.int .i64 y24)) 7 (Sl.v y23)) 6 (.pointer r7)) 1 (Sl.v p1)) 0 (Sl.v p0)) := ⟨ρ, hI.eq⟩
                clear hI; unfold F6_3 at h
                obtain ⟨hT, hF⟩ := h
                refine HW.cond y88 rfl (fun hb89 => ?_) (fun hb89 => ?_)
                · have h := hT hb89
                  clear hT hF
                  refine HW.region ?_
                  refine HList.vals (v := (.pointer (some ⟨H41.size, 0, none⟩))) rfl (HVal.fieldAddr0 Try.runUnderlying32 rfl rfl Try.sizeOf3 rfl) ?_
                  obtain ⟨x91, c90, h⟩ := h
                  refine HList.vals (v := (.int .i64 x91)) rfl (HVal.load1 Try.isAgg3 rfl c90) ?_
                  refine HList.vals (v := (.int .i64 (IntKind.i64.wrap (x91 + 1)))) rfl (HVal.add rfl rfl) ?_
                  refine HList.vals (v := (.pointer (some ⟨H41.size, 0, none⟩))) rfl (HVal.fieldAddr0 Try.runUnderlying32 rfl rfl Try.sizeOf3 rfl) ?_
                  obtain ⟨z94, z95, h⟩ := h
                  refine HList.opsn (HOp.store1 Try.sizeOf3 rfl rfl rfl z94 z95) ?_
                  rintro _ H92 e93
                  replace h := h H92 e93
                  refine HList.nil ?_
                  refine nt ?_
                  exact ⟨⟨rfl, rfl, rfl, rfl, rfl, rfl, rfl, rfl, trivial⟩, h⟩
                · have h := hF hb89
                  clear hT hF
                  refine HW.skip ?_
                  refine nt ?_
                  exact ⟨⟨rfl, rfl, rfl, rfl, rfl, rfl, rfl, rfl, trivial⟩, h⟩
            · rintro ρ H_2 ⟨hI, h⟩
              obtain ⟨ρ0, rfl⟩ : ∃ ρ0, ρ = (Env.set (Env.set (Env.set (Env.set (Env.set (Env.set (Env.set (Env.set ρ0 12 (.pointer (some ⟨H41.size, 0, none⟩))) 11 (.pointer (some ⟨H_1.size, 0, none⟩))) 10 (.int .i64 y25)) 8 (.int .i64 y24)) 7 (Sl.v y23)) 6 (.pointer r7)) 1 (Sl.v p1)) 0 (Sl.v p0)) := ⟨ρ, hI.eq⟩
              clear hI; unfold F6_2 at h
              refine HW.seq ?_
              refine HW.region ?_
              refine HList.vals (v := (Sl.v Sl.nil)) rfl (HVal.assign' rfl) ?_
              refine HList.nil ?_
              refine nt ?_
              refine HW.cut (fun ρ H_4 => ∃ (y149 : Sl), Env.Is ρ [(0, (Sl.v p0)), (1, (Sl.v p1)), (6, (.pointer r7)), (7, (Sl.v y23)), (8, (.int .i64 y24)), (10, (.int .i64 y25)), (12, (.pointer (some ⟨H41.size, 0, none⟩))), (13, (Sl.v y149))] ∧ F6_4 Q X1 p0 p1 r7 y23 y24 y25 ⟨H41.size, 0, none⟩ y149 H_4) ?_ ?_
              · refine HW.seq ?_
                refine HW.region ?_
                refine HList.vals (v := (.int .i64 0)) rfl (HVal.assign' rfl) ?_
                refine HList.nil ?_
                refine nt ?_
                refine HW.block ?_
                refine HW.loop' (fun L5 hL5 => ?_)
                obtain ⟨X5, hX5⟩ : ∃ X5 : Sl → Int → Hp → Prop, ∀ (y103 : Sl) (y104 : Int) (H_5 : Hp), X5 y103 y104 H_5 ↔ ∀ ρ, Env.Is ρ [(0, (Sl.v p0)), (1, (Sl.v p1)), (6, (.pointer r7)), (7, (Sl.v y23)), (8, (.int .i64 y24)), (10, (.int .i64 y25)), (11, (.pointer (some ⟨H_1.size, 0, none⟩))), (12, (.pointer (some ⟨H41.size, 0, none⟩))), (13, (Sl.v y103)), (14, (.int .i64 y104))] → L5 ρ H_5 := ⟨_, fun _ _ _ => Iff.rfl⟩
                refine (hX5 _ _ _).1 (h X5 ?_) _ ?_
                rotate_left
                · exact ⟨rfl, rfl, rfl, rfl, rfl, rfl, rfl, rfl, rfl, rfl, trivial⟩
                clear h
                intro y103 y104 H_5 h
                refine (hX5 _ _ _).2 fun ρ hI => ?_
                obtain ⟨ρ0, rfl⟩ : ∃ ρ0, ρ = (Env.set (Env.set (Env.set (Env.set (Env.set (Env.set (Env.set (Env.set (Env.set (Env.set ρ0 14 (.int .i64 y104)) 13 (Sl.v y103)) 12 (.pointer (some ⟨H41.size, 0, none⟩))) 11 (.pointer (some ⟨H_1.size, 0, none⟩))) 10 (.int .i64 y25)) 8 (.int .i64 y24)) 7 (Sl.v y23)) 6 (.pointer r7)) 1 (Sl.v p1)) 0 (Sl.v p0)) := ⟨ρ, hI.eq⟩
                clear hI; unfold F6_L5b at h; refine hL5 _ _ ?_
                refine HW.seq ?_
                refine HW.seq ?_
                refine HW.region ?_
                refine HList.vals (v := (.int .i64 y104)) rfl (HVal.move' rfl) ?_
                refine HList.vals (v := (Sl.v p1)) rfl (HVal.move' rfl) ?_
                refine HList.vals (v := (.int .i64 ((p1).n : Int))) rfl (HVal.len Try.runUnderlying55 rfl) ?_
                refine HList.vals (v := (.bool (decide (y104 < ((p1).n : Int))))) rfl (HVal.lss rfl rfl) ?_
                refine HList.vals (v := (.bool (decide (y104 < ((p1).n : Int))))) rfl (HVal.move' rfl) ?_
                obtain ⟨hT, hF⟩ := h
                rcases Bool.eq_false_or_eq_true (decide (y104 < ((p1).n : Int))) with hb113 | hb114
                · have h := hT hb113
                  clear hT hF
                  refine HList.gvals (v := (.int .i64 y104)) rfl rfl rfl rfl (congrArg Value.bool hb113) (HVal.move' rfl) ?_
                  refine HList.gvals (v := (.bool (decide (y104 < 4)))) rfl rfl rfl rfl (congrArg Value.bool hb113) (HVal.lss rfl rfl) ?_
                  refine HList.vals (v := (.bool (decide (y104 < 4)))) rfl (HVal.pickT rfl hb113 rfl) ?_
                  refine HList.nil ?_
                  refine nt ?_
                  obtain ⟨hT, hF⟩ := h
                  refine HW.cond (decide (y104 < 4)) rfl (fun hb115 => ?_) (fun hb115 => ?_)
                  · have h := hT hb115
                    clear hT hF
                    refine HW.skip ?_
                    refine nt ?_
                    refine HW.seq ?_
                    refine HW.block ?_
                    refine HW.seq ?_
                    refine HW.region ?_
                    obtain ⟨x117, x118, c116, h⟩ := h
                    refine HList.vals (v := (.agg #[(.int .i64 x117), (.int .i64 x118)])) rfl (HVal.loadN [(.int .i64 x117), (.int .i64 x118)] Try.isAgg32 Try.sizeOf32 rfl c116) ?_
                    refine HList.ops' rfl (HOp.alloc Try.zeroValue32) ?_
                    rintro _ H119 ⟨rfl, e120⟩
                    replace h := h H119 e120
                    obtain ⟨z123, h⟩ := h
                    refine HList.opsn (HOp.storeN' (l := [(.int .i64 x117), (.int .i64 x118)]) Try.sizeOf32 rfl rfl rfl z123) ?_
                    rintro _ H121 e122
                    replace h := h H121 e122
                    refine HList.nil ?_
                    refine nt ?_
                    refine HW.seq ?_
                    refine HW.draw mixed [(0, some []), (1, some [11]), (2, some []), (3, some []), (4, some []), (5, some []), (6, some [11]), (7, some []), (8, some []), (9, some []), (10, some []), (11, none)] rfl (by kernel_rfl) (by kernel_rfl) ?_
                    refine HPlan.takev (v := (.pointer (some (Addr.add ⟨H_1.size, 0, none⟩ 1)))) rfl rfl (fun _ => HVal.fieldAddr' Try.runUnderlying32 rfl rfl Try.sizeOf2 rfl) ?_
                    obtain ⟨x125, c124, h⟩ := h
                    refine HPlan.takel (v := (.int .i64 x125)) (fun X => cell X (Addr.add ⟨H_1.size, 0, none⟩ 1) = some (.int .i64 x125)) rfl rfl (fun _ hX => HVal.load1 Try.isAgg2 rfl hX) c124 ?_
                    refine HPlan.takev (v := (.int .i64 (IntKind.i64.wrap (x125 + 1)))) rfl rfl (fun _ => HVal.add rfl rfl) ?_
                    refine HPlan.takev (v := (Sl.v p1)) rfl rfl (fun _ => HVal.move' rfl) ?_
                    refine HPlan.takev (v := (.int .i64 y104)) rfl rfl (fun _ => HVal.move' rfl) ?_
                    obtain ⟨a126, e127, b128, b129, h⟩ := h
                    refine HPlan.takev (v := (.pointer (some (Addr.add a126 (y104.toNat * 1))))) rfl rfl (fun _ => HVal.indexAddr Try.runUnderlying55 Try.sizeOf5 (Sl.v_some rfl e127) rfl b128 b129) ?_
                    obtain ⟨x131, c130, h⟩ := h
                    refine HPlan.takel (v := (.int .u8 x131)) (fun X => cell X (Addr.add a126 (y104.toNat * 1)) = some (.int .u8 x131)) rfl rfl (fun _ hX => HVal.load1 Try.isAgg5 rfl hX) c130 ?_
                    refine HPlan.takev (v := (.int .i64 (IntKind.i64.wrap x131))) rfl rfl (fun _ => HVal.convI Try.runUnderlying5 Try.runUnderlying2 rfl) ?_
                    refine HPlan.takev (v := (.int .i64 (Int.tmod (IntKind.i64.wrap x131) (4 : Int)))) rfl rfl (fun _ => HVal.rem rfl rfl (by decide)) ?_
                    refine HPlan.takev (v := (.int .i64 (IntKind.i64.wrap ((IntKind.i64.wrap (x125 + 1)) + (Int.tmod (IntKind.i64.wrap x131) (4 : Int)))))) rfl rfl (fun _ => HVal.add rfl rfl) ?_
                    refine HPlan.takev (v := (.pointer (some (Addr.add ⟨H_5.size, 0, none⟩ 1)))) rfl rfl (fun _ => HVal.fieldAddr' Try.runUnderlying32 rfl rfl Try.sizeOf2 rfl) ?_
                    obtain ⟨z134, z135, h⟩ := h
                    refine HPlan.opsn rfl (HOp.store1 Try.sizeOf2 rfl rfl rfl z134 z135) ?_
                    rintro _ H132 e133
                    replace h := h H132 e133
                    refine ⟨SC_of ⟨fun e => absurd e (by decide), fun e => absurd e (by decide), trivial⟩, ?_⟩
                    refine HPlan.done ?_
                    refine nt ?_
                    refine HW.seq ?_
                    refine HW.region ?_
                    refine HList.vals (v := (.pointer r7)) rfl (HVal.move' rfl) ?_
                    refine HList.vals (v := (.int .i64 y24)) rfl (HVal.move' rfl) ?_
                    obtain ⟨x137, x138, c136, h⟩ := h
                    refine HList.vals (v := (.agg #[(.int .i64 x137), (.int .i64 x138)])) rfl (HVal.loadN [(.int .i64 x137), (.int .i64 x138)] Try.isAgg32 Try.sizeOf32 rfl c136) ?_
                    refine HList.ops' rfl (HOp.call' 14 [(.pointer r7), (.int .i64 y24), (.agg #[(.int .i64 x137), (.int .i64 x138)])] (cap := []) rfl rfl Try.call14 (walk14 h)) ?_
                    rintro _ H139 ⟨r141, r142, rfl, h⟩
                    refine HList.vals (v := (.tuple #[(.int .i64 r141), (.int .i64 r142)])) rfl (HVal.move' rfl) ?_
                    refine HList.vals (v := (.int .i64 r141)) rfl (HVal.extract rfl rfl) ?_
                    refine HList.vals (v := (.int .i64 r142)) rfl (HVal.extract rfl rfl) ?_
                    refine HList.vals (v := (.int .i64 r141)) rfl (HVal.assign' rfl) ?_
                    refine HList.vals (v := (.int .i64 r142)) rfl (HVal.assign' rfl) ?_
                    refine HList.nil ?_
                    refine nt ?_
                    refine HW.seq ?_
                    refine HW.seq ?_
                    refine HW.region ?_
                    refine HList.vals (v := (.int .i64 r142)) rfl (HVal.move' rfl) ?_
                    refine HList.vals (v := (.bool (decide (r142 ≠ 0)))) rfl (HVal.neqI rfl rfl) ?_
                    refine HList.nil ?_
                    refine nt ?_
                    obtain ⟨hT, hF⟩ := h
                    refine HW.cond (decide (r142 ≠ 0)) rfl (fun hb143 => ?_) (fun hb143 => ?_)
                    · have h := hT hb143
                      clear hT hF
                      refine HW.seq ?_
                      refine HW.region ?_
                      refine HList.vals (v := (.bool false)) rfl (HVal.assign' rfl) ?_
                      refine HList.nil ?_
                      refine nt ?_
                      refine HW.ret ?_
                      refine tr ?_
                      refine br ?_
                      refine tr ?_
                      refine tr ?_
                      refine br ?_
                      refine tr ?_
                      refine br ?_
                      refine tr ?_
                      refine tr ?_
                      refine br ?_
                      refine tr ?_
                      exact ⟨_, resOf1 rfl Res1.t, ⟨false, rfl, h⟩⟩
                    · have h := hF hb143
                      clear hT hF
                      refine HW.skip ?_
                      refine nt ?_
                      refine HW.region ?_
                      refine HList.vals (v := (Sl.v y103)) rfl (HVal.move' rfl) ?_
                      refine HList.vals (v := (.int .i64 r141)) rfl (HVal.move' rfl) ?_
                      refine HList.ops' rfl (HOp.buildSlice' (zs := [(.int .i64 0)]) (cs := [(.int .i64 r141)]) Try.runUnderlying50 Try.sizeOf3 Try.zeroValue3 (by decide) (by kernel_rfl) rfl (by decide)) ?_
                      rintro _ H144 ⟨rfl, e145⟩
                      replace h := h H144 e145
                      refine HList.ops' rfl (HOp.append (k := 1) (b := 8) Try.runUnderlying50 Try.runUnderlying50 Try.typeInfo3 rfl rfl Try.zeroValue3 rfl rfl h) ?_
                      rintro _ H146 ⟨r148, rfl, h⟩
                      refine HList.vals (v := (Sl.v r148)) rfl (HVal.assign' rfl) ?_
                      refine HList.nil ?_
                      refine nb ?_
                      refine nt ?_
                      refine HW.region ?_
                      refine HList.vals (v := (.int .i64 y104)) rfl (HVal.move' rfl) ?_
                      refine HList.vals (v := (.int .i64 (IntKind.i64.wrap (y104 + 1)))) rfl (HVal.add rfl rfl) ?_
                      refine HList.vals (v := (.int .i64 (IntKind.i64.wrap (y104 + 1)))) rfl (HVal.assign' rfl) ?_
                      refine HList.nil ?_
                      refine nt ?_
                      exact (hX5 _ _ _).1 h _ ⟨rfl, rfl, rfl, rfl, rfl, rfl, rfl, rfl, rfl, rfl, trivial⟩
                  · have h := hF hb115
                    clear hT hF
                    refine HW.exit ?_
                    refine te ?_
                    refine te ?_
                    refine be ?_
                    refine nt ?_
                    exact ⟨y103, ⟨rfl, rfl, rfl, rfl, rfl, rfl, rfl, rfl, trivial⟩, h⟩
                · have h := hF hb114
                  clear hT hF
                  refine HList.gskips rfl rfl rfl rfl (congrArg Value.bool hb114) ?_
                  refine HList.gskips rfl rfl rfl rfl (congrArg Value.bool hb114) ?_
                  refine HList.vals (v := (.bool false)) rfl (HVal.pickF rfl hb114 rfl) ?_
                  refine HList.nil ?_
                  refine nt ?_
                  refine HW.condF false rfl rfl ?_
                  refine HW.exit ?_
                  refine te ?_
                  refine te ?_
                  refine be ?_
                  refine nt ?_
                  exact ⟨y103, ⟨rfl, rfl, rfl, rfl, rfl, rfl, rfl, rfl, trivial⟩, h⟩
              · rintro ρ H_4 ⟨y149, hI, h⟩
                obtain ⟨ρ0, rfl⟩ : ∃ ρ0, ρ = (Env.set (Env.set (Env.set (Env.set (Env.set (Env.set (Env.set (Env.set ρ0 13 (Sl.v y149)) 12 (.pointer (some ⟨H41.size, 0, none⟩))) 10 (.int .i64 y25)) 8 (.int .i64 y24)) 7 (Sl.v y23)) 6 (.pointer r7)) 1 (Sl.v p1)) 0 (Sl.v p0)) := ⟨ρ, hI.eq⟩
                clear hI; unfold F6_4 at h
                refine HW.seq ?_
                refine HW.region ?_
                refine HList.vals (v := (.pointer r7)) rfl (HVal.move' rfl) ?_
                refine HList.vals (v := (.int .i64 y24)) rfl (HVal.move' rfl) ?_
                obtain ⟨x151, x152, c150, h⟩ := h
                refine HList.vals (v := (.agg #[(.int .i64 x151), (.int .i64 x152)])) rfl (HVal.loadN [(.int .i64 x151), (.int .i64 x152)] Try.isAgg32 Try.sizeOf32 rfl c150) ?_
                refine HList.ops' rfl (HOp.call' 14 [(.pointer r7), (.int .i64 y24), (.agg #[(.int .i64 x151), (.int .i64 x152)])] (cap := []) rfl rfl Try.call14 (walk14 h)) ?_
                rintro _ H153 ⟨r155, r156, rfl, h⟩
                refine HList.vals (v := (.tuple #[(.int .i64 r155), (.int .i64 r156)])) rfl (HVal.move' rfl) ?_
                refine HList.vals (v := (.int .i64 r155)) rfl (HVal.extract rfl rfl) ?_
                refine HList.vals (v := (.int .i64 r156)) rfl (HVal.extract rfl rfl) ?_
                refine HList.vals (v := (.int .i64 r155)) rfl (HVal.assign' rfl) ?_
                refine HList.vals (v := (.int .i64 r156)) rfl (HVal.assign' rfl) ?_
                refine HList.nil ?_
                refine nt ?_
                refine HW.seq ?_
                refine HW.seq ?_
                refine HW.region ?_
                refine HList.vals (v := (.int .i64 r156)) rfl (HVal.move' rfl) ?_
                refine HList.vals (v := (.bool (decide (r156 ≠ 0)))) rfl (HVal.neqI rfl rfl) ?_
                refine HList.nil ?_
                refine nt ?_
                obtain ⟨hT, hF⟩ := h
                refine HW.cond (decide (r156 ≠ 0)) rfl (fun hb157 => ?_) (fun hb157 => ?_)
                · have h := hT hb157
                  clear hT hF
                  refine HW.seq ?_
                  refine HW.region ?_
                  refine HList.vals (v := (.bool false)) rfl (HVal.assign' rfl) ?_
                  refine HList.nil ?_
                  refine nt ?_
                  refine HW.ret ?_
                  refine tr ?_
                  refine br ?_
                  refine tr ?_
                  refine tr ?_
                  refine br ?_
                  refine tr ?_
                  exact ⟨_, resOf1 rfl Res1.t, ⟨false, rfl, h⟩⟩
                · have h := hF hb157
                  clear hT hF
                  refine HW.skip ?_
                  refine nt ?_
                  refine HW.seq ?_
                  refine HW.region ?_
                  refine HList.vals (v := (Sl.v y23)) rfl (HVal.move' rfl) ?_
                  obtain ⟨x159, x160, c158, h⟩ := h
                  refine HList.vals (v := (.agg #[(.int .i64 x159), (.int .i64 x160)])) rfl (HVal.loadN [(.int .i64 x159), (.int .i64 x160)] Try.isAgg32 Try.sizeOf32 rfl c158) ?_
                  refine HList.ops' rfl (HOp.buildSlice' (zs := [(.int .i64 0), (.int .i64 0)]) (cs := [(.int .i64 x159), (.int .i64 x160)]) Try.runUnderlying41 Try.sizeOf32 Try.zeroValue32 (by decide) (by kernel_rfl) rfl (by decide)) ?_
                  rintro _ H161 ⟨rfl, e162⟩
                  replace h := h H161 e162
                  refine HList.ops' rfl (HOp.append (k := 2) (b := 16) Try.runUnderlying41 Try.runUnderlying41 Try.typeInfo32 rfl rfl Try.zeroValue32 rfl rfl h) ?_
                  rintro _ H163 ⟨r165, rfl, h⟩
                  refine HList.vals (v := (Sl.v r165)) rfl (HVal.assign' rfl) ?_
                  refine HList.nil ?_
                  refine nt ?_
                  refine HW.cut (fun ρ H_6 => Env.Is ρ [(0, (Sl.v p0)), (1, (Sl.v p1)), (6, (.pointer r7)), (7, (Sl.v r165)), (8, (.int .i64 y24)), (10, (.int .i64 y25)), (18, (.int .i64 r155))] ∧ F6_6 Q X1 p0 p1 r7 r165 y24 y25 r155 H_6) ?_ ?_
                  · refine HW.seq ?_
                    refine HW.region ?_
                    refine HList.vals (v := (.int .i64 0)) rfl (HVal.assign' rfl) ?_
                    refine HList.nil ?_
                    refine nt ?_
                    refine HW.block ?_
                    refine HW.loop' (fun L7 hL7 => ?_)
                    obtain ⟨X7, hX7⟩ : ∃ X7 : Int → Hp → Prop, ∀ (y173 : Int) (H_7 : Hp), X7 y173 H_7 ↔ ∀ ρ, Env.Is ρ [(0, (Sl.v p0)), (1, (Sl.v p1)), (6, (.pointer r7)), (7, (Sl.v r165)), (8, (.int .i64 y24)), (10, (.int .i64 y25)), (13, (Sl.v y149)), (18, (.int .i64 r155)), (20, (.int .i64 y173))] → L7 ρ H_7 := ⟨_, fun _ _ => Iff.rfl⟩
                    refine (hX7 _ _).1 (h X7 ?_) _ ?_
                    rotate_left
                    · exact ⟨rfl, rfl, rfl, rfl, rfl, rfl, rfl, rfl, rfl, trivial⟩
                    clear h
                    intro y173 H_7 h
                    refine (hX7 _ _).2 fun ρ hI => ?_
                    obtain ⟨ρ0, rfl⟩ : ∃ ρ0, ρ = (Env.set (Env.set (Env.set (Env.set (Env.set (Env.set (Env.set (Env.set (Env.set ρ0 20 (.int .i64 y173)) 18 (.int .i64 r155)) 13 (Sl.v y149)) 10 (.int .i64 y25)) 8 (.int .i64 y24)) 7 (Sl.v r165)) 6 (.pointer r7)) 1 (Sl.v p1)) 0 (Sl.v p0)) := ⟨ρ, hI.eq⟩
                    clear hI; unfold F6_L7b at h; refine hL7 _ _ ?_
                    refine HW.seq ?_
                    refine HW.seq ?_
                    refine HW.region ?_
                    refine HList.vals (v := (.int .i64 y173)) rfl (HVal.move' rfl) ?_
                    refine HList.vals (v := (Sl.v y149)) rfl (HVal.move' rfl) ?_
                    refine HList.vals (v := (.int .i64 ((y149).n : Int))) rfl (HVal.len Try.runUnderlying50 rfl) ?_
                    refine HList.vals (v := (.bool (decide (y173 < ((y149).n : Int))))) rfl (HVal.lss rfl rfl) ?_
                    refine HList.nil ?_
                    refine nt ?_
                    obtain ⟨hT, hF⟩ := h
                    refine HW.cond (decide (y173 < ((y149).n : Int))) rfl (fun hb182 => ?_) (fun hb182 => ?_)
                    · have h := hT hb182
                      clear hT hF
                      refine HW.skip ?_
                      refine nt ?_
                      refine HW.seq ?_
                      refine HW.block ?_
                      refine HW.seq ?_
                      refine HW.region ?_
                      refine HList.vals (v := (.pointer r7)) rfl (HVal.move' rfl) ?_
                      refine HList.vals (v := (Sl.v y149)) rfl (HVal.move' rfl) ?_
                      refine HList.vals (v := (Sl.v y149)) rfl (HVal.move' rfl) ?_
                      refine HList.vals (v := (.int .i64 ((y149).n : Int))) rfl (HVal.len Try.runUnderlying50 rfl) ?_
                      refine HList.vals (v := (.int .i64 (IntKind.i64.wrap (((y149).n : Int) - 1)))) rfl (HVal.sub rfl rfl) ?_
                      refine HList.vals (v := (.int .i64 y173)) rfl (HVal.move' rfl) ?_
                      refine HList.vals (v := (.int .i64 (IntKind.i64.wrap ((IntKind.i64.wrap (((y149).n : Int) - 1)) - y173)))) rfl (HVal.sub rfl rfl) ?_
                      obtain ⟨a183, e184, b185, b186, h⟩ := h
                      refine HList.vals (v := (.pointer (some (Addr.add a183 ((IntKind.i64.wrap ((IntKind.i64.wrap (((y149).n : Int) - 1)) - y173)).toNat * 1))))) rfl (HVal.indexAddr Try.runUnderlying50 Try.sizeOf3 (Sl.v_some rfl e184) rfl b185 b186) ?_
                      obtain ⟨x188, c187, h⟩ := h
                      refine HList.vals (v := (.int .i64 x188)) rfl (HVal.load1 Try.isAgg3 rfl c187) ?_
                      refine HList.ops' rfl (HOp.call' 16 [(.pointer r7), (.int .i64 x188)] (cap := []) rfl rfl Try.call16 (walk16 h)) ?_
                      rintro _ H189 ⟨r191, rfl, h⟩
                      refine HList.vals (v := (.int .i64 r191)) rfl (HVal.assign' rfl) ?_
                      refine HList.nil ?_
                      refine nt ?_
                      refine HW.seq ?_
                      refine HW.region ?_
                      refine HList.vals (v := (.int .i64 r191)) rfl (HVal.move' rfl) ?_
                      refine HList.vals (v := (.bool (decide (r191 ≠ 0)))) rfl (HVal.neqI rfl rfl) ?_
                      refine HList.nil ?_
                      refine nt ?_
                      obtain ⟨hT, hF⟩ := h
                      refine HW.cond (decide (r191 ≠ 0)) rfl (fun hb192 => ?_) (fun hb192 => ?_)
                      · have h := hT hb192
                        clear hT hF
                        refine HW.seq ?_
                        refine HW.region ?_
                        refine HList.vals (v := (.bool false)) rfl (HVal.assign' rfl) ?_
                        refine HList.nil ?_
                        refine nt ?_
                        refine HW.ret ?_
                        refine br ?_
                        refine tr ?_
                        refine tr ?_
                        refine br ?_
                        refine tr ?_
                        refine br ?_
                        refine tr ?_
                        refine tr ?_
                        refine br ?_
                        refine tr ?_
                        exact ⟨_, resOf1 rfl Res1.t, ⟨false, rfl, h⟩⟩
                      · have h := hF hb192
                        clear hT hF
                        refine HW.skip ?_
                        refine nb ?_
                        refine nt ?_
                        refine HW.region ?_
                        refine HList.vals (v := (.int .i64 y173)) rfl (HVal.move' rfl) ?_
                        refine HList.vals (v := (.int .i64 (IntKind.i64.wrap (y173 + 1)))) rfl (HVal.add rfl rfl) ?_
                        refine HList.vals (v := (.int .i64 (IntKind.i64.wrap (y173 + 1)))) rfl (HVal.assign' rfl) ?_
                        refine HList.nil ?_
                        refine nt ?_
                        exact (hX7 _ _).1 h _ ⟨rfl, rfl, rfl, rfl, rfl, rfl, rfl, rfl, rfl, trivial⟩
                    · have h := hF hb182
                      clear hT hF
                      refine HW.exit ?_
                      refine te ?_
                      refine te ?_
                      refine be ?_
                      refine nt ?_
                      exact ⟨⟨rfl, rfl, rfl, rfl, rfl, rfl, rfl, trivial⟩, h⟩
                  · rintro ρ H_6 ⟨hI, h⟩
                    obtain ⟨ρ0, rfl⟩ : ∃ ρ0, ρ = (Env.set (Env.set (Env.set (Env.set (Env.set (Env.set (Env.set ρ0 18 (.int .i64 r155)) 10 (.int .i64 y25)) 8 (.int .i64 y24)) 7 (Sl.v r165)) 6 (.pointer r7)) 1 (Sl.v p1)) 0 (Sl.v p0)) := ⟨ρ, hI.eq⟩
                    clear hI; unfold F6_6 at h
                    refine HW.seq ?_
                    refine HW.region ?_
                    refine HList.vals (v := (.pointer r7)) rfl (HVal.move' rfl) ?_
                    refine HList.vals (v := (.int .i64 y24)) rfl (HVal.move' rfl) ?_
                    refine HList.ops' rfl (HOp.call' 16 [(.pointer r7), (.int .i64 y24)] (cap := []) rfl rfl Try.call16 (walk16 h)) ?_
                    rintro _ H193 ⟨r195, rfl, h⟩
                    refine HList.vals (v := (.int .i64 r195)) rfl (HVal.assign' rfl) ?_
                    refine HList.nil ?_
                    refine nt ?_
                    refine HW.seq ?_
                    refine HW.region ?_
                    refine HList.vals (v := (.pointer r7)) rfl (HVal.move' rfl) ?_
                    refine HList.vals (v := (.int .i64 r155)) rfl (HVal.move' rfl) ?_
                    refine HList.ops' rfl (HOp.call' 22 [(.pointer r7), (.int .i64 r155)] (cap := []) rfl rfl Try.call22 (walk22 h)) ?_
                    rintro _ H196 ⟨r198, r199, rfl, h⟩
                    refine HList.vals (v := (.tuple #[(Sl.v r198), (.int .i64 r199)])) rfl (HVal.move' rfl) ?_
                    refine HList.vals (v := (Sl.v r198)) rfl (HVal.extract rfl rfl) ?_
                    refine HList.vals (v := (.int .i64 r199)) rfl (HVal.extract rfl rfl) ?_
                    refine HList.vals (v := (Sl.v r198)) rfl (HVal.assign' rfl) ?_
                    refine HList.vals (v := (.int .i64 r199)) rfl (HVal.assign' rfl) ?_
                    refine HList.nil ?_
                    refine nt ?_
                    refine HW.seq ?_
                    refine HW.cut (fun ρ H_8 => ∃ (y208 : Bool), Env.Is ρ [(0, (Sl.v p0)), (1, (Sl.v p1)), (6, (.pointer r7)), (7, (Sl.v r165)), (10, (.int .i64 y25)), (18, (.int .i64 r155)), (186, (.bool y208))] ∧ F6_8 Q X1 p0 p1 r7 r165 y25 r155 y208 H_8) ?_ ?_
                    · refine HW.region ?_
                      refine HList.vals (v := (.int .i64 r195)) rfl (HVal.move' rfl) ?_
                      refine HList.vals (v := (.bool (decide (r195 ≠ 0)))) rfl (HVal.neqI rfl rfl) ?_
                      refine HList.vals (v := (.bool (decide (r195 ≠ 0)))) rfl (HVal.move' rfl) ?_
                      obtain ⟨hT, hF⟩ := h
                      rcases Bool.eq_false_or_eq_true (decide (r195 ≠ 0)) with hb206 | hb207
                      · have h := hT hb206
                        clear hT hF
                        refine HList.gskips rfl rfl rfl rfl (congrArg Value.bool hb206) ?_
                        refine HList.gskips rfl rfl rfl rfl (congrArg Value.bool hb206) ?_
                        refine HList.vals (v := (.bool true)) rfl (HVal.pickT rfl hb206 rfl) ?_
                        refine HList.vals (v := (.bool true)) rfl (HVal.move' rfl) ?_
                        refine HList.gskips rfl rfl rfl rfl rfl ?_
                        refine HList.gskips rfl rfl rfl rfl rfl ?_
                        refine HList.gskips rfl rfl rfl rfl rfl ?_
                        refine HList.gskips rfl rfl rfl rfl rfl ?_
                        refine HList.vals (v := (.bool true)) rfl (HVal.pickT rfl rfl rfl) ?_
                        refine HList.vals (v := (.bool true)) rfl (HVal.move' rfl) ?_
                        refine HList.gskips rfl rfl rfl rfl rfl ?_
                        refine HList.gskips rfl rfl rfl rfl rfl ?_
                        refine HList.gskips rfl rfl rfl rfl rfl ?_
                        refine HList.gskips rfl rfl rfl rfl rfl ?_
                        refine HList.gskips rfl rfl rfl rfl rfl ?_
                        refine HList.vals (v := (.bool true)) rfl (HVal.pickT rfl rfl rfl) ?_
                        refine HList.vals (v := (.bool true)) rfl (HVal.move' rfl) ?_
                        refine HList.gskips rfl rfl rfl rfl rfl ?_
                        refine HList.gskips rfl rfl rfl rfl rfl ?_
                        refine HList.gskips rfl rfl rfl rfl rfl ?_
                        refine HList.gskips rfl rfl rfl rfl rfl ?_
                        refine HList.vals (v := (.bool true)) rfl (HVal.pickT rfl rfl rfl) ?_
                        refine HList.nil ?_
                        refine nt ?_
                        exact ⟨true, ⟨rfl, rfl, rfl, rfl, rfl, rfl, rfl, trivial⟩, h⟩
                      · have h := hF hb207
                        clear hT hF
                        refine HList.gvals (v := (.int .i64 r199)) rfl rfl rfl rfl (congrArg Value.bool hb207) (HVal.move' rfl) ?_
                        refine HList.gvals (v := (.bool (decide (r199 ≠ 0)))) rfl rfl rfl rfl (congrArg Value.bool hb207) (HVal.neqI rfl rfl) ?_
                        refine HList.vals (v := (.bool (decide (r199 ≠ 0)))) rfl (HVal.pickF rfl hb207 rfl) ?_
                        refine HList.vals (v := (.bool (decide (r199 ≠ 0)))) rfl (HVal.move' rfl) ?_
                        obtain ⟨hT, hF⟩ := h
                        rcases Bool.eq_false_or_eq_true (decide (r199 ≠ 0)) with hb209 | hb210
                        · have h := hT hb209
                          clear hT hF
                          refine HList.gskips rfl rfl rfl rfl (congrArg Value.bool hb209) ?_
                          refine HList.gskips rfl rfl rfl rfl (congrArg Value.bool hb209) ?_
                          refine HList.gskips rfl rfl rfl rfl (congrArg Value.bool hb209) ?_
                          refine HList.gskips rfl rfl rfl rfl (congrArg Value.bool hb209) ?_
                          refine HList.vals (v := (.bool true)) rfl (HVal.pickT rfl hb209 rfl) ?_
                          refine HList.vals (v := (.bool true)) rfl (HVal.move' rfl) ?_
                          refine HList.gskips rfl rfl rfl rfl rfl ?_
                          refine HList.gskips rfl rfl rfl rfl rfl ?_
                          refine HList.gskips rfl rfl rfl rfl rfl ?_
                          refine HList.gskips rfl rfl rfl rfl rfl ?_
                          refine HList.gskips rfl rfl rfl rfl rfl ?_
                          refine HList.vals (v := (.bool true)) rfl (HVal.pickT rfl rfl rfl) ?_
                          refine HList.vals (v := (.bool true)) rfl (HVal.move' rfl) ?_
                          refine HList.gskips rfl rfl rfl rfl rfl ?_
                          refine HList.gskips rfl rfl rfl rfl rfl ?_
                          refine HList.gskips rfl rfl rfl rfl rfl ?_
                          refine HList.gskips rfl rfl rfl rfl rfl ?_
                          refine HList.vals (v := (.bool true)) rfl (HVal.pickT rfl rfl rfl) ?_
                          refine HList.nil ?_
                          refine nt ?_
                          exact ⟨true, ⟨rfl, rfl, rfl, rfl, rfl, rfl, rfl, trivial⟩, h⟩
                        · have h := hF hb210
                          clear hT hF
                          refine HList.gvals (v := (Sl.v r198)) rfl rfl rfl rfl (congrArg Value.bool hb210) (HVal.move' rfl) ?_
                          refine HList.gvals (v := (Sl.v r165)) rfl rfl rfl rfl (congrArg Value.bool hb210) (HVal.move' rfl) ?_
                          refine HList.gops rfl rfl rfl rfl (congrArg Value.bool hb210) (HOp.call' 23 [(Sl.v r198), (Sl.v r165)] (cap := []) rfl rfl Try.call23 (walk23 h)) ?_
                          rintro _ H211 ⟨r213, rfl, h⟩
                          refine HList.gvals (v := (.bool (!r213))) rfl rfl rfl rfl (congrArg Value.bool hb210) (HVal.not rfl) ?_
                          refine HList.vals (v := (.bool (!r213))) rfl (HVal.pickF rfl hb210 rfl) ?_
                          refine HList.vals (v := (.bool (!r213))) rfl (HVal.move' rfl) ?_
                          obtain ⟨hT, hF⟩ := h
                          rcases Bool.eq_false_or_eq_true (!r213) with hb214 | hb215
                          · have h := hT hb214
                            clear hT hF
                            refine HList.gskips rfl rfl rfl rfl (congrArg Value.bool hb214) ?_
                            refine HList.gskips rfl rfl rfl rfl (congrArg Value.bool hb214) ?_
                            refine HList.gskips rfl rfl rfl rfl (congrArg Value.bool hb214) ?_
                            refine HList.gskips rfl rfl rfl rfl (congrArg Value.bool hb214) ?_
                            refine HList.gskips rfl rfl rfl rfl (congrArg Value.bool hb214) ?_
                            refine HList.vals (v := (.bool true)) rfl (HVal.pickT rfl hb214 rfl) ?_
                            refine HList.vals (v := (.bool true)) rfl (HVal.move' rfl) ?_
                            refine HList.gskips rfl rfl rfl rfl rfl ?_
                            refine HList.gskips rfl rfl rfl rfl rfl ?_
                            refine HList.gskips rfl rfl rfl rfl rfl ?_
                            refine HList.gskips rfl rfl rfl rfl rfl ?_
                            refine HList.vals (v := (.bool true)) rfl (HVal.pickT rfl rfl rfl) ?_
                            refine HList.nil ?_
                            refine nt ?_
                            exact ⟨true, ⟨rfl, rfl, rfl, rfl, rfl, rfl, rfl, trivial⟩, h⟩
                          · have h := hF hb215
                            clear hT hF
                            refine HList.gvals (v := (.pointer r7)) rfl rfl rfl rfl (congrArg Value.bool hb215) (HVal.move' rfl) ?_
                            refine HList.gops rfl rfl rfl rfl (congrArg Value.bool hb215) (HOp.call' 19 [(.pointer r7)] (cap := []) rfl rfl Try.call19 (walk19 h)) ?_
                            rintro _ H216 ⟨r218, rfl, h⟩
                            refine HList.gvals (v := (Sl.v r165)) rfl rfl rfl rfl (congrArg Value.bool hb215) (HVal.move' rfl) ?_
                            refine HList.gvals (v := (.int .i64 ((r165).n : Int))) rfl rfl rfl rfl (congrArg Value.bool hb215) (HVal.len Try.runUnderlying41 rfl) ?_
                            refine HList.gvals (v := (.bool (decide (r218 ≠ ((r165).n : Int))))) rfl rfl rfl rfl (congrArg Value.bool hb215) (HVal.neqI rfl rfl) ?_
                            refine HList.vals (v := (.bool (decide (r218 ≠ ((r165).n : Int))))) rfl (HVal.pickF rfl hb215 rfl) ?_
                            refine HList.vals (v := (.bool (decide (r218 ≠ ((r165).n : Int))))) rfl (HVal.move' rfl) ?_
                            obtain ⟨hT, hF⟩ := h
                            rcases Bool.eq_false_or_eq_true (decide (r218 ≠ ((r165).n : Int))) with hb219 | hb220
                            · have h := hT hb219
                              clear hT hF
                              refine HList.gskips rfl rfl rfl rfl (congrArg Value.bool hb219) ?_
                              refine HList.gskips rfl rfl rfl rfl (congrArg Value.bool hb219) ?_
                              refine HList.gskips rfl rfl rfl rfl (congrArg Value.bool hb219) ?_
                              refine HList.gskips rfl rfl rfl rfl (congrArg Value.bool hb219) ?_
                              refine HList.vals (v := (.bool true)) rfl (HVal.pickT rfl hb219 rfl) ?_
                              refine HList.nil ?_
                              refine nt ?_
                              exact ⟨true, ⟨rfl, rfl, rfl, rfl, rfl, rfl, rfl, trivial⟩, h⟩
                            · have h := hF hb220
                              clear hT hF
                              refine HList.gvals (v := (.pointer r7)) rfl rfl rfl rfl (congrArg Value.bool hb220) (HVal.move' rfl) ?_
                              refine HList.gops rfl rfl rfl rfl (congrArg Value.bool hb220) (HOp.call' 21 [(.pointer r7)] (cap := []) rfl rfl Try.call21 (walk21 h)) ?_
                              rintro _ H221 ⟨r223, rfl, h⟩
                              refine HList.gvals (v := (.int .i64 ((r223).n : Int))) rfl rfl rfl rfl (congrArg Value.bool hb220) (HVal.len Try.runUnderlying50 rfl) ?_
                              refine HList.gvals (v := (.bool (decide (((r223).n : Int) ≠ 1)))) rfl rfl rfl rfl (congrArg Value.bool hb220) (HVal.neqI rfl rfl) ?_
                              refine HList.vals (v := (.bool (decide (((r223).n : Int) ≠ 1)))) rfl (HVal.pickF rfl hb220 rfl) ?_
                              refine HList.nil ?_
                              refine nt ?_
                              exact ⟨(decide (((r223).n : Int) ≠ 1)), ⟨rfl, rfl, rfl, rfl, rfl, rfl, rfl, trivial⟩, h⟩
                    · rintro ρ H_8 ⟨y208, hI, h⟩
                      obtain ⟨ρ0, rfl⟩ : ∃ ρ0, ρ = (Env.set (Env.set (Env.set (Env.set (Env.set (Env.set (Env.set ρ0 186 (.bool y208)) 18 (.int .i64 r155)) 10 (.int .i64 y25)) 7 (Sl.v r165)) 6 (.pointer r7)) 1 (Sl.v p1)) 0 (Sl.v p0)) := ⟨ρ, hI.eq⟩
                      clear hI; unfold F6_8 at h
                      obtain ⟨hT, hF⟩ := h
                      refine HW.cond y208 rfl (fun hb224 => ?_) (fun hb224 => ?_)
                      · have h := hT hb224
                        clear hT hF
                        refine HW.seq ?_
                        refine HW.region ?_
                        refine HList.vals (v := (.bool false)) rfl (HVal.assign' rfl) ?_
                        refine HList.nil ?_
                        refine nt ?_
                        refine HW.ret ?_
                        refine tr ?_
                        refine br ?_
                        refine tr ?_
                        refine tr ?_
                        refine br ?_
                        refine tr ?_
                        exact ⟨_, resOf1 rfl Res1.t, ⟨false, rfl, h⟩⟩
                      · have h := hF hb224
                        clear hT hF
                        refine HW.skip ?_
                        refine nt ?_
                        refine HW.region ?_
                        refine HList.vals (v := (.int .i64 r155)) rfl (HVal.move' rfl) ?_
                        refine HList.vals (v := (.int .i64 r155)) rfl (HVal.assign' rfl) ?_
                        refine HList.nil ?_
                        refine nb ?_
                        refine nt ?_
                        refine HW.region ?_
                        refine HList.vals (v := (.int .i64 y25)) rfl (HVal.move' rfl) ?_
                        refine HList.vals (v := (.int .i64 (IntKind.i64.wrap (y25 + 1)))) rfl (HVal.add rfl rfl) ?_
                        refine HList.vals (v := (.int .i64 (IntKind.i64.wrap (y25 + 1)))) rfl (HVal.assign' rfl) ?_
                        refine HList.nil ?_
                        refine nt ?_
                        exact (hX1 _ _ _ _).1 h _ ⟨rfl, rfl, rfl, rfl, rfl, rfl, trivial⟩
          · have h := hF hb31
            clear hT hF
            refine HW.exit ?_
            refine te ?_
            refine te ?_
            refine be ?_
            refine nt ?_
            refine HW.seq ?_
            refine HW.region ?_
            refine HList.vals (v := (.bool true)) rfl (HVal.assign' rfl) ?_
            refine HList.nil ?_
            refine nt ?_
            refine HW.ret ?_
            exact ⟨_, resOf1 rfl Res1.t, ⟨true, rfl, h⟩⟩
        · have h := hF hb30
          clear hT hF
          refine HList.gskips rfl rfl rfl rfl (congrArg Value.bool hb30) ?_
          refine HList.gskips rfl rfl rfl rfl (congrArg Value.bool hb30) ?_
          refine HList.vals (v := (.bool false)) rfl (HVal.pickF rfl hb30 rfl) ?_
          refine HList.nil ?_
          refine nt ?_
          refine HW.condF false rfl rfl ?_
          refine HW.exit ?_
          refine te ?_
          refine te ?_
          refine be ?_
          refine nt ?_
          refine HW.seq ?_
          refine HW.region ?_
          refine HList.vals (v := (.bool true)) rfl (HVal.assign' rfl) ?_
          refine HList.nil ?_
          refine nt ?_
          refine HW.ret ?_
          exact ⟨_, resOf1 rfl Res1.t, ⟨true, rfl, h⟩⟩

def F25_3 (Q : Hp → Prop) (y47 : (Option Addr)) (y48 : Sl) (y49 : Sl) (y50 : Sl) (y69 : Sl) (H_3 : Hp) : Prop :=
∃ a70 : Addr, y47 = some a70 ∧ (
 ∃ x73 : Sl, cell H_3 a70 = some (Sl.v x73) ∧ (
 ∀ H74 : Hp, H74 = Array.push H_3 (.cells #[(Sl.v y48), (Sl.v y49), (Sl.v y50), (Sl.v y69)] 41) → (
 AppendF H74 41 1 24 #[(Sl.v Sl.nil)] x73 ((Sl.mk (some ⟨H_3.size, 0, none⟩) 4 4)).b ((Sl.mk (some ⟨H_3.size, 0, none⟩) 4 4)).n (fun (r78 : Sl) (H76 : Hp) => 
 ∃ a79 : Addr, y47 = some a79 ∧ (
 (cell H76 a79).isSome = true ∧ frz H76 a79 = false ∧ ∀ H81 : Hp, H81 = setc H76 a79 (Sl.v r78) → (
 ∃ a85 : Addr, y47 = some a85 ∧ (
 ∃ x88 : Int, cell H81 (Addr.add a85 2) = some (.int .i64 x88) ∧ (
 ∃ a89 : Addr, y47 = some a89 ∧ (
 (cell H81 (Addr.add a89 2)).isSome = true ∧ frz H81 (Addr.add a89 2) = false ∧ ∀ H91 : Hp, H91 = setc H81 (Addr.add a89 2) (.int .i64 (IntKind.i64.wrap ((IntKind.i64.wrap (x88 + ((y48).n : Int))) + 10))) → (
 Q H91))))))))))
def F25_L4b (Q : Hp → Prop) (X4 : Sl → Int → Hp → Prop) (y53 : (Option Addr)) (y54 : Sl) (y55 : Addr) (y56 : Sl) (y57 : Sl) (y51 : Sl) (y52 : Int) (H_4 : Hp) : Prop :=
((decide (((y51).n : Int) < ((y54).c : Int))) = true → (((decide (y52 < 70000)) = true → (∃ (x62 : Int) (x63 : Int), cells H_4 y55 [(.int .i64 x62), (.int .i64 x63)] 0 ∧ (
 ∀ H64 : Hp, H64 = Array.push H_4 (.cells #[(.int .i64 x62), (.int .i64 x63)] 32) → (
 AppendF H64 32 2 16 #[(.int .i64 0), (.int .i64 0)] y51 ((Sl.mk (some ⟨H_4.size, 0, none⟩) 1 1)).b ((Sl.mk (some ⟨H_4.size, 0, none⟩) 1 1)).n (fun (r68 : Sl) (H66 : Hp) => 
 X4 r68 (IntKind.i64.wrap (y52 + 1)) H66))))) ∧
 ((decide (y52 < 70000)) = false → (F25_3 Q y53 y54 y56 y57 y51 H_4)))) ∧
 ((decide (((y51).n : Int) < ((y54).c : Int))) = false → (F25_3 Q y53 y54 y56 y57 y51 H_4))
def F25_L4 (Q : Hp → Prop) (y53 : (Option Addr)) (y54 : Sl) (y55 : Addr) (y56 : Sl) (y57 : Sl) (y51 : Sl) (y52 : Int) (H_4 : Hp) : Prop :=
  ∀ X4 : Sl → Int → Hp → Prop, (∀ (y51 : Sl) (y52 : Int) (H_4 : Hp), F25_L4b Q X4 y53 y54 y55 y56 y57 y51 y52 H_4 → X4 y51 y52 H_4) → X4 y51 y52 H_4
def F25_1 (Q : Hp → Prop) (y10 : (Option Addr)) (y11 : Sl) (y12 : Addr) (H_1 : Hp) : Prop :=
∃ (x29 : Int) (x30 : Int), cells H_1 y12 [(.int .i64 x29), (.int .i64 x30)] 0 ∧ (
 ∀ H31 : Hp, H31 = Array.push H_1 (.cells #[(.int .i64 x29), (.int .i64 x30)] 32) → (
 AppendF H31 32 2 16 #[(.int .i64 0), (.int .i64 0)] y11 ((Sl.mk (some ⟨H_1.size, 0, none⟩) 1 1)).b ((Sl.mk (some ⟨H_1.size, 0, none⟩) 1 1)).n (fun (r35 : Sl) (H33 : Hp) => 
 ∃ (x37 : Int) (x38 : Int), cells H33 y12 [(.int .i64 x37), (.int .i64 x38)] 0 ∧ (
 ∃ (x40 : Int) (x41 : Int), cells H33 y12 [(.int .i64 x40), (.int .i64 x41)] 0 ∧ (
 ∀ H42 : Hp, H42 = Array.push H33 (.cells #[(.int .i64 x37), (.int .i64 x38), (.int .i64 x40), (.int .i64 x41)] 32) → (
 AppendF H42 32 2 16 #[(.int .i64 0), (.int .i64 0)] y11 ((Sl.mk (some ⟨H33.size, 0, none⟩) 2 2)).b ((Sl.mk (some ⟨H33.size, 0, none⟩) 2 2)).n (fun (r46 : Sl) (H44 : Hp) => 
 F25_L4 Q y10 y11 y12 r35 r46 y11 0 H44)))))))
def F25_L2b (Q : Hp → Prop) (X2 : Int → Hp → Prop) (y14 : (Option Addr)) (y15 : Sl) (y16 : Addr) (y13 : Int) (H_2 : Hp) : Prop :=
((decide (y13 < ((y15).n : Int))) = true → (∃ (x19 : Int) (x20 : Int), cells H_2 y16 [(.int .i64 x19), (.int .i64 x20)] 0 ∧ (
 ∃ a21 : Addr, (y15).b = some a21 ∧ (0 : Int) ≤ y13 ∧ y13 < ((y15).n : Int) ∧ (
 mayw H_2 (Addr.add a21 (y13.toNat * 2)) 2 0 ∧ ∀ H25 : Hp, H25 = sets H_2 (Addr.add a21 (y13.toNat * 2)) [(.int .i64 x19), (.int .i64 x20)] 0 → (
 X2 (IntKind.i64.wrap (y13 + 1)) H25))))) ∧
 ((decide (y13 < ((y15).n : Int))) = false → (F25_1 Q y14 y15 y16 H_2))
def F25_L2 (Q : Hp → Prop) (y14 : (Option Addr)) (y15 : Sl) (y16 : Addr) (y13 : Int) (H_2 : Hp) : Prop :=
  ∀ X2 : Int → Hp → Prop, (∀ (y13 : Int) (H_2 : Hp), F25_L2b Q X2 y14 y15 y16 y13 H_2 → X2 y13 H_2) → X2 y13 H_2
def F25 (p0 : (Option Addr)) (p1 : Sl) (H : Hp) (Q : Hp → Prop) : Prop :=
∃ a1 : Addr, p0 = some a1 ∧ (
 ∃ x4 : Sl, cell H a1 = some (Sl.v x4) ∧ (
 ∀ H5 : Hp, H5 = Array.push H (.cells #[(.int .i64 0), (.int .i64 0)] 32) → (
 mayw H5 ⟨H.size, 0, none⟩ 2 0 ∧ ∀ H7 : Hp, H7 = sets H5 ⟨H.size, 0, none⟩ [(.int .i64 (IntKind.i64.wrap (1000 + (IntKind.i64.wrap (Int.tdiv ((x4).n : Int) (4 : Int)))))), (.int .i64 0)] 0 → (
 F25_L2 Q p0 p1 ⟨H.size, 0, none⟩ 0 H7))))
set_option maxRecDepth 100000 in
set_option maxHeartbeats 4000000 in
theorem walk25 {w0 : World} {p0 : (Option Addr)} {p1 : Sl} {H : Hp} {Q : Hp → Prop} (h : F25 p0 p1 H Q) :
    Good Try.prog w0 25 #[(.pointer p0), (Sl.v p1)] H (fun v H => v = (.tuple #[]) ∧ Q H) := by
  unfold F25 at h
  refine Good.enter' (fn := Try.f25) Try.func25 rfl rfl rfl ?_
  refine HW.seq ?_
  refine HW.region ?_
  refine HList.vals (v := (.pointer p0)) rfl (HVal.move' rfl) ?_
  obtain ⟨a1, e2, h⟩ := h
  refine HList.vals (v := (.pointer (some a1))) rfl (HVal.nilCheck (congrArg Value.pointer e2)) ?_
  refine HList.vals (v := (.pointer (some a1))) rfl (HVal.fieldAddr0 Try.runUnderlying64 rfl rfl Try.sizeOf61 rfl) ?_
  obtain ⟨x4, c3, h⟩ := h
  refine HList.vals (v := (Sl.v x4)) rfl (HVal.load1 Try.isAgg61 rfl c3) ?_
  refine HList.vals (v := (.int .i64 ((x4).n : Int))) rfl (HVal.len Try.runUnderlying61 rfl) ?_
  refine HList.vals (v := (.int .i64 (IntKind.i64.wrap (Int.tdiv ((x4).n : Int) (4 : Int))))) rfl (HVal.quo rfl rfl (by decide)) ?_
  refine HList.vals (v := (.int .i64 (IntKind.i64.wrap (1000 + (IntKind.i64.wrap (Int.tdiv ((x4).n : Int) (4 : Int))))))) rfl (HVal.add rfl rfl) ?_
  refine HList.vals (v := (.agg #[(.int .i64 (IntKind.i64.wrap (1000 + (IntKind.i64.wrap (Int.tdiv ((x4).n : Int) (4 : Int)))))), (.int .i64 0)])) rfl (HVal.build' (cs := [(.int .i64 (IntKind.i64.wrap (1000 + (IntKind.i64.wrap (Int.tdiv ((x4).n : Int) (4 : Int)))))), (.int .i64 0)]) Try.runUnderlying32 Try.zeroValue32 places32 rfl) ?_
  refine HList.ops' rfl (HOp.alloc Try.zeroValue32) ?_
  rintro _ H5 ⟨rfl, e6⟩
  replace h := h H5 e6
  obtain ⟨z9, h⟩ := h
  refine HList.opsn (HOp.storeN' (l := [(.int .i64 (IntKind.i64.wrap (1000 + (IntKind.i64.wrap (Int.tdiv ((x4).n : Int) (4 : Int)))))), (.int .i64 0)]) Try.sizeOf32 rfl rfl rfl z9) ?_
  rintro _ H7 e8
  replace h := h H7 e8
  refine HList.nil ?_
  refine nt ?_
  refine HW.cut (fun ρ H_1 => Env.Is ρ [(0, (.pointer p0)), (1, (Sl.v p1)), (4, (.pointer (some ⟨H.size, 0, none⟩)))] ∧ F25_1 Q p0 p1 ⟨H.size, 0, none⟩ H_1) ?_ ?_
  · refine HW.seq ?_
    refine HW.region ?_
    refine HList.vals (v := (.int .i64 0)) rfl (HVal.assign' rfl) ?_
    refine HList.nil ?_
    refine nt ?_
    refine HW.block ?_
    refine HW.loop' (fun L2 hL2 => ?_)
    obtain ⟨X2, hX2⟩ : ∃ X2 : Int → Hp → Prop, ∀ (y13 : Int) (H_2 : Hp), X2 y13 H_2 ↔ ∀ ρ, Env.Is ρ [(0, (.pointer p0)), (1, (Sl.v p1)), (4, (.pointer (some ⟨H.size, 0, none⟩))), (5, (.int .i64 y13))] → L2 ρ H_2 := ⟨_, fun _ _ => Iff.rfl⟩
    refine (hX2 _ _).1 (h X2 ?_) _ ?_
    rotate_left
    · exact ⟨rfl, rfl, rfl, rfl, trivial⟩
    clear h
    intro y13 H_2 h
    refine (hX2 _ _).2 fun ρ hI => ?_
    obtain ⟨ρ0, rfl⟩ : ∃ ρ0, ρ = (Env.set (Env.set (Env.set (Env.set ρ0 5 (.int .i64 y13)) 4 (.pointer (some ⟨H.size, 0, none⟩))) 1 (Sl.v p1)) 0 (.pointer p0)) := ⟨ρ, hI.eq⟩
    clear hI; unfold F25_L2b at h; refine hL2 _ _ ?_
    refine HW.seq ?_
    refine HW.seq ?_
    refine HW.region ?_
    refine HList.vals (v := (.int .i64 y13)) rfl (HVal.move' rfl) ?_
    refine HList.vals (v := (Sl.v p1)) rfl (HVal.move' rfl) ?_
    refine HList.vals (v := (.int .i64 ((p1).n : Int))) rfl (HVal.len Try.runUnderlying41 rfl) ?_
    refine HList.vals (v := (.bool (decide (y13 < ((p1).n : Int))))) rfl (HVal.lss rfl rfl) ?_
    refine HList.nil ?_
    refine nt ?_
    obtain ⟨hT, hF⟩ := h
    refine HW.cond (decide (y13 < ((p1).n : Int))) rfl (fun hb17 => ?_) (fun hb17 => ?_)
    · have h := hT hb17
      clear hT hF
      refine HW.skip ?_
      refine nt ?_
      refine HW.seq ?_
      refine HW.block ?_
      refine HW.region ?_
      refine HList.vals (v := (Sl.v p1)) rfl (HVal.move' rfl) ?_
      refine HList.vals (v := (.int .i64 y13)) rfl (HVal.move' rfl) ?_
      obtain ⟨x19, x20, c18, h⟩ := h
      refine HList.vals (v := (.agg #[(.int .i64 x19), (.int .i64 x20)])) rfl (HVal.loadN [(.int .i64 x19), (.int .i64 x20)] Try.isAgg32 Try.sizeOf32 rfl c18) ?_
      obtain ⟨a21, e22, b23, b24, h⟩ := h
      refine HList.vals (v := (.pointer (some (Addr.add a21 (y13.toNat * 2))))) rfl (HVal.indexAddr Try.runUnderlying41 Try.sizeOf32 (Sl.v_some rfl e22) rfl b23 b24) ?_
      obtain ⟨z27, h⟩ := h
      refine HList.opsn (HOp.storeN' (l := [(.int .i64 x19), (.int .i64 x20)]) Try.sizeOf32 rfl rfl rfl z27) ?_
      rintro _ H25 e26
      replace h := h H25 e26
      refine HList.nil ?_
      refine nb ?_
      refine nt ?_
      refine HW.region ?_
      refine HList.vals (v := (.int .i64 y13)) rfl (HVal.move' rfl) ?_
      refine HList.vals (v := (.int .i64 (IntKind.i64.wrap (y13 + 1)))) rfl (HVal.add rfl rfl) ?_
      refine HList.vals (v := (.int .i64 (IntKind.i64.wrap (y13 + 1)))) rfl (HVal.assign' rfl) ?_
      refine HList.nil ?_
      refine nt ?_
      exact (hX2 _ _).1 h _ ⟨rfl, rfl, rfl, rfl, trivial⟩
    · have h := hF hb17
      clear hT hF
      refine HW.exit ?_
      refine te ?_
      refine te ?_
      refine be ?_
      refine nt ?_
      exact ⟨⟨rfl, rfl, rfl, trivial⟩, h⟩
  · rintro ρ H_1 ⟨hI, h⟩
    obtain ⟨ρ0, rfl⟩ : ∃ ρ0, ρ = (Env.set (Env.set (Env.set ρ0 4 (.pointer (some ⟨H.size, 0, none⟩))) 1 (Sl.v p1)) 0 (.pointer p0)) := ⟨ρ, hI.eq⟩
    clear hI; unfold F25_1 at h
    refine HW.seq ?_
    refine HW.region ?_
    refine HList.vals (v := (Sl.v p1)) rfl (HVal.move' rfl) ?_
    obtain ⟨x29, x30, c28, h⟩ := h
    refine HList.vals (v := (.agg #[(.int .i64 x29), (.int .i64 x30)])) rfl (HVal.loadN [(.int .i64 x29), (.int .i64 x30)] Try.isAgg32 Try.sizeOf32 rfl c28) ?_
    refine HList.ops' rfl (HOp.buildSlice' (zs := [(.int .i64 0), (.int .i64 0)]) (cs := [(.int .i64 x29), (.int .i64 x30)]) Try.runUnderlying41 Try.sizeOf32 Try.zeroValue32 (by decide) (by kernel_rfl) rfl (by decide)) ?_
    rintro _ H31 ⟨rfl, e32⟩
    replace h := h H31 e32
    refine HList.ops' rfl (HOp.append (k := 2) (b := 16) Try.runUnderlying41 Try.runUnderlying41 Try.typeInfo32 rfl rfl Try.zeroValue32 rfl rfl h) ?_
    rintro _ H33 ⟨r35, rfl, h⟩
    refine HList.vals (v := (Sl.v r35)) rfl (HVal.assign' rfl) ?_
    refine HList.nil ?_
    refine nt ?_
    refine HW.seq ?_
    refine HW.region ?_
    refine HList.vals (v := (Sl.v p1)) rfl (HVal.move' rfl) ?_
    obtain ⟨x37, x38, c36, h⟩ := h
    refine HList.vals (v := (.agg #[(.int .i64 x37), (.int .i64 x38)])) rfl (HVal.loadN [(.int .i64 x37), (.int .i64 x38)] Try.isAgg32 Try.sizeOf32 rfl c36) ?_
    obtain ⟨x40, x41, c39, h⟩ := h
    refine HList.vals (v := (.agg #[(.int .i64 x40), (.int .i64 x41)])) rfl (HVal.loadN [(.int .i64 x40), (.int .i64 x41)] Try.isAgg32 Try.sizeOf32 rfl c39) ?_
    refine HList.ops' rfl (HOp.buildSlice' (zs := [(.int .i64 0), (.int .i64 0), (.int .i64 0), (.int .i64 0)]) (cs := [(.int .i64 x37), (.int .i64 x38), (.int .i64 x40), (.int .i64 x41)]) Try.runUnderlying41 Try.sizeOf32 Try.zeroValue32 (by decide) (by kernel_rfl) rfl (by decide)) ?_
    rintro _ H42 ⟨rfl, e43⟩
    replace h := h H42 e43
    refine HList.ops' rfl (HOp.append (k := 2) (b := 16) Try.runUnderlying41 Try.runUnderlying41 Try.typeInfo32 rfl rfl Try.zeroValue32 rfl rfl h) ?_
    rintro _ H44 ⟨r46, rfl, h⟩
    refine HList.vals (v := (Sl.v r46)) rfl (HVal.assign' rfl) ?_
    refine HList.nil ?_
    refine nt ?_
    refine HW.seq ?_
    refine HW.region ?_
    refine HList.vals (v := (Sl.v p1)) rfl (HVal.move' rfl) ?_
    refine HList.vals (v := (Sl.v p1)) rfl (HVal.assign' rfl) ?_
    refine HList.nil ?_
    refine nt ?_
    refine HW.cut (fun ρ H_3 => ∃ (y69 : Sl), Env.Is ρ [(0, (.pointer p0)), (1, (Sl.v p1)), (6, (Sl.v r35)), (7, (Sl.v r46)), (8, (Sl.v y69))] ∧ F25_3 Q p0 p1 r35 r46 y69 H_3) ?_ ?_
    · refine HW.seq ?_
      refine HW.region ?_
      refine HList.vals (v := (.int .i64 0)) rfl (HVal.assign' rfl) ?_
      refine HList.nil ?_
      refine nt ?_
      refine HW.block ?_
      refine HW.loop' (fun L4 hL4 => ?_)
      obtain ⟨X4, hX4⟩ : ∃ X4 : Sl → Int → Hp → Prop, ∀ (y51 : Sl) (y52 : Int) (H_4 : Hp), X4 y51 y52 H_4 ↔ ∀ ρ, Env.Is ρ [(0, (.pointer p0)), (1, (Sl.v p1)), (4, (.pointer (some ⟨H.size, 0, none⟩))), (6, (Sl.v r35)), (7, (Sl.v r46)), (8, (Sl.v y51)), (9, (.int .i64 y52))] → L4 ρ H_4 := ⟨_, fun _ _ _ => Iff.rfl⟩
      refine (hX4 _ _ _).1 (h X4 ?_) _ ?_
      rotate_left
      · exact ⟨rfl, rfl, rfl, rfl, rfl, rfl, rfl, trivial⟩
      clear h
      intro y51 y52 H_4 h
      refine (hX4 _ _ _).2 fun ρ hI => ?_
      obtain ⟨ρ0, rfl⟩ : ∃ ρ0, ρ = (Env.set (Env.set (Env.set (Env.set (Env.set (Env.set (Env.set ρ0 9 (.int .i64 y52)) 8 (Sl.v y51)) 7 (Sl.v r46)) 6 (Sl.v r35)) 4 (.pointer (some ⟨H.size, 0, none⟩))) 1 (Sl.v p1)) 0 (.pointer p0)) := ⟨ρ, hI.eq⟩
      clear hI; unfold F25_L4b at h; refine hL4 _ _ ?_
      refine HW.seq ?_
      refine HW.seq ?_
      refine HW.region ?_
      refine HList.vals (v := (Sl.v y51)) rfl (HVal.move' rfl) ?_
      refine HList.vals (v := (.int .i64 ((y51).n : Int))) rfl (HVal.len Try.runUnderlying41 rfl) ?_
      refine HList.vals (v := (Sl.v p1)) rfl (HVal.move' rfl) ?_
      refine HList.vals (v := (.int .i64 ((p1).c : Int))) rfl (HVal.cap Try.runUnderlying41 rfl) ?_
      refine HList.vals (v := (.bool (decide (((y51).n : Int) < ((p1).c : Int))))) rfl (HVal.lss rfl rfl) ?_
      refine HList.vals (v := (.bool (decide (((y51).n : Int) < ((p1).c : Int))))) rfl (HVal.move' rfl) ?_
      obtain ⟨hT, hF⟩ := h
      rcases Bool.eq_false_or_eq_true (decide (((y51).n : Int) < ((p1).c : Int))) with hb58 | hb59
      · have h := hT hb58
        clear hT hF
        refine HList.gvals (v := (.int .i64 y52)) rfl rfl rfl rfl (congrArg Value.bool hb58) (HVal.move' rfl) ?_
        refine HList.gvals (v := (.bool (decide (y52 < 70000)))) rfl rfl rfl rfl (congrArg Value.bool hb58) (HVal.lss rfl rfl) ?_
        refine HList.vals (v := (.bool (decide (y52 < 70000)))) rfl (HVal.pickT rfl hb58 rfl) ?_
        refine HList.nil ?_
        refine nt ?_
        obtain ⟨hT, hF⟩ := h
        refine HW.cond (decide (y52 < 70000)) rfl (fun hb60 => ?_) (fun hb60 => ?_)
        · have h := hT hb60
          clear hT hF
          refine HW.skip ?_
          refine nt ?_
          refine HW.seq ?_
          refine HW.block ?_
          refine HW.region ?_
          refine HList.vals (v := (Sl.v y51)) rfl (HVal.move' rfl) ?_
          obtain ⟨x62, x63, c61, h⟩ := h
          refine HList.vals (v := (.agg #[(.int .i64 x62), (.int .i64 x63)])) rfl (HVal.loadN [(.int .i64 x62), (.int .i64 x63)] Try.isAgg32 Try.sizeOf32 rfl c61) ?_
          refine HList.ops' rfl (HOp.buildSlice' (zs := [(.int .i64 0), (.int .i64 0)]) (cs := [(.int .i64 x62), (.int .i64 x63)]) Try.runUnderlying41 Try.sizeOf32 Try.zeroValue32 (by decide) (by kernel_rfl) rfl (by decide)) ?_
          rintro _ H64 ⟨rfl, e65⟩
          replace h := h H64 e65
          refine HList.ops' rfl (HOp.append (k := 2) (b := 16) Try.runUnderlying41 Try.runUnderlying41 Try.typeInfo32 rfl rfl Try.zeroValue32 rfl rfl h) ?_
          rintro _ H66 ⟨r68, rfl, h⟩
          refine HList.vals (v := (Sl.v r68)) rfl (HVal.assign' rfl) ?_
          refine HList.nil ?_
          refine nb ?_
          refine nt ?_
          refine HW.region ?_
          refine HList.vals (v := (.int .i64 y52)) rfl (HVal.move' rfl) ?_
          refine HList.vals (v := (.int .i64 (IntKind.i64.wrap (y52 + 1)))) rfl (HVal.add rfl rfl) ?_
          refine HList.vals (v := (.int .i64 (IntKind.i64.wrap (y52 + 1)))) rfl (HVal.assign' rfl) ?_
          refine HList.nil ?_
          refine nt ?_
          exact (hX4 _ _ _).1 h _ ⟨rfl, rfl, rfl, rfl, rfl, rfl, rfl, trivial⟩
        · have h := hF hb60
          clear hT hF
          refine HW.exit ?_
          refine te ?_
          refine te ?_
          refine be ?_
          refine nt ?_
          exact ⟨y51, ⟨rfl, rfl, rfl, rfl, rfl, trivial⟩, h⟩
      · have h := hF hb59
        clear hT hF
        refine HList.gskips rfl rfl rfl rfl (congrArg Value.bool hb59) ?_
        refine HList.gskips rfl rfl rfl rfl (congrArg Value.bool hb59) ?_
        refine HList.vals (v := (.bool false)) rfl (HVal.pickF rfl hb59 rfl) ?_
        refine HList.nil ?_
        refine nt ?_
        refine HW.condF false rfl rfl ?_
        refine HW.exit ?_
        refine te ?_
        refine te ?_
        refine be ?_
        refine nt ?_
        exact ⟨y51, ⟨rfl, rfl, rfl, rfl, rfl, trivial⟩, h⟩
    · rintro ρ H_3 ⟨y69, hI, h⟩
      obtain ⟨ρ0, rfl⟩ : ∃ ρ0, ρ = (Env.set (Env.set (Env.set (Env.set (Env.set ρ0 8 (Sl.v y69)) 7 (Sl.v r46)) 6 (Sl.v r35)) 1 (Sl.v p1)) 0 (.pointer p0)) := ⟨ρ, hI.eq⟩
      clear hI; unfold F25_3 at h
      refine HW.seq ?_
      refine HW.region ?_
      refine HList.vals (v := (.pointer p0)) rfl (HVal.move' rfl) ?_
      refine HList.vals (v := (.pointer p0)) rfl (HVal.move' rfl) ?_
      obtain ⟨a70, e71, h⟩ := h
      refine HList.vals (v := (.pointer (some a70))) rfl (HVal.nilCheck (congrArg Value.pointer e71)) ?_
      refine HList.vals (v := (.pointer (some a70))) rfl (HVal.fieldAddr0 Try.runUnderlying64 rfl rfl Try.sizeOf61 rfl) ?_
      obtain ⟨x73, c72, h⟩ := h
      refine HList.vals (v := (Sl.v x73)) rfl (HVal.load1 Try.isAgg61 rfl c72) ?_
      refine HList.vals (v := (Sl.v p1)) rfl (HVal.move' rfl) ?_
      refine HList.vals (v := (Sl.v r35)) rfl (HVal.move' rfl) ?_
      refine HList.vals (v := (Sl.v r46)) rfl (HVal.move' rfl) ?_
      refine HList.vals (v := (Sl.v y69)) rfl (HVal.move' rfl) ?_
      refine HList.ops' rfl (HOp.buildSlice' (zs := [(Sl.v Sl.nil), (Sl.v Sl.nil), (Sl.v Sl.nil), (Sl.v Sl.nil)]) (cs := [(Sl.v p1), (Sl.v r35), (Sl.v r46), (Sl.v y69)]) Try.runUnderlying61 Try.sizeOf41 Try.zeroValue41 (by decide) (by kernel_rfl) rfl (by decide)) ?_
      rintro _ H74 ⟨rfl, e75⟩
      replace h := h H74 e75
      refine HList.ops' rfl (HOp.append (k := 1) (b := 24) Try.runUnderlying61 Try.runUnderlying61 Try.typeInfo41 rfl rfl Try.zeroValue41 rfl rfl h) ?_
      rintro _ H76 ⟨r78, rfl, h⟩
      obtain ⟨a79, e80, h⟩ := h
      refine HList.vals (v := (.pointer (some a79))) rfl (HVal.nilCheck (congrArg Value.pointer e80)) ?_
      refine HList.vals (v := (.pointer (some a79))) rfl (HVal.fieldAddr0 Try.runUnderlying64 rfl rfl Try.sizeOf61 rfl) ?_
      obtain ⟨z83, z84, h⟩ := h
      refine HList.opsn (HOp.store1 Try.sizeOf61 rfl rfl rfl z83 z84) ?_
      rintro _ H81 e82
      replace h := h H81 e82
      refine HList.nil ?_
      refine nt ?_
      refine HW.region ?_
      refine HList.vals (v := (.pointer p0)) rfl (HVal.move' rfl) ?_
      refine HList.vals (v := (.pointer p0)) rfl (HVal.move' rfl) ?_
      obtain ⟨a85, e86, h⟩ := h
      refine HList.vals (v := (.pointer (some a85))) rfl (HVal.nilCheck (congrArg Value.pointer e86)) ?_
      refine HList.vals (v := (.pointer (some (Addr.add a85 2)))) rfl (HVal.fieldAddr' Try.runUnderlying64 rfl rfl Try.sizeOf3 rfl) ?_
      obtain ⟨x88, c87, h⟩ := h
      refine HList.vals (v := (.int .i64 x88)) rfl (HVal.load1 Try.isAgg3 rfl c87) ?_
      refine HList.vals (v := (Sl.v p1)) rfl (HVal.move' rfl) ?_
      refine HList.vals (v := (.int .i64 ((p1).n : Int))) rfl (HVal.len Try.runUnderlying41 rfl) ?_
      refine HList.vals (v := (.int .i64 (IntKind.i64.wrap (x88 + ((p1).n : Int))))) rfl (HVal.add rfl rfl) ?_
      refine HList.vals (v := (.int .i64 (IntKind.i64.wrap ((IntKind.i64.wrap (x88 + ((p1).n : Int))) + 10)))) rfl (HVal.add rfl rfl) ?_
      obtain ⟨a89, e90, h⟩ := h
      refine HList.vals (v := (.pointer (some a89))) rfl (HVal.nilCheck (congrArg Value.pointer e90)) ?_
      refine HList.vals (v := (.pointer (some (Addr.add a89 2)))) rfl (HVal.fieldAddr' Try.runUnderlying64 rfl rfl Try.sizeOf3 rfl) ?_
      obtain ⟨z93, z94, h⟩ := h
      refine HList.opsn (HOp.store1 Try.sizeOf3 rfl rfl rfl z93 z94) ?_
      rintro _ H91 e92
      replace h := h H91 e92
      refine HList.nil ?_
      exact ⟨_, resOf0 rfl , ⟨rfl, h⟩⟩

def F27_3 (Q : Hp → Prop) (y31 : (Option Addr)) (y32 : Sl) (y33 : Sl) (y34 : Sl) (y50 : Sl) (H_3 : Hp) : Prop :=
∃ a51 : Addr, y31 = some a51 ∧ (
 ∃ x54 : Sl, cell H_3 (Addr.add a51 1) = some (Sl.v x54) ∧ (
 ∀ H55 : Hp, H55 = Array.push H_3 (.cells #[(Sl.v y32), (Sl.v y33), (Sl.v y34), (Sl.v y50)] 50) → (
 AppendF H55 50 1 24 #[(Sl.v Sl.nil)] x54 ((Sl.mk (some ⟨H_3.size, 0, none⟩) 4 4)).b ((Sl.mk (some ⟨H_3.size, 0, none⟩) 4 4)).n (fun (r59 : Sl) (H57 : Hp) => 
 ∃ a60 : Addr, y31 = some a60 ∧ (
 (cell H57 (Addr.add a60 1)).isSome = true ∧ frz H57 (Addr.add a60 1) = false ∧ ∀ H62 : Hp, H62 = setc H57 (Addr.add a60 1) (Sl.v r59) → (
 ∃ a66 : Addr, y31 = some a66 ∧ (
 ∃ x69 : Int, cell H62 (Addr.add a66 2) = some (.int .i64 x69) ∧ (
 ∃ a70 : Addr, y31 = some a70 ∧ (
 (cell H62 (Addr.add a70 2)).isSome = true ∧ frz H62 (Addr.add a70 2) = false ∧ ∀ H72 : Hp, H72 = setc H62 (Addr.add a70 2) (.int .i64 (IntKind.i64.wrap ((IntKind.i64.wrap (x69 + ((y32).n : Int))) + 10))) → (
 Q H72))))))))))
def F27_L4b (Q : Hp → Prop) (X4 : Sl → Int → Hp → Prop) (y37 : (Option Addr)) (y38 : Sl) (y39 : Int) (y40 : Sl) (y41 : Sl) (y35 : Sl) (y36 : Int) (H_4 : Hp) : Prop :=
((decide (((y35).n : Int) < ((y38).c : Int))) = true → (((decide (y36 < 70000)) = true → (∀ H45 : Hp, H45 = Array.push H_4 (.cells #[(.int .i64 y39)] 3) → (
 AppendF H45 3 1 8 #[(.int .i64 0)] y35 ((Sl.mk (some ⟨H_4.size, 0, none⟩) 1 1)).b ((Sl.mk (some ⟨H_4.size, 0, none⟩) 1 1)).n (fun (r49 : Sl) (H47 : Hp) => 
 X4 r49 (IntKind.i64.wrap (y36 + 1)) H47)))) ∧
 ((decide (y36 < 70000)) = false → (F27_3 Q y37 y38 y40 y41 y35 H_4)))) ∧
 ((decide (((y35).n : Int) < ((y38).c : Int))) = false → (F27_3 Q y37 y38 y40 y41 y35 H_4))
def F27_L4 (Q : Hp → Prop) (y37 : (Option Addr)) (y38 : Sl) (y39 : Int) (y40 : Sl) (y41 : Sl) (y35 : Sl) (y36 : Int) (H_4 : Hp) : Prop :=
  ∀ X4 : Sl → Int → Hp → Prop, (∀ (y35 : Sl) (y36 : Int) (H_4 : Hp), F27_L4b Q X4 y37 y38 y39 y40 y41 y35 y36 H_4 → X4 y35 y36 H_4) → X4 y35 y36 H_4
def F27_1 (Q : Hp → Prop) (y5 : (Option Addr)) (y6 : Sl) (y7 : Int) (H_1 : Hp) : Prop :=
∀ H21 : Hp, H21 = Array.push H_1 (.cells #[(.int .i64 y7)] 3) → (
 AppendF H21 3 1 8 #[(.int .i64 0)] y6 ((Sl.mk (some ⟨H_1.size, 0, none⟩) 1 1)).b ((Sl.mk (some ⟨H_1.size, 0, none⟩) 1 1)).n (fun (r25 : Sl) (H23 : Hp) => 
 ∀ H26 : Hp, H26 = Array.push H23 (.cells #[(.int .i64 y7), (.int .i64 y7)] 3) → (
 AppendF H26 3 1 8 #[(.int .i64 0)] y6 ((Sl.mk (some ⟨H23.size, 0, none⟩) 2 2)).b ((Sl.mk (some ⟨H23.size, 0, none⟩) 2 2)).n (fun (r30 : Sl) (H28 : Hp) => 
 F27_L4 Q y5 y6 y7 r25 r30 y6 0 H28))))
def F27_L2b (Q : Hp → Prop) (X2 : Int → Hp → Prop) (y9 : (Option Addr)) (y10 : Sl) (y11 : Int) (y8 : Int) (H_2 : Hp) : Prop :=
((decide (y8 < ((y10).n : Int))) = true → (∃ a13 : Addr, (y10).b = some a13 ∧ (0 : Int) ≤ y8 ∧ y8 < ((y10).n : Int) ∧ (
 (cell H_2 (Addr.add a13 (y8.toNat * 1))).isSome = true ∧ frz H_2 (Addr.add a13 (y8.toNat * 1)) = false ∧ ∀ H17 : Hp, H17 = setc H_2 (Addr.add a13 (y8.toNat * 1)) (.int .i64 y11) → (
 X2 (IntKind.i64.wrap (y8 + 1)) H17)))) ∧
 ((decide (y8 < ((y10).n : Int))) = false → (F27_1 Q y9 y10 y11 H_2))
def F27_L2 (Q : Hp → Prop) (y9 : (Option Addr)) (y10 : Sl) (y11 : Int) (y8 : Int) (H_2 : Hp) : Prop :=
  ∀ X2 : Int → Hp → Prop, (∀ (y8 : Int) (H_2 : Hp), F27_L2b Q X2 y9 y10 y11 y8 H_2 → X2 y8 H_2) → X2 y8 H_2
def F27 (p0 : (Option Addr)) (p1 : Sl) (H : Hp) (Q : Hp → Prop) : Prop :=
∃ a1 : Addr, p0 = some a1 ∧ (
 ∃ x4 : Sl, cell H (Addr.add a1 1) = some (Sl.v x4) ∧ (
 F27_L2 Q p0 p1 (IntKind.i64.wrap (1000000 + (IntKind.i64.wrap (Int.tdiv ((x4).n : Int) (4 : Int))))) 0 H))
set_option maxRecDepth 100000 in
set_option maxHeartbeats 4000000 in
theorem walk27 {w0 : World} {p0 : (Option Addr)} {p1 : Sl} {H : Hp} {Q : Hp → Prop} (h : F27 p0 p1 H Q) :
    Good Try.prog w0 27 #[(.pointer p0), (Sl.v p1)] H (fun v H => v = (.tuple #[]) ∧ Q H) := by
  unfold F27 at h
  refine Good.enter' (fn := Try.f27) Try.func27 rfl rfl rfl ?_
  refine HW.seq ?_
  refine HW.region ?_
  refine HList.vals (v := (.pointer p0)) rfl (HVal.move' rfl) ?_
  obtain ⟨a1, e2, h⟩ := h
  refine HList.vals (v := (.pointer (some a1))) rfl (HVal.nilCheck (congrArg Value.pointer e2)) ?_
  refine HList.vals (v := (.pointer (some (Addr.add a1 1)))) rfl (HVal.fieldAddr' Try.runUnderlying64 rfl rfl Try.sizeOf62 rfl) ?_
  obtain ⟨x4, c3, h⟩ := h
  refine HList.vals (v := (Sl.v x4)) rfl (HVal.load1 Try.isAgg62 rfl c3) ?_
  refine HList.vals (v := (.int .i64 ((x4).n : Int))) rfl (HVal.len Try.runUnderlying62 rfl) ?_
  refine HList.vals (v := (.int .i64 (IntKind.i64.wrap (Int.tdiv ((x4).n : Int) (4 : Int))))) rfl (HVal.quo rfl rfl (by decide)) ?_
  refine HList.vals (v := (.int .i64 (IntKind.i64.wrap (1000000 + (IntKind.i64.wrap (Int.tdiv ((x4).n : Int) (4 : Int))))))) rfl (HVal.add rfl rfl) ?_
  refine HList.vals (v := (.int .i64 (IntKind.i64.wrap (1000000 + (IntKind.i64.wrap (Int.tdiv ((x4).n : Int) (4 : Int))))))) rfl (HVal.assign' rfl) ?_
  refine HList.nil ?_
  refine nt ?_
  refine HW.cut (fun ρ H_1 => Env.Is ρ [(0, (.pointer p0)), (1, (Sl.v p1)), (4, (.int .i64 (IntKind.i64.wrap (1000000 + (IntKind.i64.wrap (Int.tdiv ((x4).n : Int) (4 : Int)))))))] ∧ F27_1 Q p0 p1 (IntKind.i64.wrap (1000000 + (IntKind.i64.wrap (Int.tdiv ((x4).n : Int) (4 : Int))))) H_1) ?_ ?_
  · refine HW.seq ?_
    refine HW.region ?_
    refine HList.vals (v := (.int .i64 0)) rfl (HVal.assign' rfl) ?_
    refine HList.nil ?_
    refine nt ?_
    refine HW.block ?_
    refine HW.loop' (fun L2 hL2 => ?_)
    obtain ⟨X2, hX2⟩ : ∃ X2 : Int → Hp → Prop, ∀ (y8 : Int) (H_2 : Hp), X2 y8 H_2 ↔ ∀ ρ, Env.Is ρ [(0, (.pointer p0)), (1, (Sl.v p1)), (4, (.int .i64 (IntKind.i64.wrap (1000000 + (IntKind.i64.wrap (Int.tdiv ((x4).n : Int) (4 : Int))))))), (5, (.int .i64 y8))] → L2 ρ H_2 := ⟨_, fun _ _ => Iff.rfl⟩
    refine (hX2 _ _).1 (h X2 ?_) _ ?_
    rotate_left
    · exact ⟨rfl, rfl, rfl, rfl, trivial⟩
    clear h
    intro y8 H_2 h
    refine (hX2 _ _).2 fun ρ hI => ?_
    obtain ⟨ρ0, rfl⟩ : ∃ ρ0, ρ = (Env.set (Env.set (Env.set (Env.set ρ0 5 (.int .i64 y8)) 4 (.int .i64 (IntKind.i64.wrap (1000000 + (IntKind.i64.wrap (Int.tdiv ((x4).n : Int) (4 : Int))))))) 1 (Sl.v p1)) 0 (.pointer p0)) := ⟨ρ, hI.eq⟩
    clear hI; unfold F27_L2b at h; refine hL2 _ _ ?_
    refine HW.seq ?_
    refine HW.seq ?_
    refine HW.region ?_
    refine HList.vals (v := (.int .i64 y8)) rfl (HVal.move' rfl) ?_
    refine HList.vals (v := (Sl.v p1)) rfl (HVal.move' rfl) ?_
    refine HList.vals (v := (.int .i64 ((p1).n : Int))) rfl (HVal.len Try.runUnderlying50 rfl) ?_
    refine HList.vals (v := (.bool (decide (y8 < ((p1).n : Int))))) rfl (HVal.lss rfl rfl) ?_
    refine HList.nil ?_
    refine nt ?_
    obtain ⟨hT, hF⟩ := h
    refine HW.cond (decide (y8 < ((p1).n : Int))) rfl (fun hb12 => ?_) (fun hb12 => ?_)
    · have h := hT hb12
      clear hT hF
      refine HW.skip ?_
      refine nt ?_
      refine HW.seq ?_
      refine HW.block ?_
      refine HW.region ?_
      refine HList.vals (v := (Sl.v p1)) rfl (HVal.move' rfl) ?_
      refine HList.vals (v := (.int .i64 y8)) rfl (HVal.move' rfl) ?_
      refine HList.vals (v := (.int .i64 (IntKind.i64.wrap (1000000 + (IntKind.i64.wrap (Int.tdiv ((x4).n : Int) (4 : Int))))))) rfl (HVal.move' rfl) ?_
      obtain ⟨a13, e14, b15, b16, h⟩ := h
      refine HList.vals (v := (.pointer (some (Addr.add a13 (y8.toNat * 1))))) rfl (HVal.indexAddr Try.runUnderlying50 Try.sizeOf3 (Sl.v_some rfl e14) rfl b15 b16) ?_
      obtain ⟨z19, z20, h⟩ := h
      refine HList.opsn (HOp.store1 Try.sizeOf3 rfl rfl rfl z19 z20) ?_
      rintro _ H17 e18
      replace h := h H17 e18
      refine HList.nil ?_
      refine nb ?_
      refine nt ?_
      refine HW.region ?_
      refine HList.vals (v := (.int .i64 y8)) rfl (HVal.move' rfl) ?_
      refine HList.vals (v := (.int .i64 (IntKind.i64.wrap (y8 + 1)))) rfl (HVal.add rfl rfl) ?_
      refine HList.vals (v := (.int .i64 (IntKind.i64.wrap (y8 + 1)))) rfl (HVal.assign' rfl) ?_
      refine HList.nil ?_
      refine nt ?_
      exact (hX2 _ _).1 h _ ⟨rfl, rfl, rfl, rfl, trivial⟩
    · have h := hF hb12
      clear hT hF
      refine HW.exit ?_
      refine te ?_
      refine te ?_
      refine be ?_
      refine nt ?_
      exact ⟨⟨rfl, rfl, rfl, trivial⟩, h⟩
  · rintro ρ H_1 ⟨hI, h⟩
    obtain ⟨ρ0, rfl⟩ : ∃ ρ0, ρ = (Env.set (Env.set (Env.set ρ0 4 (.int .i64 (IntKind.i64.wrap (1000000 + (IntKind.i64.wrap (Int.tdiv ((x4).n : Int) (4 : Int))))))) 1 (Sl.v p1)) 0 (.pointer p0)) := ⟨ρ, hI.eq⟩
    clear hI; unfold F27_1 at h
    refine HW.seq ?_
    refine HW.region ?_
    refine HList.vals (v := (Sl.v p1)) rfl (HVal.move' rfl) ?_
    refine HList.vals (v := (.int .i64 (IntKind.i64.wrap (1000000 + (IntKind.i64.wrap (Int.tdiv ((x4).n : Int) (4 : Int))))))) rfl (HVal.move' rfl) ?_
    refine HList.ops' rfl (HOp.buildSlice' (zs := [(.int .i64 0)]) (cs := [(.int .i64 (IntKind.i64.wrap (1000000 + (IntKind.i64.wrap (Int.tdiv ((x4).n : Int) (4 : Int))))))]) Try.runUnderlying50 Try.sizeOf3 Try.zeroValue3 (by decide) (by kernel_rfl) rfl (by decide)) ?_
    rintro _ H21 ⟨rfl, e22⟩
    replace h := h H21 e22
    refine HList.ops' rfl (HOp.append (k := 1) (b := 8) Try.runUnderlying50 Try.runUnderlying50 Try.typeInfo3 rfl rfl Try.zeroValue3 rfl rfl h) ?_
    rintro _ H23 ⟨r25, rfl, h⟩
    refine HList.vals (v := (Sl.v r25)) rfl (HVal.assign' rfl) ?_
    refine HList.nil ?_
    refine nt ?_
    refine HW.seq ?_
    refine HW.region ?_
    refine HList.vals (v := (Sl.v p1)) rfl (HVal.move' rfl) ?_
    refine HList.vals (v := (.int .i64 (IntKind.i64.wrap (1000000 + (IntKind.i64.wrap (Int.tdiv ((x4).n : Int) (4 : Int))))))) rfl (HVal.move' rfl) ?_
    refine HList.vals (v := (.int .i64 (IntKind.i64.wrap (1000000 + (IntKind.i64.wrap (Int.tdiv ((x4).n : Int) (4 : Int))))))) rfl (HVal.move' rfl) ?_
    refine HList.ops' rfl (HOp.buildSlice' (zs := [(.int .i64 0), (.int .i64 0)]) (cs := [(.int .i64 (IntKind.i64.wrap (1000000 + (IntKind.i64.wrap (Int.tdiv ((x4).n : Int) (4 : Int)))))), (.int .i64 (IntKind.i64.wrap (1000000 + (IntKind.i64.wrap (Int.tdiv ((x4).n : Int) (4 : Int))))))]) Try.runUnderlying50 Try.sizeOf3 Try.zeroValue3 (by decide) (by kernel_rfl) rfl (by decide)) ?_
    rintro _ H26 ⟨rfl, e27⟩
    replace h := h H26 e27
    refine HList.ops' rfl (HOp.append (k := 1) (b := 8) Try.runUnderlying50 Try.runUnderlying50 Try.typeInfo3 rfl rfl Try.zeroValue3 rfl rfl h) ?_
    rintro _ H28 ⟨r30, rfl, h⟩
    refine HList.vals (v := (Sl.v r30)) rfl (HVal.assign' rfl) ?_
    refine HList.nil ?_
    refine nt ?_
    refine HW.seq ?_
    refine HW.region ?_
    refine HList.vals (v := (Sl.v p1)) rfl (HVal.move' rfl) ?_
    refine HList.vals (v := (Sl.v p1)) rfl (HVal.assign' rfl) ?_
    refine HList.nil ?_
    refine nt ?_
    refine HW.cut (fun ρ H_3 => ∃ (y50 : Sl), Env.Is ρ [(0, (.pointer p0)), (1, (Sl.v p1)), (6, (Sl.v r25)), (7, (Sl.v r30)), (8, (Sl.v y50))] ∧ F27_3 Q p0 p1 r25 r30 y50 H_3) ?_ ?_
    · refine HW.seq ?_
      refine HW.region ?_
      refine HList.vals (v := (.int .i64 0)) rfl (HVal.assign' rfl) ?_
      refine HList.nil ?_
      refine nt ?_
      refine HW.block ?_
      refine HW.loop' (fun L4 hL4 => ?_)
      obtain ⟨X4, hX4⟩ : ∃ X4 : Sl → Int → Hp → Prop, ∀ (y35 : Sl) (y36 : Int) (H_4 : Hp), X4 y35 y36 H_4 ↔ ∀ ρ, Env.Is ρ [(0, (.pointer p0)), (1, (Sl.v p1)), (4, (.int .i64 (IntKind.i64.wrap (1000000 + (IntKind.i64.wrap (Int.tdiv ((x4).n : Int) (4 : Int))))))), (6, (Sl.v r25)), (7, (Sl.v r30)), (8, (Sl.v y35)), (9, (.int .i64 y36))] → L4 ρ H_4 := ⟨_, fun _ _ _ => Iff.rfl⟩
      refine (hX4 _ _ _).1 (h X4 ?_) _ ?_
      rotate_left
      · exact ⟨rfl, rfl, rfl, rfl, rfl, rfl, rfl, trivial⟩
      clear h
      intro y35 y36 H_4 h
      refine (hX4 _ _ _).2 fun ρ hI => ?_
      obtain ⟨ρ0, rfl⟩ : ∃ ρ0, ρ = (Env.set (Env.set (Env.set (Env.set (Env.set (Env.set (Env.set ρ0 9 (.int .i64 y36)) 8 (Sl.v y35)) 7 (Sl.v r30)) 6 (Sl.v r25)) 4 (.int .i64 (IntKind.i64.wrap (1000000 + (IntKind.i64.wrap (Int.tdiv ((x4).n : Int) (4 : Int))))))) 1 (Sl.v p1)) 0 (.pointer p0)) := ⟨ρ, hI.eq⟩
      clear hI; unfold F27_L4b at h; refine hL4 _ _ ?_
      refine HW.seq ?_
      refine HW.seq ?_
      refine HW.region ?_
      refine HList.vals (v := (Sl.v y35)) rfl (HVal.move' rfl) ?_
      refine HList.vals (v := (.int .i64 ((y35).n : Int))) rfl (HVal.len Try.runUnderlying50 rfl) ?_
      refine HList.vals (v := (Sl.v p1)) rfl (HVal.move' rfl) ?_
      refine HList.vals (v := (.int .i64 ((p1).c : Int))) rfl (HVal.cap Try.runUnderlying50 rfl) ?_
      refine HList.vals (v := (.bool (decide (((y35).n : Int) < ((p1).c : Int))))) rfl (HVal.lss rfl rfl) ?_
      refine HList.vals (v := (.bool (decide (((y35).n : Int) < ((p1).c : Int))))) rfl (HVal.move' rfl) ?_
      obtain ⟨hT, hF⟩ := h
      rcases Bool.eq_false_or_eq_true (decide (((y35).n : Int) < ((p1).c : Int))) with hb42 | hb43
      · have h := hT hb42
        clear hT hF
        refine HList.gvals (v := (.int .i64 y36)) rfl rfl rfl rfl (congrArg Value.bool hb42) (HVal.move' rfl) ?_
        refine HList.gvals (v := (.bool (decide (y36 < 70000)))) rfl rfl rfl rfl (congrArg Value.bool hb42) (HVal.lss rfl rfl) ?_
        refine HList.vals (v := (.bool (decide (y36 < 70000)))) rfl (HVal.pickT rfl hb42 rfl) ?_
        refine HList.nil ?_
        refine nt ?_
        obtain ⟨hT, hF⟩ := h
        refine HW.cond (decide (y36 < 70000)) rfl (fun hb44 => ?_) (fun hb44 => ?_)
        · have h := hT hb44
          clear hT hF
          refine HW.skip ?_
          refine nt ?_
          refine HW.seq ?_
          refine HW.block ?_
          refine HW.region ?_
          refine HList.vals (v := (Sl.v y35)) rfl (HVal.move' rfl) ?_
          refine HList.vals (v := (.int .i64 (IntKind.i64.wrap (1000000 + (IntKind.i64.wrap (Int.tdiv ((x4).n : Int) (4 : Int))))))) rfl (HVal.move' rfl) ?_
          refine HList.ops' rfl (HOp.buildSlice' (zs := [(.int .i64 0)]) (cs := [(.int .i64 (IntKind.i64.wrap (1000000 + (IntKind.i64.wrap (Int.tdiv ((x4).n : Int) (4 : Int))))))]) Try.runUnderlying50 Try.sizeOf3 Try.zeroValue3 (by decide) (by kernel_rfl) rfl (by decide)) ?_
          rintro _ H45 ⟨rfl, e46⟩
          replace h := h H45 e46
          refine HList.ops' rfl (HOp.append (k := 1) (b := 8) Try.runUnderlying50 Try.runUnderlying50 Try.typeInfo3 rfl rfl Try.zeroValue3 rfl rfl h) ?_
          rintro _ H47 ⟨r49, rfl, h⟩
          refine HList.vals (v := (Sl.v r49)) rfl (HVal.assign' rfl) ?_
          refine HList.nil ?_
          refine nb ?_
          refine nt ?_
          refine HW.region ?_
          refine HList.vals (v := (.int .i64 y36)) rfl (HVal.move' rfl) ?_
          refine HList.vals (v := (.int .i64 (IntKind.i64.wrap (y36 + 1)))) rfl (HVal.add rfl rfl) ?_
          refine HList.vals (v := (.int .i64 (IntKind.i64.wrap (y36 + 1)))) rfl (HVal.assign' rfl) ?_
          refine HList.nil ?_
          refine nt ?_
          exact (hX4 _ _ _).1 h _ ⟨rfl, rfl, rfl, rfl, rfl, rfl, rfl, trivial⟩
        · have h := hF hb44
          clear hT hF
          refine HW.exit ?_
          refine te ?_
          refine te ?_
          refine be ?_
          refine nt ?_
          exact ⟨y35, ⟨rfl, rfl, rfl, rfl, rfl, trivial⟩, h⟩
      · have h := hF hb43
        clear hT hF
        refine HList.gskips rfl rfl rfl rfl (congrArg Value.bool hb43) ?_
        refine HList.gskips rfl rfl rfl rfl (congrArg Value.bool hb43) ?_
        refine HList.vals (v := (.bool false)) rfl (HVal.pickF rfl hb43 rfl) ?_
        refine HList.nil ?_
        refine nt ?_
        refine HW.condF false rfl rfl ?_
        refine HW.exit ?_
        refine te ?_
        refine te ?_
        refine be ?_
        refine nt ?_
        exact ⟨y35, ⟨rfl, rfl, rfl, rfl, rfl, trivial⟩, h⟩
    · rintro ρ H_3 ⟨y50, hI, h⟩
      obtain ⟨ρ0, rfl⟩ : ∃ ρ0, ρ = (Env.set (Env.set (Env.set (Env.set (Env.set ρ0 8 (Sl.v y50)) 7 (Sl.v r30)) 6 (Sl.v r25)) 1 (Sl.v p1)) 0 (.pointer p0)) := ⟨ρ, hI.eq⟩
      clear hI; unfold F27_3 at h
      refine HW.seq ?_
      refine HW.region ?_
      refine HList.vals (v := (.pointer p0)) rfl (HVal.move' rfl) ?_
      refine HList.vals (v := (.pointer p0)) rfl (HVal.move' rfl) ?_
      obtain ⟨a51, e52, h⟩ := h
      refine HList.vals (v := (.pointer (some a51))) rfl (HVal.nilCheck (congrArg Value.pointer e52)) ?_
      refine HList.vals (v := (.pointer (some (Addr.add a51 1)))) rfl (HVal.fieldAddr' Try.runUnderlying64 rfl rfl Try.sizeOf62 rfl) ?_
      obtain ⟨x54, c53, h⟩ := h
      refine HList.vals (v := (Sl.v x54)) rfl (HVal.load1 Try.isAgg62 rfl c53) ?_
      refine HList.vals (v := (Sl.v p1)) rfl (HVal.move' rfl) ?_
      refine HList.vals (v := (Sl.v r25)) rfl (HVal.move' rfl) ?_
      refine HList.vals (v := (Sl.v r30)) rfl (HVal.move' rfl) ?_
      refine HList.vals (v := (Sl.v y50)) rfl (HVal.move' rfl) ?_
      refine HList.ops' rfl (HOp.buildSlice' (zs := [(Sl.v Sl.nil), (Sl.v Sl.nil), (Sl.v Sl.nil), (Sl.v Sl.nil)]) (cs := [(Sl.v p1), (Sl.v r25), (Sl.v r30), (Sl.v y50)]) Try.runUnderlying62 Try.sizeOf50 Try.zeroValue50 (by decide) (by kernel_rfl) rfl (by decide)) ?_
      rintro _ H55 ⟨rfl, e56⟩
      replace h := h H55 e56
      refine HList.ops' rfl (HOp.append (k := 1) (b := 24) Try.runUnderlying62 Try.runUnderlying62 Try.typeInfo50 rfl rfl Try.zeroValue50 rfl rfl h) ?_
      rintro _ H57 ⟨r59, rfl, h⟩
      obtain ⟨a60, e61, h⟩ := h
      refine HList.vals (v := (.pointer (some a60))) rfl (HVal.nilCheck (congrArg Value.pointer e61)) ?_
      refine HList.vals (v := (.pointer (some (Addr.add a60 1)))) rfl (HVal.fieldAddr' Try.runUnderlying64 rfl rfl Try.sizeOf62 rfl) ?_
      obtain ⟨z64, z65, h⟩ := h
      refine HList.opsn (HOp.store1 Try.sizeOf62 rfl rfl rfl z64 z65) ?_
      rintro _ H62 e63
      replace h := h H62 e63
      refine HList.nil ?_
      refine nt ?_
      refine HW.region ?_
      refine HList.vals (v := (.pointer p0)) rfl (HVal.move' rfl) ?_
      refine HList.vals (v := (.pointer p0)) rfl (HVal.move' rfl) ?_
      obtain ⟨a66, e67, h⟩ := h
      refine HList.vals (v := (.pointer (some a66))) rfl (HVal.nilCheck (congrArg Value.pointer e67)) ?_
      refine HList.vals (v := (.pointer (some (Addr.add a66 2)))) rfl (HVal.fieldAddr' Try.runUnderlying64 rfl rfl Try.sizeOf3 rfl) ?_
      obtain ⟨x69, c68, h⟩ := h
      refine HList.vals (v := (.int .i64 x69)) rfl (HVal.load1 Try.isAgg3 rfl c68) ?_
      refine HList.vals (v := (Sl.v p1)) rfl (HVal.move' rfl) ?_
      refine HList.vals (v := (.int .i64 ((p1).n : Int))) rfl (HVal.len Try.runUnderlying50 rfl) ?_
      refine HList.vals (v := (.int .i64 (IntKind.i64.wrap (x69 + ((p1).n : Int))))) rfl (HVal.add rfl rfl) ?_
      refine HList.vals (v := (.int .i64 (IntKind.i64.wrap ((IntKind.i64.wrap (x69 + ((p1).n : Int))) + 10)))) rfl (HVal.add rfl rfl) ?_
      obtain ⟨a70, e71, h⟩ := h
      refine HList.vals (v := (.pointer (some a70))) rfl (HVal.nilCheck (congrArg Value.pointer e71)) ?_
      refine HList.vals (v := (.pointer (some (Addr.add a70 2)))) rfl (HVal.fieldAddr' Try.runUnderlying64 rfl rfl Try.sizeOf3 rfl) ?_
      obtain ⟨z74, z75, h⟩ := h
      refine HList.opsn (HOp.store1 Try.sizeOf3 rfl rfl rfl z74 z75) ?_
      rintro _ H72 e73
      replace h := h H72 e73
      refine HList.nil ?_
      exact ⟨_, resOf0 rfl , ⟨rfl, h⟩⟩

def F28_6 (Q : Bool → Hp → Prop) (X5 : Int → Hp → Prop) (y50 : (Option Addr)) (y51 : Int) (H_6 : Hp) : Prop :=
X5 (IntKind.i64.wrap (y51 + 1)) H_6
def F28_L7b (Q : Bool → Hp → Prop) (X5 : Int → Hp → Prop) (X7 : Int → Hp → Prop) (y53 : (Option Addr)) (y54 : Int) (y52 : Int) (H_7 : Hp) : Prop :=
∃ a55 : Addr, y53 = some a55 ∧ (
 ∃ x58 : Sl, cell H_7 (Addr.add a55 1) = some (Sl.v x58) ∧ (
 ∃ a59 : Addr, (x58).b = some a59 ∧ (0 : Int) ≤ y54 ∧ y54 < ((x58).n : Int) ∧ (
 ∃ x64 : Sl, cell H_7 (Addr.add a59 (y54.toNat * 1)) = some (Sl.v x64) ∧ (
 ((decide (y52 < ((x64).n : Int))) = true → (∃ a66 : Addr, y53 = some a66 ∧ (
 ∃ x69 : Sl, cell H_7 (Addr.add a66 1) = some (Sl.v x69) ∧ (
 ∃ a70 : Addr, (x69).b = some a70 ∧ (0 : Int) ≤ y54 ∧ y54 < ((x69).n : Int) ∧ (
 ∃ x75 : Sl, cell H_7 (Addr.add a70 (y54.toNat * 1)) = some (Sl.v x75) ∧ (
 ∃ a76 : Addr, (x75).b = some a76 ∧ (0 : Int) ≤ y52 ∧ y52 < ((x75).n : Int) ∧ (
 ∃ x81 : Int, cell H_7 (Addr.add a76 (y52.toNat * 1)) = some (.int .i64 x81) ∧ (
 ((decide (x81 ≠ (IntKind.i64.wrap (1000000 + (IntKind.i64.wrap (Int.tdiv y54 (4 : Int))))))) = true → (Q false H_7)) ∧
 ((decide (x81 ≠ (IntKind.i64.wrap (1000000 + (IntKind.i64.wrap (Int.tdiv y54 (4 : Int))))))) = false → (X7 (IntKind.i64.wrap (y52 + 1)) H_7)))))))))) ∧
 ((decide (y52 < ((x64).n : Int))) = false → (F28_6 Q X5 y53 y54 H_7))))))
def F28_L7 (Q : Bool → Hp → Prop) (X5 : Int → Hp → Prop) (y53 : (Option Addr)) (y54 : Int) (y52 : Int) (H_7 : Hp) : Prop :=
  ∀ X7 : Int → Hp → Prop, (∀ (y52 : Int) (H_7 : Hp), F28_L7b Q X5 X7 y53 y54 y52 H_7 → X7 y52 H_7) → X7 y52 H_7
def F28_L5b (Q : Bool → Hp → Prop) (X5 : Int → Hp → Prop) (y44 : (Option Addr)) (y43 : Int) (H_5 : Hp) : Prop :=
∃ a45 : Addr, y44 = some a45 ∧ (
 ∃ x48 : Sl, cell H_5 (Addr.add a45 1) = some (Sl.v x48) ∧ (
 ((decide (y43 < ((x48).n : Int))) = true → (F28_L7 Q X5 y44 y43 0 H_5)) ∧
 ((decide (y43 < ((x48).n : Int))) = false → (Q true H_5))))
def F28_L5 (Q : Bool → Hp → Prop) (y44 : (Option Addr)) (y43 : Int) (H_5 : Hp) : Prop :=
  ∀ X5 : Int → Hp → Prop, (∀ (y43 : Int) (H_5 : Hp), F28_L5b Q X5 y44 y43 H_5 → X5 y43 H_5) → X5 y43 H_5
def F28_1 (Q : Bool → Hp → Prop) (y1 : (Option Addr)) (H_1 : Hp) : Prop :=
F28_L5 Q y1 0 H_1
def F28_3 (Q : Bool → Hp → Prop) (X2 : Int → Hp → Prop) (y9 : (Option Addr)) (y10 : Int) (H_3 : Hp) : Prop :=
X2 (IntKind.i64.wrap (y10 + 1)) H_3
def F28_L4b (Q : Bool → Hp → Prop) (X2 : Int → Hp → Prop) (X4 : Int → Hp → Prop) (y12 : (Option Addr)) (y13 : Int) (y11 : Int) (H_4 : Hp) : Prop :=
∃ a14 : Addr, y12 = some a14 ∧ (
 ∃ x17 : Sl, cell H_4 a14 = some (Sl.v x17) ∧ (
 ∃ a18 : Addr, (x17).b = some a18 ∧ (0 : Int) ≤ y13 ∧ y13 < ((x17).n : Int) ∧ (
 ∃ x23 : Sl, cell H_4 (Addr.add a18 (y13.toNat * 1)) = some (Sl.v x23) ∧ (
 ((decide (y11 < ((x23).n : Int))) = true → (∃ a25 : Addr, y12 = some a25 ∧ (
 ∃ x28 : Sl, cell H_4 a25 = some (Sl.v x28) ∧ (
 ∃ a29 : Addr, (x28).b = some a29 ∧ (0 : Int) ≤ y13 ∧ y13 < ((x28).n : Int) ∧ (
 ∃ x34 : Sl, cell H_4 (Addr.add a29 (y13.toNat * 1)) = some (Sl.v x34) ∧ (
 ∃ a35 : Addr, (x34).b = some a35 ∧ (0 : Int) ≤ y11 ∧ y11 < ((x34).n : Int) ∧ (
 ∃ (x40 : Int) (x41 : Int), cells H_4 (Addr.add a35 (y11.toNat * 2)) [(.int .i64 x40), (.int .i64 x41)] 0 ∧ (
 ((!(decide (x40 = (IntKind.i64.wrap (1000 + (IntKind.i64.wrap (Int.tdiv y13 (4 : Int)))))) && decide (x41 = 0))) = true → (Q false H_4)) ∧
 ((!(decide (x40 = (IntKind.i64.wrap (1000 + (IntKind.i64.wrap (Int.tdiv y13 (4 : Int)))))) && decide (x41 = 0))) = false → (X4 (IntKind.i64.wrap (y11 + 1)) H_4)))))))))) ∧
 ((decide (y11 < ((x23).n : Int))) = false → (F28_3 Q X2 y12 y13 H_4))))))
def F28_L4 (Q : Bool → Hp → Prop) (X2 : Int → Hp → Prop) (y12 : (Option Addr)) (y13 : Int) (y11 : Int) (H_4 : Hp) : Prop :=
  ∀ X4 : Int → Hp → Prop, (∀ (y11 : Int) (H_4 : Hp), F28_L4b Q X2 X4 y12 y13 y11 H_4 → X4 y11 H_4) → X4 y11 H_4
def F28_L2b (Q : Bool → Hp → Prop) (X2 : Int → Hp → Prop) (y3 : (Option Addr)) (y2 : Int) (H_2 : Hp) : Prop :=
∃ a4 : Addr, y3 = some a4 ∧ (
 ∃ x7 : Sl, cell H_2 a4 = some (Sl.v x7) ∧ (
 ((decide (y2 < ((x7).n : Int))) = true → (F28_L4 Q X2 y3 y2 0 H_2)) ∧
 ((decide (y2 < ((x7).n : Int))) = false → (F28_1 Q y3 H_2))))
def F28_L2 (Q : Bool → Hp → Prop) (y3 : (Option Addr)) (y2 : Int) (H_2 : Hp) : Prop :=
  ∀ X2 : Int → Hp → Prop, (∀ (y2 : Int) (H_2 : Hp), F28_L2b Q X2 y3 y2 H_2 → X2 y2 H_2) → X2 y2 H_2
def F28 (p0 : (Option Addr)) (H : Hp) (Q : Bool → Hp → Prop) : Prop :=
F28_L2 Q p0 0 H
set_option maxRecDepth 100000 in
set_option maxHeartbeats 4000000 in
theorem walk28 {w0 : World} {p0 : (Option Addr)} {H : Hp} {Q : Bool → Hp → Prop} (h : F28 p0 H Q) :
    Good Try.prog w0 28 #[(.pointer p0)] H (fun v H => ∃ (r0 : Bool) , v = (.bool r0) ∧ Q r0 H) := by
  unfold F28 at h
  refine Good.enter' (fn := Try.f28) Try.func28 rfl rfl rfl ?_
  refine HW.seq ?_
  refine HW.region ?_
  refine HList.vals (v := (.bool false)) rfl (HVal.assign' rfl) ?_
  refine HList.nil ?_
  refine nt ?_
  refine HW.cut (fun ρ H_1 => Env.Is ρ [(0, (.pointer p0))] ∧ F28_1 Q p0 H_1) ?_ ?_
  · refine HW.seq ?_
    refine HW.region ?_
    refine HList.vals (v := (.int .i64 0)) rfl (HVal.assign' rfl) ?_
    refine HList.nil ?_
    refine nt ?_
    refine HW.block ?_
    refine HW.loop' (fun L2 hL2 => ?_)
    obtain ⟨X2, hX2⟩ : ∃ X2 : Int → Hp → Prop, ∀ (y2 : Int) (H_2 : Hp), X2 y2 H_2 ↔ ∀ ρ, Env.Is ρ [(0, (.pointer p0)), (3, (.int .i64 y2))] → L2 ρ H_2 := ⟨_, fun _ _ => Iff.rfl⟩
    refine (hX2 _ _).1 (h X2 ?_) _ ?_
    rotate_left
    · exact ⟨rfl, rfl, trivial⟩
    clear h
    intro y2 H_2 h
    refine (hX2 _ _).2 fun ρ hI => ?_
    obtain ⟨ρ0, rfl⟩ : ∃ ρ0, ρ = (Env.set (Env.set ρ0 3 (.int .i64 y2)) 0 (.pointer p0)) := ⟨ρ, hI.eq⟩
    clear hI; unfold F28_L2b at h; refine hL2 _ _ ?_
    refine HW.seq ?_
    refine HW.seq ?_
    refine HW.region ?_
    refine HList.vals (v := (.int .i64 y2)) rfl (HVal.move' rfl) ?_
    refine HList.vals (v := (.pointer p0)) rfl (HVal.move' rfl) ?_
    obtain ⟨a4, e5, h⟩ := h
    refine HList.vals (v := (.pointer (some a4))) rfl (HVal.nilCheck (congrArg Value.pointer e5)) ?_
    refine HList.vals (v := (.pointer (some a4))) rfl (HVal.fieldAddr0 Try.runUnderlying64 rfl rfl Try.sizeOf61 rfl) ?_
    obtain ⟨x7, c6, h⟩ := h
    refine HList.vals (v := (Sl.v x7)) rfl (HVal.load1 Try.isAgg61 rfl c6) ?_
    refine HList.vals (v := (.int .i64 ((x7).n : Int))) rfl (HVal.len Try.runUnderlying61 rfl) ?_
    refine HList.vals (v := (.bool (decide (y2 < ((x7).n : Int))))) rfl (HVal.lss rfl rfl) ?_
    refine HList.nil ?_
    refine nt ?_
    obtain ⟨hT, hF⟩ := h
    refine HW.cond (decide (y2 < ((x7).n : Int))) rfl (fun hb8 => ?_) (fun hb8 => ?_)
    · have h := hT hb8
      clear hT hF
      refine HW.skip ?_
      refine nt ?_
      refine HW.cut (fun ρ H_3 => Env.Is ρ [(0, (.pointer p0)), (3, (.int .i64 y2))] ∧ F28_3 Q X2 p0 y2 H_3) ?_ ?_
      · refine HW.block ?_
        refine HW.seq ?_
        refine HW.region ?_
        refine HList.vals (v := (.int .i64 0)) rfl (HVal.assign' rfl) ?_
        refine HList.nil ?_
        refine nt ?_
        refine HW.block ?_
        refine HW.loop' (fun L4 hL4 => ?_)
        obtain ⟨X4, hX4⟩ : ∃ X4 : Int → Hp → Prop, ∀ (y11 : Int) (H_4 : Hp), X4 y11 H_4 ↔ ∀ ρ, Env.Is ρ [(0, (.pointer p0)), (3, (.int .i64 y2)), (4, (.int .i64 y11))] → L4 ρ H_4 := ⟨_, fun _ _ => Iff.rfl⟩
        refine (hX4 _ _).1 (h X4 ?_) _ ?_
        rotate_left
        · exact ⟨rfl, rfl, rfl, trivial⟩
        clear h
        intro y11 H_4 h
        refine (hX4 _ _).2 fun ρ hI => ?_
        obtain ⟨ρ0, rfl⟩ : ∃ ρ0, ρ = (Env.set (Env.set (Env.set ρ0 4 (.int .i64 y11)) 3 (.int .i64 y2)) 0 (.pointer p0)) := ⟨ρ, hI.eq⟩
        clear hI; unfold F28_L4b at h; refine hL4 _ _ ?_
        refine HW.seq ?_
        refine HW.seq ?_
        refine HW.region ?_
        refine HList.vals (v := (.int .i64 y11)) rfl (HVal.move' rfl) ?_
        refine HList.vals (v := (.pointer p0)) rfl (HVal.move' rfl) ?_
        obtain ⟨a14, e15, h⟩ := h
        refine HList.vals (v := (.pointer (some a14))) rfl (HVal.nilCheck (congrArg Value.pointer e15)) ?_
        refine HList.vals (v := (.pointer (some a14))) rfl (HVal.fieldAddr0 Try.runUnderlying64 rfl rfl Try.sizeOf61 rfl) ?_
        obtain ⟨x17, c16, h⟩ := h
        refine HList.vals (v := (Sl.v x17)) rfl (HVal.load1 Try.isAgg61 rfl c16) ?_
        refine HList.vals (v := (.int .i64 y2)) rfl (HVal.move' rfl) ?_
        obtain ⟨a18, e19, b20, b21, h⟩ := h
        refine HList.vals (v := (.pointer (some (Addr.add a18 (y2.toNat * 1))))) rfl (HVal.indexAddr Try.runUnderlying61 Try.sizeOf41 (Sl.v_some rfl e19) rfl b20 b21) ?_
        obtain ⟨x23, c22, h⟩ := h
        refine HList.vals (v := (Sl.v x23)) rfl (HVal.load1 Try.isAgg41 rfl c22) ?_
        refine HList.vals (v := (.int .i64 ((x23).n : Int))) rfl (HVal.len Try.runUnderlying41 rfl) ?_
        refine HList.vals (v := (.bool (decide (y11 < ((x23).n : Int))))) rfl (HVal.lss rfl rfl) ?_
        refine HList.nil ?_
        refine nt ?_
        obtain ⟨hT, hF⟩ := h
        refine HW.cond (decide (y11 < ((x23).n : Int))) rfl (fun hb24 => ?_) (fun hb24 => ?_)
        · have h := hT hb24
          clear hT hF
          refine HW.skip ?_
          refine nt ?_
          refine HW.seq ?_
          refine HW.block ?_
          refine HW.seq ?_
          refine HW.region ?_
          refine HList.vals (v := (.pointer p0)) rfl (HVal.move' rfl) ?_
          obtain ⟨a25, e26, h⟩ := h
          refine HList.vals (v := (.pointer (some a25))) rfl (HVal.nilCheck (congrArg Value.pointer e26)) ?_
          refine HList.vals (v := (.pointer (some a25))) rfl (HVal.fieldAddr0 Try.runUnderlying64 rfl rfl Try.sizeOf61 rfl) ?_
          obtain ⟨x28, c27, h⟩ := h
          refine HList.vals (v := (Sl.v x28)) rfl (HVal.load1 Try.isAgg61 rfl c27) ?_
          refine HList.vals (v := (.int .i64 y2)) rfl (HVal.move' rfl) ?_
          obtain ⟨a29, e30, b31, b32, h⟩ := h
          refine HList.vals (v := (.pointer (some (Addr.add a29 (y2.toNat * 1))))) rfl (HVal.indexAddr Try.runUnderlying61 Try.sizeOf41 (Sl.v_some rfl e30) rfl b31 b32) ?_
          obtain ⟨x34, c33, h⟩ := h
          refine HList.vals (v := (Sl.v x34)) rfl (HVal.load1 Try.isAgg41 rfl c33) ?_
          refine HList.vals (v := (.int .i64 y11)) rfl (HVal.move' rfl) ?_
          obtain ⟨a35, e36, b37, b38, h⟩ := h
          refine HList.vals (v := (.pointer (some (Addr.add a35 (y11.toNat * 2))))) rfl (HVal.indexAddr Try.runUnderlying41 Try.sizeOf32 (Sl.v_some rfl e36) rfl b37 b38) ?_
          obtain ⟨x40, x41, c39, h⟩ := h
          refine HList.vals (v := (.agg #[(.int .i64 x40), (.int .i64 x41)])) rfl (HVal.loadN [(.int .i64 x40), (.int .i64 x41)] Try.isAgg32 Try.sizeOf32 rfl c39) ?_
          refine HList.vals (v := (.int .i64 y2)) rfl (HVal.move' rfl) ?_
          refine HList.vals (v := (.int .i64 (IntKind.i64.wrap (Int.tdiv y2 (4 : Int))))) rfl (HVal.quo rfl rfl (by decide)) ?_
          refine HList.vals (v := (.int .i64 (IntKind.i64.wrap (1000 + (IntKind.i64.wrap (Int.tdiv y2 (4 : Int))))))) rfl (HVal.add rfl rfl) ?_
          refine HList.vals (v := (.agg #[(.int .i64 (IntKind.i64.wrap (1000 + (IntKind.i64.wrap (Int.tdiv y2 (4 : Int)))))), (.int .i64 0)])) rfl (HVal.build' (cs := [(.int .i64 (IntKind.i64.wrap (1000 + (IntKind.i64.wrap (Int.tdiv y2 (4 : Int)))))), (.int .i64 0)]) Try.runUnderlying32 Try.zeroValue32 places32 rfl) ?_
          refine HList.vals (v := (.bool (!(decide (x40 = (IntKind.i64.wrap (1000 + (IntKind.i64.wrap (Int.tdiv y2 (4 : Int)))))) && decide (x41 = 0))))) rfl (eqs32_neq rfl rfl) ?_
          refine HList.nil ?_
          refine nt ?_
          obtain ⟨hT, hF⟩ := h
          refine HW.cond (!(decide (x40 = (IntKind.i64.wrap (1000 + (IntKind.i64.wrap (Int.tdiv y2 (4 : Int)))))) && decide (x41 = 0))) rfl (fun hb42 => ?_) (fun hb42 => ?_)
          · have h := hT hb42
            clear hT hF
            refine HW.seq ?_
            refine HW.region ?_
            refine HList.vals (v := (.bool false)) rfl (HVal.assign' rfl) ?_
            refine HList.nil ?_
            refine nt ?_
            refine HW.ret ?_
            refine br ?_
            refine tr ?_
            refine tr ?_
            refine br ?_
            refine br ?_
            refine tr ?_
            refine tr ?_
            refine br ?_
            refine tr ?_
            exact ⟨_, resOf1 rfl Res1.t, ⟨false, rfl, h⟩⟩
          · have h := hF hb42
            clear hT hF
            refine HW.skip ?_
            refine nb ?_
            refine nt ?_
            refine HW.region ?_
            refine HList.vals (v := (.int .i64 y11)) rfl (HVal.move' rfl) ?_
            refine HList.vals (v := (.int .i64 (IntKind.i64.wrap (y11 + 1)))) rfl (HVal.add rfl rfl) ?_
            refine HList.vals (v := (.int .i64 (IntKind.i64.wrap (y11 + 1)))) rfl (HVal.assign' rfl) ?_
            refine HList.nil ?_
            refine nt ?_
            exact (hX4 _ _).1 h _ ⟨rfl, rfl, rfl, trivial⟩
        · have h := hF hb24
          clear hT hF
          refine HW.exit ?_
          refine te ?_
          refine te ?_
          refine be ?_
          refine nb ?_
          refine nt ?_
          exact ⟨⟨rfl, rfl, trivial⟩, h⟩
      · rintro ρ H_3 ⟨hI, h⟩
        obtain ⟨ρ0, rfl⟩ : ∃ ρ0, ρ = (Env.set (Env.set ρ0 3 (.int .i64 y2)) 0 (.pointer p0)) := ⟨ρ, hI.eq⟩
        clear hI; unfold F28_3 at h
        refine HW.region ?_
        refine HList.vals (v := (.int .i64 y2)) rfl (HVal.move' rfl) ?_
        refine HList.vals (v := (.int .i64 (IntKind.i64.wrap (y2 + 1)))) rfl (HVal.add rfl rfl) ?_
        refine HList.vals (v := (.int .i64 (IntKind.i64.wrap (y2 + 1)))) rfl (HVal.assign' rfl) ?_
        refine HList.nil ?_
        refine nt ?_
        exact (hX2 _ _).1 h _ ⟨rfl, rfl, trivial⟩
    · have h := hF hb8
      clear hT hF
      refine HW.exit ?_
      refine te ?_
      refine te ?_
      refine be ?_
      refine nt ?_
      exact ⟨⟨rfl, trivial⟩, h⟩
  · rintro ρ H_1 ⟨hI, h⟩
    obtain ⟨ρ0, rfl⟩ : ∃ ρ0, ρ = (Env.set ρ0 0 (.pointer p0)) := ⟨ρ, hI.eq⟩
    clear hI; unfold F28_1 at h
    refine HW.seq ?_
    refine HW.seq ?_
    refine HW.region ?_
    refine HList.vals (v := (.int .i64 0)) rfl (HVal.assign' rfl) ?_
    refine HList.nil ?_
    refine nt ?_
    refine HW.block ?_
    refine HW.loop' (fun L5 hL5 => ?_)
    obtain ⟨X5, hX5⟩ : ∃ X5 : Int → Hp → Prop, ∀ (y43 : Int) (H_5 : Hp), X5 y43 H_5 ↔ ∀ ρ, Env.Is ρ [(0, (.pointer p0)), (5, (.int .i64 y43))] → L5 ρ H_5 := ⟨_, fun _ _ => Iff.rfl⟩
    refine (hX5 _ _).1 (h X5 ?_) _ ?_
    rotate_left
    · exact ⟨rfl, rfl, trivial⟩
    clear h
    intro y43 H_5 h
    refine (hX5 _ _).2 fun ρ hI => ?_
    obtain ⟨ρ0, rfl⟩ : ∃ ρ0, ρ = (Env.set (Env.set ρ0 5 (.int .i64 y43)) 0 (.pointer p0)) := ⟨ρ, hI.eq⟩
    clear hI; unfold F28_L5b at h; refine hL5 _ _ ?_
    refine HW.seq ?_
    refine HW.seq ?_
    refine HW.region ?_
    refine HList.vals (v := (.int .i64 y43)) rfl (HVal.move' rfl) ?_
    refine HList.vals (v := (.pointer p0)) rfl (HVal.move' rfl) ?_
    obtain ⟨a45, e46, h⟩ := h
    refine HList.vals (v := (.pointer (some a45))) rfl (HVal.nilCheck (congrArg Value.pointer e46)) ?_
    refine HList.vals (v := (.pointer (some (Addr.add a45 1)))) rfl (HVal.fieldAddr' Try.runUnderlying64 rfl rfl Try.sizeOf62 rfl) ?_
    obtain ⟨x48, c47, h⟩ := h
    refine HList.vals (v := (Sl.v x48)) rfl (HVal.load1 Try.isAgg62 rfl c47) ?_
    refine HList.vals (v := (.int .i64 ((x48).n : Int))) rfl (HVal.len Try.runUnderlying62 rfl) ?_
    refine HList.vals (v := (.bool (decide (y43 < ((x48).n : Int))))) rfl (HVal.lss rfl rfl) ?_
    refine HList.nil ?_
    refine nt ?_
    obtain ⟨hT, hF⟩ := h
    refine HW.cond (decide (y43 < ((x48).n : Int))) rfl (fun hb49 => ?_) (fun hb49 => ?_)
    · have h := hT hb49
      clear hT hF
      refine HW.skip ?_
      refine nt ?_
      refine HW.cut (fun ρ H_6 => Env.Is ρ [(0, (.pointer p0)), (5, (.int .i64 y43))] ∧ F28_6 Q X5 p0 y43 H_6) ?_ ?_
      · refine HW.block ?_
        refine HW.seq ?_
        refine HW.region ?_
        refine HList.vals (v := (.int .i64 0)) rfl (HVal.assign' rfl) ?_
        refine HList.nil ?_
        refine nt ?_
        refine HW.block ?_
        refine HW.loop' (fun L7 hL7 => ?_)
        obtain ⟨X7, hX7⟩ : ∃ X7 : Int → Hp → Prop, ∀ (y52 : Int) (H_7 : Hp), X7 y52 H_7 ↔ ∀ ρ, Env.Is ρ [(0, (.pointer p0)), (5, (.int .i64 y43)), (6, (.int .i64 y52))] → L7 ρ H_7 := ⟨_, fun _ _ => Iff.rfl⟩
        refine (hX7 _ _).1 (h X7 ?_) _ ?_
        rotate_left
        · exact ⟨rfl, rfl, rfl, trivial⟩
        clear h
        intro y52 H_7 h
        refine (hX7 _ _).2 fun ρ hI => ?_
        obtain ⟨ρ0, rfl⟩ : ∃ ρ0, ρ = (Env.set (Env.set (Env.set ρ0 6 (.int .i64 y52)) 5 (.int .i64 y43)) 0 (.pointer p0)) := ⟨ρ, hI.eq⟩
        clear hI; unfold F28_L7b at h; refine hL7 _ _ ?_
        refine HW.seq ?_
        refine HW.seq ?_
        refine HW.region ?_
        refine HList.vals (v := (.int .i64 y52)) rfl (HVal.move' rfl) ?_
        refine HList.vals (v := (.pointer p0)) rfl (HVal.move' rfl) ?_
        obtain ⟨a55, e56, h⟩ := h
        refine HList.vals (v := (.pointer (some a55))) rfl (HVal.nilCheck (congrArg Value.pointer e56)) ?_
        refine HList.vals (v := (.pointer (some (Addr.add a55 1)))) rfl (HVal.fieldAddr' Try.runUnderlying64 rfl rfl Try.sizeOf62 rfl) ?_
        obtain ⟨x58, c57, h⟩ := h
        refine HList.vals (v := (Sl.v x58)) rfl (HVal.load1 Try.isAgg62 rfl c57) ?_
        refine HList.vals (v := (.int .i64 y43)) rfl (HVal.move' rfl) ?_
        obtain ⟨a59, e60, b61, b62, h⟩ := h
        refine HList.vals (v := (.pointer (some (Addr.add a59 (y43.toNat * 1))))) rfl (HVal.indexAddr Try.runUnderlying62 Try.sizeOf50 (Sl.v_some rfl e60) rfl b61 b62) ?_
        obtain ⟨x64, c63, h⟩ := h
        refine HList.vals (v := (Sl.v x64)) rfl (HVal.load1 Try.isAgg50 rfl c63) ?_
        refine HList.vals (v := (.int .i64 ((x64).n : Int))) rfl (HVal.len Try.runUnderlying50 rfl) ?_
        refine HList.vals (v := (.bool (decide (y52 < ((x64).n : Int))))) rfl (HVal.lss rfl rfl) ?_
        refine HList.nil ?_
        refine nt ?_
        obtain ⟨hT, hF⟩ := h
        refine HW.cond (decide (y52 < ((x64).n : Int))) rfl (fun hb65 => ?_) (fun hb65 => ?_)
        · have h := hT hb65
          clear hT hF
          refine HW.skip ?_
          refine nt ?_
          refine HW.seq ?_
          refine HW.block ?_
          refine HW.seq ?_
          refine HW.region ?_
          refine HList.vals (v := (.pointer p0)) rfl (HVal.move' rfl) ?_
          obtain ⟨a66, e67, h⟩ := h
          refine HList.vals (v := (.pointer (some a66))) rfl (HVal.nilCheck (congrArg Value.pointer e67)) ?_
          refine HList.vals (v := (.pointer (some (Addr.add a66 1)))) rfl (HVal.fieldAddr' Try.runUnderlying64 rfl rfl Try.sizeOf62 rfl) ?_
          obtain ⟨x69, c68, h⟩ := h
          refine HList.vals (v := (Sl.v x69)) rfl (HVal.load1 Try.isAgg62 rfl c68) ?_
          refine HList.vals (v := (.int .i64 y43)) rfl (HVal.move' rfl) ?_
          obtain ⟨a70, e71, b72, b73, h⟩ := h
          refine HList.vals (v := (.pointer (some (Addr.add a70 (y43.toNat * 1))))) rfl (HVal.indexAddr Try.runUnderlying62 Try.sizeOf50 (Sl.v_some rfl e71) rfl b72 b73) ?_
          obtain ⟨x75, c74, h⟩ := h
          refine HList.vals (v := (Sl.v x75)) rfl (HVal.load1 Try.isAgg50 rfl c74) ?_
          refine HList.vals (v := (.int .i64 y52)) rfl (HVal.move' rfl) ?_
          obtain ⟨a76, e77, b78, b79, h⟩ := h
          refine HList.vals (v := (.pointer (some (Addr.add a76 (y52.toNat * 1))))) rfl (HVal.indexAddr Try.runUnderlying50 Try.sizeOf3 (Sl.v_some rfl e77) rfl b78 b79) ?_
          obtain ⟨x81, c80, h⟩ := h
          refine HList.vals (v := (.int .i64 x81)) rfl (HVal.load1 Try.isAgg3 rfl c80) ?_
          refine HList.vals (v := (.int .i64 y43)) rfl (HVal.move' rfl) ?_
          refine HList.vals (v := (.int .i64 (IntKind.i64.wrap (Int.tdiv y43 (4 : Int))))) rfl (HVal.quo rfl rfl (by decide)) ?_
          refine HList.vals (v := (.int .i64 (IntKind.i64.wrap (1000000 + (IntKind.i64.wrap (Int.tdiv y43 (4 : Int))))))) rfl (HVal.add rfl rfl) ?_
          refine HList.vals (v := (.bool (decide (x81 ≠ (IntKind.i64.wrap (1000000 + (IntKind.i64.wrap (Int.tdiv y43 (4 : Int))))))))) rfl (HVal.neqI rfl rfl) ?_
          refine HList.nil ?_
          refine nt ?_
          obtain ⟨hT, hF⟩ := h
          refine HW.cond (decide (x81 ≠ (IntKind.i64.wrap (1000000 + (IntKind.i64.wrap (Int.tdiv y43 (4 : Int))))))) rfl (fun hb82 => ?_) (fun hb82 => ?_)
          · have h := hT hb82
            clear hT hF
            refine HW.seq ?_
            refine HW.region ?_
            refine HList.vals (v := (.bool false)) rfl (HVal.assign' rfl) ?_
            refine HList.nil ?_
            refine nt ?_
            refine HW.ret ?_
            refine br ?_
            refine tr ?_
            refine tr ?_
            refine br ?_
            refine br ?_
            refine tr ?_
            refine tr ?_
            refine br ?_
            refine tr ?_
            exact ⟨_, resOf1 rfl Res1.t, ⟨false, rfl, h⟩⟩
          · have h := hF hb82
            clear hT hF
            refine HW.skip ?_
            refine nb ?_
            refine nt ?_
            refine HW.region ?_
            refine HList.vals (v := (.int .i64 y52)) rfl (HVal.move' rfl) ?_
            refine HList.vals (v := (.int .i64 (IntKind.i64.wrap (y52 + 1)))) rfl (HVal.add rfl rfl) ?_
            refine HList.vals (v := (.int .i64 (IntKind.i64.wrap (y52 + 1)))) rfl (HVal.assign' rfl) ?_
            refine HList.nil ?_
            refine nt ?_
            exact (hX7 _ _).1 h _ ⟨rfl, rfl, rfl, trivial⟩
        · have h := hF hb65
          clear hT hF
          refine HW.exit ?_
          refine te ?_
          refine te ?_
          refine be ?_
          refine nb ?_
          refine nt ?_
          exact ⟨⟨rfl, rfl, trivial⟩, h⟩
      · rintro ρ H_6 ⟨hI, h⟩
        obtain ⟨ρ0, rfl⟩ : ∃ ρ0, ρ = (Env.set (Env.set ρ0 5 (.int .i64 y43)) 0 (.pointer p0)) := ⟨ρ, hI.eq⟩
        clear hI; unfold F28_6 at h
        refine HW.region ?_
        refine HList.vals (v := (.int .i64 y43)) rfl (HVal.move' rfl) ?_
        refine HList.vals (v := (.int .i64 (IntKind.i64.wrap (y43 + 1)))) rfl (HVal.add rfl rfl) ?_
        refine HList.vals (v := (.int .i64 (IntKind.i64.wrap (y43 + 1)))) rfl (HVal.assign' rfl) ?_
        refine HList.nil ?_
        refine nt ?_
        exact (hX5 _ _).1 h _ ⟨rfl, rfl, trivial⟩
    · have h := hF hb49
      clear hT hF
      refine HW.exit ?_
      refine te ?_
      refine te ?_
      refine be ?_
      refine nt ?_
      refine HW.seq ?_
      refine HW.region ?_
      refine HList.vals (v := (.bool true)) rfl (HVal.assign' rfl) ?_
      refine HList.nil ?_
      refine nt ?_
      refine HW.ret ?_
      exact ⟨_, resOf1 rfl Res1.t, ⟨true, rfl, h⟩⟩

end Go.Hw
