/- The walks of this seat, printed by a program of this session (wip/tools/gen.py): of each function what it does to the heap, and that it does so. -/
import Derived.Test.YtmjoeilahbfonaaDoorHwS
import Derived.Test.YtmjoeilahbfonaaDoorProg
import Derived.Test.YtmjoeilahbfonaaDoorWAux
import Derived.Test.YtmjoeilahbfonaaDoorWLib
set_option linter.unusedVariables false
set_option linter.unusedSimpArgs false
namespace Go.Hw
open Go Go.Proofs
def F31_1 (Q : Bool → Hp → Prop) (y1 : Sl) (H_1 : Hp) : Prop :=
((decide ((0 : Int) < ((y1).n : Int))) = true → (Q (decide (((y1).n : Int) ≤ 64)) H_1)) ∧
 ((decide ((0 : Int) < ((y1).n : Int))) = false → (Q false H_1))
def F31_3 (Q : Bool → Hp → Prop) (X2 : Int → Hp → Prop) (y13 : Sl) (y14 : Sl) (y15 : Int) (y16 : Int) (y19 : Bool) (H_3 : Hp) : Prop :=
(y19 = true → (Q false H_3)) ∧
 (y19 = false → (X2 (IntKind.i64.wrap (y16 + 1)) H_3))
def F31_L2b (Q : Bool → Hp → Prop) (X2 : Int → Hp → Prop) (y3 : Sl) (y4 : Sl) (y5 : Int) (y2 : Int) (H_2 : Hp) : Prop :=
((decide (y2 < y5)) = true → (∃ a7 : Addr, (y4).b = some a7 ∧ (0 : Int) ≤ y2 ∧ y2 < ((y4).n : Int) ∧ (
 ∃ x12 : Int, cell H_2 (Addr.add a7 (y2.toNat * 1)) = some (.int .i64 x12) ∧ (
 ((decide (x12 < 0)) = true → (F31_3 Q X2 y3 y4 y5 y2 true H_2)) ∧
 ((decide (x12 < 0)) = false → (F31_3 Q X2 y3 y4 y5 y2 (decide ((2147483647 : Int) < x12)) H_2)))))) ∧
 ((decide (y2 < y5)) = false → (F31_1 Q y3 H_2))
def F31_L2 (Q : Bool → Hp → Prop) (y3 : Sl) (y4 : Sl) (y5 : Int) (y2 : Int) (H_2 : Hp) : Prop :=
  ∀ X2 : Int → Hp → Prop, (∀ (y2 : Int) (H_2 : Hp), F31_L2b Q X2 y3 y4 y5 y2 H_2 → X2 y2 H_2) → X2 y2 H_2
def F31 (p0 : Sl) (H : Hp) (Q : Bool → Hp → Prop) : Prop :=
F31_L2 Q p0 p0 ((p0).n : Int) 0 H
set_option maxRecDepth 100000 in
set_option maxHeartbeats 4000000 in
theorem walk31 {w0 : World} {p0 : Sl} {H : Hp} {Q : Bool → Hp → Prop} (h : F31 p0 H Q) :
    Good Tryd.prog w0 31 #[(Sl.v p0)] H (fun v H => ∃ (r0 : Bool) , v = (.bool r0) ∧ Q r0 H) := by
  unfold F31 at h
  refine Good.enter' (fn := Tryd.f31) Tryd.func31 rfl rfl rfl ?_
  refine HW.seq ?_
  refine HW.region ?_
  refine HList.vals (v := (.bool false)) rfl (HVal.assign' rfl) ?_
  refine HList.nil ?_
  refine nt ?_
  refine HW.cut (fun ρ H_1 => Env.Is ρ [(0, (Sl.v p0))] ∧ F31_1 Q p0 H_1) ?_ ?_
  · refine HW.seq ?_
    refine HW.region ?_
    refine HList.vals (v := (Sl.v p0)) rfl (HVal.move' rfl) ?_
    refine HList.vals (v := (.int .i64 ((p0).n : Int))) rfl (HVal.len Tryd.runUnderlying22 rfl) ?_
    refine HList.vals (v := (.int .i64 0)) rfl (HVal.move' rfl) ?_
    refine HList.nil ?_
    refine nt ?_
    refine HW.block ?_
    refine HW.loop' (fun L2 hL2 => ?_)
    obtain ⟨X2, hX2⟩ : ∃ X2 : Int → Hp → Prop, ∀ (y2 : Int) (H_2 : Hp), X2 y2 H_2 ↔ ∀ ρ, Env.Is ρ [(0, (Sl.v p0)), (5, (Sl.v p0)), (6, (.int .i64 ((p0).n : Int))), (7, (.int .i64 y2))] → L2 ρ H_2 := ⟨_, fun _ _ => Iff.rfl⟩
    refine (hX2 _ _).1 (h X2 ?_) _ ?_
    rotate_left
    · exact ⟨rfl, rfl, rfl, rfl, trivial⟩
    clear h
    intro y2 H_2 h
    refine (hX2 _ _).2 fun ρ hI => ?_
    obtain ⟨ρ0, rfl⟩ : ∃ ρ0, ρ = (Env.set (Env.set (Env.set (Env.set ρ0 7 (.int .i64 y2)) 6 (.int .i64 ((p0).n : Int))) 5 (Sl.v p0)) 0 (Sl.v p0)) := ⟨ρ, hI.eq⟩
    clear hI; unfold F31_L2b at h; refine hL2 _ _ ?_
    refine HW.seq ?_
    refine HW.region ?_
    refine HList.vals (v := (.bool (decide (y2 < ((p0).n : Int))))) rfl (HVal.lss rfl rfl) ?_
    refine HList.nil ?_
    refine nt ?_
    refine HW.seq ?_
    obtain ⟨hT, hF⟩ := h
    refine HW.cond (decide (y2 < ((p0).n : Int))) rfl (fun hb6 => ?_) (fun hb6 => ?_)
    · have h := hT hb6
      clear hT hF
      refine HW.skip ?_
      refine nt ?_
      refine HW.seq ?_
      refine HW.block ?_
      refine HW.seq ?_
      refine HW.region ?_
      obtain ⟨a7, e8, b9, b10, h⟩ := h
      refine HList.vals (v := (.pointer (some (Addr.add a7 (y2.toNat * 1))))) rfl (HVal.indexAddr Tryd.runUnderlying22 Tryd.sizeOf3 (Sl.v_some rfl e8) rfl b9 b10) ?_
      obtain ⟨x12, c11, h⟩ := h
      refine HList.vals (v := (.int .i64 x12)) rfl (HVal.load1 Tryd.isAgg3 rfl c11) ?_
      refine HList.vals (v := (.int .i64 x12)) rfl (HVal.assign' rfl) ?_
      refine HList.nil ?_
      refine nt ?_
      refine HW.cut (fun ρ H_3 => ∃ (y19 : Bool), Env.Is ρ [(0, (Sl.v p0)), (5, (Sl.v p0)), (6, (.int .i64 ((p0).n : Int))), (7, (.int .i64 y2)), (16, (.bool y19))] ∧ F31_3 Q X2 p0 p0 ((p0).n : Int) y2 y19 H_3) ?_ ?_
      · refine HW.region ?_
        refine HList.vals (v := (.int .i64 x12)) rfl (HVal.move' rfl) ?_
        refine HList.vals (v := (.bool (decide (x12 < 0)))) rfl (HVal.lss rfl rfl) ?_
        refine HList.vals (v := (.bool (decide (x12 < 0)))) rfl (HVal.move' rfl) ?_
        obtain ⟨hT, hF⟩ := h
        rcases Bool.eq_false_or_eq_true (decide (x12 < 0)) with hb17 | hb18
        · have h := hT hb17
          clear hT hF
          refine HList.gskips rfl rfl rfl rfl (congrArg Value.bool hb17) ?_
          refine HList.gskips rfl rfl rfl rfl (congrArg Value.bool hb17) ?_
          refine HList.vals (v := (.bool true)) rfl (HVal.pickT rfl hb17 rfl) ?_
          refine HList.nil ?_
          refine nt ?_
          exact ⟨true, ⟨rfl, rfl, rfl, rfl, rfl, trivial⟩, h⟩
        · have h := hF hb18
          clear hT hF
          refine HList.gvals (v := (.int .i64 x12)) rfl rfl rfl rfl (congrArg Value.bool hb18) (HVal.move' rfl) ?_
          refine HList.gvals (v := (.bool (decide ((2147483647 : Int) < x12)))) rfl rfl rfl rfl (congrArg Value.bool hb18) (HVal.gtr rfl rfl) ?_
          refine HList.vals (v := (.bool (decide ((2147483647 : Int) < x12)))) rfl (HVal.pickF rfl hb18 rfl) ?_
          refine HList.nil ?_
          refine nt ?_
          exact ⟨(decide ((2147483647 : Int) < x12)), ⟨rfl, rfl, rfl, rfl, rfl, trivial⟩, h⟩
      · rintro ρ H_3 ⟨y19, hI, h⟩
        obtain ⟨ρ0, rfl⟩ : ∃ ρ0, ρ = (Env.set (Env.set (Env.set (Env.set (Env.set ρ0 16 (.bool y19)) 7 (.int .i64 y2)) 6 (.int .i64 ((p0).n : Int))) 5 (Sl.v p0)) 0 (Sl.v p0)) := ⟨ρ, hI.eq⟩
        clear hI; unfold F31_3 at h
        obtain ⟨hT, hF⟩ := h
        refine HW.cond y19 rfl (fun hb20 => ?_) (fun hb20 => ?_)
        · have h := hT hb20
          clear hT hF
          refine HW.seq ?_
          refine HW.region ?_
          refine HList.vals (v := (.bool false)) rfl (HVal.assign' rfl) ?_
          refine HList.nil ?_
          refine nt ?_
          refine HW.ret ?_
          refine br ?_
          refine tr ?_
          refine tr ?_
          refine br ?_
          refine tr ?_
          exact ⟨_, resOf1 rfl Res1.t, ⟨false, rfl, h⟩⟩
        · have h := hF hb20
          clear hT hF
          refine HW.skip ?_
          refine nb ?_
          refine nt ?_
          refine HW.region ?_
          refine HList.vals (v := (.int .i64 (IntKind.i64.wrap (y2 + 1)))) rfl (HVal.add rfl rfl) ?_
          refine HList.vals (v := (.int .i64 (IntKind.i64.wrap (y2 + 1)))) rfl (HVal.move' rfl) ?_
          refine HList.nil ?_
          refine nt ?_
          exact (hX2 _ _).1 h _ ⟨rfl, rfl, rfl, rfl, trivial⟩
    · have h := hF hb6
      clear hT hF
      refine HW.exit ?_
      refine te ?_
      refine te ?_
      refine be ?_
      refine nt ?_
      exact ⟨⟨rfl, trivial⟩, h⟩
  · rintro ρ H_1 ⟨hI, h⟩
    obtain ⟨ρ0, rfl⟩ : ∃ ρ0, ρ = (Env.set ρ0 0 (Sl.v p0)) := ⟨ρ, hI.eq⟩
    clear hI; unfold F31_1 at h
    refine HW.seq ?_
    refine HW.region ?_
    refine HList.vals (v := (Sl.v p0)) rfl (HVal.move' rfl) ?_
    refine HList.vals (v := (.int .i64 ((p0).n : Int))) rfl (HVal.len Tryd.runUnderlying22 rfl) ?_
    refine HList.vals (v := (.bool (decide ((0 : Int) < ((p0).n : Int))))) rfl (HVal.gtr rfl rfl) ?_
    refine HList.vals (v := (.bool (decide ((0 : Int) < ((p0).n : Int))))) rfl (HVal.move' rfl) ?_
    obtain ⟨hT, hF⟩ := h
    rcases Bool.eq_false_or_eq_true (decide ((0 : Int) < ((p0).n : Int))) with hb21 | hb22
    · have h := hT hb21
      clear hT hF
      refine HList.gvals (v := (Sl.v p0)) rfl rfl rfl rfl (congrArg Value.bool hb21) (HVal.move' rfl) ?_
      refine HList.gvals (v := (.int .i64 ((p0).n : Int))) rfl rfl rfl rfl (congrArg Value.bool hb21) (HVal.len Tryd.runUnderlying22 rfl) ?_
      refine HList.gvals (v := (.bool (decide (((p0).n : Int) ≤ 64)))) rfl rfl rfl rfl (congrArg Value.bool hb21) (HVal.leq rfl rfl) ?_
      refine HList.vals (v := (.bool (decide (((p0).n : Int) ≤ 64)))) rfl (HVal.pickT rfl hb21 rfl) ?_
      refine HList.vals (v := (.bool (decide (((p0).n : Int) ≤ 64)))) rfl (HVal.assign' rfl) ?_
      refine HList.nil ?_
      refine nt ?_
      refine HW.ret ?_
      exact ⟨_, resOf1 rfl Res1.t, ⟨(decide (((p0).n : Int) ≤ 64)), rfl, h⟩⟩
    · have h := hF hb22
      clear hT hF
      refine HList.gskips rfl rfl rfl rfl (congrArg Value.bool hb22) ?_
      refine HList.gskips rfl rfl rfl rfl (congrArg Value.bool hb22) ?_
      refine HList.gskips rfl rfl rfl rfl (congrArg Value.bool hb22) ?_
      refine HList.vals (v := (.bool false)) rfl (HVal.pickF rfl hb22 rfl) ?_
      refine HList.vals (v := (.bool false)) rfl (HVal.assign' rfl) ?_
      refine HList.nil ?_
      refine nt ?_
      refine HW.ret ?_
      exact ⟨_, resOf1 rfl Res1.t, ⟨false, rfl, h⟩⟩

def F11 (p0 : Sl) (H : Hp) (Q : Sl → Int → Hp → Prop) : Prop :=
F31 p0 H (fun (r3 : Bool) (H1 : Hp) => 
 ((!r3) = true → (Q Sl.nil 120 H1)) ∧
 ((!r3) = false → (∃ a5 : Addr, (p0).b = some a5 ∧ (0 : Int) ≤ (IntKind.i64.wrap (((p0).n : Int) - 1)) ∧ (IntKind.i64.wrap (((p0).n : Int) - 1)) < ((p0).n : Int) ∧ (
 ∃ x10 : Int, cell H1 (Addr.add a5 ((IntKind.i64.wrap (((p0).n : Int) - 1)).toNat * 1)) = some (.int .i64 x10) ∧ (
 ((decide (x10 = 2147483647)) = true → (Q Sl.nil 4 H1)) ∧
 ((decide (x10 = 2147483647)) = false → ((0 : Int) ≤ (IntKind.i64.wrap (((p0).n : Int) - 1)) ∧ (0 : Int) ≤ (IntKind.i64.wrap (((p0).n : Int) - 1)) ∧ 0 ≤ (IntKind.i64.wrap (((p0).n : Int) - 1)).toNat ∧ (IntKind.i64.wrap (((p0).n : Int) - 1)).toNat ≤ (IntKind.i64.wrap (((p0).n : Int) - 1)).toNat ∧ (IntKind.i64.wrap (((p0).n : Int) - 1)).toNat ≤ (p0).c ∧ (
 ∃ a17 : Addr, (p0).b = some a17 ∧ (0 : Int) ≤ (IntKind.i64.wrap (((p0).n : Int) - 1)) ∧ (IntKind.i64.wrap (((p0).n : Int) - 1)) < ((p0).n : Int) ∧ (
 ∃ x22 : Int, cell H1 (Addr.add a17 ((IntKind.i64.wrap (((p0).n : Int) - 1)).toNat * 1)) = some (.int .i64 x22) ∧ (
 ∀ H23 : Hp, H23 = Array.push H1 (.cells #[(.int .i64 (IntKind.i64.wrap (x22 + 1)))] 3) → (
 cell H23 (Addr.add a17 ((IntKind.i64.wrap (((p0).n : Int) - 1)).toNat * 1)) = some (.int .i64 x22) ∧ (
 AppendF H23 3 1 8 #[(.int .i64 0)] (Sl.cut p0 1 0 ((IntKind.i64.wrap (((p0).n : Int) - 1)).toNat) ((IntKind.i64.wrap (((p0).n : Int) - 1)).toNat)) ((Sl.mk (some ⟨H1.size, 0, none⟩) 1 1)).b ((Sl.mk (some ⟨H1.size, 0, none⟩) 1 1)).n (fun (r28 : Sl) (H26 : Hp) => 
 cell H26 (Addr.add a17 ((IntKind.i64.wrap (((p0).n : Int) - 1)).toNat * 1)) = some (.int .i64 x22) ∧ (
 Q r28 0 H26))))))))))))))
set_option maxRecDepth 100000 in
set_option maxHeartbeats 4000000 in
theorem walk11 {w0 : World} {p0 : Sl} {H : Hp} {Q : Sl → Int → Hp → Prop} (h : F11 p0 H Q) :
    Good Tryd.prog w0 11 #[(Sl.v p0)] H (fun v H => ∃ (r0 : Sl) (r1 : Int) , v = (.tuple #[(Sl.v r0), (.int .i64 r1)]) ∧ Q r0 r1 H) := by
  unfold F11 at h
  refine Good.enter' (fn := Tryd.f11) Tryd.func11 rfl rfl rfl ?_
  refine HW.seq ?_
  refine HW.region ?_
  refine HList.vals (v := (Sl.v Sl.nil)) rfl (HVal.assign' rfl) ?_
  refine HList.vals (v := (.int .i64 0)) rfl (HVal.assign' rfl) ?_
  refine HList.nil ?_
  refine nt ?_
  refine HW.seq ?_
  refine HW.seq ?_
  refine HW.region ?_
  refine HList.vals (v := (Sl.v p0)) rfl (HVal.move' rfl) ?_
  refine HList.ops' rfl (HOp.call' 31 [(Sl.v p0)] (cap := []) rfl rfl Tryd.call31 (walk31 h)) ?_
  rintro _ H1 ⟨r3, rfl, h⟩
  refine HList.vals (v := (.bool (!r3))) rfl (HVal.not rfl) ?_
  refine HList.nil ?_
  refine nt ?_
  obtain ⟨hT, hF⟩ := h
  refine HW.cond (!r3) rfl (fun hb4 => ?_) (fun hb4 => ?_)
  · have h := hT hb4
    clear hT hF
    refine HW.seq ?_
    refine HW.region ?_
    refine HList.vals (v := (Sl.v Sl.nil)) rfl (HVal.assign' rfl) ?_
    refine HList.vals (v := (.int .i64 120)) rfl (HVal.assign' rfl) ?_
    refine HList.nil ?_
    refine nt ?_
    refine HW.ret ?_
    refine tr ?_
    exact ⟨_, resOf2 rfl Res1.t Res1.t, ⟨Sl.nil, 120, rfl, h⟩⟩
  · have h := hF hb4
    clear hT hF
    refine HW.skip ?_
    refine nt ?_
    refine HW.seq ?_
    refine HW.region ?_
    refine HList.vals (v := (Sl.v p0)) rfl (HVal.move' rfl) ?_
    refine HList.vals (v := (.int .i64 ((p0).n : Int))) rfl (HVal.len Tryd.runUnderlying22 rfl) ?_
    refine HList.vals (v := (.int .i64 (IntKind.i64.wrap (((p0).n : Int) - 1)))) rfl (HVal.sub rfl rfl) ?_
    refine HList.vals (v := (.int .i64 (IntKind.i64.wrap (((p0).n : Int) - 1)))) rfl (HVal.assign' rfl) ?_
    refine HList.nil ?_
    refine nt ?_
    refine HW.seq ?_
    refine HW.seq ?_
    refine HW.region ?_
    refine HList.vals (v := (Sl.v p0)) rfl (HVal.move' rfl) ?_
    refine HList.vals (v := (.int .i64 (IntKind.i64.wrap (((p0).n : Int) - 1)))) rfl (HVal.move' rfl) ?_
    obtain ⟨a5, e6, b7, b8, h⟩ := h
    refine HList.vals (v := (.pointer (some (Addr.add a5 ((IntKind.i64.wrap (((p0).n : Int) - 1)).toNat * 1))))) rfl (HVal.indexAddr Tryd.runUnderlying22 Tryd.sizeOf3 (Sl.v_some rfl e6) rfl b7 b8) ?_
    obtain ⟨x10, c9, h⟩ := h
    refine HList.vals (v := (.int .i64 x10)) rfl (HVal.load1 Tryd.isAgg3 rfl c9) ?_
    refine HList.vals (v := (.bool (decide (x10 = 2147483647)))) rfl (HVal.eqlI rfl rfl) ?_
    refine HList.nil ?_
    refine nt ?_
    obtain ⟨hT, hF⟩ := h
    refine HW.cond (decide (x10 = 2147483647)) rfl (fun hb11 => ?_) (fun hb11 => ?_)
    · have h := hT hb11
      clear hT hF
      refine HW.seq ?_
      refine HW.region ?_
      refine HList.vals (v := (Sl.v Sl.nil)) rfl (HVal.assign' rfl) ?_
      refine HList.vals (v := (.int .i64 4)) rfl (HVal.assign' rfl) ?_
      refine HList.nil ?_
      refine nt ?_
      refine HW.ret ?_
      refine tr ?_
      exact ⟨_, resOf2 rfl Res1.t Res1.t, ⟨Sl.nil, 4, rfl, h⟩⟩
    · have h := hF hb11
      clear hT hF
      refine HW.skip ?_
      refine nt ?_
      refine HW.seq ?_
      refine HW.draw mixed [(0, some []), (1, some []), (2, some []), (3, some []), (4, some []), (5, some []), (6, some []), (7, some []), (8, some []), (9, none), (10, none), (11, some []), (12, some [])] rfl (by kernel_rfl) (by kernel_rfl) ?_
      refine HPlan.takev (v := (Sl.v p0)) rfl rfl (fun _ => HVal.move' rfl) ?_
      refine HPlan.takev (v := (.int .i64 (IntKind.i64.wrap (((p0).n : Int) - 1)))) rfl rfl (fun _ => HVal.move' rfl) ?_
      refine HPlan.takev (v := (.int .i64 (IntKind.i64.wrap (((p0).n : Int) - 1)))) rfl rfl (fun _ => HVal.move' rfl) ?_
      obtain ⟨z12, z13, z14, z15, z16, h⟩ := h
      refine HPlan.takev (v := (Sl.v (Sl.cut p0 1 0 ((IntKind.i64.wrap (((p0).n : Int) - 1)).toNat) ((IntKind.i64.wrap (((p0).n : Int) - 1)).toNat)))) rfl rfl (fun _ => HVal.slice _ _ _ Tryd.runUnderlying22 Tryd.sizeOf3 rfl rfl ⟨_, _, rfl, z12, rfl⟩ ⟨_, _, rfl, z13, rfl⟩ (by decide) z14 z15 z16) ?_
      refine HPlan.takev (v := (Sl.v p0)) rfl rfl (fun _ => HVal.move' rfl) ?_
      refine HPlan.takev (v := (.int .i64 (IntKind.i64.wrap (((p0).n : Int) - 1)))) rfl rfl (fun _ => HVal.move' rfl) ?_
      obtain ⟨a17, e18, b19, b20, h⟩ := h
      refine HPlan.takev (v := (.pointer (some (Addr.add a17 ((IntKind.i64.wrap (((p0).n : Int) - 1)).toNat * 1))))) rfl rfl (fun _ => HVal.indexAddr Tryd.runUnderlying22 Tryd.sizeOf3 (Sl.v_some rfl e18) rfl b19 b20) ?_
      obtain ⟨x22, c21, h⟩ := h
      refine HPlan.takel (v := (.int .i64 x22)) (fun X => cell X (Addr.add a17 ((IntKind.i64.wrap (((p0).n : Int) - 1)).toNat * 1)) = some (.int .i64 x22)) rfl rfl (fun _ hX => HVal.load1 Tryd.isAgg3 rfl hX) c21 ?_
      refine HPlan.takev (v := (.int .i64 (IntKind.i64.wrap (x22 + 1)))) rfl rfl (fun _ => HVal.add rfl rfl) ?_
      refine HPlan.ops' rfl rfl (HOp.buildSlice' (zs := [(.int .i64 0)]) (cs := [(.int .i64 (IntKind.i64.wrap (x22 + 1)))]) Tryd.runUnderlying22 Tryd.sizeOf3 Tryd.zeroValue3 (by decide) (by kernel_rfl) rfl (by decide)) ?_
      rintro _ H23 ⟨rfl, e24⟩
      replace h := h H23 e24
      obtain ⟨s25, h⟩ := h
      refine ⟨SC_of ⟨fun _ => s25, trivial⟩, ?_⟩
      refine HPlan.ops' rfl rfl (HOp.append (k := 1) (b := 8) Tryd.runUnderlying22 Tryd.runUnderlying22 Tryd.typeInfo3 rfl rfl Tryd.zeroValue3 rfl rfl h) ?_
      rintro _ H26 ⟨r28, rfl, h⟩
      obtain ⟨s29, h⟩ := h
      refine ⟨SC_of ⟨fun _ => s29, trivial⟩, ?_⟩
      refine HPlan.takev (v := (Sl.v r28)) rfl rfl (fun _ => HVal.assign' rfl) ?_
      refine HPlan.takev (v := (.int .i64 0)) rfl rfl (fun _ => HVal.assign' rfl) ?_
      refine HPlan.done ?_
      refine nt ?_
      refine HW.ret ?_
      exact ⟨_, resOf2 rfl Res1.t Res1.t, ⟨r28, 0, rfl, h⟩⟩

def F12 (p0 : Sl) (H : Hp) (Q : Sl → Hp → Prop) : Prop :=
(0 : Int) ≤ ((p0).n : Int) ∧ (0 : Int) ≤ ((p0).n : Int) ∧ 0 ≤ ((p0).n : Int).toNat ∧ ((p0).n : Int).toNat ≤ ((p0).n : Int).toNat ∧ ((p0).n : Int).toNat ≤ (p0).c ∧ (
 ∀ H6 : Hp, H6 = Array.push H (.cells #[(.int .i64 0)] 3) → (
 AppendF H6 3 1 8 #[(.int .i64 0)] (Sl.cut p0 1 0 (((p0).n : Int).toNat) (((p0).n : Int).toNat)) ((Sl.mk (some ⟨H.size, 0, none⟩) 1 1)).b ((Sl.mk (some ⟨H.size, 0, none⟩) 1 1)).n (fun (r10 : Sl) (H8 : Hp) => 
 Q r10 H8)))
set_option maxRecDepth 100000 in
set_option maxHeartbeats 4000000 in
theorem walk12 {w0 : World} {p0 : Sl} {H : Hp} {Q : Sl → Hp → Prop} (h : F12 p0 H Q) :
    Good Tryd.prog w0 12 #[(Sl.v p0)] H (fun v H => ∃ (r0 : Sl) , v = (Sl.v r0) ∧ Q r0 H) := by
  unfold F12 at h
  refine Good.enter' (fn := Tryd.f12) Tryd.func12 rfl rfl rfl ?_
  refine HW.seq ?_
  refine HW.region ?_
  refine HList.vals (v := (Sl.v Sl.nil)) rfl (HVal.assign' rfl) ?_
  refine HList.nil ?_
  refine nt ?_
  refine HW.seq ?_
  refine HW.region ?_
  refine HList.vals (v := (Sl.v p0)) rfl (HVal.move' rfl) ?_
  refine HList.vals (v := (Sl.v p0)) rfl (HVal.move' rfl) ?_
  refine HList.vals (v := (.int .i64 ((p0).n : Int))) rfl (HVal.len Tryd.runUnderlying22 rfl) ?_
  refine HList.vals (v := (Sl.v p0)) rfl (HVal.move' rfl) ?_
  refine HList.vals (v := (.int .i64 ((p0).n : Int))) rfl (HVal.len Tryd.runUnderlying22 rfl) ?_
  obtain ⟨z1, z2, z3, z4, z5, h⟩ := h
  refine HList.vals (v := (Sl.v (Sl.cut p0 1 0 (((p0).n : Int).toNat) (((p0).n : Int).toNat)))) rfl (HVal.slice _ _ _ Tryd.runUnderlying22 Tryd.sizeOf3 rfl rfl ⟨_, _, rfl, z1, rfl⟩ ⟨_, _, rfl, z2, rfl⟩ (by decide) z3 z4 z5) ?_
  refine HList.ops' rfl (HOp.buildSlice' (zs := [(.int .i64 0)]) (cs := [(.int .i64 0)]) Tryd.runUnderlying22 Tryd.sizeOf3 Tryd.zeroValue3 (by decide) (by kernel_rfl) rfl (by decide)) ?_
  rintro _ H6 ⟨rfl, e7⟩
  replace h := h H6 e7
  refine HList.ops' rfl (HOp.append (k := 1) (b := 8) Tryd.runUnderlying22 Tryd.runUnderlying22 Tryd.typeInfo3 rfl rfl Tryd.zeroValue3 rfl rfl h) ?_
  rintro _ H8 ⟨r10, rfl, h⟩
  refine HList.vals (v := (Sl.v r10)) rfl (HVal.assign' rfl) ?_
  refine HList.nil ?_
  refine nt ?_
  refine HW.ret ?_
  exact ⟨_, resOf1 rfl Res1.t, ⟨r10, rfl, h⟩⟩

def F32_1 (Q : Int → Hp → Prop) (y1 : Sl) (y2 : Sl) (H_1 : Hp) : Prop :=
Q (if ((y2).n : Int) < ((y1).n : Int) then ((y2).n : Int) else ((y1).n : Int)) H_1
def F32_L2b (Q : Int → Hp → Prop) (X2 : Int → Hp → Prop) (y4 : Sl) (y5 : Sl) (y6 : Int) (y3 : Int) (H_2 : Hp) : Prop :=
((decide (y3 < y6)) = true → (∃ a8 : Addr, (y4).b = some a8 ∧ (0 : Int) ≤ y3 ∧ y3 < ((y4).n : Int) ∧ (
 ∃ x13 : Int, cell H_2 (Addr.add a8 (y3.toNat * 1)) = some (.int .i64 x13) ∧ (
 ∃ a14 : Addr, (y5).b = some a14 ∧ (0 : Int) ≤ y3 ∧ y3 < ((y5).n : Int) ∧ (
 ∃ x19 : Int, cell H_2 (Addr.add a14 (y3.toNat * 1)) = some (.int .i64 x19) ∧ (
 ((decide (x13 ≠ x19)) = true → (Q y3 H_2)) ∧
 ((decide (x13 ≠ x19)) = false → (X2 (IntKind.i64.wrap (y3 + 1)) H_2)))))))) ∧
 ((decide (y3 < y6)) = false → (F32_1 Q y4 y5 H_2))
def F32_L2 (Q : Int → Hp → Prop) (y4 : Sl) (y5 : Sl) (y6 : Int) (y3 : Int) (H_2 : Hp) : Prop :=
  ∀ X2 : Int → Hp → Prop, (∀ (y3 : Int) (H_2 : Hp), F32_L2b Q X2 y4 y5 y6 y3 H_2 → X2 y3 H_2) → X2 y3 H_2
def F32 (p0 : Sl) (p1 : Sl) (H : Hp) (Q : Int → Hp → Prop) : Prop :=
F32_L2 Q p0 p1 (if ((p1).n : Int) < ((p0).n : Int) then ((p1).n : Int) else ((p0).n : Int)) 0 H
set_option maxRecDepth 100000 in
set_option maxHeartbeats 4000000 in
theorem walk32 {w0 : World} {p0 : Sl} {p1 : Sl} {H : Hp} {Q : Int → Hp → Prop} (h : F32 p0 p1 H Q) :
    Good Tryd.prog w0 32 #[(Sl.v p0), (Sl.v p1)] H (fun v H => ∃ (r0 : Int) , v = (.int .i64 r0) ∧ Q r0 H) := by
  unfold F32 at h
  refine Good.enter' (fn := Tryd.f32) Tryd.func32 rfl rfl rfl ?_
  refine HW.seq ?_
  refine HW.region ?_
  refine HList.vals (v := (.int .i64 0)) rfl (HVal.assign' rfl) ?_
  refine HList.nil ?_
  refine nt ?_
  refine HW.cut (fun ρ H_1 => Env.Is ρ [(0, (Sl.v p0)), (1, (Sl.v p1))] ∧ F32_1 Q p0 p1 H_1) ?_ ?_
  · refine HW.seq ?_
    refine HW.region ?_
    refine HList.vals (v := (Sl.v p0)) rfl (HVal.move' rfl) ?_
    refine HList.vals (v := (.int .i64 ((p0).n : Int))) rfl (HVal.len Tryd.runUnderlying22 rfl) ?_
    refine HList.vals (v := (Sl.v p1)) rfl (HVal.move' rfl) ?_
    refine HList.vals (v := (.int .i64 ((p1).n : Int))) rfl (HVal.len Tryd.runUnderlying22 rfl) ?_
    refine HList.vals (v := (.int .i64 (if ((p1).n : Int) < ((p0).n : Int) then ((p1).n : Int) else ((p0).n : Int)))) rfl (HVal.min rfl rfl) ?_
    refine HList.vals (v := (.int .i64 0)) rfl (HVal.move' rfl) ?_
    refine HList.nil ?_
    refine nt ?_
    refine HW.block ?_
    refine HW.loop' (fun L2 hL2 => ?_)
    obtain ⟨X2, hX2⟩ : ∃ X2 : Int → Hp → Prop, ∀ (y3 : Int) (H_2 : Hp), X2 y3 H_2 ↔ ∀ ρ, Env.Is ρ [(0, (Sl.v p0)), (1, (Sl.v p1)), (10, (.int .i64 (if ((p1).n : Int) < ((p0).n : Int) then ((p1).n : Int) else ((p0).n : Int)))), (11, (.int .i64 y3))] → L2 ρ H_2 := ⟨_, fun _ _ => Iff.rfl⟩
    refine (hX2 _ _).1 (h X2 ?_) _ ?_
    rotate_left
    · exact ⟨rfl, rfl, rfl, rfl, trivial⟩
    clear h
    intro y3 H_2 h
    refine (hX2 _ _).2 fun ρ hI => ?_
    obtain ⟨ρ0, rfl⟩ : ∃ ρ0, ρ = (Env.set (Env.set (Env.set (Env.set ρ0 11 (.int .i64 y3)) 10 (.int .i64 (if ((p1).n : Int) < ((p0).n : Int) then ((p1).n : Int) else ((p0).n : Int)))) 1 (Sl.v p1)) 0 (Sl.v p0)) := ⟨ρ, hI.eq⟩
    clear hI; unfold F32_L2b at h; refine hL2 _ _ ?_
    refine HW.seq ?_
    refine HW.region ?_
    refine HList.vals (v := (.bool (decide (y3 < (if ((p1).n : Int) < ((p0).n : Int) then ((p1).n : Int) else ((p0).n : Int)))))) rfl (HVal.lss rfl rfl) ?_
    refine HList.nil ?_
    refine nt ?_
    refine HW.seq ?_
    obtain ⟨hT, hF⟩ := h
    refine HW.cond (decide (y3 < (if ((p1).n : Int) < ((p0).n : Int) then ((p1).n : Int) else ((p0).n : Int)))) rfl (fun hb7 => ?_) (fun hb7 => ?_)
    · have h := hT hb7
      clear hT hF
      refine HW.skip ?_
      refine nt ?_
      refine HW.seq ?_
      refine HW.block ?_
      refine HW.seq ?_
      refine HW.region ?_
      refine HList.vals (v := (.int .i64 y3)) rfl (HVal.move' rfl) ?_
      refine HList.vals (v := (.int .i64 y3)) rfl (HVal.assign' rfl) ?_
      refine HList.nil ?_
      refine nt ?_
      refine HW.seq ?_
      refine HW.draw mixed [(0, some []), (1, some []), (2, some []), (3, some []), (4, some []), (5, some []), (6, some []), (7, some []), (8, some [])] rfl (by kernel_rfl) (by kernel_rfl) ?_
      refine HPlan.takev (v := (Sl.v p0)) rfl rfl (fun _ => HVal.move' rfl) ?_
      refine HPlan.takev (v := (.int .i64 y3)) rfl rfl (fun _ => HVal.move' rfl) ?_
      obtain ⟨a8, e9, b10, b11, h⟩ := h
      refine HPlan.takev (v := (.pointer (some (Addr.add a8 (y3.toNat * 1))))) rfl rfl (fun _ => HVal.indexAddr Tryd.runUnderlying22 Tryd.sizeOf3 (Sl.v_some rfl e9) rfl b10 b11) ?_
      obtain ⟨x13, c12, h⟩ := h
      refine HPlan.takel (v := (.int .i64 x13)) (fun X => cell X (Addr.add a8 (y3.toNat * 1)) = some (.int .i64 x13)) rfl rfl (fun _ hX => HVal.load1 Tryd.isAgg3 rfl hX) c12 ?_
      refine HPlan.takev (v := (Sl.v p1)) rfl rfl (fun _ => HVal.move' rfl) ?_
      refine HPlan.takev (v := (.int .i64 y3)) rfl rfl (fun _ => HVal.move' rfl) ?_
      obtain ⟨a14, e15, b16, b17, h⟩ := h
      refine HPlan.takev (v := (.pointer (some (Addr.add a14 (y3.toNat * 1))))) rfl rfl (fun _ => HVal.indexAddr Tryd.runUnderlying22 Tryd.sizeOf3 (Sl.v_some rfl e15) rfl b16 b17) ?_
      obtain ⟨x19, c18, h⟩ := h
      refine HPlan.takel (v := (.int .i64 x19)) (fun X => cell X (Addr.add a14 (y3.toNat * 1)) = some (.int .i64 x19)) rfl rfl (fun _ hX => HVal.load1 Tryd.isAgg3 rfl hX) c18 ?_
      refine HPlan.takev (v := (.bool (decide (x13 ≠ x19)))) rfl rfl (fun _ => HVal.neqI rfl rfl) ?_
      refine HPlan.done ?_
      refine nt ?_
      obtain ⟨hT, hF⟩ := h
      refine HW.cond (decide (x13 ≠ x19)) rfl (fun hb20 => ?_) (fun hb20 => ?_)
      · have h := hT hb20
        clear hT hF
        refine HW.seq ?_
        refine HW.region ?_
        refine HList.vals (v := (.int .i64 y3)) rfl (HVal.move' rfl) ?_
        refine HList.vals (v := (.int .i64 y3)) rfl (HVal.assign' rfl) ?_
        refine HList.nil ?_
        refine nt ?_
        refine HW.ret ?_
        refine br ?_
        refine tr ?_
        refine tr ?_
        refine br ?_
        refine tr ?_
        exact ⟨_, resOf1 rfl Res1.t, ⟨y3, rfl, h⟩⟩
      · have h := hF hb20
        clear hT hF
        refine HW.skip ?_
        refine nb ?_
        refine nt ?_
        refine HW.region ?_
        refine HList.vals (v := (.int .i64 (IntKind.i64.wrap (y3 + 1)))) rfl (HVal.add rfl rfl) ?_
        refine HList.vals (v := (.int .i64 (IntKind.i64.wrap (y3 + 1)))) rfl (HVal.move' rfl) ?_
        refine HList.nil ?_
        refine nt ?_
        exact (hX2 _ _).1 h _ ⟨rfl, rfl, rfl, rfl, trivial⟩
    · have h := hF hb7
      clear hT hF
      refine HW.exit ?_
      refine te ?_
      refine te ?_
      refine be ?_
      refine nt ?_
      exact ⟨⟨rfl, rfl, trivial⟩, h⟩
  · rintro ρ H_1 ⟨hI, h⟩
    obtain ⟨ρ0, rfl⟩ : ∃ ρ0, ρ = (Env.set (Env.set ρ0 1 (Sl.v p1)) 0 (Sl.v p0)) := ⟨ρ, hI.eq⟩
    clear hI; unfold F32_1 at h
    refine HW.seq ?_
    refine HW.region ?_
    refine HList.vals (v := (Sl.v p0)) rfl (HVal.move' rfl) ?_
    refine HList.vals (v := (.int .i64 ((p0).n : Int))) rfl (HVal.len Tryd.runUnderlying22 rfl) ?_
    refine HList.vals (v := (Sl.v p1)) rfl (HVal.move' rfl) ?_
    refine HList.vals (v := (.int .i64 ((p1).n : Int))) rfl (HVal.len Tryd.runUnderlying22 rfl) ?_
    refine HList.vals (v := (.int .i64 (if ((p1).n : Int) < ((p0).n : Int) then ((p1).n : Int) else ((p0).n : Int)))) rfl (HVal.min rfl rfl) ?_
    refine HList.vals (v := (.int .i64 (if ((p1).n : Int) < ((p0).n : Int) then ((p1).n : Int) else ((p0).n : Int)))) rfl (HVal.assign' rfl) ?_
    refine HList.nil ?_
    refine nt ?_
    refine HW.ret ?_
    exact ⟨_, resOf1 rfl Res1.t, ⟨(if ((p1).n : Int) < ((p0).n : Int) then ((p1).n : Int) else ((p0).n : Int)), rfl, h⟩⟩

def F14_1 (Q : Int → Hp → Prop) (y4 : Sl) (y5 : Int) (y24 : Bool) (H_1 : Hp) : Prop :=
(y24 = true → (Q 1 H_1)) ∧
 (y24 = false → (((decide (y5 < ((y4).n : Int))) = true → (Q (-1) H_1)) ∧
 ((decide (y5 < ((y4).n : Int))) = false → (Q 0 H_1))))
def F14 (p0 : Sl) (p1 : Sl) (H : Hp) (Q : Int → Hp → Prop) : Prop :=
F32 p0 p1 H (fun (r3 : Int) (H1 : Hp) => 
 ((decide (r3 < ((p0).n : Int))) = true → (((decide (r3 < ((p1).n : Int))) = true → (∃ a10 : Addr, (p0).b = some a10 ∧ (0 : Int) ≤ r3 ∧ r3 < ((p0).n : Int) ∧ (
 ∃ x15 : Int, cell H1 (Addr.add a10 (r3.toNat * 1)) = some (.int .i64 x15) ∧ (
 ∃ a16 : Addr, (p1).b = some a16 ∧ (0 : Int) ≤ r3 ∧ r3 < ((p1).n : Int) ∧ (
 ∃ x21 : Int, cell H1 (Addr.add a16 (r3.toNat * 1)) = some (.int .i64 x21) ∧ (
 ((decide (x21 < x15)) = true → (F14_1 Q p1 r3 true H1)) ∧
 ((decide (x21 < x15)) = false → (((decide (r3 = ((p1).n : Int))) = true → (F14_1 Q p1 r3 (decide (r3 < ((p0).n : Int))) H1)) ∧
 ((decide (r3 = ((p1).n : Int))) = false → (F14_1 Q p1 r3 false H1)))))))))) ∧
 ((decide (r3 < ((p1).n : Int))) = false → (((decide (r3 = ((p1).n : Int))) = true → (F14_1 Q p1 r3 (decide (r3 < ((p0).n : Int))) H1)) ∧
 ((decide (r3 = ((p1).n : Int))) = false → (F14_1 Q p1 r3 false H1)))))) ∧
 ((decide (r3 < ((p0).n : Int))) = false → (((decide (r3 = ((p1).n : Int))) = true → (F14_1 Q p1 r3 (decide (r3 < ((p0).n : Int))) H1)) ∧
 ((decide (r3 = ((p1).n : Int))) = false → (F14_1 Q p1 r3 false H1)))))
set_option maxRecDepth 100000 in
set_option maxHeartbeats 4000000 in
theorem walk14 {w0 : World} {p0 : Sl} {p1 : Sl} {H : Hp} {Q : Int → Hp → Prop} (h : F14 p0 p1 H Q) :
    Good Tryd.prog w0 14 #[(Sl.v p0), (Sl.v p1)] H (fun v H => ∃ (r0 : Int) , v = (.int .i64 r0) ∧ Q r0 H) := by
  unfold F14 at h
  refine Good.enter' (fn := Tryd.f14) Tryd.func14 rfl rfl rfl ?_
  refine HW.seq ?_
  refine HW.region ?_
  refine HList.vals (v := (.int .i64 0)) rfl (HVal.assign' rfl) ?_
  refine HList.nil ?_
  refine nt ?_
  refine HW.seq ?_
  refine HW.region ?_
  refine HList.vals (v := (Sl.v p0)) rfl (HVal.move' rfl) ?_
  refine HList.vals (v := (Sl.v p1)) rfl (HVal.move' rfl) ?_
  refine HList.ops' rfl (HOp.call' 32 [(Sl.v p0), (Sl.v p1)] (cap := []) rfl rfl Tryd.call32 (walk32 h)) ?_
  rintro _ H1 ⟨r3, rfl, h⟩
  refine HList.vals (v := (.int .i64 r3)) rfl (HVal.assign' rfl) ?_
  refine HList.nil ?_
  refine nt ?_
  refine HW.seq ?_
  refine HW.block ?_
  refine HW.cut (fun ρ H_1 => ∃ (y24 : Bool), Env.Is ρ [(1, (Sl.v p1)), (5, (.int .i64 r3)), (9, (.bool y24))] ∧ F14_1 Q p1 r3 y24 H_1) ?_ ?_
  · refine HW.draw mixed [(0, some []), (1, some []), (2, some []), (3, some []), (4, some []), (5, some []), (6, some []), (7, some []), (8, some []), (9, some []), (10, some []), (11, some []), (12, some []), (13, some []), (14, some []), (15, some []), (16, some []), (17, some []), (18, some []), (19, some []), (20, some []), (21, some []), (22, some []), (23, some []), (24, some []), (25, some []), (26, some []), (27, some []), (28, some []), (29, some []), (30, some []), (31, some []), (32, some []), (33, some [])] rfl (by kernel_rfl) (by kernel_rfl) ?_
    refine HPlan.takev (v := (.int .i64 r3)) rfl rfl (fun _ => HVal.move' rfl) ?_
    refine HPlan.takev (v := (Sl.v p0)) rfl rfl (fun _ => HVal.move' rfl) ?_
    refine HPlan.takev (v := (.int .i64 ((p0).n : Int))) rfl rfl (fun _ => HVal.len Tryd.runUnderlying22 rfl) ?_
    refine HPlan.takev (v := (.bool (decide (r3 < ((p0).n : Int))))) rfl rfl (fun _ => HVal.lss rfl rfl) ?_
    refine HPlan.takev (v := (.bool (decide (r3 < ((p0).n : Int))))) rfl rfl (fun _ => HVal.move' rfl) ?_
    obtain ⟨hT, hF⟩ := h
    rcases Bool.eq_false_or_eq_true (decide (r3 < ((p0).n : Int))) with hb6 | hb7
    · have h := hT hb6
      clear hT hF
      refine HPlan.gtakev (v := (.int .i64 r3)) rfl rfl rfl rfl rfl (congrArg Value.bool hb6) (fun _ => HVal.move' rfl) ?_
      refine HPlan.gtakev (v := (Sl.v p1)) rfl rfl rfl rfl rfl (congrArg Value.bool hb6) (fun _ => HVal.move' rfl) ?_
      refine HPlan.gtakev (v := (.int .i64 ((p1).n : Int))) rfl rfl rfl rfl rfl (congrArg Value.bool hb6) (fun _ => HVal.len Tryd.runUnderlying22 rfl) ?_
      refine HPlan.gtakev (v := (.bool (decide (r3 < ((p1).n : Int))))) rfl rfl rfl rfl rfl (congrArg Value.bool hb6) (fun _ => HVal.lss rfl rfl) ?_
      refine HPlan.takev (v := (.bool (decide (r3 < ((p1).n : Int))))) rfl rfl (fun _ => HVal.pickT rfl hb6 rfl) ?_
      refine HPlan.takev (v := (.bool (decide (r3 < ((p1).n : Int))))) rfl rfl (fun _ => HVal.move' rfl) ?_
      obtain ⟨hT, hF⟩ := h
      rcases Bool.eq_false_or_eq_true (decide (r3 < ((p1).n : Int))) with hb8 | hb9
      · have h := hT hb8
        clear hT hF
        refine HPlan.gtakev (v := (Sl.v p0)) rfl rfl rfl rfl rfl (congrArg Value.bool hb8) (fun _ => HVal.move' rfl) ?_
        refine HPlan.gtakev (v := (.int .i64 r3)) rfl rfl rfl rfl rfl (congrArg Value.bool hb8) (fun _ => HVal.move' rfl) ?_
        obtain ⟨a10, e11, b12, b13, h⟩ := h
        refine HPlan.gtakev (v := (.pointer (some (Addr.add a10 (r3.toNat * 1))))) rfl rfl rfl rfl rfl (congrArg Value.bool hb8) (fun _ => HVal.indexAddr Tryd.runUnderlying22 Tryd.sizeOf3 (Sl.v_some rfl e11) rfl b12 b13) ?_
        obtain ⟨x15, c14, h⟩ := h
        refine HPlan.gtakel (v := (.int .i64 x15)) (fun X => cell X (Addr.add a10 (r3.toNat * 1)) = some (.int .i64 x15)) rfl rfl rfl rfl rfl (congrArg Value.bool hb8) (fun _ hX => HVal.load1 Tryd.isAgg3 rfl hX) c14 ?_
        refine HPlan.gtakev (v := (Sl.v p1)) rfl rfl rfl rfl rfl (congrArg Value.bool hb8) (fun _ => HVal.move' rfl) ?_
        refine HPlan.gtakev (v := (.int .i64 r3)) rfl rfl rfl rfl rfl (congrArg Value.bool hb8) (fun _ => HVal.move' rfl) ?_
        obtain ⟨a16, e17, b18, b19, h⟩ := h
        refine HPlan.gtakev (v := (.pointer (some (Addr.add a16 (r3.toNat * 1))))) rfl rfl rfl rfl rfl (congrArg Value.bool hb8) (fun _ => HVal.indexAddr Tryd.runUnderlying22 Tryd.sizeOf3 (Sl.v_some rfl e17) rfl b18 b19) ?_
        obtain ⟨x21, c20, h⟩ := h
        refine HPlan.gtakel (v := (.int .i64 x21)) (fun X => cell X (Addr.add a16 (r3.toNat * 1)) = some (.int .i64 x21)) rfl rfl rfl rfl rfl (congrArg Value.bool hb8) (fun _ hX => HVal.load1 Tryd.isAgg3 rfl hX) c20 ?_
        refine HPlan.gtakev (v := (.bool (decide (x21 < x15)))) rfl rfl rfl rfl rfl (congrArg Value.bool hb8) (fun _ => HVal.gtr rfl rfl) ?_
        refine HPlan.takev (v := (.bool (decide (x21 < x15)))) rfl rfl (fun _ => HVal.pickT rfl hb8 rfl) ?_
        refine HPlan.takev (v := (.bool (decide (x21 < x15)))) rfl rfl (fun _ => HVal.move' rfl) ?_
        obtain ⟨hT, hF⟩ := h
        rcases Bool.eq_false_or_eq_true (decide (x21 < x15)) with hb22 | hb23
        · have h := hT hb22
          clear hT hF
          refine HPlan.takegskip rfl rfl rfl rfl (congrArg Value.bool hb22) ?_
          refine HPlan.takegskip rfl rfl rfl rfl (congrArg Value.bool hb22) ?_
          refine HPlan.takegskip rfl rfl rfl rfl (congrArg Value.bool hb22) ?_
          refine HPlan.takegskip rfl rfl rfl rfl (congrArg Value.bool hb22) ?_
          refine HPlan.takegskip rfl rfl rfl rfl (congrArg Value.bool hb22) ?_
          refine HPlan.takeuskip rfl rfl rfl rfl rfl ?_
          refine HPlan.takeuskip rfl rfl rfl rfl rfl ?_
          refine HPlan.takeuskip rfl rfl rfl rfl rfl ?_
          refine HPlan.takeuskip rfl rfl rfl rfl rfl ?_
          refine HPlan.takegskip rfl rfl rfl rfl (congrArg Value.bool hb22) ?_
          refine HPlan.takev (v := (.bool true)) rfl rfl (fun _ => HVal.pickT rfl hb22 rfl) ?_
          refine HPlan.takev (v := (.bool true)) rfl rfl (fun _ => HVal.assign' rfl) ?_
          refine HPlan.done ?_
          refine nt ?_
          exact ⟨true, ⟨rfl, rfl, rfl, trivial⟩, h⟩
        · have h := hF hb23
          clear hT hF
          refine HPlan.gtakev (v := (.int .i64 r3)) rfl rfl rfl rfl rfl (congrArg Value.bool hb23) (fun _ => HVal.move' rfl) ?_
          refine HPlan.gtakev (v := (Sl.v p1)) rfl rfl rfl rfl rfl (congrArg Value.bool hb23) (fun _ => HVal.move' rfl) ?_
          refine HPlan.gtakev (v := (.int .i64 ((p1).n : Int))) rfl rfl rfl rfl rfl (congrArg Value.bool hb23) (fun _ => HVal.len Tryd.runUnderlying22 rfl) ?_
          refine HPlan.gtakev (v := (.bool (decide (r3 = ((p1).n : Int))))) rfl rfl rfl rfl rfl (congrArg Value.bool hb23) (fun _ => HVal.eqlI rfl rfl) ?_
          refine HPlan.gtakev (v := (.bool (decide (r3 = ((p1).n : Int))))) rfl rfl rfl rfl rfl (congrArg Value.bool hb23) (fun _ => HVal.move' rfl) ?_
          obtain ⟨hT, hF⟩ := h
          rcases Bool.eq_false_or_eq_true (decide (r3 = ((p1).n : Int))) with hb25 | hb26
          · have h := hT hb25
            clear hT hF
            refine HPlan.gtakev (v := (.int .i64 r3)) rfl rfl rfl rfl rfl (congrArg Value.bool hb25) (fun _ => HVal.move' rfl) ?_
            refine HPlan.gtakev (v := (Sl.v p0)) rfl rfl rfl rfl rfl (congrArg Value.bool hb25) (fun _ => HVal.move' rfl) ?_
            refine HPlan.gtakev (v := (.int .i64 ((p0).n : Int))) rfl rfl rfl rfl rfl (congrArg Value.bool hb25) (fun _ => HVal.len Tryd.runUnderlying22 rfl) ?_
            refine HPlan.gtakev (v := (.bool (decide (r3 < ((p0).n : Int))))) rfl rfl rfl rfl rfl (congrArg Value.bool hb25) (fun _ => HVal.lss rfl rfl) ?_
            refine HPlan.gtakev (v := (.bool (decide (r3 < ((p0).n : Int))))) rfl rfl rfl rfl rfl (congrArg Value.bool hb23) (fun _ => HVal.pickT rfl hb25 rfl) ?_
            refine HPlan.takev (v := (.bool (decide (r3 < ((p0).n : Int))))) rfl rfl (fun _ => HVal.pickF rfl hb23 rfl) ?_
            refine HPlan.takev (v := (.bool (decide (r3 < ((p0).n : Int))))) rfl rfl (fun _ => HVal.assign' rfl) ?_
            refine HPlan.done ?_
            refine nt ?_
            exact ⟨(decide (r3 < ((p0).n : Int))), ⟨rfl, rfl, rfl, trivial⟩, h⟩
          · have h := hF hb26
            clear hT hF
            refine HPlan.takegskip rfl rfl rfl rfl (congrArg Value.bool hb26) ?_
            refine HPlan.takegskip rfl rfl rfl rfl (congrArg Value.bool hb26) ?_
            refine HPlan.takegskip rfl rfl rfl rfl (congrArg Value.bool hb26) ?_
            refine HPlan.takegskip rfl rfl rfl rfl (congrArg Value.bool hb26) ?_
            refine HPlan.gtakev (v := (.bool false)) rfl rfl rfl rfl rfl (congrArg Value.bool hb23) (fun _ => HVal.pickF rfl hb26 rfl) ?_
            refine HPlan.takev (v := (.bool false)) rfl rfl (fun _ => HVal.pickF rfl hb23 rfl) ?_
            refine HPlan.takev (v := (.bool false)) rfl rfl (fun _ => HVal.assign' rfl) ?_
            refine HPlan.done ?_
            refine nt ?_
            exact ⟨false, ⟨rfl, rfl, rfl, trivial⟩, h⟩
      · have h := hF hb9
        clear hT hF
        refine HPlan.takegskip rfl rfl rfl rfl (congrArg Value.bool hb9) ?_
        refine HPlan.takegskip rfl rfl rfl rfl (congrArg Value.bool hb9) ?_
        refine HPlan.takegskip rfl rfl rfl rfl (congrArg Value.bool hb9) ?_
        refine HPlan.takegskip rfl rfl rfl rfl (congrArg Value.bool hb9) ?_
        refine HPlan.takegskip rfl rfl rfl rfl (congrArg Value.bool hb9) ?_
        refine HPlan.takegskip rfl rfl rfl rfl (congrArg Value.bool hb9) ?_
        refine HPlan.takegskip rfl rfl rfl rfl (congrArg Value.bool hb9) ?_
        refine HPlan.takegskip rfl rfl rfl rfl (congrArg Value.bool hb9) ?_
        refine HPlan.takegskip rfl rfl rfl rfl (congrArg Value.bool hb9) ?_
        refine HPlan.takev (v := (.bool false)) rfl rfl (fun _ => HVal.pickF rfl hb9 rfl) ?_
        refine HPlan.takev (v := (.bool false)) rfl rfl (fun _ => HVal.move' rfl) ?_
        refine HPlan.gtakev (v := (.int .i64 r3)) rfl rfl rfl rfl rfl rfl (fun _ => HVal.move' rfl) ?_
        refine HPlan.gtakev (v := (Sl.v p1)) rfl rfl rfl rfl rfl rfl (fun _ => HVal.move' rfl) ?_
        refine HPlan.gtakev (v := (.int .i64 ((p1).n : Int))) rfl rfl rfl rfl rfl rfl (fun _ => HVal.len Tryd.runUnderlying22 rfl) ?_
        refine HPlan.gtakev (v := (.bool (decide (r3 = ((p1).n : Int))))) rfl rfl rfl rfl rfl rfl (fun _ => HVal.eqlI rfl rfl) ?_
        refine HPlan.gtakev (v := (.bool (decide (r3 = ((p1).n : Int))))) rfl rfl rfl rfl rfl rfl (fun _ => HVal.move' rfl) ?_
        obtain ⟨hT, hF⟩ := h
        rcases Bool.eq_false_or_eq_true (decide (r3 = ((p1).n : Int))) with hb27 | hb28
        · have h := hT hb27
          clear hT hF
          refine HPlan.gtakev (v := (.int .i64 r3)) rfl rfl rfl rfl rfl (congrArg Value.bool hb27) (fun _ => HVal.move' rfl) ?_
          refine HPlan.gtakev (v := (Sl.v p0)) rfl rfl rfl rfl rfl (congrArg Value.bool hb27) (fun _ => HVal.move' rfl) ?_
          refine HPlan.gtakev (v := (.int .i64 ((p0).n : Int))) rfl rfl rfl rfl rfl (congrArg Value.bool hb27) (fun _ => HVal.len Tryd.runUnderlying22 rfl) ?_
          refine HPlan.gtakev (v := (.bool (decide (r3 < ((p0).n : Int))))) rfl rfl rfl rfl rfl (congrArg Value.bool hb27) (fun _ => HVal.lss rfl rfl) ?_
          refine HPlan.gtakev (v := (.bool (decide (r3 < ((p0).n : Int))))) rfl rfl rfl rfl rfl rfl (fun _ => HVal.pickT rfl hb27 rfl) ?_
          refine HPlan.takev (v := (.bool (decide (r3 < ((p0).n : Int))))) rfl rfl (fun _ => HVal.pickF rfl rfl rfl) ?_
          refine HPlan.takev (v := (.bool (decide (r3 < ((p0).n : Int))))) rfl rfl (fun _ => HVal.assign' rfl) ?_
          refine HPlan.done ?_
          refine nt ?_
          exact ⟨(decide (r3 < ((p0).n : Int))), ⟨rfl, rfl, rfl, trivial⟩, h⟩
        · have h := hF hb28
          clear hT hF
          refine HPlan.takegskip rfl rfl rfl rfl (congrArg Value.bool hb28) ?_
          refine HPlan.takegskip rfl rfl rfl rfl (congrArg Value.bool hb28) ?_
          refine HPlan.takegskip rfl rfl rfl rfl (congrArg Value.bool hb28) ?_
          refine HPlan.takegskip rfl rfl rfl rfl (congrArg Value.bool hb28) ?_
          refine HPlan.gtakev (v := (.bool false)) rfl rfl rfl rfl rfl rfl (fun _ => HVal.pickF rfl hb28 rfl) ?_
          refine HPlan.takev (v := (.bool false)) rfl rfl (fun _ => HVal.pickF rfl rfl rfl) ?_
          refine HPlan.takev (v := (.bool false)) rfl rfl (fun _ => HVal.assign' rfl) ?_
          refine HPlan.done ?_
          refine nt ?_
          exact ⟨false, ⟨rfl, rfl, rfl, trivial⟩, h⟩
    · have h := hF hb7
      clear hT hF
      refine HPlan.takegskip rfl rfl rfl rfl (congrArg Value.bool hb7) ?_
      refine HPlan.takegskip rfl rfl rfl rfl (congrArg Value.bool hb7) ?_
      refine HPlan.takegskip rfl rfl rfl rfl (congrArg Value.bool hb7) ?_
      refine HPlan.takegskip rfl rfl rfl rfl (congrArg Value.bool hb7) ?_
      refine HPlan.takev (v := (.bool false)) rfl rfl (fun _ => HVal.pickF rfl hb7 rfl) ?_
      refine HPlan.takev (v := (.bool false)) rfl rfl (fun _ => HVal.move' rfl) ?_
      refine HPlan.takegskip rfl rfl rfl rfl rfl ?_
      refine HPlan.takegskip rfl rfl rfl rfl rfl ?_
      refine HPlan.takegskip rfl rfl rfl rfl rfl ?_
      refine HPlan.takegskip rfl rfl rfl rfl rfl ?_
      refine HPlan.takegskip rfl rfl rfl rfl rfl ?_
      refine HPlan.takegskip rfl rfl rfl rfl rfl ?_
      refine HPlan.takegskip rfl rfl rfl rfl rfl ?_
      refine HPlan.takegskip rfl rfl rfl rfl rfl ?_
      refine HPlan.takegskip rfl rfl rfl rfl rfl ?_
      refine HPlan.takev (v := (.bool false)) rfl rfl (fun _ => HVal.pickF rfl rfl rfl) ?_
      refine HPlan.takev (v := (.bool false)) rfl rfl (fun _ => HVal.move' rfl) ?_
      refine HPlan.gtakev (v := (.int .i64 r3)) rfl rfl rfl rfl rfl rfl (fun _ => HVal.move' rfl) ?_
      refine HPlan.gtakev (v := (Sl.v p1)) rfl rfl rfl rfl rfl rfl (fun _ => HVal.move' rfl) ?_
      refine HPlan.gtakev (v := (.int .i64 ((p1).n : Int))) rfl rfl rfl rfl rfl rfl (fun _ => HVal.len Tryd.runUnderlying22 rfl) ?_
      refine HPlan.gtakev (v := (.bool (decide (r3 = ((p1).n : Int))))) rfl rfl rfl rfl rfl rfl (fun _ => HVal.eqlI rfl rfl) ?_
      refine HPlan.gtakev (v := (.bool (decide (r3 = ((p1).n : Int))))) rfl rfl rfl rfl rfl rfl (fun _ => HVal.move' rfl) ?_
      obtain ⟨hT, hF⟩ := h
      rcases Bool.eq_false_or_eq_true (decide (r3 = ((p1).n : Int))) with hb29 | hb30
      · have h := hT hb29
        clear hT hF
        refine HPlan.gtakev (v := (.int .i64 r3)) rfl rfl rfl rfl rfl (congrArg Value.bool hb29) (fun _ => HVal.move' rfl) ?_
        refine HPlan.gtakev (v := (Sl.v p0)) rfl rfl rfl rfl rfl (congrArg Value.bool hb29) (fun _ => HVal.move' rfl) ?_
        refine HPlan.gtakev (v := (.int .i64 ((p0).n : Int))) rfl rfl rfl rfl rfl (congrArg Value.bool hb29) (fun _ => HVal.len Tryd.runUnderlying22 rfl) ?_
        refine HPlan.gtakev (v := (.bool (decide (r3 < ((p0).n : Int))))) rfl rfl rfl rfl rfl (congrArg Value.bool hb29) (fun _ => HVal.lss rfl rfl) ?_
        refine HPlan.gtakev (v := (.bool (decide (r3 < ((p0).n : Int))))) rfl rfl rfl rfl rfl rfl (fun _ => HVal.pickT rfl hb29 rfl) ?_
        refine HPlan.takev (v := (.bool (decide (r3 < ((p0).n : Int))))) rfl rfl (fun _ => HVal.pickF rfl rfl rfl) ?_
        refine HPlan.takev (v := (.bool (decide (r3 < ((p0).n : Int))))) rfl rfl (fun _ => HVal.assign' rfl) ?_
        refine HPlan.done ?_
        refine nt ?_
        exact ⟨(decide (r3 < ((p0).n : Int))), ⟨rfl, rfl, rfl, trivial⟩, h⟩
      · have h := hF hb30
        clear hT hF
        refine HPlan.takegskip rfl rfl rfl rfl (congrArg Value.bool hb30) ?_
        refine HPlan.takegskip rfl rfl rfl rfl (congrArg Value.bool hb30) ?_
        refine HPlan.takegskip rfl rfl rfl rfl (congrArg Value.bool hb30) ?_
        refine HPlan.takegskip rfl rfl rfl rfl (congrArg Value.bool hb30) ?_
        refine HPlan.gtakev (v := (.bool false)) rfl rfl rfl rfl rfl rfl (fun _ => HVal.pickF rfl hb30 rfl) ?_
        refine HPlan.takev (v := (.bool false)) rfl rfl (fun _ => HVal.pickF rfl rfl rfl) ?_
        refine HPlan.takev (v := (.bool false)) rfl rfl (fun _ => HVal.assign' rfl) ?_
        refine HPlan.done ?_
        refine nt ?_
        exact ⟨false, ⟨rfl, rfl, rfl, trivial⟩, h⟩
  · rintro ρ H_1 ⟨y24, hI, h⟩
    obtain ⟨ρ0, rfl⟩ : ∃ ρ0, ρ = (Env.set (Env.set (Env.set ρ0 9 (.bool y24)) 5 (.int .i64 r3)) 1 (Sl.v p1)) := ⟨ρ, hI.eq⟩
    clear hI; unfold F14_1 at h
    obtain ⟨hT, hF⟩ := h
    refine HW.cond y24 rfl (fun hb31 => ?_) (fun hb31 => ?_)
    · have h := hT hb31
      clear hT hF
      refine HW.seq ?_
      refine HW.region ?_
      refine HList.vals (v := (.int .i64 1)) rfl (HVal.assign' rfl) ?_
      refine HList.nil ?_
      refine nt ?_
      refine HW.ret ?_
      refine br ?_
      refine tr ?_
      exact ⟨_, resOf1 rfl Res1.t, ⟨1, rfl, h⟩⟩
    · have h := hF hb31
      clear hT hF
      refine HW.seq ?_
      refine HW.region ?_
      refine HList.vals (v := (.int .i64 r3)) rfl (HVal.move' rfl) ?_
      refine HList.vals (v := (Sl.v p1)) rfl (HVal.move' rfl) ?_
      refine HList.vals (v := (.int .i64 ((p1).n : Int))) rfl (HVal.len Tryd.runUnderlying22 rfl) ?_
      refine HList.vals (v := (.bool (decide (r3 < ((p1).n : Int))))) rfl (HVal.lss rfl rfl) ?_
      refine HList.vals (v := (.bool (decide (r3 < ((p1).n : Int))))) rfl (HVal.assign' rfl) ?_
      refine HList.nil ?_
      refine nt ?_
      obtain ⟨hT, hF⟩ := h
      refine HW.cond (decide (r3 < ((p1).n : Int))) rfl (fun hb32 => ?_) (fun hb32 => ?_)
      · have h := hT hb32
        clear hT hF
        refine HW.seq ?_
        refine HW.region ?_
        refine HList.vals (v := (.int .i64 (-1))) rfl (HVal.assign' rfl) ?_
        refine HList.nil ?_
        refine nt ?_
        refine HW.ret ?_
        refine br ?_
        refine tr ?_
        exact ⟨_, resOf1 rfl Res1.t, ⟨(-1), rfl, h⟩⟩
      · have h := hF hb32
        clear hT hF
        refine HW.skip ?_
        refine nb ?_
        refine nt ?_
        refine HW.seq ?_
        refine HW.region ?_
        refine HList.vals (v := (.int .i64 0)) rfl (HVal.assign' rfl) ?_
        refine HList.nil ?_
        refine nt ?_
        refine HW.ret ?_
        exact ⟨_, resOf1 rfl Res1.t, ⟨0, rfl, h⟩⟩

def F15_L1b (Q : Bool → Hp → Prop) (X1 : Int → Hp → Prop) (y3 : Sl) (y4 : Sl) (y2 : Int) (H_1 : Hp) : Prop :=
((decide (y2 < ((y3).n : Int))) = true → (∃ a6 : Addr, (y3).b = some a6 ∧ (0 : Int) ≤ y2 ∧ y2 < ((y3).n : Int) ∧ (
 ∃ x11 : Int, cell H_1 (Addr.add a6 (y2.toNat * 1)) = some (.int .i64 x11) ∧ (
 ∃ a12 : Addr, (y4).b = some a12 ∧ (0 : Int) ≤ y2 ∧ y2 < ((y4).n : Int) ∧ (
 ∃ x17 : Int, cell H_1 (Addr.add a12 (y2.toNat * 1)) = some (.int .i64 x17) ∧ (
 ((decide (x11 ≠ x17)) = true → (Q false H_1)) ∧
 ((decide (x11 ≠ x17)) = false → (X1 (IntKind.i64.wrap (y2 + 1)) H_1)))))))) ∧
 ((decide (y2 < ((y3).n : Int))) = false → (Q true H_1))
def F15_L1 (Q : Bool → Hp → Prop) (y3 : Sl) (y4 : Sl) (y2 : Int) (H_1 : Hp) : Prop :=
  ∀ X1 : Int → Hp → Prop, (∀ (y2 : Int) (H_1 : Hp), F15_L1b Q X1 y3 y4 y2 H_1 → X1 y2 H_1) → X1 y2 H_1
def F15 (p0 : Sl) (p1 : Sl) (H : Hp) (Q : Bool → Hp → Prop) : Prop :=
((decide (((p0).n : Int) ≠ ((p1).n : Int))) = true → (Q false H)) ∧
 ((decide (((p0).n : Int) ≠ ((p1).n : Int))) = false → (F15_L1 Q p0 p1 0 H))
set_option maxRecDepth 100000 in
set_option maxHeartbeats 4000000 in
theorem walk15 {w0 : World} {p0 : Sl} {p1 : Sl} {H : Hp} {Q : Bool → Hp → Prop} (h : F15 p0 p1 H Q) :
    Good Tryd.prog w0 15 #[(Sl.v p0), (Sl.v p1)] H (fun v H => ∃ (r0 : Bool) , v = (.bool r0) ∧ Q r0 H) := by
  unfold F15 at h
  refine Good.enter' (fn := Tryd.f15) Tryd.func15 rfl rfl rfl ?_
  refine HW.seq ?_
  refine HW.region ?_
  refine HList.vals (v := (.bool false)) rfl (HVal.assign' rfl) ?_
  refine HList.nil ?_
  refine nt ?_
  refine HW.seq ?_
  refine HW.seq ?_
  refine HW.region ?_
  refine HList.vals (v := (Sl.v p0)) rfl (HVal.move' rfl) ?_
  refine HList.vals (v := (.int .i64 ((p0).n : Int))) rfl (HVal.len Tryd.runUnderlying22 rfl) ?_
  refine HList.vals (v := (Sl.v p1)) rfl (HVal.move' rfl) ?_
  refine HList.vals (v := (.int .i64 ((p1).n : Int))) rfl (HVal.len Tryd.runUnderlying22 rfl) ?_
  refine HList.vals (v := (.bool (decide (((p0).n : Int) ≠ ((p1).n : Int))))) rfl (HVal.neqI rfl rfl) ?_
  refine HList.nil ?_
  refine nt ?_
  obtain ⟨hT, hF⟩ := h
  refine HW.cond (decide (((p0).n : Int) ≠ ((p1).n : Int))) rfl (fun hb1 => ?_) (fun hb1 => ?_)
  · have h := hT hb1
    clear hT hF
    refine HW.seq ?_
    refine HW.region ?_
    refine HList.vals (v := (.bool false)) rfl (HVal.assign' rfl) ?_
    refine HList.nil ?_
    refine nt ?_
    refine HW.ret ?_
    refine tr ?_
    exact ⟨_, resOf1 rfl Res1.t, ⟨false, rfl, h⟩⟩
  · have h := hF hb1
    clear hT hF
    refine HW.skip ?_
    refine nt ?_
    refine HW.seq ?_
    refine HW.seq ?_
    refine HW.region ?_
    refine HList.vals (v := (.int .i64 0)) rfl (HVal.assign' rfl) ?_
    refine HList.nil ?_
    refine nt ?_
    refine HW.block ?_
    refine HW.loop' (fun L1 hL1 => ?_)
    obtain ⟨X1, hX1⟩ : ∃ X1 : Int → Hp → Prop, ∀ (y2 : Int) (H_1 : Hp), X1 y2 H_1 ↔ ∀ ρ, Env.Is ρ [(0, (Sl.v p0)), (1, (Sl.v p1)), (5, (.int .i64 y2))] → L1 ρ H_1 := ⟨_, fun _ _ => Iff.rfl⟩
    refine (hX1 _ _).1 (h X1 ?_) _ ?_
    rotate_left
    · exact ⟨rfl, rfl, rfl, trivial⟩
    clear h
    intro y2 H_1 h
    refine (hX1 _ _).2 fun ρ hI => ?_
    obtain ⟨ρ0, rfl⟩ : ∃ ρ0, ρ = (Env.set (Env.set (Env.set ρ0 5 (.int .i64 y2)) 1 (Sl.v p1)) 0 (Sl.v p0)) := ⟨ρ, hI.eq⟩
    clear hI; unfold F15_L1b at h; refine hL1 _ _ ?_
    refine HW.seq ?_
    refine HW.seq ?_
    refine HW.region ?_
    refine HList.vals (v := (.int .i64 y2)) rfl (HVal.move' rfl) ?_
    refine HList.vals (v := (Sl.v p0)) rfl (HVal.move' rfl) ?_
    refine HList.vals (v := (.int .i64 ((p0).n : Int))) rfl (HVal.len Tryd.runUnderlying22 rfl) ?_
    refine HList.vals (v := (.bool (decide (y2 < ((p0).n : Int))))) rfl (HVal.lss rfl rfl) ?_
    refine HList.nil ?_
    refine nt ?_
    obtain ⟨hT, hF⟩ := h
    refine HW.cond (decide (y2 < ((p0).n : Int))) rfl (fun hb5 => ?_) (fun hb5 => ?_)
    · have h := hT hb5
      clear hT hF
      refine HW.skip ?_
      refine nt ?_
      refine HW.seq ?_
      refine HW.block ?_
      refine HW.seq ?_
      refine HW.draw mixed [(0, some []), (1, some []), (2, some []), (3, some []), (4, some []), (5, some []), (6, some []), (7, some []), (8, some [])] rfl (by kernel_rfl) (by kernel_rfl) ?_
      refine HPlan.takev (v := (Sl.v p0)) rfl rfl (fun _ => HVal.move' rfl) ?_
      refine HPlan.takev (v := (.int .i64 y2)) rfl rfl (fun _ => HVal.move' rfl) ?_
      obtain ⟨a6, e7, b8, b9, h⟩ := h
      refine HPlan.takev (v := (.pointer (some (Addr.add a6 (y2.toNat * 1))))) rfl rfl (fun _ => HVal.indexAddr Tryd.runUnderlying22 Tryd.sizeOf3 (Sl.v_some rfl e7) rfl b8 b9) ?_
      obtain ⟨x11, c10, h⟩ := h
      refine HPlan.takel (v := (.int .i64 x11)) (fun X => cell X (Addr.add a6 (y2.toNat * 1)) = some (.int .i64 x11)) rfl rfl (fun _ hX => HVal.load1 Tryd.isAgg3 rfl hX) c10 ?_
      refine HPlan.takev (v := (Sl.v p1)) rfl rfl (fun _ => HVal.move' rfl) ?_
      refine HPlan.takev (v := (.int .i64 y2)) rfl rfl (fun _ => HVal.move' rfl) ?_
      obtain ⟨a12, e13, b14, b15, h⟩ := h
      refine HPlan.takev (v := (.pointer (some (Addr.add a12 (y2.toNat * 1))))) rfl rfl (fun _ => HVal.indexAddr Tryd.runUnderlying22 Tryd.sizeOf3 (Sl.v_some rfl e13) rfl b14 b15) ?_
      obtain ⟨x17, c16, h⟩ := h
      refine HPlan.takel (v := (.int .i64 x17)) (fun X => cell X (Addr.add a12 (y2.toNat * 1)) = some (.int .i64 x17)) rfl rfl (fun _ hX => HVal.load1 Tryd.isAgg3 rfl hX) c16 ?_
      refine HPlan.takev (v := (.bool (decide (x11 ≠ x17)))) rfl rfl (fun _ => HVal.neqI rfl rfl) ?_
      refine HPlan.done ?_
      refine nt ?_
      obtain ⟨hT, hF⟩ := h
      refine HW.cond (decide (x11 ≠ x17)) rfl (fun hb18 => ?_) (fun hb18 => ?_)
      · have h := hT hb18
        clear hT hF
        refine HW.seq ?_
        refine HW.region ?_
        refine HList.vals (v := (.bool false)) rfl (HVal.assign' rfl) ?_
        refine HList.nil ?_
        refine nt ?_
        refine HW.ret ?_
        refine br ?_
        refine tr ?_
        refine tr ?_
        refine br ?_
        refine tr ?_
        exact ⟨_, resOf1 rfl Res1.t, ⟨false, rfl, h⟩⟩
      · have h := hF hb18
        clear hT hF
        refine HW.skip ?_
        refine nb ?_
        refine nt ?_
        refine HW.region ?_
        refine HList.vals (v := (.int .i64 y2)) rfl (HVal.move' rfl) ?_
        refine HList.vals (v := (.int .i64 (IntKind.i64.wrap (y2 + 1)))) rfl (HVal.add rfl rfl) ?_
        refine HList.vals (v := (.int .i64 (IntKind.i64.wrap (y2 + 1)))) rfl (HVal.assign' rfl) ?_
        refine HList.nil ?_
        refine nt ?_
        exact (hX1 _ _).1 h _ ⟨rfl, rfl, rfl, trivial⟩
    · have h := hF hb5
      clear hT hF
      refine HW.exit ?_
      refine te ?_
      refine te ?_
      refine be ?_
      refine nt ?_
      refine HW.seq ?_
      refine HW.region ?_
      refine HList.vals (v := (.bool true)) rfl (HVal.assign' rfl) ?_
      refine HList.nil ?_
      refine nt ?_
      refine HW.ret ?_
      exact ⟨_, resOf1 rfl Res1.t, ⟨true, rfl, h⟩⟩

def F17_1 (Q : ByteArray → Int → Hp → Prop) (y30 : Sl) (H_1 : Hp) : Prop :=
∃ L31 : List Int, (rds H_1 (y30).b (L31.map (Value.int .u8)) ∧ L31.length = (y30).n) ∧ (
 Q (bst L31) 0 H_1)
def F17_3 (Q : ByteArray → Int → Hp → Prop) (X2 : Sl → Int → Hp → Prop) (y16 : Int) (y17 : Sl) (y18 : Int) (y19 : Int) (y26 : Sl) (H_3 : Hp) : Prop :=
F33 y26 y16 10 H_3 (fun (r29 : Sl) (H27 : Hp) => 
 X2 r29 (IntKind.i64.wrap (y19 + 1)) H27)
def F17_L2b (Q : ByteArray → Int → Hp → Prop) (X2 : Sl → Int → Hp → Prop) (y7 : Sl) (y8 : Int) (y5 : Sl) (y6 : Int) (H_2 : Hp) : Prop :=
((decide (y6 < y8)) = true → (∃ a10 : Addr, (y7).b = some a10 ∧ (0 : Int) ≤ y6 ∧ y6 < ((y7).n : Int) ∧ (
 ∃ x15 : Int, cell H_2 (Addr.add a10 (y6.toNat * 1)) = some (.int .i64 x15) ∧ (
 ((decide ((0 : Int) < y6)) = true → (∀ H21 : Hp, H21 = Array.push H_2 (.cells #[(.int .u8 46)] 5) → (
 AppendF H21 5 1 1 #[(.int .u8 0)] y5 ((Sl.mk (some ⟨H_2.size, 0, none⟩) 1 1)).b ((Sl.mk (some ⟨H_2.size, 0, none⟩) 1 1)).n (fun (r25 : Sl) (H23 : Hp) => 
 F17_3 Q X2 x15 y7 y8 y6 r25 H23)))) ∧
 ((decide ((0 : Int) < y6)) = false → (F17_3 Q X2 x15 y7 y8 y6 y5 H_2)))))) ∧
 ((decide (y6 < y8)) = false → (F17_1 Q y5 H_2))
def F17_L2 (Q : ByteArray → Int → Hp → Prop) (y7 : Sl) (y8 : Int) (y5 : Sl) (y6 : Int) (H_2 : Hp) : Prop :=
  ∀ X2 : Sl → Int → Hp → Prop, (∀ (y5 : Sl) (y6 : Int) (H_2 : Hp), F17_L2b Q X2 y7 y8 y5 y6 H_2 → X2 y5 y6 H_2) → X2 y5 y6 H_2
def F17 (p0 : Sl) (H : Hp) (Q : ByteArray → Int → Hp → Prop) : Prop :=
F31 p0 H (fun (r3 : Bool) (H1 : Hp) => 
 ((!r3) = true → (Q (ByteArray.mk #[]) 120 H1)) ∧
 ((!r3) = false → (F17_L2 Q p0 ((p0).n : Int) Sl.nil 0 H1)))
set_option maxRecDepth 100000 in
set_option maxHeartbeats 4000000 in
theorem walk17 {w0 : World} {p0 : Sl} {H : Hp} {Q : ByteArray → Int → Hp → Prop} (h : F17 p0 H Q) :
    Good Tryd.prog w0 17 #[(Sl.v p0)] H (fun v H => ∃ (r0 : ByteArray) (r1 : Int) , v = (.tuple #[(.string r0), (.int .i64 r1)]) ∧ Q r0 r1 H) := by
  unfold F17 at h
  refine Good.enter' (fn := Tryd.f17) Tryd.func17 rfl rfl rfl ?_
  refine HW.seq ?_
  refine HW.region ?_
  refine HList.vals (v := (.string (ByteArray.mk #[]))) rfl (HVal.assign' rfl) ?_
  refine HList.vals (v := (.int .i64 0)) rfl (HVal.assign' rfl) ?_
  refine HList.nil ?_
  refine nt ?_
  refine HW.seq ?_
  refine HW.seq ?_
  refine HW.region ?_
  refine HList.vals (v := (Sl.v p0)) rfl (HVal.move' rfl) ?_
  refine HList.ops' rfl (HOp.call' 31 [(Sl.v p0)] (cap := []) rfl rfl Tryd.call31 (walk31 h)) ?_
  rintro _ H1 ⟨r3, rfl, h⟩
  refine HList.vals (v := (.bool (!r3))) rfl (HVal.not rfl) ?_
  refine HList.nil ?_
  refine nt ?_
  obtain ⟨hT, hF⟩ := h
  refine HW.cond (!r3) rfl (fun hb4 => ?_) (fun hb4 => ?_)
  · have h := hT hb4
    clear hT hF
    refine HW.seq ?_
    refine HW.region ?_
    refine HList.vals (v := (.string (ByteArray.mk #[]))) rfl (HVal.assign' rfl) ?_
    refine HList.vals (v := (.int .i64 120)) rfl (HVal.assign' rfl) ?_
    refine HList.nil ?_
    refine nt ?_
    refine HW.ret ?_
    refine tr ?_
    exact ⟨_, resOf2 rfl Res1.t Res1.t, ⟨(ByteArray.mk #[]), 120, rfl, h⟩⟩
  · have h := hF hb4
    clear hT hF
    refine HW.skip ?_
    refine nt ?_
    refine HW.seq ?_
    refine HW.region ?_
    refine HList.vals (v := (Sl.v Sl.nil)) rfl (HVal.assign' rfl) ?_
    refine HList.nil ?_
    refine nt ?_
    refine HW.cut (fun ρ H_1 => ∃ (y30 : Sl), Env.Is ρ [(4, (Sl.v y30))] ∧ F17_1 Q y30 H_1) ?_ ?_
    · refine HW.seq ?_
      refine HW.region ?_
      refine HList.vals (v := (Sl.v p0)) rfl (HVal.move' rfl) ?_
      refine HList.vals (v := (.int .i64 ((p0).n : Int))) rfl (HVal.len Tryd.runUnderlying22 rfl) ?_
      refine HList.vals (v := (.int .i64 0)) rfl (HVal.move' rfl) ?_
      refine HList.nil ?_
      refine nt ?_
      refine HW.block ?_
      refine HW.loop' (fun L2 hL2 => ?_)
      obtain ⟨X2, hX2⟩ : ∃ X2 : Sl → Int → Hp → Prop, ∀ (y5 : Sl) (y6 : Int) (H_2 : Hp), X2 y5 y6 H_2 ↔ ∀ ρ, Env.Is ρ [(10, (Sl.v p0)), (11, (.int .i64 ((p0).n : Int))), (4, (Sl.v y5)), (12, (.int .i64 y6))] → L2 ρ H_2 := ⟨_, fun _ _ _ => Iff.rfl⟩
      refine (hX2 _ _ _).1 (h X2 ?_) _ ?_
      rotate_left
      · exact ⟨rfl, rfl, rfl, rfl, trivial⟩
      clear h
      intro y5 y6 H_2 h
      refine (hX2 _ _ _).2 fun ρ hI => ?_
      obtain ⟨ρ0, rfl⟩ : ∃ ρ0, ρ = (Env.set (Env.set (Env.set (Env.set ρ0 12 (.int .i64 y6)) 4 (Sl.v y5)) 11 (.int .i64 ((p0).n : Int))) 10 (Sl.v p0)) := ⟨ρ, hI.eq⟩
      clear hI; unfold F17_L2b at h; refine hL2 _ _ ?_
      refine HW.seq ?_
      refine HW.region ?_
      refine HList.vals (v := (.bool (decide (y6 < ((p0).n : Int))))) rfl (HVal.lss rfl rfl) ?_
      refine HList.nil ?_
      refine nt ?_
      refine HW.seq ?_
      obtain ⟨hT, hF⟩ := h
      refine HW.cond (decide (y6 < ((p0).n : Int))) rfl (fun hb9 => ?_) (fun hb9 => ?_)
      · have h := hT hb9
        clear hT hF
        refine HW.skip ?_
        refine nt ?_
        refine HW.seq ?_
        refine HW.block ?_
        refine HW.seq ?_
        refine HW.region ?_
        refine HList.vals (v := (.int .i64 y6)) rfl (HVal.move' rfl) ?_
        obtain ⟨a10, e11, b12, b13, h⟩ := h
        refine HList.vals (v := (.pointer (some (Addr.add a10 (y6.toNat * 1))))) rfl (HVal.indexAddr Tryd.runUnderlying22 Tryd.sizeOf3 (Sl.v_some rfl e11) rfl b12 b13) ?_
        obtain ⟨x15, c14, h⟩ := h
        refine HList.vals (v := (.int .i64 x15)) rfl (HVal.load1 Tryd.isAgg3 rfl c14) ?_
        refine HList.vals (v := (.int .i64 y6)) rfl (HVal.assign' rfl) ?_
        refine HList.vals (v := (.int .i64 x15)) rfl (HVal.assign' rfl) ?_
        refine HList.nil ?_
        refine nt ?_
        refine HW.cut (fun ρ H_3 => ∃ (y26 : Sl), Env.Is ρ [(6, (.int .i64 x15)), (10, (Sl.v p0)), (11, (.int .i64 ((p0).n : Int))), (12, (.int .i64 y6)), (4, (Sl.v y26))] ∧ F17_3 Q X2 x15 p0 ((p0).n : Int) y6 y26 H_3) ?_ ?_
        · refine HW.seq ?_
          refine HW.region ?_
          refine HList.vals (v := (.int .i64 y6)) rfl (HVal.move' rfl) ?_
          refine HList.vals (v := (.bool (decide ((0 : Int) < y6)))) rfl (HVal.gtr rfl rfl) ?_
          refine HList.nil ?_
          refine nt ?_
          obtain ⟨hT, hF⟩ := h
          refine HW.cond (decide ((0 : Int) < y6)) rfl (fun hb20 => ?_) (fun hb20 => ?_)
          · have h := hT hb20
            clear hT hF
            refine HW.region ?_
            refine HList.vals (v := (Sl.v y5)) rfl (HVal.move' rfl) ?_
            refine HList.ops' rfl (HOp.buildSlice' (zs := [(.int .u8 0)]) (cs := [(.int .u8 46)]) Tryd.runUnderlying57 Tryd.sizeOf5 Tryd.zeroValue5 (by decide) (by kernel_rfl) rfl (by decide)) ?_
            rintro _ H21 ⟨rfl, e22⟩
            replace h := h H21 e22
            refine HList.ops' rfl (HOp.append (k := 1) (b := 1) Tryd.runUnderlying57 Tryd.runUnderlying57 Tryd.typeInfo5 rfl rfl Tryd.zeroValue5 rfl rfl h) ?_
            rintro _ H23 ⟨r25, rfl, h⟩
            refine HList.vals (v := (Sl.v r25)) rfl (HVal.assign' rfl) ?_
            refine HList.nil ?_
            refine nt ?_
            exact ⟨r25, ⟨rfl, rfl, rfl, rfl, rfl, trivial⟩, h⟩
          · have h := hF hb20
            clear hT hF
            refine HW.skip ?_
            refine nt ?_
            exact ⟨y5, ⟨rfl, rfl, rfl, rfl, rfl, trivial⟩, h⟩
        · rintro ρ H_3 ⟨y26, hI, h⟩
          obtain ⟨ρ0, rfl⟩ : ∃ ρ0, ρ = (Env.set (Env.set (Env.set (Env.set (Env.set ρ0 4 (Sl.v y26)) 12 (.int .i64 y6)) 11 (.int .i64 ((p0).n : Int))) 10 (Sl.v p0)) 6 (.int .i64 x15)) := ⟨ρ, hI.eq⟩
          clear hI; unfold F17_3 at h
          refine HW.region ?_
          refine HList.vals (v := (Sl.v y26)) rfl (HVal.move' rfl) ?_
          refine HList.vals (v := (.int .i64 x15)) rfl (HVal.move' rfl) ?_
          refine HList.ops' rfl (HOp.call' 33 [(Sl.v y26), (.int .i64 x15), (.int .i64 10)] (cap := []) rfl rfl Tryd.call33 (walk33 h)) ?_
          rintro _ H27 ⟨r29, rfl, h⟩
          refine HList.vals (v := (Sl.v r29)) rfl (HVal.assign' rfl) ?_
          refine HList.nil ?_
          refine nb ?_
          refine nt ?_
          refine HW.region ?_
          refine HList.vals (v := (.int .i64 (IntKind.i64.wrap (y6 + 1)))) rfl (HVal.add rfl rfl) ?_
          refine HList.vals (v := (.int .i64 (IntKind.i64.wrap (y6 + 1)))) rfl (HVal.move' rfl) ?_
          refine HList.nil ?_
          refine nt ?_
          exact (hX2 _ _ _).1 h _ ⟨rfl, rfl, rfl, rfl, trivial⟩
      · have h := hF hb9
        clear hT hF
        refine HW.exit ?_
        refine te ?_
        refine te ?_
        refine be ?_
        refine nt ?_
        exact ⟨y5, ⟨rfl, trivial⟩, h⟩
    · rintro ρ H_1 ⟨y30, hI, h⟩
      obtain ⟨ρ0, rfl⟩ : ∃ ρ0, ρ = (Env.set ρ0 4 (Sl.v y30)) := ⟨ρ, hI.eq⟩
      clear hI; unfold F17_1 at h
      refine HW.seq ?_
      refine HW.region ?_
      refine HList.vals (v := (Sl.v y30)) rfl (HVal.move' rfl) ?_
      obtain ⟨L31, c32, h⟩ := h
      refine HList.vals (v := (.string (bst L31))) rfl (HVal.convBS (L := L31) Tryd.runUnderlying57 Tryd.runUnderlying9 Tryd.runUnderlying5 rfl c32) ?_
      refine HList.vals (v := (.string (bst L31))) rfl (HVal.assign' rfl) ?_
      refine HList.vals (v := (.int .i64 0)) rfl (HVal.assign' rfl) ?_
      refine HList.nil ?_
      refine nt ?_
      refine HW.ret ?_
      exact ⟨_, resOf2 rfl Res1.t Res1.t, ⟨(bst L31), 0, rfl, h⟩⟩

def F18_1 (Q : Sl → Int → Hp → Prop) (y72 : Sl) (y73 : Bool) (H_1 : Hp) : Prop :=
(y73 = true → (Q Sl.nil 120 H_1)) ∧
 (y73 = false → (Q y72 0 H_1))
def F18_4 (Q : Sl → Int → Hp → Prop) (X2 : Sl → Bool → Hp → Prop) (y31 : Sl) (y32 : Int) (y33 : Int) (y34 : Addr) (y37 : Bool) (H_4 : Hp) : Prop :=
(y37 = true → (Q Sl.nil 120 H_4)) ∧
 (y37 = false → (∃ a49 : Addr, (y31).b = some a49 ∧ (0 : Int) ≤ y33 ∧ y33 < ((y31).n : Int) ∧ (
 ∃ x54 : Int, cell H_4 (Addr.add a49 (y33.toNat * 1)) = some (.int .i64 x54) ∧ (
 ∃ a55 : Addr, (y31).b = some a55 ∧ (0 : Int) ≤ y33 ∧ y33 < ((y31).n : Int) ∧ (
 (cell H_4 (Addr.add a55 (y33.toNat * 1))).isSome = true ∧ frz H_4 (Addr.add a55 (y33.toNat * 1)) = false ∧ ∀ H59 : Hp, H59 = setc H_4 (Addr.add a55 (y33.toNat * 1)) (.int .i64 (IntKind.i64.wrap ((IntKind.i64.wrap (x54 * 10)) + (IntKind.i64.wrap (IntKind.i32.wrap (y32 - 48)))))) → (
 ∃ a63 : Addr, (y31).b = some a63 ∧ (0 : Int) ≤ y33 ∧ y33 < ((y31).n : Int) ∧ (
 ∃ x68 : Int, cell H59 (Addr.add a63 (y33.toNat * 1)) = some (.int .i64 x68) ∧ (
 ((decide ((2147483647 : Int) < x68)) = true → (Q Sl.nil 120 H59)) ∧
 ((decide ((2147483647 : Int) < x68)) = false → (X2 y31 false H59))))))))))
def F18_3 (Q : Sl → Int → Hp → Prop) (X2 : Sl → Bool → Hp → Prop) (y15 : Sl) (y16 : Bool) (y17 : Int) (y18 : Int) (y19 : Addr) (y24 : Bool) (H_3 : Hp) : Prop :=
(y24 = true → (∀ H26 : Hp, H26 = Array.push H_3 (.cells #[(.int .i64 0)] 3) → (
 AppendF H26 3 1 8 #[(.int .i64 0)] y15 ((Sl.mk (some ⟨H_3.size, 0, none⟩) 1 1)).b ((Sl.mk (some ⟨H_3.size, 0, none⟩) 1 1)).n (fun (r30 : Sl) (H28 : Hp) => 
 X2 r30 true H28)))) ∧
 (y24 = false → (((decide (y17 < 48)) = true → (F18_4 Q X2 y15 y17 y18 y19 true H_3)) ∧
 ((decide (y17 < 48)) = false → (((decide ((57 : Int) < y17)) = true → (F18_4 Q X2 y15 y17 y18 y19 true H_3)) ∧
 ((decide ((57 : Int) < y17)) = false → (((!y16) = true → (∃ a42 : Addr, (y15).b = some a42 ∧ (0 : Int) ≤ y18 ∧ y18 < ((y15).n : Int) ∧ (
 ∃ x47 : Int, cell H_3 (Addr.add a42 (y18.toNat * 1)) = some (.int .i64 x47) ∧ (
 F18_4 Q X2 y15 y17 y18 y19 (decide (x47 = 0)) H_3)))) ∧
 ((!y16) = false → (F18_4 Q X2 y15 y17 y18 y19 false H_3))))))))
def F18_L2b (Q : Sl → Int → Hp → Prop) (X2 : Sl → Bool → Hp → Prop) (y7 : Addr) (y5 : Sl) (y6 : Bool) (H_2 : Hp) : Prop :=
∃ (ss8 : ByteArray) (ps9 : Nat), iterAt H_2 y7 ss8 ps9 ∧ (
 ((decide (ps9 < (ss8).size)) = true → (∀ H13 : Hp, H13 = seto H_2 (y7).block (.stringIter ss8 (ps9 + (Utf8.decode ss8 ps9).2)) → (
 ((decide (((Utf8.decode ss8 ps9).1 : Int) = 46)) = true → (((!y6) = true → (F18_3 Q X2 y5 y6 ((Utf8.decode ss8 ps9).1 : Int) (IntKind.i64.wrap (((y5).n : Int) - 1)) y7 (decide (((y5).n : Int) < 64)) H13)) ∧
 ((!y6) = false → (F18_3 Q X2 y5 y6 ((Utf8.decode ss8 ps9).1 : Int) (IntKind.i64.wrap (((y5).n : Int) - 1)) y7 false H13)))) ∧
 ((decide (((Utf8.decode ss8 ps9).1 : Int) = 46)) = false → (F18_3 Q X2 y5 y6 ((Utf8.decode ss8 ps9).1 : Int) (IntKind.i64.wrap (((y5).n : Int) - 1)) y7 false H13))))) ∧
 ((decide (ps9 < (ss8).size)) = false → (F18_1 Q y5 y6 H_2)))
def F18_L2 (Q : Sl → Int → Hp → Prop) (y7 : Addr) (y5 : Sl) (y6 : Bool) (H_2 : Hp) : Prop :=
  ∀ X2 : Sl → Bool → Hp → Prop, (∀ (y5 : Sl) (y6 : Bool) (H_2 : Hp), F18_L2b Q X2 y7 y5 y6 H_2 → X2 y5 y6 H_2) → X2 y5 y6 H_2
def F18 (p0 : ByteArray) (H : Hp) (Q : Sl → Int → Hp → Prop) : Prop :=
∀ H1 : Hp, H1 = Array.push H (.cells #[(.int .i64 0)] 3) → (
 ∀ H3 : Hp, H3 = Array.push H1 (.stringIter p0 0) → (
 F18_L2 Q ⟨H1.size, 0, none⟩ (Sl.mk (some ⟨H.size, 0, none⟩) 1 1) true H3))
set_option maxRecDepth 100000 in
set_option maxHeartbeats 4000000 in
theorem walk18 {w0 : World} {p0 : ByteArray} {H : Hp} {Q : Sl → Int → Hp → Prop} (h : F18 p0 H Q) :
    Good Tryd.prog w0 18 #[(.string p0)] H (fun v H => ∃ (r0 : Sl) (r1 : Int) , v = (.tuple #[(Sl.v r0), (.int .i64 r1)]) ∧ Q r0 r1 H) := by
  unfold F18 at h
  refine Good.enter' (fn := Tryd.f18) Tryd.func18 rfl rfl rfl ?_
  refine HW.seq ?_
  refine HW.region ?_
  refine HList.vals (v := (Sl.v Sl.nil)) rfl (HVal.assign' rfl) ?_
  refine HList.vals (v := (.int .i64 0)) rfl (HVal.assign' rfl) ?_
  refine HList.nil ?_
  refine nt ?_
  refine HW.seq ?_
  refine HW.region ?_
  refine HList.ops' rfl (HOp.buildSlice' (zs := [(.int .i64 0)]) (cs := [(.int .i64 0)]) Tryd.runUnderlying22 Tryd.sizeOf3 Tryd.zeroValue3 (by decide) (by kernel_rfl) rfl (by decide)) ?_
  rintro _ H1 ⟨rfl, e2⟩
  replace h := h H1 e2
  refine HList.vals (v := (Sl.v (Sl.mk (some ⟨H.size, 0, none⟩) 1 1))) rfl (HVal.assign' rfl) ?_
  refine HList.nil ?_
  refine nt ?_
  refine HW.seq ?_
  refine HW.region ?_
  refine HList.vals (v := (.bool true)) rfl (HVal.assign' rfl) ?_
  refine HList.nil ?_
  refine nt ?_
  refine HW.cut (fun ρ H_1 => ∃ (y72 : Sl) (y73 : Bool), Env.Is ρ [(4, (Sl.v y72)), (5, (.bool y73))] ∧ F18_1 Q y72 y73 H_1) ?_ ?_
  · refine HW.seq ?_
    refine HW.region ?_
    refine HList.vals (v := (.string p0)) rfl (HVal.move' rfl) ?_
    refine HList.ops' rfl (HOp.range Tryd.runUnderlying9 rfl) ?_
    rintro _ H3 ⟨rfl, e4⟩
    replace h := h H3 e4
    refine HList.nil ?_
    refine nt ?_
    refine HW.block ?_
    refine HW.loop' (fun L2 hL2 => ?_)
    obtain ⟨X2, hX2⟩ : ∃ X2 : Sl → Bool → Hp → Prop, ∀ (y5 : Sl) (y6 : Bool) (H_2 : Hp), X2 y5 y6 H_2 ↔ ∀ ρ, Env.Is ρ [(11, (.pointer (some ⟨H1.size, 0, none⟩))), (4, (Sl.v y5)), (5, (.bool y6))] → L2 ρ H_2 := ⟨_, fun _ _ _ => Iff.rfl⟩
    refine (hX2 _ _ _).1 (h X2 ?_) _ ?_
    rotate_left
    · exact ⟨rfl, rfl, rfl, trivial⟩
    clear h
    intro y5 y6 H_2 h
    refine (hX2 _ _ _).2 fun ρ hI => ?_
    obtain ⟨ρ0, rfl⟩ : ∃ ρ0, ρ = (Env.set (Env.set (Env.set ρ0 5 (.bool y6)) 4 (Sl.v y5)) 11 (.pointer (some ⟨H1.size, 0, none⟩))) := ⟨ρ, hI.eq⟩
    clear hI; unfold F18_L2b at h; refine hL2 _ _ ?_
    refine HW.seq ?_
    refine HW.region ?_
    obtain ⟨ss8, ps9, c10, h⟩ := h
    obtain ⟨hT, hF⟩ := h
    rcases Bool.eq_false_or_eq_true (decide (ps9 < (ss8).size)) with hb11 | hb12
    · have h := hT hb11
      clear hT hF
      refine HList.ops' rfl (HOp.nextT rfl c10 hb11) ?_
      rintro _ H13 ⟨rfl, e14⟩
      replace h := h H13 e14
      refine HList.vals (v := (.bool true)) rfl (HVal.extract rfl rfl) ?_
      refine HList.nil ?_
      refine nt ?_
      refine HW.seq ?_
      refine HW.condT true rfl rfl ?_
      refine HW.skip ?_
      refine nt ?_
      refine HW.block ?_
      refine HW.seq ?_
      refine HW.region ?_
      refine HList.vals (v := (.int .i32 ((Utf8.decode ss8 ps9).1 : Int))) rfl (HVal.extract rfl rfl) ?_
      refine HList.vals (v := (.int .i32 ((Utf8.decode ss8 ps9).1 : Int))) rfl (HVal.assign' rfl) ?_
      refine HList.nil ?_
      refine nt ?_
      refine HW.seq ?_
      refine HW.region ?_
      refine HList.vals (v := (Sl.v y5)) rfl (HVal.move' rfl) ?_
      refine HList.vals (v := (.int .i64 ((y5).n : Int))) rfl (HVal.len Tryd.runUnderlying22 rfl) ?_
      refine HList.vals (v := (.int .i64 (IntKind.i64.wrap (((y5).n : Int) - 1)))) rfl (HVal.sub rfl rfl) ?_
      refine HList.vals (v := (.int .i64 (IntKind.i64.wrap (((y5).n : Int) - 1)))) rfl (HVal.assign' rfl) ?_
      refine HList.nil ?_
      refine nt ?_
      refine HW.seq ?_
      refine HW.block ?_
      refine HW.cut (fun ρ H_3 => ∃ (y24 : Bool), Env.Is ρ [(4, (Sl.v y5)), (5, (.bool y6)), (7, (.int .i32 ((Utf8.decode ss8 ps9).1 : Int))), (8, (.int .i64 (IntKind.i64.wrap (((y5).n : Int) - 1)))), (11, (.pointer (some ⟨H1.size, 0, none⟩))), (18, (.bool y24))] ∧ F18_3 Q X2 y5 y6 ((Utf8.decode ss8 ps9).1 : Int) (IntKind.i64.wrap (((y5).n : Int) - 1)) ⟨H1.size, 0, none⟩ y24 H_3) ?_ ?_
      · refine HW.region ?_
        refine HList.vals (v := (.int .i32 ((Utf8.decode ss8 ps9).1 : Int))) rfl (HVal.move' rfl) ?_
        refine HList.vals (v := (.bool (decide (((Utf8.decode ss8 ps9).1 : Int) = 46)))) rfl (HVal.eqlI rfl rfl) ?_
        refine HList.vals (v := (.bool (decide (((Utf8.decode ss8 ps9).1 : Int) = 46)))) rfl (HVal.move' rfl) ?_
        obtain ⟨hT, hF⟩ := h
        rcases Bool.eq_false_or_eq_true (decide (((Utf8.decode ss8 ps9).1 : Int) = 46)) with hb20 | hb21
        · have h := hT hb20
          clear hT hF
          refine HList.gvals (v := (.bool y6)) rfl rfl rfl rfl (congrArg Value.bool hb20) (HVal.move' rfl) ?_
          refine HList.gvals (v := (.bool (!y6))) rfl rfl rfl rfl (congrArg Value.bool hb20) (HVal.not rfl) ?_
          refine HList.vals (v := (.bool (!y6))) rfl (HVal.pickT rfl hb20 rfl) ?_
          refine HList.vals (v := (.bool (!y6))) rfl (HVal.move' rfl) ?_
          obtain ⟨hT, hF⟩ := h
          rcases Bool.eq_false_or_eq_true (!y6) with hb22 | hb23
          · have h := hT hb22
            clear hT hF
            refine HList.gvals (v := (Sl.v y5)) rfl rfl rfl rfl (congrArg Value.bool hb22) (HVal.move' rfl) ?_
            refine HList.gvals (v := (.int .i64 ((y5).n : Int))) rfl rfl rfl rfl (congrArg Value.bool hb22) (HVal.len Tryd.runUnderlying22 rfl) ?_
            refine HList.gvals (v := (.bool (decide (((y5).n : Int) < 64)))) rfl rfl rfl rfl (congrArg Value.bool hb22) (HVal.lss rfl rfl) ?_
            refine HList.vals (v := (.bool (decide (((y5).n : Int) < 64)))) rfl (HVal.pickT rfl hb22 rfl) ?_
            refine HList.vals (v := (.bool (decide (((y5).n : Int) < 64)))) rfl (HVal.assign' rfl) ?_
            refine HList.nil ?_
            refine nt ?_
            exact ⟨(decide (((y5).n : Int) < 64)), ⟨rfl, rfl, rfl, rfl, rfl, rfl, trivial⟩, h⟩
          · have h := hF hb23
            clear hT hF
            refine HList.gskips rfl rfl rfl rfl (congrArg Value.bool hb23) ?_
            refine HList.gskips rfl rfl rfl rfl (congrArg Value.bool hb23) ?_
            refine HList.gskips rfl rfl rfl rfl (congrArg Value.bool hb23) ?_
            refine HList.vals (v := (.bool false)) rfl (HVal.pickF rfl hb23 rfl) ?_
            refine HList.vals (v := (.bool false)) rfl (HVal.assign' rfl) ?_
            refine HList.nil ?_
            refine nt ?_
            exact ⟨false, ⟨rfl, rfl, rfl, rfl, rfl, rfl, trivial⟩, h⟩
        · have h := hF hb21
          clear hT hF
          refine HList.gskips rfl rfl rfl rfl (congrArg Value.bool hb21) ?_
          refine HList.gskips rfl rfl rfl rfl (congrArg Value.bool hb21) ?_
          refine HList.vals (v := (.bool false)) rfl (HVal.pickF rfl hb21 rfl) ?_
          refine HList.vals (v := (.bool false)) rfl (HVal.move' rfl) ?_
          refine HList.gskips rfl rfl rfl rfl rfl ?_
          refine HList.gskips rfl rfl rfl rfl rfl ?_
          refine HList.gskips rfl rfl rfl rfl rfl ?_
          refine HList.vals (v := (.bool false)) rfl (HVal.pickF rfl rfl rfl) ?_
          refine HList.vals (v := (.bool false)) rfl (HVal.assign' rfl) ?_
          refine HList.nil ?_
          refine nt ?_
          exact ⟨false, ⟨rfl, rfl, rfl, rfl, rfl, rfl, trivial⟩, h⟩
      · rintro ρ H_3 ⟨y24, hI, h⟩
        obtain ⟨ρ0, rfl⟩ : ∃ ρ0, ρ = (Env.set (Env.set (Env.set (Env.set (Env.set (Env.set ρ0 18 (.bool y24)) 11 (.pointer (some ⟨H1.size, 0, none⟩))) 8 (.int .i64 (IntKind.i64.wrap (((y5).n : Int) - 1)))) 7 (.int .i32 ((Utf8.decode ss8 ps9).1 : Int))) 5 (.bool y6)) 4 (Sl.v y5)) := ⟨ρ, hI.eq⟩
        clear hI; unfold F18_3 at h
        obtain ⟨hT, hF⟩ := h
        refine HW.cond y24 rfl (fun hb25 => ?_) (fun hb25 => ?_)
        · have h := hT hb25
          clear hT hF
          refine HW.seq ?_
          refine HW.region ?_
          refine HList.vals (v := (Sl.v y5)) rfl (HVal.move' rfl) ?_
          refine HList.ops' rfl (HOp.buildSlice' (zs := [(.int .i64 0)]) (cs := [(.int .i64 0)]) Tryd.runUnderlying22 Tryd.sizeOf3 Tryd.zeroValue3 (by decide) (by kernel_rfl) rfl (by decide)) ?_
          rintro _ H26 ⟨rfl, e27⟩
          replace h := h H26 e27
          refine HList.ops' rfl (HOp.append (k := 1) (b := 8) Tryd.runUnderlying22 Tryd.runUnderlying22 Tryd.typeInfo3 rfl rfl Tryd.zeroValue3 rfl rfl h) ?_
          rintro _ H28 ⟨r30, rfl, h⟩
          refine HList.vals (v := (Sl.v r30)) rfl (HVal.assign' rfl) ?_
          refine HList.vals (v := (.bool true)) rfl (HVal.assign' rfl) ?_
          refine HList.nil ?_
          refine nt ?_
          refine HW.exit ?_
          refine bx rfl ?_
          refine te ?_
          refine be ?_
          refine nt ?_
          exact (hX2 _ _ _).1 h _ ⟨rfl, rfl, rfl, trivial⟩
        · have h := hF hb25
          clear hT hF
          refine HW.cut (fun ρ H_4 => ∃ (y37 : Bool), Env.Is ρ [(4, (Sl.v y5)), (7, (.int .i32 ((Utf8.decode ss8 ps9).1 : Int))), (8, (.int .i64 (IntKind.i64.wrap (((y5).n : Int) - 1)))), (11, (.pointer (some ⟨H1.size, 0, none⟩))), (33, (.bool y37))] ∧ F18_4 Q X2 y5 ((Utf8.decode ss8 ps9).1 : Int) (IntKind.i64.wrap (((y5).n : Int) - 1)) ⟨H1.size, 0, none⟩ y37 H_4) ?_ ?_
          · refine HW.region ?_
            refine HList.vals (v := (.int .i32 ((Utf8.decode ss8 ps9).1 : Int))) rfl (HVal.move' rfl) ?_
            refine HList.vals (v := (.bool (decide (((Utf8.decode ss8 ps9).1 : Int) < 48)))) rfl (HVal.lss rfl rfl) ?_
            refine HList.vals (v := (.bool (decide (((Utf8.decode ss8 ps9).1 : Int) < 48)))) rfl (HVal.move' rfl) ?_
            obtain ⟨hT, hF⟩ := h
            rcases Bool.eq_false_or_eq_true (decide (((Utf8.decode ss8 ps9).1 : Int) < 48)) with hb35 | hb36
            · have h := hT hb35
              clear hT hF
              refine HList.gskips rfl rfl rfl rfl (congrArg Value.bool hb35) ?_
              refine HList.gskips rfl rfl rfl rfl (congrArg Value.bool hb35) ?_
              refine HList.vals (v := (.bool true)) rfl (HVal.pickT rfl hb35 rfl) ?_
              refine HList.vals (v := (.bool true)) rfl (HVal.move' rfl) ?_
              refine HList.gskips rfl rfl rfl rfl rfl ?_
              refine HList.gskips rfl rfl rfl rfl rfl ?_
              refine HList.gskips rfl rfl rfl rfl rfl ?_
              refine HList.uskips rfl rfl rfl rfl rfl ?_
              refine HList.uskips rfl rfl rfl rfl rfl ?_
              refine HList.uskips rfl rfl rfl rfl rfl ?_
              refine HList.uskips rfl rfl rfl rfl rfl ?_
              refine HList.uskips rfl rfl rfl rfl rfl ?_
              refine HList.gskips rfl rfl rfl rfl rfl ?_
              refine HList.vals (v := (.bool true)) rfl (HVal.pickT rfl rfl rfl) ?_
              refine HList.vals (v := (.bool true)) rfl (HVal.assign' rfl) ?_
              refine HList.nil ?_
              refine nt ?_
              exact ⟨true, ⟨rfl, rfl, rfl, rfl, rfl, trivial⟩, h⟩
            · have h := hF hb36
              clear hT hF
              refine HList.gvals (v := (.int .i32 ((Utf8.decode ss8 ps9).1 : Int))) rfl rfl rfl rfl (congrArg Value.bool hb36) (HVal.move' rfl) ?_
              refine HList.gvals (v := (.bool (decide ((57 : Int) < ((Utf8.decode ss8 ps9).1 : Int))))) rfl rfl rfl rfl (congrArg Value.bool hb36) (HVal.gtr rfl rfl) ?_
              refine HList.vals (v := (.bool (decide ((57 : Int) < ((Utf8.decode ss8 ps9).1 : Int))))) rfl (HVal.pickF rfl hb36 rfl) ?_
              refine HList.vals (v := (.bool (decide ((57 : Int) < ((Utf8.decode ss8 ps9).1 : Int))))) rfl (HVal.move' rfl) ?_
              obtain ⟨hT, hF⟩ := h
              rcases Bool.eq_false_or_eq_true (decide ((57 : Int) < ((Utf8.decode ss8 ps9).1 : Int))) with hb38 | hb39
              · have h := hT hb38
                clear hT hF
                refine HList.gskips rfl rfl rfl rfl (congrArg Value.bool hb38) ?_
                refine HList.gskips rfl rfl rfl rfl (congrArg Value.bool hb38) ?_
                refine HList.gskips rfl rfl rfl rfl (congrArg Value.bool hb38) ?_
                refine HList.uskips rfl rfl rfl rfl rfl ?_
                refine HList.uskips rfl rfl rfl rfl rfl ?_
                refine HList.uskips rfl rfl rfl rfl rfl ?_
                refine HList.uskips rfl rfl rfl rfl rfl ?_
                refine HList.uskips rfl rfl rfl rfl rfl ?_
                refine HList.gskips rfl rfl rfl rfl (congrArg Value.bool hb38) ?_
                refine HList.vals (v := (.bool true)) rfl (HVal.pickT rfl hb38 rfl) ?_
                refine HList.vals (v := (.bool true)) rfl (HVal.assign' rfl) ?_
                refine HList.nil ?_
                refine nt ?_
                exact ⟨true, ⟨rfl, rfl, rfl, rfl, rfl, trivial⟩, h⟩
              · have h := hF hb39
                clear hT hF
                refine HList.gvals (v := (.bool y6)) rfl rfl rfl rfl (congrArg Value.bool hb39) (HVal.move' rfl) ?_
                refine HList.gvals (v := (.bool (!y6))) rfl rfl rfl rfl (congrArg Value.bool hb39) (HVal.not rfl) ?_
                refine HList.gvals (v := (.bool (!y6))) rfl rfl rfl rfl (congrArg Value.bool hb39) (HVal.move' rfl) ?_
                obtain ⟨hT, hF⟩ := h
                rcases Bool.eq_false_or_eq_true (!y6) with hb40 | hb41
                · have h := hT hb40
                  clear hT hF
                  refine HList.gvals (v := (Sl.v y5)) rfl rfl rfl rfl (congrArg Value.bool hb40) (HVal.move' rfl) ?_
                  refine HList.gvals (v := (.int .i64 (IntKind.i64.wrap (((y5).n : Int) - 1)))) rfl rfl rfl rfl (congrArg Value.bool hb40) (HVal.move' rfl) ?_
                  obtain ⟨a42, e43, b44, b45, h⟩ := h
                  refine HList.gvals (v := (.pointer (some (Addr.add a42 ((IntKind.i64.wrap (((y5).n : Int) - 1)).toNat * 1))))) rfl rfl rfl rfl (congrArg Value.bool hb40) (HVal.indexAddr Tryd.runUnderlying22 Tryd.sizeOf3 (Sl.v_some rfl e43) rfl b44 b45) ?_
                  obtain ⟨x47, c46, h⟩ := h
                  refine HList.gvals (v := (.int .i64 x47)) rfl rfl rfl rfl (congrArg Value.bool hb40) (HVal.load1 Tryd.isAgg3 rfl c46) ?_
                  refine HList.gvals (v := (.bool (decide (x47 = 0)))) rfl rfl rfl rfl (congrArg Value.bool hb40) (HVal.eqlI rfl rfl) ?_
                  refine HList.gvals (v := (.bool (decide (x47 = 0)))) rfl rfl rfl rfl (congrArg Value.bool hb39) (HVal.pickT rfl hb40 rfl) ?_
                  refine HList.vals (v := (.bool (decide (x47 = 0)))) rfl (HVal.pickF rfl hb39 rfl) ?_
                  refine HList.vals (v := (.bool (decide (x47 = 0)))) rfl (HVal.assign' rfl) ?_
                  refine HList.nil ?_
                  refine nt ?_
                  exact ⟨(decide (x47 = 0)), ⟨rfl, rfl, rfl, rfl, rfl, trivial⟩, h⟩
                · have h := hF hb41
                  clear hT hF
                  refine HList.gskips rfl rfl rfl rfl (congrArg Value.bool hb41) ?_
                  refine HList.gskips rfl rfl rfl rfl (congrArg Value.bool hb41) ?_
                  refine HList.gskips rfl rfl rfl rfl (congrArg Value.bool hb41) ?_
                  refine HList.gskips rfl rfl rfl rfl (congrArg Value.bool hb41) ?_
                  refine HList.gskips rfl rfl rfl rfl (congrArg Value.bool hb41) ?_
                  refine HList.gvals (v := (.bool false)) rfl rfl rfl rfl (congrArg Value.bool hb39) (HVal.pickF rfl hb41 rfl) ?_
                  refine HList.vals (v := (.bool false)) rfl (HVal.pickF rfl hb39 rfl) ?_
                  refine HList.vals (v := (.bool false)) rfl (HVal.assign' rfl) ?_
                  refine HList.nil ?_
                  refine nt ?_
                  exact ⟨false, ⟨rfl, rfl, rfl, rfl, rfl, trivial⟩, h⟩
          · rintro ρ H_4 ⟨y37, hI, h⟩
            obtain ⟨ρ0, rfl⟩ : ∃ ρ0, ρ = (Env.set (Env.set (Env.set (Env.set (Env.set ρ0 33 (.bool y37)) 11 (.pointer (some ⟨H1.size, 0, none⟩))) 8 (.int .i64 (IntKind.i64.wrap (((y5).n : Int) - 1)))) 7 (.int .i32 ((Utf8.decode ss8 ps9).1 : Int))) 4 (Sl.v y5)) := ⟨ρ, hI.eq⟩
            clear hI; unfold F18_4 at h
            obtain ⟨hT, hF⟩ := h
            refine HW.cond y37 rfl (fun hb48 => ?_) (fun hb48 => ?_)
            · have h := hT hb48
              clear hT hF
              refine HW.seq ?_
              refine HW.region ?_
              refine HList.vals (v := (Sl.v Sl.nil)) rfl (HVal.assign' rfl) ?_
              refine HList.vals (v := (.int .i64 120)) rfl (HVal.assign' rfl) ?_
              refine HList.nil ?_
              refine nt ?_
              refine HW.ret ?_
              refine br ?_
              refine tr ?_
              refine br ?_
              refine tr ?_
              refine br ?_
              refine tr ?_
              exact ⟨_, resOf2 rfl Res1.t Res1.t, ⟨Sl.nil, 120, rfl, h⟩⟩
            · have h := hF hb48
              clear hT hF
              refine HW.skip ?_
              refine nb ?_
              refine nt ?_
              refine HW.seq ?_
              refine HW.region ?_
              refine HList.vals (v := (Sl.v y5)) rfl (HVal.move' rfl) ?_
              refine HList.vals (v := (.int .i64 (IntKind.i64.wrap (((y5).n : Int) - 1)))) rfl (HVal.move' rfl) ?_
              refine HList.vals (v := (Sl.v y5)) rfl (HVal.move' rfl) ?_
              refine HList.vals (v := (.int .i64 (IntKind.i64.wrap (((y5).n : Int) - 1)))) rfl (HVal.move' rfl) ?_
              obtain ⟨a49, e50, b51, b52, h⟩ := h
              refine HList.vals (v := (.pointer (some (Addr.add a49 ((IntKind.i64.wrap (((y5).n : Int) - 1)).toNat * 1))))) rfl (HVal.indexAddr Tryd.runUnderlying22 Tryd.sizeOf3 (Sl.v_some rfl e50) rfl b51 b52) ?_
              obtain ⟨x54, c53, h⟩ := h
              refine HList.vals (v := (.int .i64 x54)) rfl (HVal.load1 Tryd.isAgg3 rfl c53) ?_
              refine HList.vals (v := (.int .i64 (IntKind.i64.wrap (x54 * 10)))) rfl (HVal.mul rfl rfl) ?_
              refine HList.vals (v := (.int .i32 ((Utf8.decode ss8 ps9).1 : Int))) rfl (HVal.move' rfl) ?_
              refine HList.vals (v := (.int .i32 (IntKind.i32.wrap (((Utf8.decode ss8 ps9).1 : Int) - 48)))) rfl (HVal.sub rfl rfl) ?_
              refine HList.vals (v := (.int .i64 (IntKind.i64.wrap (IntKind.i32.wrap (((Utf8.decode ss8 ps9).1 : Int) - 48))))) rfl (HVal.convI Tryd.runUnderlying21 Tryd.runUnderlying3 rfl) ?_
              refine HList.vals (v := (.int .i64 (IntKind.i64.wrap ((IntKind.i64.wrap (x54 * 10)) + (IntKind.i64.wrap (IntKind.i32.wrap (((Utf8.decode ss8 ps9).1 : Int) - 48))))))) rfl (HVal.add rfl rfl) ?_
              obtain ⟨a55, e56, b57, b58, h⟩ := h
              refine HList.vals (v := (.pointer (some (Addr.add a55 ((IntKind.i64.wrap (((y5).n : Int) - 1)).toNat * 1))))) rfl (HVal.indexAddr Tryd.runUnderlying22 Tryd.sizeOf3 (Sl.v_some rfl e56) rfl b57 b58) ?_
              obtain ⟨z61, z62, h⟩ := h
              refine HList.opsn (HOp.store1 Tryd.sizeOf3 rfl rfl rfl z61 z62) ?_
              rintro _ H59 e60
              replace h := h H59 e60
              refine HList.nil ?_
              refine nt ?_
              refine HW.seq ?_
              refine HW.region ?_
              refine HList.vals (v := (.bool false)) rfl (HVal.assign' rfl) ?_
              refine HList.nil ?_
              refine nt ?_
              refine HW.seq ?_
              refine HW.region ?_
              refine HList.vals (v := (Sl.v y5)) rfl (HVal.move' rfl) ?_
              refine HList.vals (v := (.int .i64 (IntKind.i64.wrap (((y5).n : Int) - 1)))) rfl (HVal.move' rfl) ?_
              obtain ⟨a63, e64, b65, b66, h⟩ := h
              refine HList.vals (v := (.pointer (some (Addr.add a63 ((IntKind.i64.wrap (((y5).n : Int) - 1)).toNat * 1))))) rfl (HVal.indexAddr Tryd.runUnderlying22 Tryd.sizeOf3 (Sl.v_some rfl e64) rfl b65 b66) ?_
              obtain ⟨x68, c67, h⟩ := h
              refine HList.vals (v := (.int .i64 x68)) rfl (HVal.load1 Tryd.isAgg3 rfl c67) ?_
              refine HList.vals (v := (.bool (decide ((2147483647 : Int) < x68)))) rfl (HVal.gtr rfl rfl) ?_
              refine HList.nil ?_
              refine nt ?_
              obtain ⟨hT, hF⟩ := h
              refine HW.cond (decide ((2147483647 : Int) < x68)) rfl (fun hb69 => ?_) (fun hb69 => ?_)
              · have h := hT hb69
                clear hT hF
                refine HW.seq ?_
                refine HW.region ?_
                refine HList.vals (v := (Sl.v Sl.nil)) rfl (HVal.assign' rfl) ?_
                refine HList.vals (v := (.int .i64 120)) rfl (HVal.assign' rfl) ?_
                refine HList.nil ?_
                refine nt ?_
                refine HW.ret ?_
                refine br ?_
                refine tr ?_
                refine br ?_
                refine tr ?_
                exact ⟨_, resOf2 rfl Res1.t Res1.t, ⟨Sl.nil, 120, rfl, h⟩⟩
              · have h := hF hb69
                clear hT hF
                refine HW.skip ?_
                refine nb ?_
                refine nt ?_
                exact (hX2 _ _ _).1 h _ ⟨rfl, rfl, rfl, trivial⟩
    · have h := hF hb12
      clear hT hF
      refine HList.ops' rfl (HOp.nextF rfl c10 hb12) ?_
      rintro _ H70 ⟨rfl, rfl⟩
      refine HList.vals (v := (.bool false)) rfl (HVal.extract rfl rfl) ?_
      refine HList.nil ?_
      refine nt ?_
      refine HW.seq ?_
      refine HW.condF false rfl rfl ?_
      refine HW.exit ?_
      refine te ?_
      refine te ?_
      refine be ?_
      refine nt ?_
      exact ⟨y5, y6, ⟨rfl, rfl, trivial⟩, h⟩
  · rintro ρ H_1 ⟨y72, y73, hI, h⟩
    obtain ⟨ρ0, rfl⟩ : ∃ ρ0, ρ = (Env.set (Env.set ρ0 5 (.bool y73)) 4 (Sl.v y72)) := ⟨ρ, hI.eq⟩
    clear hI; unfold F18_1 at h
    refine HW.seq ?_
    refine HW.seq ?_
    refine HW.region ?_
    refine HList.vals (v := (.bool y73)) rfl (HVal.move' rfl) ?_
    refine HList.nil ?_
    refine nt ?_
    obtain ⟨hT, hF⟩ := h
    refine HW.cond y73 rfl (fun hb74 => ?_) (fun hb74 => ?_)
    · have h := hT hb74
      clear hT hF
      refine HW.seq ?_
      refine HW.region ?_
      refine HList.vals (v := (Sl.v Sl.nil)) rfl (HVal.assign' rfl) ?_
      refine HList.vals (v := (.int .i64 120)) rfl (HVal.assign' rfl) ?_
      refine HList.nil ?_
      refine nt ?_
      refine HW.ret ?_
      refine tr ?_
      exact ⟨_, resOf2 rfl Res1.t Res1.t, ⟨Sl.nil, 120, rfl, h⟩⟩
    · have h := hF hb74
      clear hT hF
      refine HW.skip ?_
      refine nt ?_
      refine HW.seq ?_
      refine HW.region ?_
      refine HList.vals (v := (Sl.v y72)) rfl (HVal.move' rfl) ?_
      refine HList.vals (v := (Sl.v y72)) rfl (HVal.assign' rfl) ?_
      refine HList.vals (v := (.int .i64 0)) rfl (HVal.assign' rfl) ?_
      refine HList.nil ?_
      refine nt ?_
      refine HW.ret ?_
      exact ⟨_, resOf2 rfl Res1.t Res1.t, ⟨y72, 0, rfl, h⟩⟩

def F30_1 (Q : Bool → Hp → Prop) (y4 : Sl) (y5 : Sl) (y6 : Int) (y9 : Bool) (H_1 : Hp) : Prop :=
(y9 = true → (Q false H_1)) ∧
 (y9 = false → (((decide (y6 = ((y4).n : Int))) = true → (Q true H_1)) ∧
 ((decide (y6 = ((y4).n : Int))) = false → (((decide (((y4).n : Int) = ((y5).n : Int))) = true → (((decide (y6 = (IntKind.i64.wrap (((y4).n : Int) - 1)))) = true → (∃ a16 : Addr, (y5).b = some a16 ∧ (0 : Int) ≤ y6 ∧ y6 < ((y5).n : Int) ∧ (
 ∃ x21 : Int, cell H_1 (Addr.add a16 (y6.toNat * 1)) = some (.int .i64 x21) ∧ (
 ∃ a22 : Addr, (y4).b = some a22 ∧ (0 : Int) ≤ y6 ∧ y6 < ((y4).n : Int) ∧ (
 ∃ x27 : Int, cell H_1 (Addr.add a22 (y6.toNat * 1)) = some (.int .i64 x27) ∧ (
 Q (decide (x27 ≤ x21)) H_1)))))) ∧
 ((decide (y6 = (IntKind.i64.wrap (((y4).n : Int) - 1)))) = false → (Q false H_1)))) ∧
 ((decide (((y4).n : Int) = ((y5).n : Int))) = false → (Q false H_1))))))
def F30 (p0 : Sl) (p1 : Sl) (H : Hp) (Q : Bool → Hp → Prop) : Prop :=
F32 p0 p1 H (fun (r3 : Int) (H1 : Hp) => 
 ((decide (((p0).n : Int) = 0)) = true → (F30_1 Q p0 p1 r3 true H1)) ∧
 ((decide (((p0).n : Int) = 0)) = false → (F30_1 Q p0 p1 r3 (decide (((p1).n : Int) < ((p0).n : Int))) H1)))
set_option maxRecDepth 100000 in
set_option maxHeartbeats 4000000 in
theorem walk30 {w0 : World} {p0 : Sl} {p1 : Sl} {H : Hp} {Q : Bool → Hp → Prop} (h : F30 p0 p1 H Q) :
    Good Tryd.prog w0 30 #[(Sl.v p0), (Sl.v p1)] H (fun v H => ∃ (r0 : Bool) , v = (.bool r0) ∧ Q r0 H) := by
  unfold F30 at h
  refine Good.enter' (fn := Tryd.f30) Tryd.func30 rfl rfl rfl ?_
  refine HW.seq ?_
  refine HW.region ?_
  refine HList.vals (v := (.bool false)) rfl (HVal.assign' rfl) ?_
  refine HList.nil ?_
  refine nt ?_
  refine HW.seq ?_
  refine HW.region ?_
  refine HList.vals (v := (Sl.v p0)) rfl (HVal.move' rfl) ?_
  refine HList.vals (v := (Sl.v p1)) rfl (HVal.move' rfl) ?_
  refine HList.ops' rfl (HOp.call' 32 [(Sl.v p0), (Sl.v p1)] (cap := []) rfl rfl Tryd.call32 (walk32 h)) ?_
  rintro _ H1 ⟨r3, rfl, h⟩
  refine HList.vals (v := (.int .i64 r3)) rfl (HVal.assign' rfl) ?_
  refine HList.nil ?_
  refine nt ?_
  refine HW.seq ?_
  refine HW.block ?_
  refine HW.cut (fun ρ H_1 => ∃ (y9 : Bool), Env.Is ρ [(0, (Sl.v p0)), (1, (Sl.v p1)), (5, (.int .i64 r3)), (9, (.bool y9))] ∧ F30_1 Q p0 p1 r3 y9 H_1) ?_ ?_
  · refine HW.region ?_
    refine HList.vals (v := (Sl.v p0)) rfl (HVal.move' rfl) ?_
    refine HList.vals (v := (.int .i64 ((p0).n : Int))) rfl (HVal.len Tryd.runUnderlying22 rfl) ?_
    refine HList.vals (v := (.bool (decide (((p0).n : Int) = 0)))) rfl (HVal.eqlI rfl rfl) ?_
    refine HList.vals (v := (.bool (decide (((p0).n : Int) = 0)))) rfl (HVal.move' rfl) ?_
    obtain ⟨hT, hF⟩ := h
    rcases Bool.eq_false_or_eq_true (decide (((p0).n : Int) = 0)) with hb7 | hb8
    · have h := hT hb7
      clear hT hF
      refine HList.gskips rfl rfl rfl rfl (congrArg Value.bool hb7) ?_
      refine HList.gskips rfl rfl rfl rfl (congrArg Value.bool hb7) ?_
      refine HList.gskips rfl rfl rfl rfl (congrArg Value.bool hb7) ?_
      refine HList.gskips rfl rfl rfl rfl (congrArg Value.bool hb7) ?_
      refine HList.gskips rfl rfl rfl rfl (congrArg Value.bool hb7) ?_
      refine HList.vals (v := (.bool true)) rfl (HVal.pickT rfl hb7 rfl) ?_
      refine HList.vals (v := (.bool true)) rfl (HVal.assign' rfl) ?_
      refine HList.nil ?_
      refine nt ?_
      exact ⟨true, ⟨rfl, rfl, rfl, rfl, trivial⟩, h⟩
    · have h := hF hb8
      clear hT hF
      refine HList.gvals (v := (Sl.v p0)) rfl rfl rfl rfl (congrArg Value.bool hb8) (HVal.move' rfl) ?_
      refine HList.gvals (v := (.int .i64 ((p0).n : Int))) rfl rfl rfl rfl (congrArg Value.bool hb8) (HVal.len Tryd.runUnderlying22 rfl) ?_
      refine HList.gvals (v := (Sl.v p1)) rfl rfl rfl rfl (congrArg Value.bool hb8) (HVal.move' rfl) ?_
      refine HList.gvals (v := (.int .i64 ((p1).n : Int))) rfl rfl rfl rfl (congrArg Value.bool hb8) (HVal.len Tryd.runUnderlying22 rfl) ?_
      refine HList.gvals (v := (.bool (decide (((p1).n : Int) < ((p0).n : Int))))) rfl rfl rfl rfl (congrArg Value.bool hb8) (HVal.gtr rfl rfl) ?_
      refine HList.vals (v := (.bool (decide (((p1).n : Int) < ((p0).n : Int))))) rfl (HVal.pickF rfl hb8 rfl) ?_
      refine HList.vals (v := (.bool (decide (((p1).n : Int) < ((p0).n : Int))))) rfl (HVal.assign' rfl) ?_
      refine HList.nil ?_
      refine nt ?_
      exact ⟨(decide (((p1).n : Int) < ((p0).n : Int))), ⟨rfl, rfl, rfl, rfl, trivial⟩, h⟩
  · rintro ρ H_1 ⟨y9, hI, h⟩
    obtain ⟨ρ0, rfl⟩ : ∃ ρ0, ρ = (Env.set (Env.set (Env.set (Env.set ρ0 9 (.bool y9)) 5 (.int .i64 r3)) 1 (Sl.v p1)) 0 (Sl.v p0)) := ⟨ρ, hI.eq⟩
    clear hI; unfold F30_1 at h
    obtain ⟨hT, hF⟩ := h
    refine HW.cond y9 rfl (fun hb10 => ?_) (fun hb10 => ?_)
    · have h := hT hb10
      clear hT hF
      refine HW.seq ?_
      refine HW.region ?_
      refine HList.vals (v := (.bool false)) rfl (HVal.assign' rfl) ?_
      refine HList.nil ?_
      refine nt ?_
      refine HW.ret ?_
      refine br ?_
      refine tr ?_
      exact ⟨_, resOf1 rfl Res1.t, ⟨false, rfl, h⟩⟩
    · have h := hF hb10
      clear hT hF
      refine HW.seq ?_
      refine HW.region ?_
      refine HList.vals (v := (.int .i64 r3)) rfl (HVal.move' rfl) ?_
      refine HList.vals (v := (Sl.v p0)) rfl (HVal.move' rfl) ?_
      refine HList.vals (v := (.int .i64 ((p0).n : Int))) rfl (HVal.len Tryd.runUnderlying22 rfl) ?_
      refine HList.vals (v := (.bool (decide (r3 = ((p0).n : Int))))) rfl (HVal.eqlI rfl rfl) ?_
      refine HList.vals (v := (.bool (decide (r3 = ((p0).n : Int))))) rfl (HVal.assign' rfl) ?_
      refine HList.nil ?_
      refine nt ?_
      obtain ⟨hT, hF⟩ := h
      refine HW.cond (decide (r3 = ((p0).n : Int))) rfl (fun hb11 => ?_) (fun hb11 => ?_)
      · have h := hT hb11
        clear hT hF
        refine HW.seq ?_
        refine HW.region ?_
        refine HList.vals (v := (.bool true)) rfl (HVal.assign' rfl) ?_
        refine HList.nil ?_
        refine nt ?_
        refine HW.ret ?_
        refine br ?_
        refine tr ?_
        exact ⟨_, resOf1 rfl Res1.t, ⟨true, rfl, h⟩⟩
      · have h := hF hb11
        clear hT hF
        refine HW.skip ?_
        refine nb ?_
        refine nt ?_
        refine HW.seq ?_
        refine HW.draw mixed [(0, some []), (1, some []), (2, some []), (3, some []), (4, some []), (5, some []), (6, some []), (7, some []), (8, some []), (9, some []), (10, some []), (11, some []), (12, some []), (13, some []), (14, some []), (15, some []), (16, some []), (17, some []), (18, some []), (19, some []), (20, some []), (21, some []), (22, some []), (23, some [])] rfl (by kernel_rfl) (by kernel_rfl) ?_
        refine HPlan.takev (v := (Sl.v p0)) rfl rfl (fun _ => HVal.move' rfl) ?_
        refine HPlan.takev (v := (.int .i64 ((p0).n : Int))) rfl rfl (fun _ => HVal.len Tryd.runUnderlying22 rfl) ?_
        refine HPlan.takev (v := (Sl.v p1)) rfl rfl (fun _ => HVal.move' rfl) ?_
        refine HPlan.takev (v := (.int .i64 ((p1).n : Int))) rfl rfl (fun _ => HVal.len Tryd.runUnderlying22 rfl) ?_
        refine HPlan.takev (v := (.bool (decide (((p0).n : Int) = ((p1).n : Int))))) rfl rfl (fun _ => HVal.eqlI rfl rfl) ?_
        refine HPlan.takev (v := (.bool (decide (((p0).n : Int) = ((p1).n : Int))))) rfl rfl (fun _ => HVal.move' rfl) ?_
        obtain ⟨hT, hF⟩ := h
        rcases Bool.eq_false_or_eq_true (decide (((p0).n : Int) = ((p1).n : Int))) with hb12 | hb13
        · have h := hT hb12
          clear hT hF
          refine HPlan.gtakev (v := (.int .i64 r3)) rfl rfl rfl rfl rfl (congrArg Value.bool hb12) (fun _ => HVal.move' rfl) ?_
          refine HPlan.gtakev (v := (Sl.v p0)) rfl rfl rfl rfl rfl (congrArg Value.bool hb12) (fun _ => HVal.move' rfl) ?_
          refine HPlan.gtakev (v := (.int .i64 ((p0).n : Int))) rfl rfl rfl rfl rfl (congrArg Value.bool hb12) (fun _ => HVal.len Tryd.runUnderlying22 rfl) ?_
          refine HPlan.gtakev (v := (.int .i64 (IntKind.i64.wrap (((p0).n : Int) - 1)))) rfl rfl rfl rfl rfl (congrArg Value.bool hb12) (fun _ => HVal.sub rfl rfl) ?_
          refine HPlan.gtakev (v := (.bool (decide (r3 = (IntKind.i64.wrap (((p0).n : Int) - 1)))))) rfl rfl rfl rfl rfl (congrArg Value.bool hb12) (fun _ => HVal.eqlI rfl rfl) ?_
          refine HPlan.takev (v := (.bool (decide (r3 = (IntKind.i64.wrap (((p0).n : Int) - 1)))))) rfl rfl (fun _ => HVal.pickT rfl hb12 rfl) ?_
          refine HPlan.takev (v := (.bool (decide (r3 = (IntKind.i64.wrap (((p0).n : Int) - 1)))))) rfl rfl (fun _ => HVal.move' rfl) ?_
          obtain ⟨hT, hF⟩ := h
          rcases Bool.eq_false_or_eq_true (decide (r3 = (IntKind.i64.wrap (((p0).n : Int) - 1)))) with hb14 | hb15
          · have h := hT hb14
            clear hT hF
            refine HPlan.gtakev (v := (Sl.v p1)) rfl rfl rfl rfl rfl (congrArg Value.bool hb14) (fun _ => HVal.move' rfl) ?_
            refine HPlan.gtakev (v := (.int .i64 r3)) rfl rfl rfl rfl rfl (congrArg Value.bool hb14) (fun _ => HVal.move' rfl) ?_
            obtain ⟨a16, e17, b18, b19, h⟩ := h
            refine HPlan.gtakev (v := (.pointer (some (Addr.add a16 (r3.toNat * 1))))) rfl rfl rfl rfl rfl (congrArg Value.bool hb14) (fun _ => HVal.indexAddr Tryd.runUnderlying22 Tryd.sizeOf3 (Sl.v_some rfl e17) rfl b18 b19) ?_
            obtain ⟨x21, c20, h⟩ := h
            refine HPlan.gtakel (v := (.int .i64 x21)) (fun X => cell X (Addr.add a16 (r3.toNat * 1)) = some (.int .i64 x21)) rfl rfl rfl rfl rfl (congrArg Value.bool hb14) (fun _ hX => HVal.load1 Tryd.isAgg3 rfl hX) c20 ?_
            refine HPlan.gtakev (v := (Sl.v p0)) rfl rfl rfl rfl rfl (congrArg Value.bool hb14) (fun _ => HVal.move' rfl) ?_
            refine HPlan.gtakev (v := (.int .i64 r3)) rfl rfl rfl rfl rfl (congrArg Value.bool hb14) (fun _ => HVal.move' rfl) ?_
            obtain ⟨a22, e23, b24, b25, h⟩ := h
            refine HPlan.gtakev (v := (.pointer (some (Addr.add a22 (r3.toNat * 1))))) rfl rfl rfl rfl rfl (congrArg Value.bool hb14) (fun _ => HVal.indexAddr Tryd.runUnderlying22 Tryd.sizeOf3 (Sl.v_some rfl e23) rfl b24 b25) ?_
            obtain ⟨x27, c26, h⟩ := h
            refine HPlan.gtakel (v := (.int .i64 x27)) (fun X => cell X (Addr.add a22 (r3.toNat * 1)) = some (.int .i64 x27)) rfl rfl rfl rfl rfl (congrArg Value.bool hb14) (fun _ hX => HVal.load1 Tryd.isAgg3 rfl hX) c26 ?_
            refine HPlan.gtakev (v := (.bool (decide (x27 ≤ x21)))) rfl rfl rfl rfl rfl (congrArg Value.bool hb14) (fun _ => HVal.geq rfl rfl) ?_
            refine HPlan.takev (v := (.bool (decide (x27 ≤ x21)))) rfl rfl (fun _ => HVal.pickT rfl hb14 rfl) ?_
            refine HPlan.takev (v := (.bool (decide (x27 ≤ x21)))) rfl rfl (fun _ => HVal.assign' rfl) ?_
            refine HPlan.done ?_
            refine nt ?_
            refine HW.ret ?_
            exact ⟨_, resOf1 rfl Res1.t, ⟨(decide (x27 ≤ x21)), rfl, h⟩⟩
          · have h := hF hb15
            clear hT hF
            refine HPlan.takegskip rfl rfl rfl rfl (congrArg Value.bool hb15) ?_
            refine HPlan.takegskip rfl rfl rfl rfl (congrArg Value.bool hb15) ?_
            refine HPlan.takegskip rfl rfl rfl rfl (congrArg Value.bool hb15) ?_
            refine HPlan.takegskip rfl rfl rfl rfl (congrArg Value.bool hb15) ?_
            refine HPlan.takegskip rfl rfl rfl rfl (congrArg Value.bool hb15) ?_
            refine HPlan.takegskip rfl rfl rfl rfl (congrArg Value.bool hb15) ?_
            refine HPlan.takegskip rfl rfl rfl rfl (congrArg Value.bool hb15) ?_
            refine HPlan.takegskip rfl rfl rfl rfl (congrArg Value.bool hb15) ?_
            refine HPlan.takegskip rfl rfl rfl rfl (congrArg Value.bool hb15) ?_
            refine HPlan.takev (v := (.bool false)) rfl rfl (fun _ => HVal.pickF rfl hb15 rfl) ?_
            refine HPlan.takev (v := (.bool false)) rfl rfl (fun _ => HVal.assign' rfl) ?_
            refine HPlan.done ?_
            refine nt ?_
            refine HW.ret ?_
            exact ⟨_, resOf1 rfl Res1.t, ⟨false, rfl, h⟩⟩
        · have h := hF hb13
          clear hT hF
          refine HPlan.takegskip rfl rfl rfl rfl (congrArg Value.bool hb13) ?_
          refine HPlan.takegskip rfl rfl rfl rfl (congrArg Value.bool hb13) ?_
          refine HPlan.takegskip rfl rfl rfl rfl (congrArg Value.bool hb13) ?_
          refine HPlan.takegskip rfl rfl rfl rfl (congrArg Value.bool hb13) ?_
          refine HPlan.takegskip rfl rfl rfl rfl (congrArg Value.bool hb13) ?_
          refine HPlan.takev (v := (.bool false)) rfl rfl (fun _ => HVal.pickF rfl hb13 rfl) ?_
          refine HPlan.takev (v := (.bool false)) rfl rfl (fun _ => HVal.move' rfl) ?_
          refine HPlan.takegskip rfl rfl rfl rfl rfl ?_
          refine HPlan.takegskip rfl rfl rfl rfl rfl ?_
          refine HPlan.takegskip rfl rfl rfl rfl rfl ?_
          refine HPlan.takegskip rfl rfl rfl rfl rfl ?_
          refine HPlan.takegskip rfl rfl rfl rfl rfl ?_
          refine HPlan.takegskip rfl rfl rfl rfl rfl ?_
          refine HPlan.takegskip rfl rfl rfl rfl rfl ?_
          refine HPlan.takegskip rfl rfl rfl rfl rfl ?_
          refine HPlan.takegskip rfl rfl rfl rfl rfl ?_
          refine HPlan.takev (v := (.bool false)) rfl rfl (fun _ => HVal.pickF rfl rfl rfl) ?_
          refine HPlan.takev (v := (.bool false)) rfl rfl (fun _ => HVal.assign' rfl) ?_
          refine HPlan.done ?_
          refine nt ?_
          refine HW.ret ?_
          exact ⟨_, resOf1 rfl Res1.t, ⟨false, rfl, h⟩⟩

def F9 (H : Hp) (Q : Bool → Hp → Prop) : Prop :=
∀ H1 : Hp, H1 = Array.push H (.cells #[(.int .i64 1), (.int .i64 0), (.int .i64 2)] 3) → (
 F11 (Sl.mk (some ⟨H.size, 0, none⟩) 3 3) H1 (fun (r5 : Sl) (r6 : Int) (H3 : Hp) => 
 ∀ H7 : Hp, H7 = Array.push H3 (.cells #[(.int .i64 1), (.int .i64 0), (.int .i64 2)] 3) → (
 F17 (Sl.mk (some ⟨H3.size, 0, none⟩) 3 3) H7 (fun (r11 : ByteArray) (r12 : Int) (H9 : Hp) => 
 F18 S_1_0_2 H9 (fun (r15 : Sl) (r16 : Int) (H13 : Hp) => 
 ((decide (r6 = 0)) = true → (∀ H19 : Hp, H19 = Array.push H13 (.cells #[(.int .i64 1), (.int .i64 0), (.int .i64 3)] 3) → (
 F15 r5 (Sl.mk (some ⟨H13.size, 0, none⟩) 3 3) H19 (fun (r23 : Bool) (H21 : Hp) => 
 (r23 = true → (((decide (r12 = 0)) = true → (((seq r11 S_1_0_2) = true → (((decide (r16 = 0)) = true → (∀ H32 : Hp, H32 = Array.push H21 (.cells #[(.int .i64 1), (.int .i64 0), (.int .i64 2)] 3) → (
 F15 r15 (Sl.mk (some ⟨H21.size, 0, none⟩) 3 3) H32 (fun (r36 : Bool) (H34 : Hp) => 
 (r36 = true → (∀ H39 : Hp, H39 = Array.push H34 (.cells #[(.int .i64 1)] 3) → (
 F12 (Sl.mk (some ⟨H34.size, 0, none⟩) 1 1) H39 (fun (r43 : Sl) (H41 : Hp) => 
 ∀ H44 : Hp, H44 = Array.push H41 (.cells #[(.int .i64 1), (.int .i64 0)] 3) → (
 F15 r43 (Sl.mk (some ⟨H41.size, 0, none⟩) 2 2) H44 (fun (r48 : Bool) (H46 : Hp) => 
 (r48 = true → (∀ H51 : Hp, H51 = Array.push H46 (.cells #[(.int .i64 1), (.int .i64 0)] 3) → (
 ∀ H53 : Hp, H53 = Array.push H51 (.cells #[(.int .i64 1), (.int .i64 0), (.int .i64 2)] 3) → (
 F30 (Sl.mk (some ⟨H46.size, 0, none⟩) 2 2) (Sl.mk (some ⟨H51.size, 0, none⟩) 3 3) H53 (fun (r57 : Bool) (H55 : Hp) => 
 (r57 = true → (∀ H60 : Hp, H60 = Array.push H55 (.cells #[(.int .i64 1), (.int .i64 0)] 3) → (
 ∀ H62 : Hp, H62 = Array.push H60 (.cells #[(.int .i64 1)] 3) → (
 F14 (Sl.mk (some ⟨H55.size, 0, none⟩) 2 2) (Sl.mk (some ⟨H60.size, 0, none⟩) 1 1) H62 (fun (r66 : Int) (H64 : Hp) => 
 Q (decide (r66 = 1)) H64))))) ∧
 (r57 = false → (Q false H55))))))) ∧
 (r48 = false → (Q false H46)))))))) ∧
 (r36 = false → (Q false H34)))))) ∧
 ((decide (r16 = 0)) = false → (Q false H21)))) ∧
 ((seq r11 S_1_0_2) = false → (Q false H21)))) ∧
 ((decide (r12 = 0)) = false → (Q false H21)))) ∧
 (r23 = false → (Q false H21)))))) ∧
 ((decide (r6 = 0)) = false → (Q false H13)))))))
set_option maxRecDepth 100000 in
set_option maxHeartbeats 4000000 in
theorem walk9 {w0 : World} {H : Hp} {Q : Bool → Hp → Prop} (h : F9 H Q) :
    Good Tryd.prog w0 9 #[] H (fun v H => ∃ (r0 : Bool) , v = (.bool r0) ∧ Q r0 H) := by
  unfold F9 at h
  refine Good.enter' (fn := Tryd.f9) Tryd.func9 rfl rfl rfl ?_
  refine HW.seq ?_
  refine HW.region ?_
  refine HList.vals (v := (.bool false)) rfl (HVal.assign' rfl) ?_
  refine HList.nil ?_
  refine nt ?_
  refine HW.seq ?_
  refine HW.region ?_
  refine HList.ops' rfl (HOp.buildSlice' (zs := [(.int .i64 0), (.int .i64 0), (.int .i64 0)]) (cs := [(.int .i64 1), (.int .i64 0), (.int .i64 2)]) Tryd.runUnderlying22 Tryd.sizeOf3 Tryd.zeroValue3 (by decide) (by kernel_rfl) rfl (by decide)) ?_
  rintro _ H1 ⟨rfl, e2⟩
  replace h := h H1 e2
  refine HList.ops' rfl (HOp.call' 11 [(Sl.v (Sl.mk (some ⟨H.size, 0, none⟩) 3 3))] (cap := []) rfl rfl Tryd.call11 (walk11 h)) ?_
  rintro _ H3 ⟨r5, r6, rfl, h⟩
  refine HList.vals (v := (.tuple #[(Sl.v r5), (.int .i64 r6)])) rfl (HVal.move' rfl) ?_
  refine HList.vals (v := (Sl.v r5)) rfl (HVal.extract rfl rfl) ?_
  refine HList.vals (v := (.int .i64 r6)) rfl (HVal.extract rfl rfl) ?_
  refine HList.vals (v := (Sl.v r5)) rfl (HVal.assign' rfl) ?_
  refine HList.vals (v := (.int .i64 r6)) rfl (HVal.assign' rfl) ?_
  refine HList.nil ?_
  refine nt ?_
  refine HW.seq ?_
  refine HW.region ?_
  refine HList.ops' rfl (HOp.buildSlice' (zs := [(.int .i64 0), (.int .i64 0), (.int .i64 0)]) (cs := [(.int .i64 1), (.int .i64 0), (.int .i64 2)]) Tryd.runUnderlying22 Tryd.sizeOf3 Tryd.zeroValue3 (by decide) (by kernel_rfl) rfl (by decide)) ?_
  rintro _ H7 ⟨rfl, e8⟩
  replace h := h H7 e8
  refine HList.ops' rfl (HOp.call' 17 [(Sl.v (Sl.mk (some ⟨H3.size, 0, none⟩) 3 3))] (cap := []) rfl rfl Tryd.call17 (walk17 h)) ?_
  rintro _ H9 ⟨r11, r12, rfl, h⟩
  refine HList.vals (v := (.tuple #[(.string r11), (.int .i64 r12)])) rfl (HVal.move' rfl) ?_
  refine HList.vals (v := (.string r11)) rfl (HVal.extract rfl rfl) ?_
  refine HList.vals (v := (.int .i64 r12)) rfl (HVal.extract rfl rfl) ?_
  refine HList.vals (v := (.string r11)) rfl (HVal.assign' rfl) ?_
  refine HList.vals (v := (.int .i64 r12)) rfl (HVal.assign' rfl) ?_
  refine HList.nil ?_
  refine nt ?_
  refine HW.seq ?_
  refine HW.region ?_
  refine HList.ops' rfl (HOp.call' 18 [(.string S_1_0_2)] (cap := []) rfl rfl Tryd.call18 (walk18 h)) ?_
  rintro _ H13 ⟨r15, r16, rfl, h⟩
  refine HList.vals (v := (.tuple #[(Sl.v r15), (.int .i64 r16)])) rfl (HVal.move' rfl) ?_
  refine HList.vals (v := (Sl.v r15)) rfl (HVal.extract rfl rfl) ?_
  refine HList.vals (v := (.int .i64 r16)) rfl (HVal.extract rfl rfl) ?_
  refine HList.vals (v := (Sl.v r15)) rfl (HVal.assign' rfl) ?_
  refine HList.vals (v := (.int .i64 r16)) rfl (HVal.assign' rfl) ?_
  refine HList.nil ?_
  refine nt ?_
  refine HW.seq ?_
  refine HW.region ?_
  refine HList.vals (v := (.int .i64 r6)) rfl (HVal.move' rfl) ?_
  refine HList.vals (v := (.bool (decide (r6 = 0)))) rfl (HVal.eqlI rfl rfl) ?_
  refine HList.vals (v := (.bool (decide (r6 = 0)))) rfl (HVal.move' rfl) ?_
  obtain ⟨hT, hF⟩ := h
  rcases Bool.eq_false_or_eq_true (decide (r6 = 0)) with hb17 | hb18
  · have h := hT hb17
    clear hT hF
    refine HList.gvals (v := (Sl.v r5)) rfl rfl rfl rfl (congrArg Value.bool hb17) (HVal.move' rfl) ?_
    refine HList.gops rfl rfl rfl rfl (congrArg Value.bool hb17) (HOp.buildSlice' (zs := [(.int .i64 0), (.int .i64 0), (.int .i64 0)]) (cs := [(.int .i64 1), (.int .i64 0), (.int .i64 3)]) Tryd.runUnderlying22 Tryd.sizeOf3 Tryd.zeroValue3 (by decide) (by kernel_rfl) rfl (by decide)) ?_
    rintro _ H19 ⟨rfl, e20⟩
    replace h := h H19 e20
    refine HList.gops rfl rfl rfl rfl (congrArg Value.bool hb17) (HOp.call' 15 [(Sl.v r5), (Sl.v (Sl.mk (some ⟨H13.size, 0, none⟩) 3 3))] (cap := []) rfl rfl Tryd.call15 (walk15 h)) ?_
    rintro _ H21 ⟨r23, rfl, h⟩
    refine HList.vals (v := (.bool r23)) rfl (HVal.pickT rfl hb17 rfl) ?_
    refine HList.vals (v := (.bool r23)) rfl (HVal.move' rfl) ?_
    obtain ⟨hT, hF⟩ := h
    rcases Bool.eq_false_or_eq_true r23 with hb24 | hb25
    · have h := hT hb24
      clear hT hF
      refine HList.gvals (v := (.int .i64 r12)) rfl rfl rfl rfl (congrArg Value.bool hb24) (HVal.move' rfl) ?_
      refine HList.gvals (v := (.bool (decide (r12 = 0)))) rfl rfl rfl rfl (congrArg Value.bool hb24) (HVal.eqlI rfl rfl) ?_
      refine HList.vals (v := (.bool (decide (r12 = 0)))) rfl (HVal.pickT rfl hb24 rfl) ?_
      refine HList.vals (v := (.bool (decide (r12 = 0)))) rfl (HVal.move' rfl) ?_
      obtain ⟨hT, hF⟩ := h
      rcases Bool.eq_false_or_eq_true (decide (r12 = 0)) with hb26 | hb27
      · have h := hT hb26
        clear hT hF
        refine HList.gvals (v := (.string r11)) rfl rfl rfl rfl (congrArg Value.bool hb26) (HVal.move' rfl) ?_
        refine HList.gvals (v := (.bool (seq r11 S_1_0_2))) rfl rfl rfl rfl (congrArg Value.bool hb26) (HVal.eqlS rfl rfl) ?_
        refine HList.vals (v := (.bool (seq r11 S_1_0_2))) rfl (HVal.pickT rfl hb26 rfl) ?_
        refine HList.vals (v := (.bool (seq r11 S_1_0_2))) rfl (HVal.move' rfl) ?_
        obtain ⟨hT, hF⟩ := h
        rcases Bool.eq_false_or_eq_true (seq r11 S_1_0_2) with hb28 | hb29
        · have h := hT hb28
          clear hT hF
          refine HList.gvals (v := (.int .i64 r16)) rfl rfl rfl rfl (congrArg Value.bool hb28) (HVal.move' rfl) ?_
          refine HList.gvals (v := (.bool (decide (r16 = 0)))) rfl rfl rfl rfl (congrArg Value.bool hb28) (HVal.eqlI rfl rfl) ?_
          refine HList.vals (v := (.bool (decide (r16 = 0)))) rfl (HVal.pickT rfl hb28 rfl) ?_
          refine HList.vals (v := (.bool (decide (r16 = 0)))) rfl (HVal.move' rfl) ?_
          obtain ⟨hT, hF⟩ := h
          rcases Bool.eq_false_or_eq_true (decide (r16 = 0)) with hb30 | hb31
          · have h := hT hb30
            clear hT hF
            refine HList.gvals (v := (Sl.v r15)) rfl rfl rfl rfl (congrArg Value.bool hb30) (HVal.move' rfl) ?_
            refine HList.gops rfl rfl rfl rfl (congrArg Value.bool hb30) (HOp.buildSlice' (zs := [(.int .i64 0), (.int .i64 0), (.int .i64 0)]) (cs := [(.int .i64 1), (.int .i64 0), (.int .i64 2)]) Tryd.runUnderlying22 Tryd.sizeOf3 Tryd.zeroValue3 (by decide) (by kernel_rfl) rfl (by decide)) ?_
            rintro _ H32 ⟨rfl, e33⟩
            replace h := h H32 e33
            refine HList.gops rfl rfl rfl rfl (congrArg Value.bool hb30) (HOp.call' 15 [(Sl.v r15), (Sl.v (Sl.mk (some ⟨H21.size, 0, none⟩) 3 3))] (cap := []) rfl rfl Tryd.call15 (walk15 h)) ?_
            rintro _ H34 ⟨r36, rfl, h⟩
            refine HList.vals (v := (.bool r36)) rfl (HVal.pickT rfl hb30 rfl) ?_
            refine HList.vals (v := (.bool r36)) rfl (HVal.move' rfl) ?_
            obtain ⟨hT, hF⟩ := h
            rcases Bool.eq_false_or_eq_true r36 with hb37 | hb38
            · have h := hT hb37
              clear hT hF
              refine HList.gops rfl rfl rfl rfl (congrArg Value.bool hb37) (HOp.buildSlice' (zs := [(.int .i64 0)]) (cs := [(.int .i64 1)]) Tryd.runUnderlying22 Tryd.sizeOf3 Tryd.zeroValue3 (by decide) (by kernel_rfl) rfl (by decide)) ?_
              rintro _ H39 ⟨rfl, e40⟩
              replace h := h H39 e40
              refine HList.gops rfl rfl rfl rfl (congrArg Value.bool hb37) (HOp.call' 12 [(Sl.v (Sl.mk (some ⟨H34.size, 0, none⟩) 1 1))] (cap := []) rfl rfl Tryd.call12 (walk12 h)) ?_
              rintro _ H41 ⟨r43, rfl, h⟩
              refine HList.gops rfl rfl rfl rfl (congrArg Value.bool hb37) (HOp.buildSlice' (zs := [(.int .i64 0), (.int .i64 0)]) (cs := [(.int .i64 1), (.int .i64 0)]) Tryd.runUnderlying22 Tryd.sizeOf3 Tryd.zeroValue3 (by decide) (by kernel_rfl) rfl (by decide)) ?_
              rintro _ H44 ⟨rfl, e45⟩
              replace h := h H44 e45
              refine HList.gops rfl rfl rfl rfl (congrArg Value.bool hb37) (HOp.call' 15 [(Sl.v r43), (Sl.v (Sl.mk (some ⟨H41.size, 0, none⟩) 2 2))] (cap := []) rfl rfl Tryd.call15 (walk15 h)) ?_
              rintro _ H46 ⟨r48, rfl, h⟩
              refine HList.vals (v := (.bool r48)) rfl (HVal.pickT rfl hb37 rfl) ?_
              refine HList.vals (v := (.bool r48)) rfl (HVal.move' rfl) ?_
              obtain ⟨hT, hF⟩ := h
              rcases Bool.eq_false_or_eq_true r48 with hb49 | hb50
              · have h := hT hb49
                clear hT hF
                refine HList.gops rfl rfl rfl rfl (congrArg Value.bool hb49) (HOp.buildSlice' (zs := [(.int .i64 0), (.int .i64 0)]) (cs := [(.int .i64 1), (.int .i64 0)]) Tryd.runUnderlying22 Tryd.sizeOf3 Tryd.zeroValue3 (by decide) (by kernel_rfl) rfl (by decide)) ?_
                rintro _ H51 ⟨rfl, e52⟩
                replace h := h H51 e52
                refine HList.gops rfl rfl rfl rfl (congrArg Value.bool hb49) (HOp.buildSlice' (zs := [(.int .i64 0), (.int .i64 0), (.int .i64 0)]) (cs := [(.int .i64 1), (.int .i64 0), (.int .i64 2)]) Tryd.runUnderlying22 Tryd.sizeOf3 Tryd.zeroValue3 (by decide) (by kernel_rfl) rfl (by decide)) ?_
                rintro _ H53 ⟨rfl, e54⟩
                replace h := h H53 e54
                refine HList.gops rfl rfl rfl rfl (congrArg Value.bool hb49) (HOp.call' 30 [(Sl.v (Sl.mk (some ⟨H46.size, 0, none⟩) 2 2)), (Sl.v (Sl.mk (some ⟨H51.size, 0, none⟩) 3 3))] (cap := []) rfl rfl Tryd.call30 (walk30 h)) ?_
                rintro _ H55 ⟨r57, rfl, h⟩
                refine HList.vals (v := (.bool r57)) rfl (HVal.pickT rfl hb49 rfl) ?_
                refine HList.vals (v := (.bool r57)) rfl (HVal.move' rfl) ?_
                obtain ⟨hT, hF⟩ := h
                rcases Bool.eq_false_or_eq_true r57 with hb58 | hb59
                · have h := hT hb58
                  clear hT hF
                  refine HList.gops rfl rfl rfl rfl (congrArg Value.bool hb58) (HOp.buildSlice' (zs := [(.int .i64 0), (.int .i64 0)]) (cs := [(.int .i64 1), (.int .i64 0)]) Tryd.runUnderlying22 Tryd.sizeOf3 Tryd.zeroValue3 (by decide) (by kernel_rfl) rfl (by decide)) ?_
                  rintro _ H60 ⟨rfl, e61⟩
                  replace h := h H60 e61
                  refine HList.gops rfl rfl rfl rfl (congrArg Value.bool hb58) (HOp.buildSlice' (zs := [(.int .i64 0)]) (cs := [(.int .i64 1)]) Tryd.runUnderlying22 Tryd.sizeOf3 Tryd.zeroValue3 (by decide) (by kernel_rfl) rfl (by decide)) ?_
                  rintro _ H62 ⟨rfl, e63⟩
                  replace h := h H62 e63
                  refine HList.gops rfl rfl rfl rfl (congrArg Value.bool hb58) (HOp.call' 14 [(Sl.v (Sl.mk (some ⟨H55.size, 0, none⟩) 2 2)), (Sl.v (Sl.mk (some ⟨H60.size, 0, none⟩) 1 1))] (cap := []) rfl rfl Tryd.call14 (walk14 h)) ?_
                  rintro _ H64 ⟨r66, rfl, h⟩
                  refine HList.gvals (v := (.bool (decide (r66 = 1)))) rfl rfl rfl rfl (congrArg Value.bool hb58) (HVal.eqlI rfl rfl) ?_
                  refine HList.vals (v := (.bool (decide (r66 = 1)))) rfl (HVal.pickT rfl hb58 rfl) ?_
                  refine HList.vals (v := (.bool (decide (r66 = 1)))) rfl (HVal.assign' rfl) ?_
                  refine HList.nil ?_
                  refine nt ?_
                  refine HW.ret ?_
                  exact ⟨_, resOf1 rfl Res1.t, ⟨(decide (r66 = 1)), rfl, h⟩⟩
                · have h := hF hb59
                  clear hT hF
                  refine HList.gskips rfl rfl rfl rfl (congrArg Value.bool hb59) ?_
                  refine HList.gskips rfl rfl rfl rfl (congrArg Value.bool hb59) ?_
                  refine HList.gskips rfl rfl rfl rfl (congrArg Value.bool hb59) ?_
                  refine HList.gskips rfl rfl rfl rfl (congrArg Value.bool hb59) ?_
                  refine HList.vals (v := (.bool false)) rfl (HVal.pickF rfl hb59 rfl) ?_
                  refine HList.vals (v := (.bool false)) rfl (HVal.assign' rfl) ?_
                  refine HList.nil ?_
                  refine nt ?_
                  refine HW.ret ?_
                  exact ⟨_, resOf1 rfl Res1.t, ⟨false, rfl, h⟩⟩
              · have h := hF hb50
                clear hT hF
                refine HList.gskips rfl rfl rfl rfl (congrArg Value.bool hb50) ?_
                refine HList.gskips rfl rfl rfl rfl (congrArg Value.bool hb50) ?_
                refine HList.gskips rfl rfl rfl rfl (congrArg Value.bool hb50) ?_
                refine HList.vals (v := (.bool false)) rfl (HVal.pickF rfl hb50 rfl) ?_
                refine HList.vals (v := (.bool false)) rfl (HVal.move' rfl) ?_
                refine HList.gskips rfl rfl rfl rfl rfl ?_
                refine HList.gskips rfl rfl rfl rfl rfl ?_
                refine HList.gskips rfl rfl rfl rfl rfl ?_
                refine HList.gskips rfl rfl rfl rfl rfl ?_
                refine HList.vals (v := (.bool false)) rfl (HVal.pickF rfl rfl rfl) ?_
                refine HList.vals (v := (.bool false)) rfl (HVal.assign' rfl) ?_
                refine HList.nil ?_
                refine nt ?_
                refine HW.ret ?_
                exact ⟨_, resOf1 rfl Res1.t, ⟨false, rfl, h⟩⟩
            · have h := hF hb38
              clear hT hF
              refine HList.gskips rfl rfl rfl rfl (congrArg Value.bool hb38) ?_
              refine HList.gskips rfl rfl rfl rfl (congrArg Value.bool hb38) ?_
              refine HList.gskips rfl rfl rfl rfl (congrArg Value.bool hb38) ?_
              refine HList.gskips rfl rfl rfl rfl (congrArg Value.bool hb38) ?_
              refine HList.vals (v := (.bool false)) rfl (HVal.pickF rfl hb38 rfl) ?_
              refine HList.vals (v := (.bool false)) rfl (HVal.move' rfl) ?_
              refine HList.gskips rfl rfl rfl rfl rfl ?_
              refine HList.gskips rfl rfl rfl rfl rfl ?_
              refine HList.gskips rfl rfl rfl rfl rfl ?_
              refine HList.vals (v := (.bool false)) rfl (HVal.pickF rfl rfl rfl) ?_
              refine HList.vals (v := (.bool false)) rfl (HVal.move' rfl) ?_
              refine HList.gskips rfl rfl rfl rfl rfl ?_
              refine HList.gskips rfl rfl rfl rfl rfl ?_
              refine HList.gskips rfl rfl rfl rfl rfl ?_
              refine HList.gskips rfl rfl rfl rfl rfl ?_
              refine HList.vals (v := (.bool false)) rfl (HVal.pickF rfl rfl rfl) ?_
              refine HList.vals (v := (.bool false)) rfl (HVal.assign' rfl) ?_
              refine HList.nil ?_
              refine nt ?_
              refine HW.ret ?_
              exact ⟨_, resOf1 rfl Res1.t, ⟨false, rfl, h⟩⟩
          · have h := hF hb31
            clear hT hF
            refine HList.gskips rfl rfl rfl rfl (congrArg Value.bool hb31) ?_
            refine HList.gskips rfl rfl rfl rfl (congrArg Value.bool hb31) ?_
            refine HList.gskips rfl rfl rfl rfl (congrArg Value.bool hb31) ?_
            refine HList.vals (v := (.bool false)) rfl (HVal.pickF rfl hb31 rfl) ?_
            refine HList.vals (v := (.bool false)) rfl (HVal.move' rfl) ?_
            refine HList.gskips rfl rfl rfl rfl rfl ?_
            refine HList.gskips rfl rfl rfl rfl rfl ?_
            refine HList.gskips rfl rfl rfl rfl rfl ?_
            refine HList.gskips rfl rfl rfl rfl rfl ?_
            refine HList.vals (v := (.bool false)) rfl (HVal.pickF rfl rfl rfl) ?_
            refine HList.vals (v := (.bool false)) rfl (HVal.move' rfl) ?_
            refine HList.gskips rfl rfl rfl rfl rfl ?_
            refine HList.gskips rfl rfl rfl rfl rfl ?_
            refine HList.gskips rfl rfl rfl rfl rfl ?_
            refine HList.vals (v := (.bool false)) rfl (HVal.pickF rfl rfl rfl) ?_
            refine HList.vals (v := (.bool false)) rfl (HVal.move' rfl) ?_
            refine HList.gskips rfl rfl rfl rfl rfl ?_
            refine HList.gskips rfl rfl rfl rfl rfl ?_
            refine HList.gskips rfl rfl rfl rfl rfl ?_
            refine HList.gskips rfl rfl rfl rfl rfl ?_
            refine HList.vals (v := (.bool false)) rfl (HVal.pickF rfl rfl rfl) ?_
            refine HList.vals (v := (.bool false)) rfl (HVal.assign' rfl) ?_
            refine HList.nil ?_
            refine nt ?_
            refine HW.ret ?_
            exact ⟨_, resOf1 rfl Res1.t, ⟨false, rfl, h⟩⟩
        · have h := hF hb29
          clear hT hF
          refine HList.gskips rfl rfl rfl rfl (congrArg Value.bool hb29) ?_
          refine HList.gskips rfl rfl rfl rfl (congrArg Value.bool hb29) ?_
          refine HList.vals (v := (.bool false)) rfl (HVal.pickF rfl hb29 rfl) ?_
          refine HList.vals (v := (.bool false)) rfl (HVal.move' rfl) ?_
          refine HList.gskips rfl rfl rfl rfl rfl ?_
          refine HList.gskips rfl rfl rfl rfl rfl ?_
          refine HList.gskips rfl rfl rfl rfl rfl ?_
          refine HList.vals (v := (.bool false)) rfl (HVal.pickF rfl rfl rfl) ?_
          refine HList.vals (v := (.bool false)) rfl (HVal.move' rfl) ?_
          refine HList.gskips rfl rfl rfl rfl rfl ?_
          refine HList.gskips rfl rfl rfl rfl rfl ?_
          refine HList.gskips rfl rfl rfl rfl rfl ?_
          refine HList.gskips rfl rfl rfl rfl rfl ?_
          refine HList.vals (v := (.bool false)) rfl (HVal.pickF rfl rfl rfl) ?_
          refine HList.vals (v := (.bool false)) rfl (HVal.move' rfl) ?_
          refine HList.gskips rfl rfl rfl rfl rfl ?_
          refine HList.gskips rfl rfl rfl rfl rfl ?_
          refine HList.gskips rfl rfl rfl rfl rfl ?_
          refine HList.vals (v := (.bool false)) rfl (HVal.pickF rfl rfl rfl) ?_
          refine HList.vals (v := (.bool false)) rfl (HVal.move' rfl) ?_
          refine HList.gskips rfl rfl rfl rfl rfl ?_
          refine HList.gskips rfl rfl rfl rfl rfl ?_
          refine HList.gskips rfl rfl rfl rfl rfl ?_
          refine HList.gskips rfl rfl rfl rfl rfl ?_
          refine HList.vals (v := (.bool false)) rfl (HVal.pickF rfl rfl rfl) ?_
          refine HList.vals (v := (.bool false)) rfl (HVal.assign' rfl) ?_
          refine HList.nil ?_
          refine nt ?_
          refine HW.ret ?_
          exact ⟨_, resOf1 rfl Res1.t, ⟨false, rfl, h⟩⟩
      · have h := hF hb27
        clear hT hF
        refine HList.gskips rfl rfl rfl rfl (congrArg Value.bool hb27) ?_
        refine HList.gskips rfl rfl rfl rfl (congrArg Value.bool hb27) ?_
        refine HList.vals (v := (.bool false)) rfl (HVal.pickF rfl hb27 rfl) ?_
        refine HList.vals (v := (.bool false)) rfl (HVal.move' rfl) ?_
        refine HList.gskips rfl rfl rfl rfl rfl ?_
        refine HList.gskips rfl rfl rfl rfl rfl ?_
        refine HList.vals (v := (.bool false)) rfl (HVal.pickF rfl rfl rfl) ?_
        refine HList.vals (v := (.bool false)) rfl (HVal.move' rfl) ?_
        refine HList.gskips rfl rfl rfl rfl rfl ?_
        refine HList.gskips rfl rfl rfl rfl rfl ?_
        refine HList.gskips rfl rfl rfl rfl rfl ?_
        refine HList.vals (v := (.bool false)) rfl (HVal.pickF rfl rfl rfl) ?_
        refine HList.vals (v := (.bool false)) rfl (HVal.move' rfl) ?_
        refine HList.gskips rfl rfl rfl rfl rfl ?_
        refine HList.gskips rfl rfl rfl rfl rfl ?_
        refine HList.gskips rfl rfl rfl rfl rfl ?_
        refine HList.gskips rfl rfl rfl rfl rfl ?_
        refine HList.vals (v := (.bool false)) rfl (HVal.pickF rfl rfl rfl) ?_
        refine HList.vals (v := (.bool false)) rfl (HVal.move' rfl) ?_
        refine HList.gskips rfl rfl rfl rfl rfl ?_
        refine HList.gskips rfl rfl rfl rfl rfl ?_
        refine HList.gskips rfl rfl rfl rfl rfl ?_
        refine HList.vals (v := (.bool false)) rfl (HVal.pickF rfl rfl rfl) ?_
        refine HList.vals (v := (.bool false)) rfl (HVal.move' rfl) ?_
        refine HList.gskips rfl rfl rfl rfl rfl ?_
        refine HList.gskips rfl rfl rfl rfl rfl ?_
        refine HList.gskips rfl rfl rfl rfl rfl ?_
        refine HList.gskips rfl rfl rfl rfl rfl ?_
        refine HList.vals (v := (.bool false)) rfl (HVal.pickF rfl rfl rfl) ?_
        refine HList.vals (v := (.bool false)) rfl (HVal.assign' rfl) ?_
        refine HList.nil ?_
        refine nt ?_
        refine HW.ret ?_
        exact ⟨_, resOf1 rfl Res1.t, ⟨false, rfl, h⟩⟩
    · have h := hF hb25
      clear hT hF
      refine HList.gskips rfl rfl rfl rfl (congrArg Value.bool hb25) ?_
      refine HList.gskips rfl rfl rfl rfl (congrArg Value.bool hb25) ?_
      refine HList.vals (v := (.bool false)) rfl (HVal.pickF rfl hb25 rfl) ?_
      refine HList.vals (v := (.bool false)) rfl (HVal.move' rfl) ?_
      refine HList.gskips rfl rfl rfl rfl rfl ?_
      refine HList.gskips rfl rfl rfl rfl rfl ?_
      refine HList.vals (v := (.bool false)) rfl (HVal.pickF rfl rfl rfl) ?_
      refine HList.vals (v := (.bool false)) rfl (HVal.move' rfl) ?_
      refine HList.gskips rfl rfl rfl rfl rfl ?_
      refine HList.gskips rfl rfl rfl rfl rfl ?_
      refine HList.vals (v := (.bool false)) rfl (HVal.pickF rfl rfl rfl) ?_
      refine HList.vals (v := (.bool false)) rfl (HVal.move' rfl) ?_
      refine HList.gskips rfl rfl rfl rfl rfl ?_
      refine HList.gskips rfl rfl rfl rfl rfl ?_
      refine HList.gskips rfl rfl rfl rfl rfl ?_
      refine HList.vals (v := (.bool false)) rfl (HVal.pickF rfl rfl rfl) ?_
      refine HList.vals (v := (.bool false)) rfl (HVal.move' rfl) ?_
      refine HList.gskips rfl rfl rfl rfl rfl ?_
      refine HList.gskips rfl rfl rfl rfl rfl ?_
      refine HList.gskips rfl rfl rfl rfl rfl ?_
      refine HList.gskips rfl rfl rfl rfl rfl ?_
      refine HList.vals (v := (.bool false)) rfl (HVal.pickF rfl rfl rfl) ?_
      refine HList.vals (v := (.bool false)) rfl (HVal.move' rfl) ?_
      refine HList.gskips rfl rfl rfl rfl rfl ?_
      refine HList.gskips rfl rfl rfl rfl rfl ?_
      refine HList.gskips rfl rfl rfl rfl rfl ?_
      refine HList.vals (v := (.bool false)) rfl (HVal.pickF rfl rfl rfl) ?_
      refine HList.vals (v := (.bool false)) rfl (HVal.move' rfl) ?_
      refine HList.gskips rfl rfl rfl rfl rfl ?_
      refine HList.gskips rfl rfl rfl rfl rfl ?_
      refine HList.gskips rfl rfl rfl rfl rfl ?_
      refine HList.gskips rfl rfl rfl rfl rfl ?_
      refine HList.vals (v := (.bool false)) rfl (HVal.pickF rfl rfl rfl) ?_
      refine HList.vals (v := (.bool false)) rfl (HVal.assign' rfl) ?_
      refine HList.nil ?_
      refine nt ?_
      refine HW.ret ?_
      exact ⟨_, resOf1 rfl Res1.t, ⟨false, rfl, h⟩⟩
  · have h := hF hb18
    clear hT hF
    refine HList.gskips rfl rfl rfl rfl (congrArg Value.bool hb18) ?_
    refine HList.gskips rfl rfl rfl rfl (congrArg Value.bool hb18) ?_
    refine HList.gskips rfl rfl rfl rfl (congrArg Value.bool hb18) ?_
    refine HList.vals (v := (.bool false)) rfl (HVal.pickF rfl hb18 rfl) ?_
    refine HList.vals (v := (.bool false)) rfl (HVal.move' rfl) ?_
    refine HList.gskips rfl rfl rfl rfl rfl ?_
    refine HList.gskips rfl rfl rfl rfl rfl ?_
    refine HList.vals (v := (.bool false)) rfl (HVal.pickF rfl rfl rfl) ?_
    refine HList.vals (v := (.bool false)) rfl (HVal.move' rfl) ?_
    refine HList.gskips rfl rfl rfl rfl rfl ?_
    refine HList.gskips rfl rfl rfl rfl rfl ?_
    refine HList.vals (v := (.bool false)) rfl (HVal.pickF rfl rfl rfl) ?_
    refine HList.vals (v := (.bool false)) rfl (HVal.move' rfl) ?_
    refine HList.gskips rfl rfl rfl rfl rfl ?_
    refine HList.gskips rfl rfl rfl rfl rfl ?_
    refine HList.vals (v := (.bool false)) rfl (HVal.pickF rfl rfl rfl) ?_
    refine HList.vals (v := (.bool false)) rfl (HVal.move' rfl) ?_
    refine HList.gskips rfl rfl rfl rfl rfl ?_
    refine HList.gskips rfl rfl rfl rfl rfl ?_
    refine HList.gskips rfl rfl rfl rfl rfl ?_
    refine HList.vals (v := (.bool false)) rfl (HVal.pickF rfl rfl rfl) ?_
    refine HList.vals (v := (.bool false)) rfl (HVal.move' rfl) ?_
    refine HList.gskips rfl rfl rfl rfl rfl ?_
    refine HList.gskips rfl rfl rfl rfl rfl ?_
    refine HList.gskips rfl rfl rfl rfl rfl ?_
    refine HList.gskips rfl rfl rfl rfl rfl ?_
    refine HList.vals (v := (.bool false)) rfl (HVal.pickF rfl rfl rfl) ?_
    refine HList.vals (v := (.bool false)) rfl (HVal.move' rfl) ?_
    refine HList.gskips rfl rfl rfl rfl rfl ?_
    refine HList.gskips rfl rfl rfl rfl rfl ?_
    refine HList.gskips rfl rfl rfl rfl rfl ?_
    refine HList.vals (v := (.bool false)) rfl (HVal.pickF rfl rfl rfl) ?_
    refine HList.vals (v := (.bool false)) rfl (HVal.move' rfl) ?_
    refine HList.gskips rfl rfl rfl rfl rfl ?_
    refine HList.gskips rfl rfl rfl rfl rfl ?_
    refine HList.gskips rfl rfl rfl rfl rfl ?_
    refine HList.gskips rfl rfl rfl rfl rfl ?_
    refine HList.vals (v := (.bool false)) rfl (HVal.pickF rfl rfl rfl) ?_
    refine HList.vals (v := (.bool false)) rfl (HVal.assign' rfl) ?_
    refine HList.nil ?_
    refine nt ?_
    refine HW.ret ?_
    exact ⟨_, resOf1 rfl Res1.t, ⟨false, rfl, h⟩⟩

def F16 (p0 : Sl) (p1 : Sl) (H : Hp) (Q : Bool → Hp → Prop) : Prop :=
F30 p0 p1 H (fun (r3 : Bool) (H1 : Hp) => 
 Q r3 H1)
set_option maxRecDepth 100000 in
set_option maxHeartbeats 4000000 in
theorem walk16 {w0 : World} {p0 : Sl} {p1 : Sl} {H : Hp} {Q : Bool → Hp → Prop} (h : F16 p0 p1 H Q) :
    Good Tryd.prog w0 16 #[(Sl.v p0), (Sl.v p1)] H (fun v H => ∃ (r0 : Bool) , v = (.bool r0) ∧ Q r0 H) := by
  unfold F16 at h
  refine Good.enter' (fn := Tryd.f16) Tryd.func16 rfl rfl rfl ?_
  refine HW.seq ?_
  refine HW.region ?_
  refine HList.vals (v := (.bool false)) rfl (HVal.assign' rfl) ?_
  refine HList.nil ?_
  refine nt ?_
  refine HW.seq ?_
  refine HW.region ?_
  refine HList.vals (v := (Sl.v p0)) rfl (HVal.move' rfl) ?_
  refine HList.vals (v := (Sl.v p1)) rfl (HVal.move' rfl) ?_
  refine HList.ops' rfl (HOp.call' 30 [(Sl.v p0), (Sl.v p1)] (cap := []) rfl rfl Tryd.call30 (walk30 h)) ?_
  rintro _ H1 ⟨r3, rfl, h⟩
  refine HList.vals (v := (.bool r3)) rfl (HVal.assign' rfl) ?_
  refine HList.nil ?_
  refine nt ?_
  refine HW.ret ?_
  exact ⟨_, resOf1 rfl Res1.t, ⟨r3, rfl, h⟩⟩

def F10_2 (Q : Bool → Hp → Prop) (y44 : Sl) (y45 : Sl) (y46 : Sl) (y49 : Bool) (H_2 : Hp) : Prop :=
(y49 = true → (Q false H_2)) ∧
 (y49 = false → (F12 y46 H_2 (fun (r66 : Sl) (H64 : Hp) => 
 F16 y44 r66 H64 (fun (r69 : Bool) (H67 : Hp) => 
 ((!r69) = true → (F16 y45 r66 H67 (fun (r74 : Bool) (H72 : Hp) => 
 Q (!r74) H72))) ∧
 ((!r69) = false → (Q false H67))))))
def F10_1 (Q : Bool → Hp → Prop) (y4 : Sl) (y5 : Sl) (y6 : Sl) (y9 : Bool) (H_1 : Hp) : Prop :=
(y9 = true → (Q false H_1)) ∧
 (y9 = false → (F11 y4 H_1 (fun (r35 : Sl) (r36 : Int) (H33 : Hp) => 
 ((decide (r36 ≠ 0)) = true → (Q (decide (((r35).n : Int) = 0)) H33)) ∧
 ((decide (r36 ≠ 0)) = false → (AppendF H33 3 1 8 #[(.int .i64 0)] Sl.nil (y4).b (y4).n (fun (r40 : Sl) (H38 : Hp) => 
 AppendF H38 3 1 8 #[(.int .i64 0)] r40 (y5).b (y5).n (fun (r43 : Sl) (H41 : Hp) => 
 ((decide (((r35).n : Int) ≠ ((y4).n : Int))) = true → (F10_2 Q y4 y6 r35 true H41)) ∧
 ((decide (((r35).n : Int) ≠ ((y4).n : Int))) = false → (F16 y4 r35 H41 (fun (r52 : Bool) (H50 : Hp) => 
 ((!r52) = true → (F10_2 Q y4 y6 r35 true H50)) ∧
 ((!r52) = false → (F16 r35 y4 H50 (fun (r57 : Bool) (H55 : Hp) => 
 (r57 = true → (F10_2 Q y4 y6 r35 true H55)) ∧
 (r57 = false → (F16 r35 r43 H55 (fun (r62 : Bool) (H60 : Hp) => 
 F10_2 Q y4 y6 r35 r62 H60))))))))))))))))
def F10 (p0 : Sl) (p1 : Sl) (H : Hp) (Q : Bool → Hp → Prop) : Prop :=
F12 p0 H (fun (r3 : Sl) (H1 : Hp) => 
 ((decide (((r3).n : Int) ≠ (IntKind.i64.wrap (((p0).n : Int) + 1)))) = true → (F10_1 Q p0 p1 r3 true H1)) ∧
 ((decide (((r3).n : Int) ≠ (IntKind.i64.wrap (((p0).n : Int) + 1)))) = false → (∃ a10 : Addr, (r3).b = some a10 ∧ (0 : Int) ≤ ((p0).n : Int) ∧ ((p0).n : Int) < ((r3).n : Int) ∧ (
 ∃ x15 : Int, cell H1 (Addr.add a10 (((p0).n : Int).toNat * 1)) = some (.int .i64 x15) ∧ (
 ((decide (x15 ≠ 0)) = true → (F10_1 Q p0 p1 r3 true H1)) ∧
 ((decide (x15 ≠ 0)) = false → ((0 : Int) ≤ ((p0).n : Int) ∧ 0 ≤ ((p0).n : Int).toNat ∧ ((p0).n : Int).toNat ≤ (r3).c ∧ (r3).c ≤ (r3).c ∧ (
 F15 (Sl.cut r3 1 0 (((p0).n : Int).toNat) ((r3).c)) p0 H1 (fun (r24 : Bool) (H22 : Hp) => 
 ((!r24) = true → (F10_1 Q p0 p1 r3 true H22)) ∧
 ((!r24) = false → (((decide ((0 : Int) < ((p0).n : Int))) = true → (F16 p0 r3 H22 (fun (r31 : Bool) (H29 : Hp) => 
 F10_1 Q p0 p1 r3 (!r31) H29))) ∧
 ((decide ((0 : Int) < ((p0).n : Int))) = false → (F10_1 Q p0 p1 r3 false H22)))))))))))))
set_option maxRecDepth 100000 in
set_option maxHeartbeats 4000000 in
theorem walk10 {w0 : World} {p0 : Sl} {p1 : Sl} {H : Hp} {Q : Bool → Hp → Prop} (h : F10 p0 p1 H Q) :
    Good Tryd.prog w0 10 #[(Sl.v p0), (Sl.v p1)] H (fun v H => ∃ (r0 : Bool) , v = (.bool r0) ∧ Q r0 H) := by
  unfold F10 at h
  refine Good.enter' (fn := Tryd.f10) Tryd.func10 rfl rfl rfl ?_
  refine HW.seq ?_
  refine HW.region ?_
  refine HList.vals (v := (.bool false)) rfl (HVal.assign' rfl) ?_
  refine HList.nil ?_
  refine nt ?_
  refine HW.seq ?_
  refine HW.region ?_
  refine HList.vals (v := (Sl.v p0)) rfl (HVal.move' rfl) ?_
  refine HList.ops' rfl (HOp.call' 12 [(Sl.v p0)] (cap := []) rfl rfl Tryd.call12 (walk12 h)) ?_
  rintro _ H1 ⟨r3, rfl, h⟩
  refine HList.vals (v := (Sl.v r3)) rfl (HVal.assign' rfl) ?_
  refine HList.nil ?_
  refine nt ?_
  refine HW.seq ?_
  refine HW.cut (fun ρ H_1 => ∃ (y9 : Bool), Env.Is ρ [(0, (Sl.v p0)), (1, (Sl.v p1)), (5, (Sl.v r3)), (45, (.bool y9))] ∧ F10_1 Q p0 p1 r3 y9 H_1) ?_ ?_
  · refine HW.region ?_
    refine HList.vals (v := (Sl.v r3)) rfl (HVal.move' rfl) ?_
    refine HList.vals (v := (.int .i64 ((r3).n : Int))) rfl (HVal.len Tryd.runUnderlying22 rfl) ?_
    refine HList.vals (v := (Sl.v p0)) rfl (HVal.move' rfl) ?_
    refine HList.vals (v := (.int .i64 ((p0).n : Int))) rfl (HVal.len Tryd.runUnderlying22 rfl) ?_
    refine HList.vals (v := (.int .i64 (IntKind.i64.wrap (((p0).n : Int) + 1)))) rfl (HVal.add rfl rfl) ?_
    refine HList.vals (v := (.bool (decide (((r3).n : Int) ≠ (IntKind.i64.wrap (((p0).n : Int) + 1)))))) rfl (HVal.neqI rfl rfl) ?_
    refine HList.vals (v := (.bool (decide (((r3).n : Int) ≠ (IntKind.i64.wrap (((p0).n : Int) + 1)))))) rfl (HVal.move' rfl) ?_
    obtain ⟨hT, hF⟩ := h
    rcases Bool.eq_false_or_eq_true (decide (((r3).n : Int) ≠ (IntKind.i64.wrap (((p0).n : Int) + 1)))) with hb7 | hb8
    · have h := hT hb7
      clear hT hF
      refine HList.gskips rfl rfl rfl rfl (congrArg Value.bool hb7) ?_
      refine HList.gskips rfl rfl rfl rfl (congrArg Value.bool hb7) ?_
      refine HList.gskips rfl rfl rfl rfl (congrArg Value.bool hb7) ?_
      refine HList.gskips rfl rfl rfl rfl (congrArg Value.bool hb7) ?_
      refine HList.gskips rfl rfl rfl rfl (congrArg Value.bool hb7) ?_
      refine HList.gskips rfl rfl rfl rfl (congrArg Value.bool hb7) ?_
      refine HList.vals (v := (.bool true)) rfl (HVal.pickT rfl hb7 rfl) ?_
      refine HList.vals (v := (.bool true)) rfl (HVal.move' rfl) ?_
      refine HList.gskips rfl rfl rfl rfl rfl ?_
      refine HList.gskips rfl rfl rfl rfl rfl ?_
      refine HList.gskips rfl rfl rfl rfl rfl ?_
      refine HList.gskips rfl rfl rfl rfl rfl ?_
      refine HList.gskips rfl rfl rfl rfl rfl ?_
      refine HList.gskips rfl rfl rfl rfl rfl ?_
      refine HList.gskips rfl rfl rfl rfl rfl ?_
      refine HList.vals (v := (.bool true)) rfl (HVal.pickT rfl rfl rfl) ?_
      refine HList.vals (v := (.bool true)) rfl (HVal.move' rfl) ?_
      refine HList.gskips rfl rfl rfl rfl rfl ?_
      refine HList.gskips rfl rfl rfl rfl rfl ?_
      refine HList.gskips rfl rfl rfl rfl rfl ?_
      refine HList.gskips rfl rfl rfl rfl rfl ?_
      refine HList.uskips rfl rfl rfl rfl rfl ?_
      refine HList.uskips rfl rfl rfl rfl rfl ?_
      refine HList.uskips rfl rfl rfl rfl rfl ?_
      refine HList.uskips rfl rfl rfl rfl rfl ?_
      refine HList.gskips rfl rfl rfl rfl rfl ?_
      refine HList.vals (v := (.bool true)) rfl (HVal.pickT rfl rfl rfl) ?_
      refine HList.nil ?_
      refine nt ?_
      exact ⟨true, ⟨rfl, rfl, rfl, rfl, trivial⟩, h⟩
    · have h := hF hb8
      clear hT hF
      refine HList.gvals (v := (Sl.v r3)) rfl rfl rfl rfl (congrArg Value.bool hb8) (HVal.move' rfl) ?_
      refine HList.gvals (v := (Sl.v p0)) rfl rfl rfl rfl (congrArg Value.bool hb8) (HVal.move' rfl) ?_
      refine HList.gvals (v := (.int .i64 ((p0).n : Int))) rfl rfl rfl rfl (congrArg Value.bool hb8) (HVal.len Tryd.runUnderlying22 rfl) ?_
      obtain ⟨a10, e11, b12, b13, h⟩ := h
      refine HList.gvals (v := (.pointer (some (Addr.add a10 (((p0).n : Int).toNat * 1))))) rfl rfl rfl rfl (congrArg Value.bool hb8) (HVal.indexAddr Tryd.runUnderlying22 Tryd.sizeOf3 (Sl.v_some rfl e11) rfl b12 b13) ?_
      obtain ⟨x15, c14, h⟩ := h
      refine HList.gvals (v := (.int .i64 x15)) rfl rfl rfl rfl (congrArg Value.bool hb8) (HVal.load1 Tryd.isAgg3 rfl c14) ?_
      refine HList.gvals (v := (.bool (decide (x15 ≠ 0)))) rfl rfl rfl rfl (congrArg Value.bool hb8) (HVal.neqI rfl rfl) ?_
      refine HList.vals (v := (.bool (decide (x15 ≠ 0)))) rfl (HVal.pickF rfl hb8 rfl) ?_
      refine HList.vals (v := (.bool (decide (x15 ≠ 0)))) rfl (HVal.move' rfl) ?_
      obtain ⟨hT, hF⟩ := h
      rcases Bool.eq_false_or_eq_true (decide (x15 ≠ 0)) with hb16 | hb17
      · have h := hT hb16
        clear hT hF
        refine HList.gskips rfl rfl rfl rfl (congrArg Value.bool hb16) ?_
        refine HList.gskips rfl rfl rfl rfl (congrArg Value.bool hb16) ?_
        refine HList.gskips rfl rfl rfl rfl (congrArg Value.bool hb16) ?_
        refine HList.gskips rfl rfl rfl rfl (congrArg Value.bool hb16) ?_
        refine HList.gskips rfl rfl rfl rfl (congrArg Value.bool hb16) ?_
        refine HList.gskips rfl rfl rfl rfl (congrArg Value.bool hb16) ?_
        refine HList.gskips rfl rfl rfl rfl (congrArg Value.bool hb16) ?_
        refine HList.vals (v := (.bool true)) rfl (HVal.pickT rfl hb16 rfl) ?_
        refine HList.vals (v := (.bool true)) rfl (HVal.move' rfl) ?_
        refine HList.gskips rfl rfl rfl rfl rfl ?_
        refine HList.gskips rfl rfl rfl rfl rfl ?_
        refine HList.gskips rfl rfl rfl rfl rfl ?_
        refine HList.gskips rfl rfl rfl rfl rfl ?_
        refine HList.uskips rfl rfl rfl rfl rfl ?_
        refine HList.uskips rfl rfl rfl rfl rfl ?_
        refine HList.uskips rfl rfl rfl rfl rfl ?_
        refine HList.uskips rfl rfl rfl rfl rfl ?_
        refine HList.gskips rfl rfl rfl rfl rfl ?_
        refine HList.vals (v := (.bool true)) rfl (HVal.pickT rfl rfl rfl) ?_
        refine HList.nil ?_
        refine nt ?_
        exact ⟨true, ⟨rfl, rfl, rfl, rfl, trivial⟩, h⟩
      · have h := hF hb17
        clear hT hF
        refine HList.gvals (v := (Sl.v r3)) rfl rfl rfl rfl (congrArg Value.bool hb17) (HVal.move' rfl) ?_
        refine HList.gvals (v := (Sl.v p0)) rfl rfl rfl rfl (congrArg Value.bool hb17) (HVal.move' rfl) ?_
        refine HList.gvals (v := (.int .i64 ((p0).n : Int))) rfl rfl rfl rfl (congrArg Value.bool hb17) (HVal.len Tryd.runUnderlying22 rfl) ?_
        obtain ⟨z18, z19, z20, z21, h⟩ := h
        refine HList.gvals (v := (Sl.v (Sl.cut r3 1 0 (((p0).n : Int).toNat) ((r3).c)))) rfl rfl rfl rfl (congrArg Value.bool hb17) (HVal.slice _ _ _ Tryd.runUnderlying22 Tryd.sizeOf3 rfl rfl ⟨_, _, rfl, z18, rfl⟩ rfl (by decide) z19 z20 z21) ?_
        refine HList.gvals (v := (Sl.v p0)) rfl rfl rfl rfl (congrArg Value.bool hb17) (HVal.move' rfl) ?_
        refine HList.gops rfl rfl rfl rfl (congrArg Value.bool hb17) (HOp.call' 15 [(Sl.v (Sl.cut r3 1 0 (((p0).n : Int).toNat) ((r3).c))), (Sl.v p0)] (cap := []) rfl rfl Tryd.call15 (walk15 h)) ?_
        rintro _ H22 ⟨r24, rfl, h⟩
        refine HList.gvals (v := (.bool (!r24))) rfl rfl rfl rfl (congrArg Value.bool hb17) (HVal.not rfl) ?_
        refine HList.vals (v := (.bool (!r24))) rfl (HVal.pickF rfl hb17 rfl) ?_
        refine HList.vals (v := (.bool (!r24))) rfl (HVal.move' rfl) ?_
        obtain ⟨hT, hF⟩ := h
        rcases Bool.eq_false_or_eq_true (!r24) with hb25 | hb26
        · have h := hT hb25
          clear hT hF
          refine HList.gskips rfl rfl rfl rfl (congrArg Value.bool hb25) ?_
          refine HList.gskips rfl rfl rfl rfl (congrArg Value.bool hb25) ?_
          refine HList.gskips rfl rfl rfl rfl (congrArg Value.bool hb25) ?_
          refine HList.gskips rfl rfl rfl rfl (congrArg Value.bool hb25) ?_
          refine HList.uskips rfl rfl rfl rfl rfl ?_
          refine HList.uskips rfl rfl rfl rfl rfl ?_
          refine HList.uskips rfl rfl rfl rfl rfl ?_
          refine HList.uskips rfl rfl rfl rfl rfl ?_
          refine HList.gskips rfl rfl rfl rfl (congrArg Value.bool hb25) ?_
          refine HList.vals (v := (.bool true)) rfl (HVal.pickT rfl hb25 rfl) ?_
          refine HList.nil ?_
          refine nt ?_
          exact ⟨true, ⟨rfl, rfl, rfl, rfl, trivial⟩, h⟩
        · have h := hF hb26
          clear hT hF
          refine HList.gvals (v := (Sl.v p0)) rfl rfl rfl rfl (congrArg Value.bool hb26) (HVal.move' rfl) ?_
          refine HList.gvals (v := (.int .i64 ((p0).n : Int))) rfl rfl rfl rfl (congrArg Value.bool hb26) (HVal.len Tryd.runUnderlying22 rfl) ?_
          refine HList.gvals (v := (.bool (decide ((0 : Int) < ((p0).n : Int))))) rfl rfl rfl rfl (congrArg Value.bool hb26) (HVal.gtr rfl rfl) ?_
          refine HList.gvals (v := (.bool (decide ((0 : Int) < ((p0).n : Int))))) rfl rfl rfl rfl (congrArg Value.bool hb26) (HVal.move' rfl) ?_
          obtain ⟨hT, hF⟩ := h
          rcases Bool.eq_false_or_eq_true (decide ((0 : Int) < ((p0).n : Int))) with hb27 | hb28
          · have h := hT hb27
            clear hT hF
            refine HList.gvals (v := (Sl.v p0)) rfl rfl rfl rfl (congrArg Value.bool hb27) (HVal.move' rfl) ?_
            refine HList.gvals (v := (Sl.v r3)) rfl rfl rfl rfl (congrArg Value.bool hb27) (HVal.move' rfl) ?_
            refine HList.gops rfl rfl rfl rfl (congrArg Value.bool hb27) (HOp.call' 16 [(Sl.v p0), (Sl.v r3)] (cap := []) rfl rfl Tryd.call16 (walk16 h)) ?_
            rintro _ H29 ⟨r31, rfl, h⟩
            refine HList.gvals (v := (.bool (!r31))) rfl rfl rfl rfl (congrArg Value.bool hb27) (HVal.not rfl) ?_
            refine HList.gvals (v := (.bool (!r31))) rfl rfl rfl rfl (congrArg Value.bool hb26) (HVal.pickT rfl hb27 rfl) ?_
            refine HList.vals (v := (.bool (!r31))) rfl (HVal.pickF rfl hb26 rfl) ?_
            refine HList.nil ?_
            refine nt ?_
            exact ⟨(!r31), ⟨rfl, rfl, rfl, rfl, trivial⟩, h⟩
          · have h := hF hb28
            clear hT hF
            refine HList.gskips rfl rfl rfl rfl (congrArg Value.bool hb28) ?_
            refine HList.gskips rfl rfl rfl rfl (congrArg Value.bool hb28) ?_
            refine HList.gskips rfl rfl rfl rfl (congrArg Value.bool hb28) ?_
            refine HList.gskips rfl rfl rfl rfl (congrArg Value.bool hb28) ?_
            refine HList.gvals (v := (.bool false)) rfl rfl rfl rfl (congrArg Value.bool hb26) (HVal.pickF rfl hb28 rfl) ?_
            refine HList.vals (v := (.bool false)) rfl (HVal.pickF rfl hb26 rfl) ?_
            refine HList.nil ?_
            refine nt ?_
            exact ⟨false, ⟨rfl, rfl, rfl, rfl, trivial⟩, h⟩
  · rintro ρ H_1 ⟨y9, hI, h⟩
    obtain ⟨ρ0, rfl⟩ : ∃ ρ0, ρ = (Env.set (Env.set (Env.set (Env.set ρ0 45 (.bool y9)) 5 (Sl.v r3)) 1 (Sl.v p1)) 0 (Sl.v p0)) := ⟨ρ, hI.eq⟩
    clear hI; unfold F10_1 at h
    obtain ⟨hT, hF⟩ := h
    refine HW.cond y9 rfl (fun hb32 => ?_) (fun hb32 => ?_)
    · have h := hT hb32
      clear hT hF
      refine HW.seq ?_
      refine HW.region ?_
      refine HList.vals (v := (.bool false)) rfl (HVal.assign' rfl) ?_
      refine HList.nil ?_
      refine nt ?_
      refine HW.ret ?_
      refine tr ?_
      exact ⟨_, resOf1 rfl Res1.t, ⟨false, rfl, h⟩⟩
    · have h := hF hb32
      clear hT hF
      refine HW.skip ?_
      refine nt ?_
      refine HW.seq ?_
      refine HW.region ?_
      refine HList.vals (v := (Sl.v p0)) rfl (HVal.move' rfl) ?_
      refine HList.ops' rfl (HOp.call' 11 [(Sl.v p0)] (cap := []) rfl rfl Tryd.call11 (walk11 h)) ?_
      rintro _ H33 ⟨r35, r36, rfl, h⟩
      refine HList.vals (v := (.tuple #[(Sl.v r35), (.int .i64 r36)])) rfl (HVal.move' rfl) ?_
      refine HList.vals (v := (Sl.v r35)) rfl (HVal.extract rfl rfl) ?_
      refine HList.vals (v := (.int .i64 r36)) rfl (HVal.extract rfl rfl) ?_
      refine HList.vals (v := (Sl.v r35)) rfl (HVal.assign' rfl) ?_
      refine HList.vals (v := (.int .i64 r36)) rfl (HVal.assign' rfl) ?_
      refine HList.nil ?_
      refine nt ?_
      refine HW.seq ?_
      refine HW.seq ?_
      refine HW.region ?_
      refine HList.vals (v := (.int .i64 r36)) rfl (HVal.move' rfl) ?_
      refine HList.vals (v := (.bool (decide (r36 ≠ 0)))) rfl (HVal.neqI rfl rfl) ?_
      refine HList.nil ?_
      refine nt ?_
      obtain ⟨hT, hF⟩ := h
      refine HW.cond (decide (r36 ≠ 0)) rfl (fun hb37 => ?_) (fun hb37 => ?_)
      · have h := hT hb37
        clear hT hF
        refine HW.seq ?_
        refine HW.region ?_
        refine HList.vals (v := (Sl.v r35)) rfl (HVal.move' rfl) ?_
        refine HList.vals (v := (.int .i64 ((r35).n : Int))) rfl (HVal.len Tryd.runUnderlying22 rfl) ?_
        refine HList.vals (v := (.bool (decide (((r35).n : Int) = 0)))) rfl (HVal.eqlI rfl rfl) ?_
        refine HList.vals (v := (.bool (decide (((r35).n : Int) = 0)))) rfl (HVal.assign' rfl) ?_
        refine HList.nil ?_
        refine nt ?_
        refine HW.ret ?_
        refine tr ?_
        exact ⟨_, resOf1 rfl Res1.t, ⟨(decide (((r35).n : Int) = 0)), rfl, h⟩⟩
      · have h := hF hb37
        clear hT hF
        refine HW.skip ?_
        refine nt ?_
        refine HW.seq ?_
        refine HW.region ?_
        refine HList.vals (v := (Sl.v p0)) rfl (HVal.move' rfl) ?_
        refine HList.ops' rfl (HOp.append (k := 1) (b := 8) Tryd.runUnderlying22 Tryd.runUnderlying22 Tryd.typeInfo3 rfl rfl Tryd.zeroValue3 rfl rfl h) ?_
        rintro _ H38 ⟨r40, rfl, h⟩
        refine HList.vals (v := (Sl.v p1)) rfl (HVal.move' rfl) ?_
        refine HList.ops' rfl (HOp.append (k := 1) (b := 8) Tryd.runUnderlying22 Tryd.runUnderlying22 Tryd.typeInfo3 rfl rfl Tryd.zeroValue3 rfl rfl h) ?_
        rintro _ H41 ⟨r43, rfl, h⟩
        refine HList.vals (v := (Sl.v r43)) rfl (HVal.assign' rfl) ?_
        refine HList.nil ?_
        refine nt ?_
        refine HW.seq ?_
        refine HW.cut (fun ρ H_2 => ∃ (y49 : Bool), Env.Is ρ [(0, (Sl.v p0)), (5, (Sl.v r3)), (6, (Sl.v r35)), (80, (.bool y49))] ∧ F10_2 Q p0 r3 r35 y49 H_2) ?_ ?_
        · refine HW.region ?_
          refine HList.vals (v := (Sl.v r35)) rfl (HVal.move' rfl) ?_
          refine HList.vals (v := (.int .i64 ((r35).n : Int))) rfl (HVal.len Tryd.runUnderlying22 rfl) ?_
          refine HList.vals (v := (Sl.v p0)) rfl (HVal.move' rfl) ?_
          refine HList.vals (v := (.int .i64 ((p0).n : Int))) rfl (HVal.len Tryd.runUnderlying22 rfl) ?_
          refine HList.vals (v := (.bool (decide (((r35).n : Int) ≠ ((p0).n : Int))))) rfl (HVal.neqI rfl rfl) ?_
          refine HList.vals (v := (.bool (decide (((r35).n : Int) ≠ ((p0).n : Int))))) rfl (HVal.move' rfl) ?_
          obtain ⟨hT, hF⟩ := h
          rcases Bool.eq_false_or_eq_true (decide (((r35).n : Int) ≠ ((p0).n : Int))) with hb47 | hb48
          · have h := hT hb47
            clear hT hF
            refine HList.gskips rfl rfl rfl rfl (congrArg Value.bool hb47) ?_
            refine HList.gskips rfl rfl rfl rfl (congrArg Value.bool hb47) ?_
            refine HList.gskips rfl rfl rfl rfl (congrArg Value.bool hb47) ?_
            refine HList.gskips rfl rfl rfl rfl (congrArg Value.bool hb47) ?_
            refine HList.vals (v := (.bool true)) rfl (HVal.pickT rfl hb47 rfl) ?_
            refine HList.vals (v := (.bool true)) rfl (HVal.move' rfl) ?_
            refine HList.gskips rfl rfl rfl rfl rfl ?_
            refine HList.gskips rfl rfl rfl rfl rfl ?_
            refine HList.gskips rfl rfl rfl rfl rfl ?_
            refine HList.vals (v := (.bool true)) rfl (HVal.pickT rfl rfl rfl) ?_
            refine HList.vals (v := (.bool true)) rfl (HVal.move' rfl) ?_
            refine HList.gskips rfl rfl rfl rfl rfl ?_
            refine HList.gskips rfl rfl rfl rfl rfl ?_
            refine HList.gskips rfl rfl rfl rfl rfl ?_
            refine HList.vals (v := (.bool true)) rfl (HVal.pickT rfl rfl rfl) ?_
            refine HList.nil ?_
            refine nt ?_
            exact ⟨true, ⟨rfl, rfl, rfl, rfl, trivial⟩, h⟩
          · have h := hF hb48
            clear hT hF
            refine HList.gvals (v := (Sl.v p0)) rfl rfl rfl rfl (congrArg Value.bool hb48) (HVal.move' rfl) ?_
            refine HList.gvals (v := (Sl.v r35)) rfl rfl rfl rfl (congrArg Value.bool hb48) (HVal.move' rfl) ?_
            refine HList.gops rfl rfl rfl rfl (congrArg Value.bool hb48) (HOp.call' 16 [(Sl.v p0), (Sl.v r35)] (cap := []) rfl rfl Tryd.call16 (walk16 h)) ?_
            rintro _ H50 ⟨r52, rfl, h⟩
            refine HList.gvals (v := (.bool (!r52))) rfl rfl rfl rfl (congrArg Value.bool hb48) (HVal.not rfl) ?_
            refine HList.vals (v := (.bool (!r52))) rfl (HVal.pickF rfl hb48 rfl) ?_
            refine HList.vals (v := (.bool (!r52))) rfl (HVal.move' rfl) ?_
            obtain ⟨hT, hF⟩ := h
            rcases Bool.eq_false_or_eq_true (!r52) with hb53 | hb54
            · have h := hT hb53
              clear hT hF
              refine HList.gskips rfl rfl rfl rfl (congrArg Value.bool hb53) ?_
              refine HList.gskips rfl rfl rfl rfl (congrArg Value.bool hb53) ?_
              refine HList.gskips rfl rfl rfl rfl (congrArg Value.bool hb53) ?_
              refine HList.vals (v := (.bool true)) rfl (HVal.pickT rfl hb53 rfl) ?_
              refine HList.vals (v := (.bool true)) rfl (HVal.move' rfl) ?_
              refine HList.gskips rfl rfl rfl rfl rfl ?_
              refine HList.gskips rfl rfl rfl rfl rfl ?_
              refine HList.gskips rfl rfl rfl rfl rfl ?_
              refine HList.vals (v := (.bool true)) rfl (HVal.pickT rfl rfl rfl) ?_
              refine HList.nil ?_
              refine nt ?_
              exact ⟨true, ⟨rfl, rfl, rfl, rfl, trivial⟩, h⟩
            · have h := hF hb54
              clear hT hF
              refine HList.gvals (v := (Sl.v r35)) rfl rfl rfl rfl (congrArg Value.bool hb54) (HVal.move' rfl) ?_
              refine HList.gvals (v := (Sl.v p0)) rfl rfl rfl rfl (congrArg Value.bool hb54) (HVal.move' rfl) ?_
              refine HList.gops rfl rfl rfl rfl (congrArg Value.bool hb54) (HOp.call' 16 [(Sl.v r35), (Sl.v p0)] (cap := []) rfl rfl Tryd.call16 (walk16 h)) ?_
              rintro _ H55 ⟨r57, rfl, h⟩
              refine HList.vals (v := (.bool r57)) rfl (HVal.pickF rfl hb54 rfl) ?_
              refine HList.vals (v := (.bool r57)) rfl (HVal.move' rfl) ?_
              obtain ⟨hT, hF⟩ := h
              rcases Bool.eq_false_or_eq_true r57 with hb58 | hb59
              · have h := hT hb58
                clear hT hF
                refine HList.gskips rfl rfl rfl rfl (congrArg Value.bool hb58) ?_
                refine HList.gskips rfl rfl rfl rfl (congrArg Value.bool hb58) ?_
                refine HList.gskips rfl rfl rfl rfl (congrArg Value.bool hb58) ?_
                refine HList.vals (v := (.bool true)) rfl (HVal.pickT rfl hb58 rfl) ?_
                refine HList.nil ?_
                refine nt ?_
                exact ⟨true, ⟨rfl, rfl, rfl, rfl, trivial⟩, h⟩
              · have h := hF hb59
                clear hT hF
                refine HList.gvals (v := (Sl.v r35)) rfl rfl rfl rfl (congrArg Value.bool hb59) (HVal.move' rfl) ?_
                refine HList.gvals (v := (Sl.v r43)) rfl rfl rfl rfl (congrArg Value.bool hb59) (HVal.move' rfl) ?_
                refine HList.gops rfl rfl rfl rfl (congrArg Value.bool hb59) (HOp.call' 16 [(Sl.v r35), (Sl.v r43)] (cap := []) rfl rfl Tryd.call16 (walk16 h)) ?_
                rintro _ H60 ⟨r62, rfl, h⟩
                refine HList.vals (v := (.bool r62)) rfl (HVal.pickF rfl hb59 rfl) ?_
                refine HList.nil ?_
                refine nt ?_
                exact ⟨r62, ⟨rfl, rfl, rfl, rfl, trivial⟩, h⟩
        · rintro ρ H_2 ⟨y49, hI, h⟩
          obtain ⟨ρ0, rfl⟩ : ∃ ρ0, ρ = (Env.set (Env.set (Env.set (Env.set ρ0 80 (.bool y49)) 6 (Sl.v r35)) 5 (Sl.v r3)) 0 (Sl.v p0)) := ⟨ρ, hI.eq⟩
          clear hI; unfold F10_2 at h
          obtain ⟨hT, hF⟩ := h
          refine HW.cond y49 rfl (fun hb63 => ?_) (fun hb63 => ?_)
          · have h := hT hb63
            clear hT hF
            refine HW.seq ?_
            refine HW.region ?_
            refine HList.vals (v := (.bool false)) rfl (HVal.assign' rfl) ?_
            refine HList.nil ?_
            refine nt ?_
            refine HW.ret ?_
            refine tr ?_
            exact ⟨_, resOf1 rfl Res1.t, ⟨false, rfl, h⟩⟩
          · have h := hF hb63
            clear hT hF
            refine HW.skip ?_
            refine nt ?_
            refine HW.seq ?_
            refine HW.region ?_
            refine HList.vals (v := (Sl.v r35)) rfl (HVal.move' rfl) ?_
            refine HList.ops' rfl (HOp.call' 12 [(Sl.v r35)] (cap := []) rfl rfl Tryd.call12 (walk12 h)) ?_
            rintro _ H64 ⟨r66, rfl, h⟩
            refine HList.vals (v := (Sl.v r66)) rfl (HVal.assign' rfl) ?_
            refine HList.nil ?_
            refine nt ?_
            refine HW.seq ?_
            refine HW.region ?_
            refine HList.vals (v := (Sl.v p0)) rfl (HVal.move' rfl) ?_
            refine HList.vals (v := (Sl.v r66)) rfl (HVal.move' rfl) ?_
            refine HList.ops' rfl (HOp.call' 16 [(Sl.v p0), (Sl.v r66)] (cap := []) rfl rfl Tryd.call16 (walk16 h)) ?_
            rintro _ H67 ⟨r69, rfl, h⟩
            refine HList.vals (v := (.bool (!r69))) rfl (HVal.not rfl) ?_
            refine HList.vals (v := (.bool (!r69))) rfl (HVal.move' rfl) ?_
            obtain ⟨hT, hF⟩ := h
            rcases Bool.eq_false_or_eq_true (!r69) with hb70 | hb71
            · have h := hT hb70
              clear hT hF
              refine HList.gvals (v := (Sl.v r3)) rfl rfl rfl rfl (congrArg Value.bool hb70) (HVal.move' rfl) ?_
              refine HList.gvals (v := (Sl.v r66)) rfl rfl rfl rfl (congrArg Value.bool hb70) (HVal.move' rfl) ?_
              refine HList.gops rfl rfl rfl rfl (congrArg Value.bool hb70) (HOp.call' 16 [(Sl.v r3), (Sl.v r66)] (cap := []) rfl rfl Tryd.call16 (walk16 h)) ?_
              rintro _ H72 ⟨r74, rfl, h⟩
              refine HList.gvals (v := (.bool (!r74))) rfl rfl rfl rfl (congrArg Value.bool hb70) (HVal.not rfl) ?_
              refine HList.vals (v := (.bool (!r74))) rfl (HVal.pickT rfl hb70 rfl) ?_
              refine HList.vals (v := (.bool (!r74))) rfl (HVal.assign' rfl) ?_
              refine HList.nil ?_
              refine nt ?_
              refine HW.ret ?_
              exact ⟨_, resOf1 rfl Res1.t, ⟨(!r74), rfl, h⟩⟩
            · have h := hF hb71
              clear hT hF
              refine HList.gskips rfl rfl rfl rfl (congrArg Value.bool hb71) ?_
              refine HList.gskips rfl rfl rfl rfl (congrArg Value.bool hb71) ?_
              refine HList.gskips rfl rfl rfl rfl (congrArg Value.bool hb71) ?_
              refine HList.gskips rfl rfl rfl rfl (congrArg Value.bool hb71) ?_
              refine HList.vals (v := (.bool false)) rfl (HVal.pickF rfl hb71 rfl) ?_
              refine HList.vals (v := (.bool false)) rfl (HVal.assign' rfl) ?_
              refine HList.nil ?_
              refine nt ?_
              refine HW.ret ?_
              exact ⟨_, resOf1 rfl Res1.t, ⟨false, rfl, h⟩⟩

def F13_2 (Q : Bool → Hp → Prop) (y23 : Sl) (y24 : Sl) (y37 : Bool) (H_2 : Hp) : Prop :=
(y37 = true → (F16 y23 y24 H_2 (fun (r41 : Bool) (H39 : Hp) => 
 Q r41 H39))) ∧
 (y37 = false → (Q true H_2))
def F13_1 (Q : Bool → Hp → Prop) (y5 : Sl) (y6 : Sl) (y7 : Sl) (y21 : Bool) (H_1 : Hp) : Prop :=
(y21 = true → (Q false H_1)) ∧
 (y21 = false → (F16 y5 y6 H_1 (fun (r27 : Bool) (H25 : Hp) => 
 (r27 = true → (F16 y6 y7 H25 (fun (r32 : Bool) (H30 : Hp) => 
 (r32 = true → (((decide (((y5).n : Int) < ((y6).n : Int))) = true → (F13_2 Q y5 y7 true H30)) ∧
 ((decide (((y5).n : Int) < ((y6).n : Int))) = false → (F13_2 Q y5 y7 (decide (((y7).n : Int) = ((y5).n : Int))) H30)))) ∧
 (r32 = false → (F13_2 Q y5 y7 false H30))))) ∧
 (r27 = false → (F13_2 Q y5 y7 false H25)))))
def F13 (p0 : Sl) (p1 : Sl) (p2 : Sl) (H : Hp) (Q : Bool → Hp → Prop) : Prop :=
F16 p0 p0 H (fun (r3 : Bool) (H1 : Hp) => 
 ((!(r3 == (decide ((0 : Int) < ((p0).n : Int))))) = true → (Q false H1)) ∧
 ((!(r3 == (decide ((0 : Int) < ((p0).n : Int))))) = false → (F16 p0 p1 H1 (fun (r10 : Bool) (H8 : Hp) => 
 (r10 = true → (F16 p1 p0 H8 (fun (r15 : Bool) (H13 : Hp) => 
 (r15 = true → (F15 p0 p1 H13 (fun (r20 : Bool) (H18 : Hp) => 
 F13_1 Q p0 p1 p2 (!r20) H18))) ∧
 (r15 = false → (F13_1 Q p0 p1 p2 false H13))))) ∧
 (r10 = false → (F13_1 Q p0 p1 p2 false H8))))))
set_option maxRecDepth 100000 in
set_option maxHeartbeats 4000000 in
theorem walk13 {w0 : World} {p0 : Sl} {p1 : Sl} {p2 : Sl} {H : Hp} {Q : Bool → Hp → Prop} (h : F13 p0 p1 p2 H Q) :
    Good Tryd.prog w0 13 #[(Sl.v p0), (Sl.v p1), (Sl.v p2)] H (fun v H => ∃ (r0 : Bool) , v = (.bool r0) ∧ Q r0 H) := by
  unfold F13 at h
  refine Good.enter' (fn := Tryd.f13) Tryd.func13 rfl rfl rfl ?_
  refine HW.seq ?_
  refine HW.region ?_
  refine HList.vals (v := (.bool false)) rfl (HVal.assign' rfl) ?_
  refine HList.nil ?_
  refine nt ?_
  refine HW.seq ?_
  refine HW.seq ?_
  refine HW.region ?_
  refine HList.vals (v := (Sl.v p0)) rfl (HVal.move' rfl) ?_
  refine HList.vals (v := (Sl.v p0)) rfl (HVal.move' rfl) ?_
  refine HList.ops' rfl (HOp.call' 16 [(Sl.v p0), (Sl.v p0)] (cap := []) rfl rfl Tryd.call16 (walk16 h)) ?_
  rintro _ H1 ⟨r3, rfl, h⟩
  refine HList.vals (v := (Sl.v p0)) rfl (HVal.move' rfl) ?_
  refine HList.vals (v := (.int .i64 ((p0).n : Int))) rfl (HVal.len Tryd.runUnderlying22 rfl) ?_
  refine HList.vals (v := (.bool (decide ((0 : Int) < ((p0).n : Int))))) rfl (HVal.gtr rfl rfl) ?_
  refine HList.vals (v := (.bool (!(r3 == (decide ((0 : Int) < ((p0).n : Int))))))) rfl (HVal.neqB Tryd.underlying4 rfl rfl) ?_
  refine HList.nil ?_
  refine nt ?_
  obtain ⟨hT, hF⟩ := h
  refine HW.cond (!(r3 == (decide ((0 : Int) < ((p0).n : Int))))) rfl (fun hb4 => ?_) (fun hb4 => ?_)
  · have h := hT hb4
    clear hT hF
    refine HW.seq ?_
    refine HW.region ?_
    refine HList.vals (v := (.bool false)) rfl (HVal.assign' rfl) ?_
    refine HList.nil ?_
    refine nt ?_
    refine HW.ret ?_
    refine tr ?_
    exact ⟨_, resOf1 rfl Res1.t, ⟨false, rfl, h⟩⟩
  · have h := hF hb4
    clear hT hF
    refine HW.skip ?_
    refine nt ?_
    refine HW.seq ?_
    refine HW.cut (fun ρ H_1 => ∃ (y21 : Bool), Env.Is ρ [(0, (Sl.v p0)), (1, (Sl.v p1)), (2, (Sl.v p2)), (27, (.bool y21))] ∧ F13_1 Q p0 p1 p2 y21 H_1) ?_ ?_
    · refine HW.region ?_
      refine HList.vals (v := (Sl.v p0)) rfl (HVal.move' rfl) ?_
      refine HList.vals (v := (Sl.v p1)) rfl (HVal.move' rfl) ?_
      refine HList.ops' rfl (HOp.call' 16 [(Sl.v p0), (Sl.v p1)] (cap := []) rfl rfl Tryd.call16 (walk16 h)) ?_
      rintro _ H8 ⟨r10, rfl, h⟩
      refine HList.vals (v := (.bool r10)) rfl (HVal.move' rfl) ?_
      obtain ⟨hT, hF⟩ := h
      rcases Bool.eq_false_or_eq_true r10 with hb11 | hb12
      · have h := hT hb11
        clear hT hF
        refine HList.gvals (v := (Sl.v p1)) rfl rfl rfl rfl (congrArg Value.bool hb11) (HVal.move' rfl) ?_
        refine HList.gvals (v := (Sl.v p0)) rfl rfl rfl rfl (congrArg Value.bool hb11) (HVal.move' rfl) ?_
        refine HList.gops rfl rfl rfl rfl (congrArg Value.bool hb11) (HOp.call' 16 [(Sl.v p1), (Sl.v p0)] (cap := []) rfl rfl Tryd.call16 (walk16 h)) ?_
        rintro _ H13 ⟨r15, rfl, h⟩
        refine HList.vals (v := (.bool r15)) rfl (HVal.pickT rfl hb11 rfl) ?_
        refine HList.vals (v := (.bool r15)) rfl (HVal.move' rfl) ?_
        obtain ⟨hT, hF⟩ := h
        rcases Bool.eq_false_or_eq_true r15 with hb16 | hb17
        · have h := hT hb16
          clear hT hF
          refine HList.gvals (v := (Sl.v p0)) rfl rfl rfl rfl (congrArg Value.bool hb16) (HVal.move' rfl) ?_
          refine HList.gvals (v := (Sl.v p1)) rfl rfl rfl rfl (congrArg Value.bool hb16) (HVal.move' rfl) ?_
          refine HList.gops rfl rfl rfl rfl (congrArg Value.bool hb16) (HOp.call' 15 [(Sl.v p0), (Sl.v p1)] (cap := []) rfl rfl Tryd.call15 (walk15 h)) ?_
          rintro _ H18 ⟨r20, rfl, h⟩
          refine HList.gvals (v := (.bool (!r20))) rfl rfl rfl rfl (congrArg Value.bool hb16) (HVal.not rfl) ?_
          refine HList.vals (v := (.bool (!r20))) rfl (HVal.pickT rfl hb16 rfl) ?_
          refine HList.nil ?_
          refine nt ?_
          exact ⟨(!r20), ⟨rfl, rfl, rfl, rfl, trivial⟩, h⟩
        · have h := hF hb17
          clear hT hF
          refine HList.gskips rfl rfl rfl rfl (congrArg Value.bool hb17) ?_
          refine HList.gskips rfl rfl rfl rfl (congrArg Value.bool hb17) ?_
          refine HList.gskips rfl rfl rfl rfl (congrArg Value.bool hb17) ?_
          refine HList.gskips rfl rfl rfl rfl (congrArg Value.bool hb17) ?_
          refine HList.vals (v := (.bool false)) rfl (HVal.pickF rfl hb17 rfl) ?_
          refine HList.nil ?_
          refine nt ?_
          exact ⟨false, ⟨rfl, rfl, rfl, rfl, trivial⟩, h⟩
      · have h := hF hb12
        clear hT hF
        refine HList.gskips rfl rfl rfl rfl (congrArg Value.bool hb12) ?_
        refine HList.gskips rfl rfl rfl rfl (congrArg Value.bool hb12) ?_
        refine HList.gskips rfl rfl rfl rfl (congrArg Value.bool hb12) ?_
        refine HList.vals (v := (.bool false)) rfl (HVal.pickF rfl hb12 rfl) ?_
        refine HList.vals (v := (.bool false)) rfl (HVal.move' rfl) ?_
        refine HList.gskips rfl rfl rfl rfl rfl ?_
        refine HList.gskips rfl rfl rfl rfl rfl ?_
        refine HList.gskips rfl rfl rfl rfl rfl ?_
        refine HList.gskips rfl rfl rfl rfl rfl ?_
        refine HList.vals (v := (.bool false)) rfl (HVal.pickF rfl rfl rfl) ?_
        refine HList.nil ?_
        refine nt ?_
        exact ⟨false, ⟨rfl, rfl, rfl, rfl, trivial⟩, h⟩
    · rintro ρ H_1 ⟨y21, hI, h⟩
      obtain ⟨ρ0, rfl⟩ : ∃ ρ0, ρ = (Env.set (Env.set (Env.set (Env.set ρ0 27 (.bool y21)) 2 (Sl.v p2)) 1 (Sl.v p1)) 0 (Sl.v p0)) := ⟨ρ, hI.eq⟩
      clear hI; unfold F13_1 at h
      obtain ⟨hT, hF⟩ := h
      refine HW.cond y21 rfl (fun hb22 => ?_) (fun hb22 => ?_)
      · have h := hT hb22
        clear hT hF
        refine HW.seq ?_
        refine HW.region ?_
        refine HList.vals (v := (.bool false)) rfl (HVal.assign' rfl) ?_
        refine HList.nil ?_
        refine nt ?_
        refine HW.ret ?_
        refine tr ?_
        exact ⟨_, resOf1 rfl Res1.t, ⟨false, rfl, h⟩⟩
      · have h := hF hb22
        clear hT hF
        refine HW.skip ?_
        refine nt ?_
        refine HW.seq ?_
        refine HW.cut (fun ρ H_2 => ∃ (y37 : Bool), Env.Is ρ [(0, (Sl.v p0)), (2, (Sl.v p2)), (49, (.bool y37))] ∧ F13_2 Q p0 p2 y37 H_2) ?_ ?_
        · refine HW.region ?_
          refine HList.vals (v := (Sl.v p0)) rfl (HVal.move' rfl) ?_
          refine HList.vals (v := (Sl.v p1)) rfl (HVal.move' rfl) ?_
          refine HList.ops' rfl (HOp.call' 16 [(Sl.v p0), (Sl.v p1)] (cap := []) rfl rfl Tryd.call16 (walk16 h)) ?_
          rintro _ H25 ⟨r27, rfl, h⟩
          refine HList.vals (v := (.bool r27)) rfl (HVal.move' rfl) ?_
          obtain ⟨hT, hF⟩ := h
          rcases Bool.eq_false_or_eq_true r27 with hb28 | hb29
          · have h := hT hb28
            clear hT hF
            refine HList.gvals (v := (Sl.v p1)) rfl rfl rfl rfl (congrArg Value.bool hb28) (HVal.move' rfl) ?_
            refine HList.gvals (v := (Sl.v p2)) rfl rfl rfl rfl (congrArg Value.bool hb28) (HVal.move' rfl) ?_
            refine HList.gops rfl rfl rfl rfl (congrArg Value.bool hb28) (HOp.call' 16 [(Sl.v p1), (Sl.v p2)] (cap := []) rfl rfl Tryd.call16 (walk16 h)) ?_
            rintro _ H30 ⟨r32, rfl, h⟩
            refine HList.vals (v := (.bool r32)) rfl (HVal.pickT rfl hb28 rfl) ?_
            refine HList.vals (v := (.bool r32)) rfl (HVal.move' rfl) ?_
            obtain ⟨hT, hF⟩ := h
            rcases Bool.eq_false_or_eq_true r32 with hb33 | hb34
            · have h := hT hb33
              clear hT hF
              refine HList.gvals (v := (Sl.v p1)) rfl rfl rfl rfl (congrArg Value.bool hb33) (HVal.move' rfl) ?_
              refine HList.gvals (v := (.int .i64 ((p1).n : Int))) rfl rfl rfl rfl (congrArg Value.bool hb33) (HVal.len Tryd.runUnderlying22 rfl) ?_
              refine HList.gvals (v := (Sl.v p0)) rfl rfl rfl rfl (congrArg Value.bool hb33) (HVal.move' rfl) ?_
              refine HList.gvals (v := (.int .i64 ((p0).n : Int))) rfl rfl rfl rfl (congrArg Value.bool hb33) (HVal.len Tryd.runUnderlying22 rfl) ?_
              refine HList.gvals (v := (.bool (decide (((p0).n : Int) < ((p1).n : Int))))) rfl rfl rfl rfl (congrArg Value.bool hb33) (HVal.gtr rfl rfl) ?_
              refine HList.gvals (v := (.bool (decide (((p0).n : Int) < ((p1).n : Int))))) rfl rfl rfl rfl (congrArg Value.bool hb33) (HVal.move' rfl) ?_
              obtain ⟨hT, hF⟩ := h
              rcases Bool.eq_false_or_eq_true (decide (((p0).n : Int) < ((p1).n : Int))) with hb35 | hb36
              · have h := hT hb35
                clear hT hF
                refine HList.gskips rfl rfl rfl rfl (congrArg Value.bool hb35) ?_
                refine HList.gskips rfl rfl rfl rfl (congrArg Value.bool hb35) ?_
                refine HList.gskips rfl rfl rfl rfl (congrArg Value.bool hb35) ?_
                refine HList.gskips rfl rfl rfl rfl (congrArg Value.bool hb35) ?_
                refine HList.gskips rfl rfl rfl rfl (congrArg Value.bool hb35) ?_
                refine HList.gvals (v := (.bool true)) rfl rfl rfl rfl (congrArg Value.bool hb33) (HVal.pickT rfl hb35 rfl) ?_
                refine HList.vals (v := (.bool true)) rfl (HVal.pickT rfl hb33 rfl) ?_
                refine HList.nil ?_
                refine nt ?_
                exact ⟨true, ⟨rfl, rfl, rfl, trivial⟩, h⟩
              · have h := hF hb36
                clear hT hF
                refine HList.gvals (v := (Sl.v p2)) rfl rfl rfl rfl (congrArg Value.bool hb36) (HVal.move' rfl) ?_
                refine HList.gvals (v := (.int .i64 ((p2).n : Int))) rfl rfl rfl rfl (congrArg Value.bool hb36) (HVal.len Tryd.runUnderlying22 rfl) ?_
                refine HList.gvals (v := (Sl.v p0)) rfl rfl rfl rfl (congrArg Value.bool hb36) (HVal.move' rfl) ?_
                refine HList.gvals (v := (.int .i64 ((p0).n : Int))) rfl rfl rfl rfl (congrArg Value.bool hb36) (HVal.len Tryd.runUnderlying22 rfl) ?_
                refine HList.gvals (v := (.bool (decide (((p2).n : Int) = ((p0).n : Int))))) rfl rfl rfl rfl (congrArg Value.bool hb36) (HVal.eqlI rfl rfl) ?_
                refine HList.gvals (v := (.bool (decide (((p2).n : Int) = ((p0).n : Int))))) rfl rfl rfl rfl (congrArg Value.bool hb33) (HVal.pickF rfl hb36 rfl) ?_
                refine HList.vals (v := (.bool (decide (((p2).n : Int) = ((p0).n : Int))))) rfl (HVal.pickT rfl hb33 rfl) ?_
                refine HList.nil ?_
                refine nt ?_
                exact ⟨(decide (((p2).n : Int) = ((p0).n : Int))), ⟨rfl, rfl, rfl, trivial⟩, h⟩
            · have h := hF hb34
              clear hT hF
              refine HList.gskips rfl rfl rfl rfl (congrArg Value.bool hb34) ?_
              refine HList.gskips rfl rfl rfl rfl (congrArg Value.bool hb34) ?_
              refine HList.gskips rfl rfl rfl rfl (congrArg Value.bool hb34) ?_
              refine HList.gskips rfl rfl rfl rfl (congrArg Value.bool hb34) ?_
              refine HList.gskips rfl rfl rfl rfl (congrArg Value.bool hb34) ?_
              refine HList.gskips rfl rfl rfl rfl (congrArg Value.bool hb34) ?_
              refine HList.uskips rfl rfl rfl rfl rfl ?_
              refine HList.uskips rfl rfl rfl rfl rfl ?_
              refine HList.uskips rfl rfl rfl rfl rfl ?_
              refine HList.uskips rfl rfl rfl rfl rfl ?_
              refine HList.uskips rfl rfl rfl rfl rfl ?_
              refine HList.gskips rfl rfl rfl rfl (congrArg Value.bool hb34) ?_
              refine HList.vals (v := (.bool false)) rfl (HVal.pickF rfl hb34 rfl) ?_
              refine HList.nil ?_
              refine nt ?_
              exact ⟨false, ⟨rfl, rfl, rfl, trivial⟩, h⟩
          · have h := hF hb29
            clear hT hF
            refine HList.gskips rfl rfl rfl rfl (congrArg Value.bool hb29) ?_
            refine HList.gskips rfl rfl rfl rfl (congrArg Value.bool hb29) ?_
            refine HList.gskips rfl rfl rfl rfl (congrArg Value.bool hb29) ?_
            refine HList.vals (v := (.bool false)) rfl (HVal.pickF rfl hb29 rfl) ?_
            refine HList.vals (v := (.bool false)) rfl (HVal.move' rfl) ?_
            refine HList.gskips rfl rfl rfl rfl rfl ?_
            refine HList.gskips rfl rfl rfl rfl rfl ?_
            refine HList.gskips rfl rfl rfl rfl rfl ?_
            refine HList.gskips rfl rfl rfl rfl rfl ?_
            refine HList.gskips rfl rfl rfl rfl rfl ?_
            refine HList.gskips rfl rfl rfl rfl rfl ?_
            refine HList.uskips rfl rfl rfl rfl rfl ?_
            refine HList.uskips rfl rfl rfl rfl rfl ?_
            refine HList.uskips rfl rfl rfl rfl rfl ?_
            refine HList.uskips rfl rfl rfl rfl rfl ?_
            refine HList.uskips rfl rfl rfl rfl rfl ?_
            refine HList.gskips rfl rfl rfl rfl rfl ?_
            refine HList.vals (v := (.bool false)) rfl (HVal.pickF rfl rfl rfl) ?_
            refine HList.nil ?_
            refine nt ?_
            exact ⟨false, ⟨rfl, rfl, rfl, trivial⟩, h⟩
        · rintro ρ H_2 ⟨y37, hI, h⟩
          obtain ⟨ρ0, rfl⟩ : ∃ ρ0, ρ = (Env.set (Env.set (Env.set ρ0 49 (.bool y37)) 2 (Sl.v p2)) 0 (Sl.v p0)) := ⟨ρ, hI.eq⟩
          clear hI; unfold F13_2 at h
          obtain ⟨hT, hF⟩ := h
          refine HW.cond y37 rfl (fun hb38 => ?_) (fun hb38 => ?_)
          · have h := hT hb38
            clear hT hF
            refine HW.seq ?_
            refine HW.region ?_
            refine HList.vals (v := (Sl.v p0)) rfl (HVal.move' rfl) ?_
            refine HList.vals (v := (Sl.v p2)) rfl (HVal.move' rfl) ?_
            refine HList.ops' rfl (HOp.call' 16 [(Sl.v p0), (Sl.v p2)] (cap := []) rfl rfl Tryd.call16 (walk16 h)) ?_
            rintro _ H39 ⟨r41, rfl, h⟩
            refine HList.vals (v := (.bool r41)) rfl (HVal.assign' rfl) ?_
            refine HList.nil ?_
            refine nt ?_
            refine HW.ret ?_
            refine tr ?_
            exact ⟨_, resOf1 rfl Res1.t, ⟨r41, rfl, h⟩⟩
          · have h := hF hb38
            clear hT hF
            refine HW.skip ?_
            refine nt ?_
            refine HW.seq ?_
            refine HW.region ?_
            refine HList.vals (v := (.bool true)) rfl (HVal.assign' rfl) ?_
            refine HList.nil ?_
            refine nt ?_
            refine HW.ret ?_
            exact ⟨_, resOf1 rfl Res1.t, ⟨true, rfl, h⟩⟩

def F3_4 (Q : Bool → Hp → Prop) (X3 : Int → Hp → Prop) (y41 : Sl) (y42 : Int) (H_4 : Hp) : Prop :=
X3 (IntKind.i64.wrap (y42 + 1)) H_4
def F3_6 (Q : Bool → Hp → Prop) (X3 : Int → Hp → Prop) (X5 : Int → Hp → Prop) (y47 : Sl) (y48 : Int) (y49 : Int) (H_6 : Hp) : Prop :=
X5 (IntKind.i64.wrap (y49 + 1)) H_6
def F3_L7b (Q : Bool → Hp → Prop) (X3 : Int → Hp → Prop) (X5 : Int → Hp → Prop) (X7 : Int → Hp → Prop) (y51 : Sl) (y52 : Int) (y53 : Int) (y50 : Int) (H_7 : Hp) : Prop :=
((decide (y50 < ((y51).n : Int))) = true → (∃ a55 : Addr, (y51).b = some a55 ∧ (0 : Int) ≤ y52 ∧ y52 < ((y51).n : Int) ∧ (
 ∃ x60 : Sl, cell H_7 (Addr.add a55 (y52.toNat * 1)) = some (Sl.v x60) ∧ (
 ∃ a61 : Addr, (y51).b = some a61 ∧ (0 : Int) ≤ y53 ∧ y53 < ((y51).n : Int) ∧ (
 ∃ x66 : Sl, cell H_7 (Addr.add a61 (y53.toNat * 1)) = some (Sl.v x66) ∧ (
 ∃ a67 : Addr, (y51).b = some a67 ∧ (0 : Int) ≤ y50 ∧ y50 < ((y51).n : Int) ∧ (
 ∃ x72 : Sl, cell H_7 (Addr.add a67 (y50.toNat * 1)) = some (Sl.v x72) ∧ (
 F13 x60 x66 x72 H_7 (fun (r75 : Bool) (H73 : Hp) => 
 ((!r75) = true → (Q false H73)) ∧
 ((!r75) = false → (X7 (IntKind.i64.wrap (y50 + 1)) H73))))))))))) ∧
 ((decide (y50 < ((y51).n : Int))) = false → (F3_6 Q X3 X5 y51 y52 y53 H_7))
def F3_L7 (Q : Bool → Hp → Prop) (X3 : Int → Hp → Prop) (X5 : Int → Hp → Prop) (y51 : Sl) (y52 : Int) (y53 : Int) (y50 : Int) (H_7 : Hp) : Prop :=
  ∀ X7 : Int → Hp → Prop, (∀ (y50 : Int) (H_7 : Hp), F3_L7b Q X3 X5 X7 y51 y52 y53 y50 H_7 → X7 y50 H_7) → X7 y50 H_7
def F3_L5b (Q : Bool → Hp → Prop) (X3 : Int → Hp → Prop) (X5 : Int → Hp → Prop) (y44 : Sl) (y45 : Int) (y43 : Int) (H_5 : Hp) : Prop :=
((decide (y43 < ((y44).n : Int))) = true → (F3_L7 Q X3 X5 y44 y45 y43 0 H_5)) ∧
 ((decide (y43 < ((y44).n : Int))) = false → (F3_4 Q X3 y44 y45 H_5))
def F3_L5 (Q : Bool → Hp → Prop) (X3 : Int → Hp → Prop) (y44 : Sl) (y45 : Int) (y43 : Int) (H_5 : Hp) : Prop :=
  ∀ X5 : Int → Hp → Prop, (∀ (y43 : Int) (H_5 : Hp), F3_L5b Q X3 X5 y44 y45 y43 H_5 → X5 y43 H_5) → X5 y43 H_5
def F3_L3b (Q : Bool → Hp → Prop) (X3 : Int → Hp → Prop) (y39 : Sl) (y38 : Int) (H_3 : Hp) : Prop :=
((decide (y38 < ((y39).n : Int))) = true → (F3_L5 Q X3 y39 y38 0 H_3)) ∧
 ((decide (y38 < ((y39).n : Int))) = false → (Q true H_3))
def F3_L3 (Q : Bool → Hp → Prop) (y39 : Sl) (y38 : Int) (H_3 : Hp) : Prop :=
  ∀ X3 : Int → Hp → Prop, (∀ (y38 : Int) (H_3 : Hp), F3_L3b Q X3 y39 y38 H_3 → X3 y38 H_3) → X3 y38 H_3
def F3_2 (Q : Bool → Hp → Prop) (y37 : Sl) (H_2 : Hp) : Prop :=
F3_L3 Q y37 0 H_2
def F3_1 (Q : Bool → Hp → Prop) (y1 : Sl) (y2 : Sl) (y3 : Sl) (y9 : Bool) (H_1 : Hp) : Prop :=
(y9 = true → (Q false H_1)) ∧
 (y9 = false → (∀ H19 : Hp, H19 = Array.push H_1 (.cells #[(Sl.v y1), (Sl.v y2), (Sl.v y3)] 22) → (
 F11 y1 H19 (fun (r23 : Sl) (r24 : Int) (H21 : Hp) => 
 ((decide (r24 = 0)) = true → (F12 r23 H21 (fun (r28 : Sl) (H26 : Hp) => 
 F12 y1 H26 (fun (r31 : Sl) (H29 : Hp) => 
 ∀ H32 : Hp, H32 = Array.push H29 (.cells #[(Sl.v r23), (Sl.v r28), (Sl.v r31)] 22) → (
 AppendF H32 22 1 24 #[(Sl.v Sl.nil)] (Sl.mk (some ⟨H_1.size, 0, none⟩) 3 3) ((Sl.mk (some ⟨H29.size, 0, none⟩) 3 3)).b ((Sl.mk (some ⟨H29.size, 0, none⟩) 3 3)).n (fun (r36 : Sl) (H34 : Hp) => 
 F3_2 Q r36 H34)))))) ∧
 ((decide (r24 = 0)) = false → (F3_2 Q (Sl.mk (some ⟨H_1.size, 0, none⟩) 3 3) H21))))))
def F3 (p0 : Sl) (p1 : Sl) (p2 : Sl) (p3 : Sl) (H : Hp) (Q : Bool → Hp → Prop) : Prop :=
F9 H (fun (r6 : Bool) (H4 : Hp) => 
 ((!r6) = true → (F3_1 Q p0 p1 p2 true H4)) ∧
 ((!r6) = false → (F10 p0 p3 H4 (fun (r12 : Bool) (H10 : Hp) => 
 ((!r12) = true → (F3_1 Q p0 p1 p2 true H10)) ∧
 ((!r12) = false → (F10 p1 p3 H10 (fun (r17 : Bool) (H15 : Hp) => 
 F3_1 Q p0 p1 p2 (!r17) H15)))))))
set_option maxRecDepth 100000 in
set_option maxHeartbeats 4000000 in
theorem walk3 {w0 : World} {p0 : Sl} {p1 : Sl} {p2 : Sl} {p3 : Sl} {H : Hp} {Q : Bool → Hp → Prop} (h : F3 p0 p1 p2 p3 H Q) :
    Good Tryd.prog w0 3 #[(Sl.v p0), (Sl.v p1), (Sl.v p2), (Sl.v p3)] H (fun v H => ∃ (r0 : Bool) , v = (.bool r0) ∧ Q r0 H) := by
  unfold F3 at h
  refine Good.enter' (fn := Tryd.f3) Tryd.func3 rfl rfl rfl ?_
  refine HW.seq ?_
  refine HW.region ?_
  refine HList.vals (v := (.bool false)) rfl (HVal.assign' rfl) ?_
  refine HList.nil ?_
  refine nt ?_
  refine HW.seq ?_
  refine HW.cut (fun ρ H_1 => ∃ (y9 : Bool), Env.Is ρ [(0, (Sl.v p0)), (1, (Sl.v p1)), (2, (Sl.v p2)), (28, (.bool y9))] ∧ F3_1 Q p0 p1 p2 y9 H_1) ?_ ?_
  · refine HW.region ?_
    refine HList.ops' rfl (HOp.call' 9 [] (cap := []) rfl rfl Tryd.call9 (walk9 h)) ?_
    rintro _ H4 ⟨r6, rfl, h⟩
    refine HList.vals (v := (.bool (!r6))) rfl (HVal.not rfl) ?_
    refine HList.vals (v := (.bool (!r6))) rfl (HVal.move' rfl) ?_
    obtain ⟨hT, hF⟩ := h
    rcases Bool.eq_false_or_eq_true (!r6) with hb7 | hb8
    · have h := hT hb7
      clear hT hF
      refine HList.gskips rfl rfl rfl rfl (congrArg Value.bool hb7) ?_
      refine HList.gskips rfl rfl rfl rfl (congrArg Value.bool hb7) ?_
      refine HList.gskips rfl rfl rfl rfl (congrArg Value.bool hb7) ?_
      refine HList.gskips rfl rfl rfl rfl (congrArg Value.bool hb7) ?_
      refine HList.vals (v := (.bool true)) rfl (HVal.pickT rfl hb7 rfl) ?_
      refine HList.vals (v := (.bool true)) rfl (HVal.move' rfl) ?_
      refine HList.gskips rfl rfl rfl rfl rfl ?_
      refine HList.gskips rfl rfl rfl rfl rfl ?_
      refine HList.gskips rfl rfl rfl rfl rfl ?_
      refine HList.gskips rfl rfl rfl rfl rfl ?_
      refine HList.vals (v := (.bool true)) rfl (HVal.pickT rfl rfl rfl) ?_
      refine HList.nil ?_
      refine nt ?_
      exact ⟨true, ⟨rfl, rfl, rfl, rfl, trivial⟩, h⟩
    · have h := hF hb8
      clear hT hF
      refine HList.gvals (v := (Sl.v p0)) rfl rfl rfl rfl (congrArg Value.bool hb8) (HVal.move' rfl) ?_
      refine HList.gvals (v := (Sl.v p3)) rfl rfl rfl rfl (congrArg Value.bool hb8) (HVal.move' rfl) ?_
      refine HList.gops rfl rfl rfl rfl (congrArg Value.bool hb8) (HOp.call' 10 [(Sl.v p0), (Sl.v p3)] (cap := []) rfl rfl Tryd.call10 (walk10 h)) ?_
      rintro _ H10 ⟨r12, rfl, h⟩
      refine HList.gvals (v := (.bool (!r12))) rfl rfl rfl rfl (congrArg Value.bool hb8) (HVal.not rfl) ?_
      refine HList.vals (v := (.bool (!r12))) rfl (HVal.pickF rfl hb8 rfl) ?_
      refine HList.vals (v := (.bool (!r12))) rfl (HVal.move' rfl) ?_
      obtain ⟨hT, hF⟩ := h
      rcases Bool.eq_false_or_eq_true (!r12) with hb13 | hb14
      · have h := hT hb13
        clear hT hF
        refine HList.gskips rfl rfl rfl rfl (congrArg Value.bool hb13) ?_
        refine HList.gskips rfl rfl rfl rfl (congrArg Value.bool hb13) ?_
        refine HList.gskips rfl rfl rfl rfl (congrArg Value.bool hb13) ?_
        refine HList.gskips rfl rfl rfl rfl (congrArg Value.bool hb13) ?_
        refine HList.vals (v := (.bool true)) rfl (HVal.pickT rfl hb13 rfl) ?_
        refine HList.nil ?_
        refine nt ?_
        exact ⟨true, ⟨rfl, rfl, rfl, rfl, trivial⟩, h⟩
      · have h := hF hb14
        clear hT hF
        refine HList.gvals (v := (Sl.v p1)) rfl rfl rfl rfl (congrArg Value.bool hb14) (HVal.move' rfl) ?_
        refine HList.gvals (v := (Sl.v p3)) rfl rfl rfl rfl (congrArg Value.bool hb14) (HVal.move' rfl) ?_
        refine HList.gops rfl rfl rfl rfl (congrArg Value.bool hb14) (HOp.call' 10 [(Sl.v p1), (Sl.v p3)] (cap := []) rfl rfl Tryd.call10 (walk10 h)) ?_
        rintro _ H15 ⟨r17, rfl, h⟩
        refine HList.gvals (v := (.bool (!r17))) rfl rfl rfl rfl (congrArg Value.bool hb14) (HVal.not rfl) ?_
        refine HList.vals (v := (.bool (!r17))) rfl (HVal.pickF rfl hb14 rfl) ?_
        refine HList.nil ?_
        refine nt ?_
        exact ⟨(!r17), ⟨rfl, rfl, rfl, rfl, trivial⟩, h⟩
  · rintro ρ H_1 ⟨y9, hI, h⟩
    obtain ⟨ρ0, rfl⟩ : ∃ ρ0, ρ = (Env.set (Env.set (Env.set (Env.set ρ0 28 (.bool y9)) 2 (Sl.v p2)) 1 (Sl.v p1)) 0 (Sl.v p0)) := ⟨ρ, hI.eq⟩
    clear hI; unfold F3_1 at h
    obtain ⟨hT, hF⟩ := h
    refine HW.cond y9 rfl (fun hb18 => ?_) (fun hb18 => ?_)
    · have h := hT hb18
      clear hT hF
      refine HW.seq ?_
      refine HW.region ?_
      refine HList.vals (v := (.bool false)) rfl (HVal.assign' rfl) ?_
      refine HList.nil ?_
      refine nt ?_
      refine HW.ret ?_
      refine tr ?_
      exact ⟨_, resOf1 rfl Res1.t, ⟨false, rfl, h⟩⟩
    · have h := hF hb18
      clear hT hF
      refine HW.skip ?_
      refine nt ?_
      refine HW.seq ?_
      refine HW.region ?_
      refine HList.vals (v := (Sl.v p0)) rfl (HVal.move' rfl) ?_
      refine HList.vals (v := (Sl.v p1)) rfl (HVal.move' rfl) ?_
      refine HList.vals (v := (Sl.v p2)) rfl (HVal.move' rfl) ?_
      refine HList.ops' rfl (HOp.buildSlice' (zs := [(Sl.v Sl.nil), (Sl.v Sl.nil), (Sl.v Sl.nil)]) (cs := [(Sl.v p0), (Sl.v p1), (Sl.v p2)]) Tryd.runUnderlying25 Tryd.sizeOf22 Tryd.zeroValue22 (by decide) (by kernel_rfl) rfl (by decide)) ?_
      rintro _ H19 ⟨rfl, e20⟩
      replace h := h H19 e20
      refine HList.vals (v := (Sl.v (Sl.mk (some ⟨H_1.size, 0, none⟩) 3 3))) rfl (HVal.assign' rfl) ?_
      refine HList.nil ?_
      refine nt ?_
      refine HW.seq ?_
      refine HW.region ?_
      refine HList.vals (v := (Sl.v p0)) rfl (HVal.move' rfl) ?_
      refine HList.ops' rfl (HOp.call' 11 [(Sl.v p0)] (cap := []) rfl rfl Tryd.call11 (walk11 h)) ?_
      rintro _ H21 ⟨r23, r24, rfl, h⟩
      refine HList.vals (v := (.tuple #[(Sl.v r23), (.int .i64 r24)])) rfl (HVal.move' rfl) ?_
      refine HList.vals (v := (Sl.v r23)) rfl (HVal.extract rfl rfl) ?_
      refine HList.vals (v := (.int .i64 r24)) rfl (HVal.extract rfl rfl) ?_
      refine HList.vals (v := (Sl.v r23)) rfl (HVal.assign' rfl) ?_
      refine HList.vals (v := (.int .i64 r24)) rfl (HVal.assign' rfl) ?_
      refine HList.nil ?_
      refine nt ?_
      refine HW.cut (fun ρ H_2 => ∃ (y37 : Sl), Env.Is ρ [(9, (Sl.v y37))] ∧ F3_2 Q y37 H_2) ?_ ?_
      · refine HW.seq ?_
        refine HW.region ?_
        refine HList.vals (v := (.int .i64 r24)) rfl (HVal.move' rfl) ?_
        refine HList.vals (v := (.bool (decide (r24 = 0)))) rfl (HVal.eqlI rfl rfl) ?_
        refine HList.nil ?_
        refine nt ?_
        obtain ⟨hT, hF⟩ := h
        refine HW.cond (decide (r24 = 0)) rfl (fun hb25 => ?_) (fun hb25 => ?_)
        · have h := hT hb25
          clear hT hF
          refine HW.region ?_
          refine HList.vals (v := (Sl.v (Sl.mk (some ⟨H_1.size, 0, none⟩) 3 3))) rfl (HVal.move' rfl) ?_
          refine HList.vals (v := (Sl.v r23)) rfl (HVal.move' rfl) ?_
          refine HList.vals (v := (Sl.v r23)) rfl (HVal.move' rfl) ?_
          refine HList.ops' rfl (HOp.call' 12 [(Sl.v r23)] (cap := []) rfl rfl Tryd.call12 (walk12 h)) ?_
          rintro _ H26 ⟨r28, rfl, h⟩
          refine HList.vals (v := (Sl.v p0)) rfl (HVal.move' rfl) ?_
          refine HList.ops' rfl (HOp.call' 12 [(Sl.v p0)] (cap := []) rfl rfl Tryd.call12 (walk12 h)) ?_
          rintro _ H29 ⟨r31, rfl, h⟩
          refine HList.ops' rfl (HOp.buildSlice' (zs := [(Sl.v Sl.nil), (Sl.v Sl.nil), (Sl.v Sl.nil)]) (cs := [(Sl.v r23), (Sl.v r28), (Sl.v r31)]) Tryd.runUnderlying25 Tryd.sizeOf22 Tryd.zeroValue22 (by decide) (by kernel_rfl) rfl (by decide)) ?_
          rintro _ H32 ⟨rfl, e33⟩
          replace h := h H32 e33
          refine HList.ops' rfl (HOp.append (k := 1) (b := 24) Tryd.runUnderlying25 Tryd.runUnderlying25 Tryd.typeInfo22 rfl rfl Tryd.zeroValue22 rfl rfl h) ?_
          rintro _ H34 ⟨r36, rfl, h⟩
          refine HList.vals (v := (Sl.v r36)) rfl (HVal.assign' rfl) ?_
          refine HList.nil ?_
          refine nt ?_
          exact ⟨r36, ⟨rfl, trivial⟩, h⟩
        · have h := hF hb25
          clear hT hF
          refine HW.skip ?_
          refine nt ?_
          exact ⟨(Sl.mk (some ⟨H_1.size, 0, none⟩) 3 3), ⟨rfl, trivial⟩, h⟩
      · rintro ρ H_2 ⟨y37, hI, h⟩
        obtain ⟨ρ0, rfl⟩ : ∃ ρ0, ρ = (Env.set ρ0 9 (Sl.v y37)) := ⟨ρ, hI.eq⟩
        clear hI; unfold F3_2 at h
        refine HW.seq ?_
        refine HW.seq ?_
        refine HW.region ?_
        refine HList.vals (v := (.int .i64 0)) rfl (HVal.assign' rfl) ?_
        refine HList.nil ?_
        refine nt ?_
        refine HW.block ?_
        refine HW.loop' (fun L3 hL3 => ?_)
        obtain ⟨X3, hX3⟩ : ∃ X3 : Int → Hp → Prop, ∀ (y38 : Int) (H_3 : Hp), X3 y38 H_3 ↔ ∀ ρ, Env.Is ρ [(9, (Sl.v y37)), (12, (.int .i64 y38))] → L3 ρ H_3 := ⟨_, fun _ _ => Iff.rfl⟩
        refine (hX3 _ _).1 (h X3 ?_) _ ?_
        rotate_left
        · exact ⟨rfl, rfl, trivial⟩
        clear h
        intro y38 H_3 h
        refine (hX3 _ _).2 fun ρ hI => ?_
        obtain ⟨ρ0, rfl⟩ : ∃ ρ0, ρ = (Env.set (Env.set ρ0 12 (.int .i64 y38)) 9 (Sl.v y37)) := ⟨ρ, hI.eq⟩
        clear hI; unfold F3_L3b at h; refine hL3 _ _ ?_
        refine HW.seq ?_
        refine HW.seq ?_
        refine HW.region ?_
        refine HList.vals (v := (.int .i64 y38)) rfl (HVal.move' rfl) ?_
        refine HList.vals (v := (Sl.v y37)) rfl (HVal.move' rfl) ?_
        refine HList.vals (v := (.int .i64 ((y37).n : Int))) rfl (HVal.len Tryd.runUnderlying25 rfl) ?_
        refine HList.vals (v := (.bool (decide (y38 < ((y37).n : Int))))) rfl (HVal.lss rfl rfl) ?_
        refine HList.nil ?_
        refine nt ?_
        obtain ⟨hT, hF⟩ := h
        refine HW.cond (decide (y38 < ((y37).n : Int))) rfl (fun hb40 => ?_) (fun hb40 => ?_)
        · have h := hT hb40
          clear hT hF
          refine HW.skip ?_
          refine nt ?_
          refine HW.cut (fun ρ H_4 => Env.Is ρ [(9, (Sl.v y37)), (12, (.int .i64 y38))] ∧ F3_4 Q X3 y37 y38 H_4) ?_ ?_
          · refine HW.block ?_
            refine HW.seq ?_
            refine HW.region ?_
            refine HList.vals (v := (.int .i64 0)) rfl (HVal.assign' rfl) ?_
            refine HList.nil ?_
            refine nt ?_
            refine HW.block ?_
            refine HW.loop' (fun L5 hL5 => ?_)
            obtain ⟨X5, hX5⟩ : ∃ X5 : Int → Hp → Prop, ∀ (y43 : Int) (H_5 : Hp), X5 y43 H_5 ↔ ∀ ρ, Env.Is ρ [(9, (Sl.v y37)), (12, (.int .i64 y38)), (13, (.int .i64 y43))] → L5 ρ H_5 := ⟨_, fun _ _ => Iff.rfl⟩
            refine (hX5 _ _).1 (h X5 ?_) _ ?_
            rotate_left
            · exact ⟨rfl, rfl, rfl, trivial⟩
            clear h
            intro y43 H_5 h
            refine (hX5 _ _).2 fun ρ hI => ?_
            obtain ⟨ρ0, rfl⟩ : ∃ ρ0, ρ = (Env.set (Env.set (Env.set ρ0 13 (.int .i64 y43)) 12 (.int .i64 y38)) 9 (Sl.v y37)) := ⟨ρ, hI.eq⟩
            clear hI; unfold F3_L5b at h; refine hL5 _ _ ?_
            refine HW.seq ?_
            refine HW.seq ?_
            refine HW.region ?_
            refine HList.vals (v := (.int .i64 y43)) rfl (HVal.move' rfl) ?_
            refine HList.vals (v := (Sl.v y37)) rfl (HVal.move' rfl) ?_
            refine HList.vals (v := (.int .i64 ((y37).n : Int))) rfl (HVal.len Tryd.runUnderlying25 rfl) ?_
            refine HList.vals (v := (.bool (decide (y43 < ((y37).n : Int))))) rfl (HVal.lss rfl rfl) ?_
            refine HList.nil ?_
            refine nt ?_
            obtain ⟨hT, hF⟩ := h
            refine HW.cond (decide (y43 < ((y37).n : Int))) rfl (fun hb46 => ?_) (fun hb46 => ?_)
            · have h := hT hb46
              clear hT hF
              refine HW.skip ?_
              refine nt ?_
              refine HW.cut (fun ρ H_6 => Env.Is ρ [(9, (Sl.v y37)), (12, (.int .i64 y38)), (13, (.int .i64 y43))] ∧ F3_6 Q X3 X5 y37 y38 y43 H_6) ?_ ?_
              · refine HW.block ?_
                refine HW.seq ?_
                refine HW.region ?_
                refine HList.vals (v := (.int .i64 0)) rfl (HVal.assign' rfl) ?_
                refine HList.nil ?_
                refine nt ?_
                refine HW.block ?_
                refine HW.loop' (fun L7 hL7 => ?_)
                obtain ⟨X7, hX7⟩ : ∃ X7 : Int → Hp → Prop, ∀ (y50 : Int) (H_7 : Hp), X7 y50 H_7 ↔ ∀ ρ, Env.Is ρ [(9, (Sl.v y37)), (12, (.int .i64 y38)), (13, (.int .i64 y43)), (14, (.int .i64 y50))] → L7 ρ H_7 := ⟨_, fun _ _ => Iff.rfl⟩
                refine (hX7 _ _).1 (h X7 ?_) _ ?_
                rotate_left
                · exact ⟨rfl, rfl, rfl, rfl, trivial⟩
                clear h
                intro y50 H_7 h
                refine (hX7 _ _).2 fun ρ hI => ?_
                obtain ⟨ρ0, rfl⟩ : ∃ ρ0, ρ = (Env.set (Env.set (Env.set (Env.set ρ0 14 (.int .i64 y50)) 13 (.int .i64 y43)) 12 (.int .i64 y38)) 9 (Sl.v y37)) := ⟨ρ, hI.eq⟩
                clear hI; unfold F3_L7b at h; refine hL7 _ _ ?_
                refine HW.seq ?_
                refine HW.seq ?_
                refine HW.region ?_
                refine HList.vals (v := (.int .i64 y50)) rfl (HVal.move' rfl) ?_
                refine HList.vals (v := (Sl.v y37)) rfl (HVal.move' rfl) ?_
                refine HList.vals (v := (.int .i64 ((y37).n : Int))) rfl (HVal.len Tryd.runUnderlying25 rfl) ?_
                refine HList.vals (v := (.bool (decide (y50 < ((y37).n : Int))))) rfl (HVal.lss rfl rfl) ?_
                refine HList.nil ?_
                refine nt ?_
                obtain ⟨hT, hF⟩ := h
                refine HW.cond (decide (y50 < ((y37).n : Int))) rfl (fun hb54 => ?_) (fun hb54 => ?_)
                · have h := hT hb54
                  clear hT hF
                  refine HW.skip ?_
                  refine nt ?_
                  refine HW.seq ?_
                  refine HW.block ?_
                  refine HW.seq ?_
                  refine HW.draw mixed [(0, some []), (1, some []), (2, some []), (3, some [12]), (4, some []), (5, some []), (6, some []), (7, some [12]), (8, some []), (9, some []), (10, some []), (11, some [12]), (12, none), (13, some [])] rfl (by kernel_rfl) (by kernel_rfl) ?_
                  refine HPlan.takev (v := (Sl.v y37)) rfl rfl (fun _ => HVal.move' rfl) ?_
                  refine HPlan.takev (v := (.int .i64 y38)) rfl rfl (fun _ => HVal.move' rfl) ?_
                  obtain ⟨a55, e56, b57, b58, h⟩ := h
                  refine HPlan.takev (v := (.pointer (some (Addr.add a55 (y38.toNat * 1))))) rfl rfl (fun _ => HVal.indexAddr Tryd.runUnderlying25 Tryd.sizeOf22 (Sl.v_some rfl e56) rfl b57 b58) ?_
                  obtain ⟨x60, c59, h⟩ := h
                  refine HPlan.takel (v := (Sl.v x60)) (fun X => cell X (Addr.add a55 (y38.toNat * 1)) = some (Sl.v x60)) rfl rfl (fun _ hX => HVal.load1 Tryd.isAgg22 rfl hX) c59 ?_
                  refine HPlan.takev (v := (Sl.v y37)) rfl rfl (fun _ => HVal.move' rfl) ?_
                  refine HPlan.takev (v := (.int .i64 y43)) rfl rfl (fun _ => HVal.move' rfl) ?_
                  obtain ⟨a61, e62, b63, b64, h⟩ := h
                  refine HPlan.takev (v := (.pointer (some (Addr.add a61 (y43.toNat * 1))))) rfl rfl (fun _ => HVal.indexAddr Tryd.runUnderlying25 Tryd.sizeOf22 (Sl.v_some rfl e62) rfl b63 b64) ?_
                  obtain ⟨x66, c65, h⟩ := h
                  refine HPlan.takel (v := (Sl.v x66)) (fun X => cell X (Addr.add a61 (y43.toNat * 1)) = some (Sl.v x66)) rfl rfl (fun _ hX => HVal.load1 Tryd.isAgg22 rfl hX) c65 ?_
                  refine HPlan.takev (v := (Sl.v y37)) rfl rfl (fun _ => HVal.move' rfl) ?_
                  refine HPlan.takev (v := (.int .i64 y50)) rfl rfl (fun _ => HVal.move' rfl) ?_
                  obtain ⟨a67, e68, b69, b70, h⟩ := h
                  refine HPlan.takev (v := (.pointer (some (Addr.add a67 (y50.toNat * 1))))) rfl rfl (fun _ => HVal.indexAddr Tryd.runUnderlying25 Tryd.sizeOf22 (Sl.v_some rfl e68) rfl b69 b70) ?_
                  obtain ⟨x72, c71, h⟩ := h
                  refine HPlan.takel (v := (Sl.v x72)) (fun X => cell X (Addr.add a67 (y50.toNat * 1)) = some (Sl.v x72)) rfl rfl (fun _ hX => HVal.load1 Tryd.isAgg22 rfl hX) c71 ?_
                  refine HPlan.ops' rfl rfl (HOp.call' 13 [(Sl.v x60), (Sl.v x66), (Sl.v x72)] (cap := []) rfl rfl Tryd.call13 (walk13 h)) ?_
                  rintro _ H73 ⟨r75, rfl, h⟩
                  refine ⟨SC_of ⟨fun e => absurd e (by decide), fun e => absurd e (by decide), fun e => absurd e (by decide), trivial⟩, ?_⟩
                  refine HPlan.takev (v := (.bool (!r75))) rfl rfl (fun _ => HVal.not rfl) ?_
                  refine HPlan.done ?_
                  refine nt ?_
                  obtain ⟨hT, hF⟩ := h
                  refine HW.cond (!r75) rfl (fun hb76 => ?_) (fun hb76 => ?_)
                  · have h := hT hb76
                    clear hT hF
                    refine HW.seq ?_
                    refine HW.region ?_
                    refine HList.vals (v := (.bool false)) rfl (HVal.assign' rfl) ?_
                    refine HList.nil ?_
                    refine nt ?_
                    refine HW.ret ?_
                    refine br ?_
                    refine tr ?_
                    refine tr ?_
                    refine br ?_
                    refine br ?_
                    refine tr ?_
                    refine tr ?_
                    refine br ?_
                    refine br ?_
                    refine tr ?_
                    refine tr ?_
                    refine br ?_
                    refine tr ?_
                    exact ⟨_, resOf1 rfl Res1.t, ⟨false, rfl, h⟩⟩
                  · have h := hF hb76
                    clear hT hF
                    refine HW.skip ?_
                    refine nb ?_
                    refine nt ?_
                    refine HW.region ?_
                    refine HList.vals (v := (.int .i64 y50)) rfl (HVal.move' rfl) ?_
                    refine HList.vals (v := (.int .i64 (IntKind.i64.wrap (y50 + 1)))) rfl (HVal.add rfl rfl) ?_
                    refine HList.vals (v := (.int .i64 (IntKind.i64.wrap (y50 + 1)))) rfl (HVal.assign' rfl) ?_
                    refine HList.nil ?_
                    refine nt ?_
                    exact (hX7 _ _).1 h _ ⟨rfl, rfl, rfl, rfl, trivial⟩
                · have h := hF hb54
                  clear hT hF
                  refine HW.exit ?_
                  refine te ?_
                  refine te ?_
                  refine be ?_
                  refine nb ?_
                  refine nt ?_
                  exact ⟨⟨rfl, rfl, rfl, trivial⟩, h⟩
              · rintro ρ H_6 ⟨hI, h⟩
                obtain ⟨ρ0, rfl⟩ : ∃ ρ0, ρ = (Env.set (Env.set (Env.set ρ0 13 (.int .i64 y43)) 12 (.int .i64 y38)) 9 (Sl.v y37)) := ⟨ρ, hI.eq⟩
                clear hI; unfold F3_6 at h
                refine HW.region ?_
                refine HList.vals (v := (.int .i64 y43)) rfl (HVal.move' rfl) ?_
                refine HList.vals (v := (.int .i64 (IntKind.i64.wrap (y43 + 1)))) rfl (HVal.add rfl rfl) ?_
                refine HList.vals (v := (.int .i64 (IntKind.i64.wrap (y43 + 1)))) rfl (HVal.assign' rfl) ?_
                refine HList.nil ?_
                refine nt ?_
                exact (hX5 _ _).1 h _ ⟨rfl, rfl, rfl, trivial⟩
            · have h := hF hb46
              clear hT hF
              refine HW.exit ?_
              refine te ?_
              refine te ?_
              refine be ?_
              refine nb ?_
              refine nt ?_
              exact ⟨⟨rfl, rfl, trivial⟩, h⟩
          · rintro ρ H_4 ⟨hI, h⟩
            obtain ⟨ρ0, rfl⟩ : ∃ ρ0, ρ = (Env.set (Env.set ρ0 12 (.int .i64 y38)) 9 (Sl.v y37)) := ⟨ρ, hI.eq⟩
            clear hI; unfold F3_4 at h
            refine HW.region ?_
            refine HList.vals (v := (.int .i64 y38)) rfl (HVal.move' rfl) ?_
            refine HList.vals (v := (.int .i64 (IntKind.i64.wrap (y38 + 1)))) rfl (HVal.add rfl rfl) ?_
            refine HList.vals (v := (.int .i64 (IntKind.i64.wrap (y38 + 1)))) rfl (HVal.assign' rfl) ?_
            refine HList.nil ?_
            refine nt ?_
            exact (hX3 _ _).1 h _ ⟨rfl, rfl, trivial⟩
        · have h := hF hb40
          clear hT hF
          refine HW.exit ?_
          refine te ?_
          refine te ?_
          refine be ?_
          refine nt ?_
          refine HW.seq ?_
          refine HW.region ?_
          refine HList.vals (v := (.bool true)) rfl (HVal.assign' rfl) ?_
          refine HList.nil ?_
          refine nt ?_
          refine HW.ret ?_
          exact ⟨_, resOf1 rfl Res1.t, ⟨true, rfl, h⟩⟩

end Go.Hw
