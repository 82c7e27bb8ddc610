/- The walks of this seat, printed by a program of this session (wip/tools/gen.py): of each function what it does to the heap, and that it does so. -/
import Derived.Test.YtmjoeilahbfonaaDoorHwS
import Derived.Test.YtmjoeilahbfonaaDoorProg
import Derived.Test.YtmjoeilahbfonaaDoorWAux
import Derived.Test.YtmjoeilahbfonaaDoorWalkB
set_option linter.unusedVariables false
set_option linter.unusedSimpArgs false
namespace Go.Hw
open Go Go.Proofs
def F42_1 (Q : Hp → Prop) (y1 : (Option Addr)) (H_1 : Hp) : Prop :=
∃ a75 : Addr, y1 = some a75 ∧ (
 ∃ x78 : Sl, cell H_1 a75 = some (Sl.v x78) ∧ (
 ∃ a79 : Addr, y1 = some a79 ∧ (
 (cell H_1 (Addr.add a79 2)).isSome = true ∧ frz H_1 (Addr.add a79 2) = false ∧ ∀ H81 : Hp, H81 = setc H_1 (Addr.add a79 2) (.int .i64 ((x78).n : Int)) → (
 Q H81))))
def F42_3 (Q : Hp → Prop) (X2 : Int → Hp → Prop) (y23 : (Option Addr)) (y24 : Int) (y62 : Sl) (H_3 : Hp) : Prop :=
∃ a63 : Addr, y23 = some a63 ∧ (
 ∃ x66 : Sl, cell H_3 a63 = some (Sl.v x66) ∧ (
 ∃ a67 : Addr, (x66).b = some a67 ∧ (0 : Int) ≤ (IntKind.i64.wrap (y24 + 1)) ∧ (IntKind.i64.wrap (y24 + 1)) < ((x66).n : Int) ∧ (
 (cell H_3 (Addr.add a67 ((IntKind.i64.wrap (y24 + 1)).toNat * 1))).isSome = true ∧ frz H_3 (Addr.add a67 ((IntKind.i64.wrap (y24 + 1)).toNat * 1)) = false ∧ ∀ H71 : Hp, H71 = setc H_3 (Addr.add a67 ((IntKind.i64.wrap (y24 + 1)).toNat * 1)) (Sl.v y62) → (
 X2 (IntKind.i64.wrap (y24 + 2)) H71))))
def F42_L4b (Q : Hp → Prop) (X2 : Int → Hp → Prop) (X4 : Sl → Int → Hp → Prop) (y27 : (Option Addr)) (y28 : Int) (y25 : Sl) (y26 : Int) (H_4 : Hp) : Prop :=
∃ a29 : Addr, y27 = some a29 ∧ (
 ∃ x32 : Sl, cell H_4 a29 = some (Sl.v x32) ∧ (
 ∃ a33 : Addr, (x32).b = some a33 ∧ (0 : Int) ≤ y28 ∧ y28 < ((x32).n : Int) ∧ (
 ∃ x38 : Sl, cell H_4 (Addr.add a33 (y28.toNat * 1)) = some (Sl.v x38) ∧ (
 ∃ a39 : Addr, y27 = some a39 ∧ (
 ∃ x42 : Sl, cell H_4 a39 = some (Sl.v x42) ∧ (
 ∃ a43 : Addr, (x42).b = some a43 ∧ (0 : Int) ≤ y28 ∧ y28 < ((x42).n : Int) ∧ (
 ∃ x48 : Sl, cell H_4 (Addr.add a43 (y28.toNat * 1)) = some (Sl.v x48) ∧ (
 F49 (IntKind.i64.wrap (((x38).c : Int) - ((x48).n : Int))) H_4 (fun (r51 : Int) (H49 : Hp) => 
 cell H49 (Addr.add a43 (y28.toNat * 1)) = some (Sl.v x48) ∧ cell H49 a39 = some (Sl.v x42) ∧ cell H49 (Addr.add a33 (y28.toNat * 1)) = some (Sl.v x38) ∧ cell H49 a29 = some (Sl.v x32) ∧ (
 ((decide (y26 < r51)) = true → (∀ H57 : Hp, H57 = Array.push H49 (.cells #[(.int .i64 (IntKind.i64.wrap (1000000 + (IntKind.i64.wrap (Int.tdiv y28 (2 : Int))))))] 3) → (
 AppendF H57 3 1 8 #[(.int .i64 0)] y25 ((Sl.mk (some ⟨H49.size, 0, none⟩) 1 1)).b ((Sl.mk (some ⟨H49.size, 0, none⟩) 1 1)).n (fun (r61 : Sl) (H59 : Hp) => 
 X4 r61 (IntKind.i64.wrap (y26 + 1)) H59)))) ∧
 ((decide (y26 < r51)) = false → (F42_3 Q X2 y27 y28 y25 H49))))))))))))
def F42_L4 (Q : Hp → Prop) (X2 : Int → Hp → Prop) (y27 : (Option Addr)) (y28 : Int) (y25 : Sl) (y26 : Int) (H_4 : Hp) : Prop :=
  ∀ X4 : Sl → Int → Hp → Prop, (∀ (y25 : Sl) (y26 : Int) (H_4 : Hp), F42_L4b Q X2 X4 y27 y28 y25 y26 H_4 → X4 y25 y26 H_4) → X4 y25 y26 H_4
def F42_L2b (Q : Hp → Prop) (X2 : Int → Hp → Prop) (y7 : (Option Addr)) (y6 : Int) (H_2 : Hp) : Prop :=
∃ a8 : Addr, y7 = some a8 ∧ (
 ∃ x11 : Sl, cell H_2 a8 = some (Sl.v x11) ∧ (
 ((decide (y6 < ((x11).n : Int))) = true → (∃ a13 : Addr, y7 = some a13 ∧ (
 ∃ x16 : Sl, cell H_2 a13 = some (Sl.v x16) ∧ (
 ∃ a17 : Addr, (x16).b = some a17 ∧ (0 : Int) ≤ y6 ∧ y6 < ((x16).n : Int) ∧ (
 ∃ x22 : Sl, cell H_2 (Addr.add a17 (y6.toNat * 1)) = some (Sl.v x22) ∧ (
 F42_L4 Q X2 y7 y6 x22 0 H_2)))))) ∧
 ((decide (y6 < ((x11).n : Int))) = false → (F42_1 Q y7 H_2))))
def F42_L2 (Q : Hp → Prop) (y7 : (Option Addr)) (y6 : Int) (H_2 : Hp) : Prop :=
  ∀ X2 : Int → Hp → Prop, (∀ (y6 : Int) (H_2 : Hp), F42_L2b Q X2 y7 y6 H_2 → X2 y6 H_2) → X2 y6 H_2
def F42 (p0 : (Option Addr)) (H : Hp) (Q : Hp → Prop) : Prop :=
∃ a2 : Addr, p0 = some a2 ∧ (
 ∃ x5 : Int, cell H (Addr.add a2 2) = some (.int .i64 x5) ∧ (
 F42_L2 Q p0 x5 H))
set_option maxRecDepth 100000 in
set_option maxHeartbeats 4000000 in
theorem walk42 {w0 : World} {p0 : (Option Addr)} {H : Hp} {Q : Hp → Prop} (h : F42 p0 H Q) :
    Good Tryd.prog w0 42 #[(.pointer p0)] H (fun v H => v = (.tuple #[]) ∧ Q H) := by
  unfold F42 at h
  refine Good.enter' (fn := Tryd.f42) Tryd.func42 rfl rfl rfl ?_
  refine HW.cut (fun ρ H_1 => Env.Is ρ [(0, (.pointer p0))] ∧ F42_1 Q p0 H_1) ?_ ?_
  · refine HW.seq ?_
    refine HW.region ?_
    refine HList.vals (v := (.pointer p0)) rfl (HVal.move' rfl) ?_
    obtain ⟨a2, e3, h⟩ := h
    refine HList.vals (v := (.pointer (some a2))) rfl (HVal.nilCheck (congrArg Value.pointer e3)) ?_
    refine HList.vals (v := (.pointer (some (Addr.add a2 2)))) rfl (HVal.fieldAddr' Tryd.runUnderlying44 rfl rfl Tryd.sizeOf3 rfl) ?_
    obtain ⟨x5, c4, h⟩ := h
    refine HList.vals (v := (.int .i64 x5)) rfl (HVal.load1 Tryd.isAgg3 rfl c4) ?_
    refine HList.vals (v := (.int .i64 x5)) rfl (HVal.assign' rfl) ?_
    refine HList.nil ?_
    refine nt ?_
    refine HW.block ?_
    refine HW.loop' (fun L2 hL2 => ?_)
    obtain ⟨X2, hX2⟩ : ∃ X2 : Int → Hp → Prop, ∀ (y6 : Int) (H_2 : Hp), X2 y6 H_2 ↔ ∀ ρ, Env.Is ρ [(0, (.pointer p0)), (2, (.int .i64 y6))] → L2 ρ H_2 := ⟨_, fun _ _ => Iff.rfl⟩
    refine (hX2 _ _).1 (h X2 ?_) _ ?_
    rotate_left
    · exact ⟨rfl, rfl, trivial⟩
    clear h
    intro y6 H_2 h
    refine (hX2 _ _).2 fun ρ hI => ?_
    obtain ⟨ρ0, rfl⟩ : ∃ ρ0, ρ = (Env.set (Env.set ρ0 2 (.int .i64 y6)) 0 (.pointer p0)) := ⟨ρ, hI.eq⟩
    clear hI; unfold F42_L2b at h; refine hL2 _ _ ?_
    refine HW.seq ?_
    refine HW.seq ?_
    refine HW.region ?_
    refine HList.vals (v := (.int .i64 y6)) rfl (HVal.move' rfl) ?_
    refine HList.vals (v := (.pointer p0)) rfl (HVal.move' rfl) ?_
    obtain ⟨a8, e9, h⟩ := h
    refine HList.vals (v := (.pointer (some a8))) rfl (HVal.nilCheck (congrArg Value.pointer e9)) ?_
    refine HList.vals (v := (.pointer (some a8))) rfl (HVal.fieldAddr0 Tryd.runUnderlying44 rfl rfl Tryd.sizeOf25 rfl) ?_
    obtain ⟨x11, c10, h⟩ := h
    refine HList.vals (v := (Sl.v x11)) rfl (HVal.load1 Tryd.isAgg25 rfl c10) ?_
    refine HList.vals (v := (.int .i64 ((x11).n : Int))) rfl (HVal.len Tryd.runUnderlying25 rfl) ?_
    refine HList.vals (v := (.bool (decide (y6 < ((x11).n : Int))))) rfl (HVal.lss rfl rfl) ?_
    refine HList.nil ?_
    refine nt ?_
    obtain ⟨hT, hF⟩ := h
    refine HW.cond (decide (y6 < ((x11).n : Int))) rfl (fun hb12 => ?_) (fun hb12 => ?_)
    · have h := hT hb12
      clear hT hF
      refine HW.skip ?_
      refine nt ?_
      refine HW.seq ?_
      refine HW.block ?_
      refine HW.seq ?_
      refine HW.region ?_
      refine HList.vals (v := (.pointer p0)) rfl (HVal.move' rfl) ?_
      obtain ⟨a13, e14, h⟩ := h
      refine HList.vals (v := (.pointer (some a13))) rfl (HVal.nilCheck (congrArg Value.pointer e14)) ?_
      refine HList.vals (v := (.pointer (some a13))) rfl (HVal.fieldAddr0 Tryd.runUnderlying44 rfl rfl Tryd.sizeOf25 rfl) ?_
      obtain ⟨x16, c15, h⟩ := h
      refine HList.vals (v := (Sl.v x16)) rfl (HVal.load1 Tryd.isAgg25 rfl c15) ?_
      refine HList.vals (v := (.int .i64 y6)) rfl (HVal.move' rfl) ?_
      obtain ⟨a17, e18, b19, b20, h⟩ := h
      refine HList.vals (v := (.pointer (some (Addr.add a17 (y6.toNat * 1))))) rfl (HVal.indexAddr Tryd.runUnderlying25 Tryd.sizeOf22 (Sl.v_some rfl e18) rfl b19 b20) ?_
      obtain ⟨x22, c21, h⟩ := h
      refine HList.vals (v := (Sl.v x22)) rfl (HVal.load1 Tryd.isAgg22 rfl c21) ?_
      refine HList.vals (v := (Sl.v x22)) rfl (HVal.assign' rfl) ?_
      refine HList.nil ?_
      refine nt ?_
      refine HW.cut (fun ρ H_3 => ∃ (y62 : Sl), Env.Is ρ [(0, (.pointer p0)), (2, (.int .i64 y6)), (3, (Sl.v y62))] ∧ F42_3 Q X2 p0 y6 y62 H_3) ?_ ?_
      · refine HW.seq ?_
        refine HW.region ?_
        refine HList.vals (v := (.int .i64 0)) rfl (HVal.assign' rfl) ?_
        refine HList.nil ?_
        refine nt ?_
        refine HW.block ?_
        refine HW.loop' (fun L4 hL4 => ?_)
        obtain ⟨X4, hX4⟩ : ∃ X4 : Sl → Int → Hp → Prop, ∀ (y25 : Sl) (y26 : Int) (H_4 : Hp), X4 y25 y26 H_4 ↔ ∀ ρ, Env.Is ρ [(0, (.pointer p0)), (2, (.int .i64 y6)), (3, (Sl.v y25)), (4, (.int .i64 y26))] → L4 ρ H_4 := ⟨_, fun _ _ _ => Iff.rfl⟩
        refine (hX4 _ _ _).1 (h X4 ?_) _ ?_
        rotate_left
        · exact ⟨rfl, rfl, rfl, rfl, trivial⟩
        clear h
        intro y25 y26 H_4 h
        refine (hX4 _ _ _).2 fun ρ hI => ?_
        obtain ⟨ρ0, rfl⟩ : ∃ ρ0, ρ = (Env.set (Env.set (Env.set (Env.set ρ0 4 (.int .i64 y26)) 3 (Sl.v y25)) 2 (.int .i64 y6)) 0 (.pointer p0)) := ⟨ρ, hI.eq⟩
        clear hI; unfold F42_L4b at h; refine hL4 _ _ ?_
        refine HW.seq ?_
        refine HW.seq ?_
        refine HW.draw mixed [(0, some []), (1, some []), (2, some []), (3, some []), (4, some []), (5, some []), (6, some []), (7, some []), (8, some []), (9, some []), (10, some []), (11, some []), (12, some []), (13, some []), (14, some []), (15, some []), (16, some []), (17, some []), (18, none), (19, some [])] rfl (by kernel_rfl) (by kernel_rfl) ?_
        refine HPlan.takev (v := (.int .i64 y26)) rfl rfl (fun _ => HVal.move' rfl) ?_
        refine HPlan.takev (v := (.pointer p0)) rfl rfl (fun _ => HVal.move' rfl) ?_
        obtain ⟨a29, e30, h⟩ := h
        refine HPlan.takev (v := (.pointer (some a29))) rfl rfl (fun _ => HVal.nilCheck (congrArg Value.pointer e30)) ?_
        refine HPlan.takev (v := (.pointer (some a29))) rfl rfl (fun _ => HVal.fieldAddr0 Tryd.runUnderlying44 rfl rfl Tryd.sizeOf25 rfl) ?_
        obtain ⟨x32, c31, h⟩ := h
        refine HPlan.takel (v := (Sl.v x32)) (fun X => cell X a29 = some (Sl.v x32)) rfl rfl (fun _ hX => HVal.load1 Tryd.isAgg25 rfl hX) c31 ?_
        refine HPlan.takev (v := (.int .i64 y6)) rfl rfl (fun _ => HVal.move' rfl) ?_
        obtain ⟨a33, e34, b35, b36, h⟩ := h
        refine HPlan.takev (v := (.pointer (some (Addr.add a33 (y6.toNat * 1))))) rfl rfl (fun _ => HVal.indexAddr Tryd.runUnderlying25 Tryd.sizeOf22 (Sl.v_some rfl e34) rfl b35 b36) ?_
        obtain ⟨x38, c37, h⟩ := h
        refine HPlan.takel (v := (Sl.v x38)) (fun X => cell X (Addr.add a33 (y6.toNat * 1)) = some (Sl.v x38)) rfl rfl (fun _ hX => HVal.load1 Tryd.isAgg22 rfl hX) c37 ?_
        refine HPlan.takev (v := (.int .i64 ((x38).c : Int))) rfl rfl (fun _ => HVal.cap Tryd.runUnderlying22 rfl) ?_
        refine HPlan.takev (v := (.pointer p0)) rfl rfl (fun _ => HVal.move' rfl) ?_
        obtain ⟨a39, e40, h⟩ := h
        refine HPlan.takev (v := (.pointer (some a39))) rfl rfl (fun _ => HVal.nilCheck (congrArg Value.pointer e40)) ?_
        refine HPlan.takev (v := (.pointer (some a39))) rfl rfl (fun _ => HVal.fieldAddr0 Tryd.runUnderlying44 rfl rfl Tryd.sizeOf25 rfl) ?_
        obtain ⟨x42, c41, h⟩ := h
        refine HPlan.takel (v := (Sl.v x42)) (fun X => cell X a39 = some (Sl.v x42)) rfl rfl (fun _ hX => HVal.load1 Tryd.isAgg25 rfl hX) c41 ?_
        refine HPlan.takev (v := (.int .i64 y6)) rfl rfl (fun _ => HVal.move' rfl) ?_
        obtain ⟨a43, e44, b45, b46, h⟩ := h
        refine HPlan.takev (v := (.pointer (some (Addr.add a43 (y6.toNat * 1))))) rfl rfl (fun _ => HVal.indexAddr Tryd.runUnderlying25 Tryd.sizeOf22 (Sl.v_some rfl e44) rfl b45 b46) ?_
        obtain ⟨x48, c47, h⟩ := h
        refine HPlan.takel (v := (Sl.v x48)) (fun X => cell X (Addr.add a43 (y6.toNat * 1)) = some (Sl.v x48)) rfl rfl (fun _ hX => HVal.load1 Tryd.isAgg22 rfl hX) c47 ?_
        refine HPlan.takev (v := (.int .i64 ((x48).n : Int))) rfl rfl (fun _ => HVal.len Tryd.runUnderlying22 rfl) ?_
        refine HPlan.takev (v := (.int .i64 (IntKind.i64.wrap (((x38).c : Int) - ((x48).n : Int))))) rfl rfl (fun _ => HVal.sub rfl rfl) ?_
        refine HPlan.ops' rfl rfl (HOp.call' 49 [(.int .i64 (IntKind.i64.wrap (((x38).c : Int) - ((x48).n : Int))))] (cap := []) rfl rfl Tryd.call49 (walk49 h)) ?_
        rintro _ H49 ⟨r51, rfl, h⟩
        obtain ⟨s52, s53, s54, s55, h⟩ := h
        refine ⟨SC_of ⟨fun _ => s52, fun _ => s53, fun _ => s54, fun _ => s55, trivial⟩, ?_⟩
        refine HPlan.takev (v := (.bool (decide (y26 < r51)))) rfl rfl (fun _ => HVal.lss rfl rfl) ?_
        refine HPlan.done ?_
        refine nt ?_
        obtain ⟨hT, hF⟩ := h
        refine HW.cond (decide (y26 < r51)) rfl (fun hb56 => ?_) (fun hb56 => ?_)
        · have h := hT hb56
          clear hT hF
          refine HW.skip ?_
          refine nt ?_
          refine HW.seq ?_
          refine HW.block ?_
          refine HW.region ?_
          refine HList.vals (v := (Sl.v y25)) rfl (HVal.move' rfl) ?_
          refine HList.vals (v := (.int .i64 y6)) rfl (HVal.move' rfl) ?_
          refine HList.vals (v := (.int .i64 (IntKind.i64.wrap (Int.tdiv y6 (2 : Int))))) rfl (HVal.quo rfl rfl (by decide)) ?_
          refine HList.vals (v := (.int .i64 (IntKind.i64.wrap (1000000 + (IntKind.i64.wrap (Int.tdiv y6 (2 : Int))))))) rfl (HVal.add rfl rfl) ?_
          refine HList.ops' rfl (HOp.buildSlice' (zs := [(.int .i64 0)]) (cs := [(.int .i64 (IntKind.i64.wrap (1000000 + (IntKind.i64.wrap (Int.tdiv y6 (2 : Int))))))]) Tryd.runUnderlying22 Tryd.sizeOf3 Tryd.zeroValue3 (by decide) (by kernel_rfl) rfl (by decide)) ?_
          rintro _ H57 ⟨rfl, e58⟩
          replace h := h H57 e58
          refine HList.ops' rfl (HOp.append (k := 1) (b := 8) Tryd.runUnderlying22 Tryd.runUnderlying22 Tryd.typeInfo3 rfl rfl Tryd.zeroValue3 rfl rfl h) ?_
          rintro _ H59 ⟨r61, rfl, h⟩
          refine HList.vals (v := (Sl.v r61)) rfl (HVal.assign' rfl) ?_
          refine HList.nil ?_
          refine nb ?_
          refine nt ?_
          refine HW.region ?_
          refine HList.vals (v := (.int .i64 y26)) rfl (HVal.move' rfl) ?_
          refine HList.vals (v := (.int .i64 (IntKind.i64.wrap (y26 + 1)))) rfl (HVal.add rfl rfl) ?_
          refine HList.vals (v := (.int .i64 (IntKind.i64.wrap (y26 + 1)))) rfl (HVal.assign' rfl) ?_
          refine HList.nil ?_
          refine nt ?_
          exact (hX4 _ _ _).1 h _ ⟨rfl, rfl, rfl, rfl, trivial⟩
        · have h := hF hb56
          clear hT hF
          refine HW.exit ?_
          refine te ?_
          refine te ?_
          refine be ?_
          refine nt ?_
          exact ⟨y25, ⟨rfl, rfl, rfl, trivial⟩, h⟩
      · rintro ρ H_3 ⟨y62, hI, h⟩
        obtain ⟨ρ0, rfl⟩ : ∃ ρ0, ρ = (Env.set (Env.set (Env.set ρ0 3 (Sl.v y62)) 2 (.int .i64 y6)) 0 (.pointer p0)) := ⟨ρ, hI.eq⟩
        clear hI; unfold F42_3 at h
        refine HW.region ?_
        refine HList.vals (v := (.pointer p0)) rfl (HVal.move' rfl) ?_
        obtain ⟨a63, e64, h⟩ := h
        refine HList.vals (v := (.pointer (some a63))) rfl (HVal.nilCheck (congrArg Value.pointer e64)) ?_
        refine HList.vals (v := (.pointer (some a63))) rfl (HVal.fieldAddr0 Tryd.runUnderlying44 rfl rfl Tryd.sizeOf25 rfl) ?_
        obtain ⟨x66, c65, h⟩ := h
        refine HList.vals (v := (Sl.v x66)) rfl (HVal.load1 Tryd.isAgg25 rfl c65) ?_
        refine HList.vals (v := (.int .i64 y6)) rfl (HVal.move' rfl) ?_
        refine HList.vals (v := (.int .i64 (IntKind.i64.wrap (y6 + 1)))) rfl (HVal.add rfl rfl) ?_
        refine HList.vals (v := (Sl.v y62)) rfl (HVal.move' rfl) ?_
        obtain ⟨a67, e68, b69, b70, h⟩ := h
        refine HList.vals (v := (.pointer (some (Addr.add a67 ((IntKind.i64.wrap (y6 + 1)).toNat * 1))))) rfl (HVal.indexAddr Tryd.runUnderlying25 Tryd.sizeOf22 (Sl.v_some rfl e68) rfl b69 b70) ?_
        obtain ⟨z73, z74, h⟩ := h
        refine HList.opsn (HOp.store1 Tryd.sizeOf22 rfl rfl rfl z73 z74) ?_
        rintro _ H71 e72
        replace h := h H71 e72
        refine HList.nil ?_
        refine nb ?_
        refine nt ?_
        refine HW.region ?_
        refine HList.vals (v := (.int .i64 y6)) rfl (HVal.move' rfl) ?_
        refine HList.vals (v := (.int .i64 (IntKind.i64.wrap (y6 + 2)))) rfl (HVal.add rfl rfl) ?_
        refine HList.vals (v := (.int .i64 (IntKind.i64.wrap (y6 + 2)))) rfl (HVal.assign' rfl) ?_
        refine HList.nil ?_
        refine nt ?_
        exact (hX2 _ _).1 h _ ⟨rfl, rfl, trivial⟩
    · have h := hF hb12
      clear hT hF
      refine HW.exit ?_
      refine te ?_
      refine te ?_
      refine be ?_
      refine nt ?_
      exact ⟨⟨rfl, trivial⟩, h⟩
  · rintro ρ H_1 ⟨hI, h⟩
    obtain ⟨ρ0, rfl⟩ : ∃ ρ0, ρ = (Env.set ρ0 0 (.pointer p0)) := ⟨ρ, hI.eq⟩
    clear hI; unfold F42_1 at h
    refine HW.region ?_
    refine HList.vals (v := (.pointer p0)) rfl (HVal.move' rfl) ?_
    refine HList.vals (v := (.pointer p0)) rfl (HVal.move' rfl) ?_
    obtain ⟨a75, e76, h⟩ := h
    refine HList.vals (v := (.pointer (some a75))) rfl (HVal.nilCheck (congrArg Value.pointer e76)) ?_
    refine HList.vals (v := (.pointer (some a75))) rfl (HVal.fieldAddr0 Tryd.runUnderlying44 rfl rfl Tryd.sizeOf25 rfl) ?_
    obtain ⟨x78, c77, h⟩ := h
    refine HList.vals (v := (Sl.v x78)) rfl (HVal.load1 Tryd.isAgg25 rfl c77) ?_
    refine HList.vals (v := (.int .i64 ((x78).n : Int))) rfl (HVal.len Tryd.runUnderlying25 rfl) ?_
    obtain ⟨a79, e80, h⟩ := h
    refine HList.vals (v := (.pointer (some a79))) rfl (HVal.nilCheck (congrArg Value.pointer e80)) ?_
    refine HList.vals (v := (.pointer (some (Addr.add a79 2)))) rfl (HVal.fieldAddr' Tryd.runUnderlying44 rfl rfl Tryd.sizeOf3 rfl) ?_
    obtain ⟨z83, z84, h⟩ := h
    refine HList.opsn (HOp.store1 Tryd.sizeOf3 rfl rfl rfl z83 z84) ?_
    rintro _ H81 e82
    replace h := h H81 e82
    refine HList.nil ?_
    exact ⟨_, resOf0 rfl , ⟨rfl, h⟩⟩

def F21 (p0 : (Option Addr)) (p1 : Sl) (H : Hp) (Q : Hp → Prop) : Prop :=
F41 p0 p1 H (fun (H1 : Hp) => 
 F42 p0 H1 (fun (H3 : Hp) => 
 Q H3))
set_option maxRecDepth 100000 in
set_option maxHeartbeats 4000000 in
theorem walk21 {w0 : World} {p0 : (Option Addr)} {p1 : Sl} {H : Hp} {Q : Hp → Prop} (h : F21 p0 p1 H Q) :
    Good Tryd.prog w0 21 #[(.pointer p0), (Sl.v p1)] H (fun v H => v = (.tuple #[]) ∧ Q H) := by
  unfold F21 at h
  refine Good.enter' (fn := Tryd.f21) Tryd.func21 rfl rfl rfl ?_
  refine HW.seq ?_
  refine HW.region ?_
  refine HList.vals (v := (.pointer p0)) rfl (HVal.move' rfl) ?_
  refine HList.vals (v := (Sl.v p1)) rfl (HVal.move' rfl) ?_
  refine HList.ops' rfl (HOp.call' 41 [(.pointer p0), (Sl.v p1)] (cap := []) rfl rfl Tryd.call41 (walk41 h)) ?_
  rintro _ H1 ⟨rfl, h⟩
  refine HList.nil ?_
  refine nt ?_
  refine HW.region ?_
  refine HList.vals (v := (.pointer p0)) rfl (HVal.move' rfl) ?_
  refine HList.ops' rfl (HOp.call' 42 [(.pointer p0)] (cap := []) rfl rfl Tryd.call42 (walk42 h)) ?_
  rintro _ H3 ⟨rfl, h⟩
  refine HList.nil ?_
  exact ⟨_, resOf0 rfl , ⟨rfl, h⟩⟩

def F22_2 (Q : Bool → Hp → Prop) (X1 : Int → Hp → Prop) (y8 : (Option Addr)) (y9 : Int) (H_2 : Hp) : Prop :=
X1 (IntKind.i64.wrap (y9 + 1)) H_2
def F22_L3b (Q : Bool → Hp → Prop) (X1 : Int → Hp → Prop) (X3 : Int → Hp → Prop) (y11 : (Option Addr)) (y12 : Int) (y10 : Int) (H_3 : Hp) : Prop :=
∃ a13 : Addr, y11 = some a13 ∧ (
 ∃ x16 : Sl, cell H_3 a13 = some (Sl.v x16) ∧ (
 ∃ a17 : Addr, (x16).b = some a17 ∧ (0 : Int) ≤ y12 ∧ y12 < ((x16).n : Int) ∧ (
 ∃ x22 : Sl, cell H_3 (Addr.add a17 (y12.toNat * 1)) = some (Sl.v x22) ∧ (
 ((decide (y10 < ((x22).n : Int))) = true → (∃ a24 : Addr, y11 = some a24 ∧ (
 ∃ x27 : Sl, cell H_3 a24 = some (Sl.v x27) ∧ (
 ∃ a28 : Addr, (x27).b = some a28 ∧ (0 : Int) ≤ y12 ∧ y12 < ((x27).n : Int) ∧ (
 ∃ x33 : Sl, cell H_3 (Addr.add a28 (y12.toNat * 1)) = some (Sl.v x33) ∧ (
 ∃ a34 : Addr, (x33).b = some a34 ∧ (0 : Int) ≤ y10 ∧ y10 < ((x33).n : Int) ∧ (
 ∃ x39 : Int, cell H_3 (Addr.add a34 (y10.toNat * 1)) = some (.int .i64 x39) ∧ (
 ((decide (x39 ≠ (IntKind.i64.wrap (1000000 + (IntKind.i64.wrap (Int.tdiv y12 (2 : Int))))))) = true → (Q false H_3)) ∧
 ((decide (x39 ≠ (IntKind.i64.wrap (1000000 + (IntKind.i64.wrap (Int.tdiv y12 (2 : Int))))))) = false → (X3 (IntKind.i64.wrap (y10 + 1)) H_3)))))))))) ∧
 ((decide (y10 < ((x22).n : Int))) = false → (F22_2 Q X1 y11 y12 H_3))))))
def F22_L3 (Q : Bool → Hp → Prop) (X1 : Int → Hp → Prop) (y11 : (Option Addr)) (y12 : Int) (y10 : Int) (H_3 : Hp) : Prop :=
  ∀ X3 : Int → Hp → Prop, (∀ (y10 : Int) (H_3 : Hp), F22_L3b Q X1 X3 y11 y12 y10 H_3 → X3 y10 H_3) → X3 y10 H_3
def F22_L1b (Q : Bool → Hp → Prop) (X1 : Int → Hp → Prop) (y2 : (Option Addr)) (y1 : Int) (H_1 : Hp) : Prop :=
∃ a3 : Addr, y2 = some a3 ∧ (
 ∃ x6 : Sl, cell H_1 a3 = some (Sl.v x6) ∧ (
 ((decide (y1 < ((x6).n : Int))) = true → (F22_L3 Q X1 y2 y1 0 H_1)) ∧
 ((decide (y1 < ((x6).n : Int))) = false → (Q true H_1))))
def F22_L1 (Q : Bool → Hp → Prop) (y2 : (Option Addr)) (y1 : Int) (H_1 : Hp) : Prop :=
  ∀ X1 : Int → Hp → Prop, (∀ (y1 : Int) (H_1 : Hp), F22_L1b Q X1 y2 y1 H_1 → X1 y1 H_1) → X1 y1 H_1
def F22 (p0 : (Option Addr)) (H : Hp) (Q : Bool → Hp → Prop) : Prop :=
F22_L1 Q p0 0 H
set_option maxRecDepth 100000 in
set_option maxHeartbeats 4000000 in
theorem walk22 {w0 : World} {p0 : (Option Addr)} {H : Hp} {Q : Bool → Hp → Prop} (h : F22 p0 H Q) :
    Good Tryd.prog w0 22 #[(.pointer p0)] H (fun v H => ∃ (r0 : Bool) , v = (.bool r0) ∧ Q r0 H) := by
  unfold F22 at h
  refine Good.enter' (fn := Tryd.f22) Tryd.func22 rfl rfl rfl ?_
  refine HW.seq ?_
  refine HW.region ?_
  refine HList.vals (v := (.bool false)) rfl (HVal.assign' rfl) ?_
  refine HList.nil ?_
  refine nt ?_
  refine HW.seq ?_
  refine HW.seq ?_
  refine HW.region ?_
  refine HList.vals (v := (.int .i64 0)) rfl (HVal.assign' rfl) ?_
  refine HList.nil ?_
  refine nt ?_
  refine HW.block ?_
  refine HW.loop' (fun L1 hL1 => ?_)
  obtain ⟨X1, hX1⟩ : ∃ X1 : Int → Hp → Prop, ∀ (y1 : Int) (H_1 : Hp), X1 y1 H_1 ↔ ∀ ρ, Env.Is ρ [(0, (.pointer p0)), (3, (.int .i64 y1))] → L1 ρ H_1 := ⟨_, fun _ _ => Iff.rfl⟩
  refine (hX1 _ _).1 (h X1 ?_) _ ?_
  rotate_left
  · exact ⟨rfl, rfl, trivial⟩
  clear h
  intro y1 H_1 h
  refine (hX1 _ _).2 fun ρ hI => ?_
  obtain ⟨ρ0, rfl⟩ : ∃ ρ0, ρ = (Env.set (Env.set ρ0 3 (.int .i64 y1)) 0 (.pointer p0)) := ⟨ρ, hI.eq⟩
  clear hI; unfold F22_L1b at h; refine hL1 _ _ ?_
  refine HW.seq ?_
  refine HW.seq ?_
  refine HW.region ?_
  refine HList.vals (v := (.int .i64 y1)) rfl (HVal.move' rfl) ?_
  refine HList.vals (v := (.pointer p0)) rfl (HVal.move' rfl) ?_
  obtain ⟨a3, e4, h⟩ := h
  refine HList.vals (v := (.pointer (some a3))) rfl (HVal.nilCheck (congrArg Value.pointer e4)) ?_
  refine HList.vals (v := (.pointer (some a3))) rfl (HVal.fieldAddr0 Tryd.runUnderlying44 rfl rfl Tryd.sizeOf25 rfl) ?_
  obtain ⟨x6, c5, h⟩ := h
  refine HList.vals (v := (Sl.v x6)) rfl (HVal.load1 Tryd.isAgg25 rfl c5) ?_
  refine HList.vals (v := (.int .i64 ((x6).n : Int))) rfl (HVal.len Tryd.runUnderlying25 rfl) ?_
  refine HList.vals (v := (.bool (decide (y1 < ((x6).n : Int))))) rfl (HVal.lss rfl rfl) ?_
  refine HList.nil ?_
  refine nt ?_
  obtain ⟨hT, hF⟩ := h
  refine HW.cond (decide (y1 < ((x6).n : Int))) rfl (fun hb7 => ?_) (fun hb7 => ?_)
  · have h := hT hb7
    clear hT hF
    refine HW.skip ?_
    refine nt ?_
    refine HW.cut (fun ρ H_2 => Env.Is ρ [(0, (.pointer p0)), (3, (.int .i64 y1))] ∧ F22_2 Q X1 p0 y1 H_2) ?_ ?_
    · refine HW.block ?_
      refine HW.seq ?_
      refine HW.region ?_
      refine HList.vals (v := (.int .i64 0)) rfl (HVal.assign' rfl) ?_
      refine HList.nil ?_
      refine nt ?_
      refine HW.block ?_
      refine HW.loop' (fun L3 hL3 => ?_)
      obtain ⟨X3, hX3⟩ : ∃ X3 : Int → Hp → Prop, ∀ (y10 : Int) (H_3 : Hp), X3 y10 H_3 ↔ ∀ ρ, Env.Is ρ [(0, (.pointer p0)), (3, (.int .i64 y1)), (4, (.int .i64 y10))] → L3 ρ H_3 := ⟨_, fun _ _ => Iff.rfl⟩
      refine (hX3 _ _).1 (h X3 ?_) _ ?_
      rotate_left
      · exact ⟨rfl, rfl, rfl, trivial⟩
      clear h
      intro y10 H_3 h
      refine (hX3 _ _).2 fun ρ hI => ?_
      obtain ⟨ρ0, rfl⟩ : ∃ ρ0, ρ = (Env.set (Env.set (Env.set ρ0 4 (.int .i64 y10)) 3 (.int .i64 y1)) 0 (.pointer p0)) := ⟨ρ, hI.eq⟩
      clear hI; unfold F22_L3b at h; refine hL3 _ _ ?_
      refine HW.seq ?_
      refine HW.seq ?_
      refine HW.region ?_
      refine HList.vals (v := (.int .i64 y10)) rfl (HVal.move' rfl) ?_
      refine HList.vals (v := (.pointer p0)) rfl (HVal.move' rfl) ?_
      obtain ⟨a13, e14, h⟩ := h
      refine HList.vals (v := (.pointer (some a13))) rfl (HVal.nilCheck (congrArg Value.pointer e14)) ?_
      refine HList.vals (v := (.pointer (some a13))) rfl (HVal.fieldAddr0 Tryd.runUnderlying44 rfl rfl Tryd.sizeOf25 rfl) ?_
      obtain ⟨x16, c15, h⟩ := h
      refine HList.vals (v := (Sl.v x16)) rfl (HVal.load1 Tryd.isAgg25 rfl c15) ?_
      refine HList.vals (v := (.int .i64 y1)) rfl (HVal.move' rfl) ?_
      obtain ⟨a17, e18, b19, b20, h⟩ := h
      refine HList.vals (v := (.pointer (some (Addr.add a17 (y1.toNat * 1))))) rfl (HVal.indexAddr Tryd.runUnderlying25 Tryd.sizeOf22 (Sl.v_some rfl e18) rfl b19 b20) ?_
      obtain ⟨x22, c21, h⟩ := h
      refine HList.vals (v := (Sl.v x22)) rfl (HVal.load1 Tryd.isAgg22 rfl c21) ?_
      refine HList.vals (v := (.int .i64 ((x22).n : Int))) rfl (HVal.len Tryd.runUnderlying22 rfl) ?_
      refine HList.vals (v := (.bool (decide (y10 < ((x22).n : Int))))) rfl (HVal.lss rfl rfl) ?_
      refine HList.nil ?_
      refine nt ?_
      obtain ⟨hT, hF⟩ := h
      refine HW.cond (decide (y10 < ((x22).n : Int))) rfl (fun hb23 => ?_) (fun hb23 => ?_)
      · have h := hT hb23
        clear hT hF
        refine HW.skip ?_
        refine nt ?_
        refine HW.seq ?_
        refine HW.block ?_
        refine HW.seq ?_
        refine HW.region ?_
        refine HList.vals (v := (.pointer p0)) rfl (HVal.move' rfl) ?_
        obtain ⟨a24, e25, h⟩ := h
        refine HList.vals (v := (.pointer (some a24))) rfl (HVal.nilCheck (congrArg Value.pointer e25)) ?_
        refine HList.vals (v := (.pointer (some a24))) rfl (HVal.fieldAddr0 Tryd.runUnderlying44 rfl rfl Tryd.sizeOf25 rfl) ?_
        obtain ⟨x27, c26, h⟩ := h
        refine HList.vals (v := (Sl.v x27)) rfl (HVal.load1 Tryd.isAgg25 rfl c26) ?_
        refine HList.vals (v := (.int .i64 y1)) rfl (HVal.move' rfl) ?_
        obtain ⟨a28, e29, b30, b31, h⟩ := h
        refine HList.vals (v := (.pointer (some (Addr.add a28 (y1.toNat * 1))))) rfl (HVal.indexAddr Tryd.runUnderlying25 Tryd.sizeOf22 (Sl.v_some rfl e29) rfl b30 b31) ?_
        obtain ⟨x33, c32, h⟩ := h
        refine HList.vals (v := (Sl.v x33)) rfl (HVal.load1 Tryd.isAgg22 rfl c32) ?_
        refine HList.vals (v := (.int .i64 y10)) rfl (HVal.move' rfl) ?_
        obtain ⟨a34, e35, b36, b37, h⟩ := h
        refine HList.vals (v := (.pointer (some (Addr.add a34 (y10.toNat * 1))))) rfl (HVal.indexAddr Tryd.runUnderlying22 Tryd.sizeOf3 (Sl.v_some rfl e35) rfl b36 b37) ?_
        obtain ⟨x39, c38, h⟩ := h
        refine HList.vals (v := (.int .i64 x39)) rfl (HVal.load1 Tryd.isAgg3 rfl c38) ?_
        refine HList.vals (v := (.int .i64 y1)) rfl (HVal.move' rfl) ?_
        refine HList.vals (v := (.int .i64 (IntKind.i64.wrap (Int.tdiv y1 (2 : Int))))) rfl (HVal.quo rfl rfl (by decide)) ?_
        refine HList.vals (v := (.int .i64 (IntKind.i64.wrap (1000000 + (IntKind.i64.wrap (Int.tdiv y1 (2 : Int))))))) rfl (HVal.add rfl rfl) ?_
        refine HList.vals (v := (.bool (decide (x39 ≠ (IntKind.i64.wrap (1000000 + (IntKind.i64.wrap (Int.tdiv y1 (2 : Int))))))))) rfl (HVal.neqI rfl rfl) ?_
        refine HList.nil ?_
        refine nt ?_
        obtain ⟨hT, hF⟩ := h
        refine HW.cond (decide (x39 ≠ (IntKind.i64.wrap (1000000 + (IntKind.i64.wrap (Int.tdiv y1 (2 : Int))))))) rfl (fun hb40 => ?_) (fun hb40 => ?_)
        · have h := hT hb40
          clear hT hF
          refine HW.seq ?_
          refine HW.region ?_
          refine HList.vals (v := (.bool false)) rfl (HVal.assign' rfl) ?_
          refine HList.nil ?_
          refine nt ?_
          refine HW.ret ?_
          refine br ?_
          refine tr ?_
          refine tr ?_
          refine br ?_
          refine br ?_
          refine tr ?_
          refine tr ?_
          refine br ?_
          refine tr ?_
          exact ⟨_, resOf1 rfl Res1.t, ⟨false, rfl, h⟩⟩
        · have h := hF hb40
          clear hT hF
          refine HW.skip ?_
          refine nb ?_
          refine nt ?_
          refine HW.region ?_
          refine HList.vals (v := (.int .i64 y10)) rfl (HVal.move' rfl) ?_
          refine HList.vals (v := (.int .i64 (IntKind.i64.wrap (y10 + 1)))) rfl (HVal.add rfl rfl) ?_
          refine HList.vals (v := (.int .i64 (IntKind.i64.wrap (y10 + 1)))) rfl (HVal.assign' rfl) ?_
          refine HList.nil ?_
          refine nt ?_
          exact (hX3 _ _).1 h _ ⟨rfl, rfl, rfl, trivial⟩
      · have h := hF hb23
        clear hT hF
        refine HW.exit ?_
        refine te ?_
        refine te ?_
        refine be ?_
        refine nb ?_
        refine nt ?_
        exact ⟨⟨rfl, rfl, trivial⟩, h⟩
    · rintro ρ H_2 ⟨hI, h⟩
      obtain ⟨ρ0, rfl⟩ : ∃ ρ0, ρ = (Env.set (Env.set ρ0 3 (.int .i64 y1)) 0 (.pointer p0)) := ⟨ρ, hI.eq⟩
      clear hI; unfold F22_2 at h
      refine HW.region ?_
      refine HList.vals (v := (.int .i64 y1)) rfl (HVal.move' rfl) ?_
      refine HList.vals (v := (.int .i64 (IntKind.i64.wrap (y1 + 1)))) rfl (HVal.add rfl rfl) ?_
      refine HList.vals (v := (.int .i64 (IntKind.i64.wrap (y1 + 1)))) rfl (HVal.assign' rfl) ?_
      refine HList.nil ?_
      refine nt ?_
      exact (hX1 _ _).1 h _ ⟨rfl, rfl, trivial⟩
  · have h := hF hb7
    clear hT hF
    refine HW.exit ?_
    refine te ?_
    refine te ?_
    refine be ?_
    refine nt ?_
    refine HW.seq ?_
    refine HW.region ?_
    refine HList.vals (v := (.bool true)) rfl (HVal.assign' rfl) ?_
    refine HList.nil ?_
    refine nt ?_
    refine HW.ret ?_
    exact ⟨_, resOf1 rfl Res1.t, ⟨true, rfl, h⟩⟩

def F23_5 (Q : Bool → Hp → Prop) (y87 : Addr) (H_5 : Hp) : Prop :=
F42 (some y87) H_5 (fun (H100 : Hp) => 
 F22 (some y87) H100 (fun (r104 : Bool) (H102 : Hp) => 
 Q r104 H102))
def F23_L6b (Q : Bool → Hp → Prop) (X6 : Int → Hp → Prop) (y89 : Sl) (y90 : Addr) (y88 : Int) (H_6 : Hp) : Prop :=
((decide (y88 < ((y89).n : Int))) = true → (∃ a92 : Addr, (y89).b = some a92 ∧ (0 : Int) ≤ y88 ∧ y88 < ((y89).n : Int) ∧ (
 ∃ x97 : Sl, cell H_6 (Addr.add a92 (y88.toNat * 1)) = some (Sl.v x97) ∧ (
 F41 (some y90) x97 H_6 (fun (H98 : Hp) => 
 X6 (IntKind.i64.wrap (y88 + 1)) H98))))) ∧
 ((decide (y88 < ((y89).n : Int))) = false → (F23_5 Q y90 H_6))
def F23_L6 (Q : Bool → Hp → Prop) (y89 : Sl) (y90 : Addr) (y88 : Int) (H_6 : Hp) : Prop :=
  ∀ X6 : Int → Hp → Prop, (∀ (y88 : Int) (H_6 : Hp), F23_L6b Q X6 y89 y90 y88 H_6 → X6 y88 H_6) → X6 y88 H_6
def F23_3 (Q : Bool → Hp → Prop) (y64 : Sl) (y65 : Addr) (H_3 : Hp) : Prop :=
F23_L6 Q y64 y65 0 H_3
def F23_L4b (Q : Bool → Hp → Prop) (X4 : Int → Hp → Prop) (y67 : Sl) (y68 : Sl) (y69 : Addr) (y66 : Int) (H_4 : Hp) : Prop :=
((decide (y66 < ((y67).n : Int))) = true → (∃ a71 : Addr, (y67).b = some a71 ∧ (0 : Int) ≤ y66 ∧ y66 < ((y67).n : Int) ∧ (
 ∃ x76 : Sl, cell H_4 (Addr.add a71 (y66.toNat * 1)) = some (Sl.v x76) ∧ (
 ∃ a77 : Addr, (y68).b = some a77 ∧ (0 : Int) ≤ y66 ∧ y66 < ((y68).n : Int) ∧ (
 ∃ x82 : Sl, cell H_4 (Addr.add a77 (y66.toNat * 1)) = some (Sl.v x82) ∧ (
 F15 x76 x82 H_4 (fun (r85 : Bool) (H83 : Hp) => 
 ((!r85) = true → (Q false H83)) ∧
 ((!r85) = false → (X4 (IntKind.i64.wrap (y66 + 1)) H83))))))))) ∧
 ((decide (y66 < ((y67).n : Int))) = false → (F23_3 Q y67 y69 H_4))
def F23_L4 (Q : Bool → Hp → Prop) (y67 : Sl) (y68 : Sl) (y69 : Addr) (y66 : Int) (H_4 : Hp) : Prop :=
  ∀ X4 : Int → Hp → Prop, (∀ (y66 : Int) (H_4 : Hp), F23_L4b Q X4 y67 y68 y69 y66 H_4 → X4 y66 H_4) → X4 y66 H_4
def F23_1 (Q : Bool → Hp → Prop) (y60 : Sl) (y61 : Sl) (H_1 : Hp) : Prop :=
∀ H62 : Hp, H62 = Array.push H_1 (.cells #[(Sl.v Sl.nil), (.int .i64 0), (.int .i64 0)] 44) → (
 F23_L4 Q y60 y61 ⟨H_1.size, 0, none⟩ 0 H62)
def F23_L2b (Q : Bool → Hp → Prop) (X2 : Sl → Sl → Int → Int → Hp → Prop) (y5 : Sl) (y1 : Sl) (y2 : Sl) (y3 : Int) (y4 : Int) (H_2 : Hp) : Prop :=
((decide (y4 < (IntKind.i64.wrap (2 * ((y5).n : Int))))) = true → (((decide (y3 ≤ 33554432)) = true → (∃ a9 : Addr, (y5).b = some a9 ∧ (0 : Int) ≤ (IntKind.i64.wrap (Int.tdiv y4 (2 : Int))) ∧ (IntKind.i64.wrap (Int.tdiv y4 (2 : Int))) < ((y5).n : Int) ∧ (
 ∃ (x14 : Int) (x15 : Sl) (x16 : Sl) (x17 : ByteArray), cells H_2 (Addr.add a9 ((IntKind.i64.wrap (Int.tdiv y4 (2 : Int))).toNat * 4)) [(.int .i64 x14), (Sl.v x15), (Sl.v x16), (.string x17)] 0 ∧ (
 ∀ H18 : Hp, H18 = Array.push H_2 (.cells #[(.int .i64 0), (Sl.v Sl.nil), (Sl.v Sl.nil), (.string (ByteArray.mk #[]))] 41) → (
 mayw H18 ⟨H_2.size, 0, none⟩ 4 0 ∧ ∀ H20 : Hp, H20 = sets H18 ⟨H_2.size, 0, none⟩ [(.int .i64 x14), (Sl.v x15), (Sl.v x16), (.string x17)] 0 → (
 ∃ x24 : Sl, cell H20 (Addr.add ⟨H_2.size, 0, none⟩ 1) = some (Sl.v x24) ∧ (
 ∃ x26 : Sl, cell H20 (Addr.add ⟨H_2.size, 0, none⟩ 1) = some (Sl.v x26) ∧ (
 F34 x24 H20 (fun (r29 : Sl) (H27 : Hp) => 
 cell H27 (Addr.add ⟨H_2.size, 0, none⟩ 1) = some (Sl.v x26) ∧ (
 (0 : Int) ≤ ((x26).n : Int) ∧ 0 ≤ ((x26).n : Int).toNat ∧ ((x26).n : Int).toNat ≤ (r29).c ∧ (r29).c ≤ (r29).c ∧ (
 (cell H27 (Addr.add ⟨H_2.size, 0, none⟩ 1)).isSome = true ∧ frz H27 (Addr.add ⟨H_2.size, 0, none⟩ 1) = false ∧ ∀ H35 : Hp, H35 = setc H27 (Addr.add ⟨H_2.size, 0, none⟩ 1) (Sl.v (Sl.cut r29 1 0 (((x26).n : Int).toNat) ((r29).c))) → (
 ∃ (x40 : Int) (x41 : Sl) (x42 : Sl) (x43 : ByteArray), cells H35 ⟨H_2.size, 0, none⟩ [(.int .i64 x40), (Sl.v x41), (Sl.v x42), (.string x43)] 0 ∧ (
 F20 x40 x41 x42 x43 H35 (fun (r46 : Sl) (H44 : Hp) => 
 ∀ H47 : Hp, H47 = Array.push H44 (.cells #[(Sl.v r46)] 22) → (
 AppendF H47 22 1 24 #[(Sl.v Sl.nil)] y1 ((Sl.mk (some ⟨H44.size, 0, none⟩) 1 1)).b ((Sl.mk (some ⟨H44.size, 0, none⟩) 1 1)).n (fun (r51 : Sl) (H49 : Hp) => 
 AppendF H49 3 1 8 #[(.int .i64 0)] Sl.nil (r46).b (r46).n (fun (r54 : Sl) (H52 : Hp) => 
 ∀ H55 : Hp, H55 = Array.push H52 (.cells #[(Sl.v r54)] 22) → (
 AppendF H55 22 1 24 #[(Sl.v Sl.nil)] y2 ((Sl.mk (some ⟨H52.size, 0, none⟩) 1 1)).b ((Sl.mk (some ⟨H52.size, 0, none⟩) 1 1)).n (fun (r59 : Sl) (H57 : Hp) => 
 X2 r51 r59 (IntKind.i64.wrap ((IntKind.i64.wrap (y3 + 800)) + (IntKind.i64.wrap (16 * ((r46).n : Int))))) (IntKind.i64.wrap (y4 + 1)) H57))))))))))))))))))) ∧
 ((decide (y3 ≤ 33554432)) = false → (F23_1 Q y1 y2 H_2)))) ∧
 ((decide (y4 < (IntKind.i64.wrap (2 * ((y5).n : Int))))) = false → (F23_1 Q y1 y2 H_2))
def F23_L2 (Q : Bool → Hp → Prop) (y5 : Sl) (y1 : Sl) (y2 : Sl) (y3 : Int) (y4 : Int) (H_2 : Hp) : Prop :=
  ∀ X2 : Sl → Sl → Int → Int → Hp → Prop, (∀ (y1 : Sl) (y2 : Sl) (y3 : Int) (y4 : Int) (H_2 : Hp), F23_L2b Q X2 y5 y1 y2 y3 y4 H_2 → X2 y1 y2 y3 y4 H_2) → X2 y1 y2 y3 y4 H_2
def F23 (p0 : Sl) (H : Hp) (Q : Bool → Hp → Prop) : Prop :=
F23_L2 Q p0 Sl.nil Sl.nil 0 0 H
set_option maxRecDepth 100000 in
set_option maxHeartbeats 4000000 in
theorem walk23 {w0 : World} {p0 : Sl} {H : Hp} {Q : Bool → Hp → Prop} (h : F23 p0 H Q) :
    Good Tryd.prog w0 23 #[(Sl.v p0)] H (fun v H => ∃ (r0 : Bool) , v = (.bool r0) ∧ Q r0 H) := by
  unfold F23 at h
  refine Good.enter' (fn := Tryd.f23) Tryd.func23 rfl rfl rfl ?_
  refine HW.seq ?_
  refine HW.region ?_
  refine HList.vals (v := (.bool false)) rfl (HVal.assign' rfl) ?_
  refine HList.nil ?_
  refine nt ?_
  refine HW.seq ?_
  refine HW.region ?_
  refine HList.vals (v := (Sl.v Sl.nil)) rfl (HVal.assign' rfl) ?_
  refine HList.vals (v := (Sl.v Sl.nil)) rfl (HVal.assign' rfl) ?_
  refine HList.nil ?_
  refine nt ?_
  refine HW.seq ?_
  refine HW.region ?_
  refine HList.vals (v := (.int .i64 0)) rfl (HVal.assign' rfl) ?_
  refine HList.nil ?_
  refine nt ?_
  refine HW.cut (fun ρ H_1 => ∃ (y60 : Sl) (y61 : Sl), Env.Is ρ [(3, (Sl.v y60)), (4, (Sl.v y61))] ∧ F23_1 Q y60 y61 H_1) ?_ ?_
  · refine HW.seq ?_
    refine HW.region ?_
    refine HList.vals (v := (.int .i64 0)) rfl (HVal.assign' rfl) ?_
    refine HList.nil ?_
    refine nt ?_
    refine HW.block ?_
    refine HW.loop' (fun L2 hL2 => ?_)
    obtain ⟨X2, hX2⟩ : ∃ X2 : Sl → Sl → Int → Int → Hp → Prop, ∀ (y1 : Sl) (y2 : Sl) (y3 : Int) (y4 : Int) (H_2 : Hp), X2 y1 y2 y3 y4 H_2 ↔ ∀ ρ, Env.Is ρ [(0, (Sl.v p0)), (3, (Sl.v y1)), (4, (Sl.v y2)), (5, (.int .i64 y3)), (6, (.int .i64 y4))] → L2 ρ H_2 := ⟨_, fun _ _ _ _ _ => Iff.rfl⟩
    refine (hX2 _ _ _ _ _).1 (h X2 ?_) _ ?_
    rotate_left
    · exact ⟨rfl, rfl, rfl, rfl, rfl, trivial⟩
    clear h
    intro y1 y2 y3 y4 H_2 h
    refine (hX2 _ _ _ _ _).2 fun ρ hI => ?_
    obtain ⟨ρ0, rfl⟩ : ∃ ρ0, ρ = (Env.set (Env.set (Env.set (Env.set (Env.set ρ0 6 (.int .i64 y4)) 5 (.int .i64 y3)) 4 (Sl.v y2)) 3 (Sl.v y1)) 0 (Sl.v p0)) := ⟨ρ, hI.eq⟩
    clear hI; unfold F23_L2b at h; refine hL2 _ _ ?_
    refine HW.seq ?_
    refine HW.seq ?_
    refine HW.region ?_
    refine HList.vals (v := (.int .i64 y4)) rfl (HVal.move' rfl) ?_
    refine HList.vals (v := (Sl.v p0)) rfl (HVal.move' rfl) ?_
    refine HList.vals (v := (.int .i64 ((p0).n : Int))) rfl (HVal.len Tryd.runUnderlying38 rfl) ?_
    refine HList.vals (v := (.int .i64 (IntKind.i64.wrap (2 * ((p0).n : Int))))) rfl (HVal.mul rfl rfl) ?_
    refine HList.vals (v := (.bool (decide (y4 < (IntKind.i64.wrap (2 * ((p0).n : Int))))))) rfl (HVal.lss rfl rfl) ?_
    refine HList.vals (v := (.bool (decide (y4 < (IntKind.i64.wrap (2 * ((p0).n : Int))))))) rfl (HVal.move' rfl) ?_
    obtain ⟨hT, hF⟩ := h
    rcases Bool.eq_false_or_eq_true (decide (y4 < (IntKind.i64.wrap (2 * ((p0).n : Int))))) with hb6 | hb7
    · have h := hT hb6
      clear hT hF
      refine HList.gvals (v := (.int .i64 y3)) rfl rfl rfl rfl (congrArg Value.bool hb6) (HVal.move' rfl) ?_
      refine HList.gvals (v := (.bool (decide (y3 ≤ 33554432)))) rfl rfl rfl rfl (congrArg Value.bool hb6) (HVal.leq rfl rfl) ?_
      refine HList.vals (v := (.bool (decide (y3 ≤ 33554432)))) rfl (HVal.pickT rfl hb6 rfl) ?_
      refine HList.nil ?_
      refine nt ?_
      obtain ⟨hT, hF⟩ := h
      refine HW.cond (decide (y3 ≤ 33554432)) rfl (fun hb8 => ?_) (fun hb8 => ?_)
      · have h := hT hb8
        clear hT hF
        refine HW.skip ?_
        refine nt ?_
        refine HW.seq ?_
        refine HW.block ?_
        refine HW.seq ?_
        refine HW.region ?_
        refine HList.vals (v := (Sl.v p0)) rfl (HVal.move' rfl) ?_
        refine HList.vals (v := (.int .i64 y4)) rfl (HVal.move' rfl) ?_
        refine HList.vals (v := (.int .i64 (IntKind.i64.wrap (Int.tdiv y4 (2 : Int))))) rfl (HVal.quo rfl rfl (by decide)) ?_
        obtain ⟨a9, e10, b11, b12, h⟩ := h
        refine HList.vals (v := (.pointer (some (Addr.add a9 ((IntKind.i64.wrap (Int.tdiv y4 (2 : Int))).toNat * 4))))) rfl (HVal.indexAddr Tryd.runUnderlying38 Tryd.sizeOf41 (Sl.v_some rfl e10) rfl b11 b12) ?_
        obtain ⟨x14, x15, x16, x17, c13, h⟩ := h
        refine HList.vals (v := (.agg #[(.int .i64 x14), (Sl.v x15), (Sl.v x16), (.string x17)])) rfl (HVal.loadN [(.int .i64 x14), (Sl.v x15), (Sl.v x16), (.string x17)] Tryd.isAgg41 Tryd.sizeOf41 rfl c13) ?_
        refine HList.ops' rfl (HOp.alloc Tryd.zeroValue41) ?_
        rintro _ H18 ⟨rfl, e19⟩
        replace h := h H18 e19
        obtain ⟨z22, h⟩ := h
        refine HList.opsn (HOp.storeN' (l := [(.int .i64 x14), (Sl.v x15), (Sl.v x16), (.string x17)]) Tryd.sizeOf41 rfl rfl rfl z22) ?_
        rintro _ H20 e21
        replace h := h H20 e21
        refine HList.nil ?_
        refine nt ?_
        refine HW.seq ?_
        refine HW.draw mixed [(0, some []), (1, some [2, 8]), (3, some []), (4, some [8]), (5, some []), (2, none), (6, some []), (7, some []), (8, none)] rfl (by kernel_rfl) (by kernel_rfl) ?_
        refine HPlan.takev (v := (.pointer (some (Addr.add ⟨H_2.size, 0, none⟩ 1)))) rfl rfl (fun _ => HVal.fieldAddr' Tryd.runUnderlying41 rfl rfl Tryd.sizeOf22 rfl) ?_
        obtain ⟨x24, c23, h⟩ := h
        refine HPlan.takel (v := (Sl.v x24)) (fun X => cell X (Addr.add ⟨H_2.size, 0, none⟩ 1) = some (Sl.v x24)) rfl rfl (fun _ hX => HVal.load1 Tryd.isAgg22 rfl hX) c23 ?_
        refine HPlan.takev (v := (.pointer (some (Addr.add ⟨H_2.size, 0, none⟩ 1)))) rfl rfl (fun _ => HVal.fieldAddr' Tryd.runUnderlying41 rfl rfl Tryd.sizeOf22 rfl) ?_
        obtain ⟨x26, c25, h⟩ := h
        refine HPlan.takel (v := (Sl.v x26)) (fun X => cell X (Addr.add ⟨H_2.size, 0, none⟩ 1) = some (Sl.v x26)) rfl rfl (fun _ hX => HVal.load1 Tryd.isAgg22 rfl hX) c25 ?_
        refine HPlan.takev (v := (.int .i64 ((x26).n : Int))) rfl rfl (fun _ => HVal.len Tryd.runUnderlying22 rfl) ?_
        refine HPlan.ops' rfl rfl (HOp.call' 34 [(Sl.v x24)] (cap := []) rfl rfl Tryd.call34 (walk34 h)) ?_
        rintro _ H27 ⟨r29, rfl, h⟩
        obtain ⟨s30, h⟩ := h
        refine ⟨SC_of ⟨fun _ => s30, fun e => absurd e (by decide), trivial⟩, ?_⟩
        obtain ⟨z31, z32, z33, z34, h⟩ := h
        refine HPlan.takev (v := (Sl.v (Sl.cut r29 1 0 (((x26).n : Int).toNat) ((r29).c)))) rfl rfl (fun _ => HVal.slice _ _ _ Tryd.runUnderlying22 Tryd.sizeOf3 rfl rfl ⟨_, _, rfl, z31, rfl⟩ rfl (by decide) z32 z33 z34) ?_
        refine HPlan.takev (v := (.pointer (some (Addr.add ⟨H_2.size, 0, none⟩ 1)))) rfl rfl (fun _ => HVal.fieldAddr' Tryd.runUnderlying41 rfl rfl Tryd.sizeOf22 rfl) ?_
        obtain ⟨z37, z38, h⟩ := h
        refine HPlan.opsn rfl (HOp.store1 Tryd.sizeOf22 rfl rfl rfl z37 z38) ?_
        rintro _ H35 e36
        replace h := h H35 e36
        refine ⟨SC_of ⟨fun e => absurd e (by decide), fun e => absurd e (by decide), trivial⟩, ?_⟩
        refine HPlan.done ?_
        refine nt ?_
        refine HW.seq ?_
        refine HW.region ?_
        obtain ⟨x40, x41, x42, x43, c39, h⟩ := h
        refine HList.vals (v := (.agg #[(.int .i64 x40), (Sl.v x41), (Sl.v x42), (.string x43)])) rfl (HVal.loadN [(.int .i64 x40), (Sl.v x41), (Sl.v x42), (.string x43)] Tryd.isAgg41 Tryd.sizeOf41 rfl c39) ?_
        refine HList.ops' rfl (HOp.call' 20 [(.agg #[(.int .i64 x40), (Sl.v x41), (Sl.v x42), (.string x43)])] (cap := []) rfl rfl Tryd.call20 (walk20 h)) ?_
        rintro _ H44 ⟨r46, rfl, h⟩
        refine HList.vals (v := (Sl.v r46)) rfl (HVal.assign' rfl) ?_
        refine HList.nil ?_
        refine nt ?_
        refine HW.seq ?_
        refine HW.region ?_
        refine HList.vals (v := (Sl.v y1)) rfl (HVal.move' rfl) ?_
        refine HList.vals (v := (Sl.v r46)) rfl (HVal.move' rfl) ?_
        refine HList.ops' rfl (HOp.buildSlice' (zs := [(Sl.v Sl.nil)]) (cs := [(Sl.v r46)]) Tryd.runUnderlying25 Tryd.sizeOf22 Tryd.zeroValue22 (by decide) (by kernel_rfl) rfl (by decide)) ?_
        rintro _ H47 ⟨rfl, e48⟩
        replace h := h H47 e48
        refine HList.ops' rfl (HOp.append (k := 1) (b := 24) Tryd.runUnderlying25 Tryd.runUnderlying25 Tryd.typeInfo22 rfl rfl Tryd.zeroValue22 rfl rfl h) ?_
        rintro _ H49 ⟨r51, rfl, h⟩
        refine HList.vals (v := (Sl.v r51)) rfl (HVal.assign' rfl) ?_
        refine HList.nil ?_
        refine nt ?_
        refine HW.seq ?_
        refine HW.region ?_
        refine HList.vals (v := (Sl.v y2)) rfl (HVal.move' rfl) ?_
        refine HList.vals (v := (Sl.v r46)) rfl (HVal.move' rfl) ?_
        refine HList.ops' rfl (HOp.append (k := 1) (b := 8) Tryd.runUnderlying22 Tryd.runUnderlying22 Tryd.typeInfo3 rfl rfl Tryd.zeroValue3 rfl rfl h) ?_
        rintro _ H52 ⟨r54, rfl, h⟩
        refine HList.ops' rfl (HOp.buildSlice' (zs := [(Sl.v Sl.nil)]) (cs := [(Sl.v r54)]) Tryd.runUnderlying25 Tryd.sizeOf22 Tryd.zeroValue22 (by decide) (by kernel_rfl) rfl (by decide)) ?_
        rintro _ H55 ⟨rfl, e56⟩
        replace h := h H55 e56
        refine HList.ops' rfl (HOp.append (k := 1) (b := 24) Tryd.runUnderlying25 Tryd.runUnderlying25 Tryd.typeInfo22 rfl rfl Tryd.zeroValue22 rfl rfl h) ?_
        rintro _ H57 ⟨r59, rfl, h⟩
        refine HList.vals (v := (Sl.v r59)) rfl (HVal.assign' rfl) ?_
        refine HList.nil ?_
        refine nt ?_
        refine HW.region ?_
        refine HList.vals (v := (.int .i64 y3)) rfl (HVal.move' rfl) ?_
        refine HList.vals (v := (.int .i64 (IntKind.i64.wrap (y3 + 800)))) rfl (HVal.add rfl rfl) ?_
        refine HList.vals (v := (Sl.v r46)) rfl (HVal.move' rfl) ?_
        refine HList.vals (v := (.int .i64 ((r46).n : Int))) rfl (HVal.len Tryd.runUnderlying22 rfl) ?_
        refine HList.vals (v := (.int .i64 (IntKind.i64.wrap (16 * ((r46).n : Int))))) rfl (HVal.mul rfl rfl) ?_
        refine HList.vals (v := (.int .i64 (IntKind.i64.wrap ((IntKind.i64.wrap (y3 + 800)) + (IntKind.i64.wrap (16 * ((r46).n : Int))))))) rfl (HVal.add rfl rfl) ?_
        refine HList.vals (v := (.int .i64 (IntKind.i64.wrap ((IntKind.i64.wrap (y3 + 800)) + (IntKind.i64.wrap (16 * ((r46).n : Int))))))) rfl (HVal.assign' rfl) ?_
        refine HList.nil ?_
        refine nb ?_
        refine nt ?_
        refine HW.region ?_
        refine HList.vals (v := (.int .i64 y4)) rfl (HVal.move' rfl) ?_
        refine HList.vals (v := (.int .i64 (IntKind.i64.wrap (y4 + 1)))) rfl (HVal.add rfl rfl) ?_
        refine HList.vals (v := (.int .i64 (IntKind.i64.wrap (y4 + 1)))) rfl (HVal.assign' rfl) ?_
        refine HList.nil ?_
        refine nt ?_
        exact (hX2 _ _ _ _ _).1 h _ ⟨rfl, rfl, rfl, rfl, rfl, trivial⟩
      · have h := hF hb8
        clear hT hF
        refine HW.exit ?_
        refine te ?_
        refine te ?_
        refine be ?_
        refine nt ?_
        exact ⟨y1, y2, ⟨rfl, rfl, trivial⟩, h⟩
    · have h := hF hb7
      clear hT hF
      refine HList.gskips rfl rfl rfl rfl (congrArg Value.bool hb7) ?_
      refine HList.gskips rfl rfl rfl rfl (congrArg Value.bool hb7) ?_
      refine HList.vals (v := (.bool false)) rfl (HVal.pickF rfl hb7 rfl) ?_
      refine HList.nil ?_
      refine nt ?_
      refine HW.condF false rfl rfl ?_
      refine HW.exit ?_
      refine te ?_
      refine te ?_
      refine be ?_
      refine nt ?_
      exact ⟨y1, y2, ⟨rfl, rfl, trivial⟩, h⟩
  · rintro ρ H_1 ⟨y60, y61, hI, h⟩
    obtain ⟨ρ0, rfl⟩ : ∃ ρ0, ρ = (Env.set (Env.set ρ0 4 (Sl.v y61)) 3 (Sl.v y60)) := ⟨ρ, hI.eq⟩
    clear hI; unfold F23_1 at h
    refine HW.seq ?_
    refine HW.region ?_
    refine HList.ops' rfl (HOp.alloc Tryd.zeroValue44) ?_
    rintro _ H62 ⟨rfl, e63⟩
    replace h := h H62 e63
    refine HList.nil ?_
    refine nt ?_
    refine HW.cut (fun ρ H_3 => Env.Is ρ [(3, (Sl.v y60)), (9, (.pointer (some ⟨H_1.size, 0, none⟩)))] ∧ F23_3 Q y60 ⟨H_1.size, 0, none⟩ H_3) ?_ ?_
    · refine HW.seq ?_
      refine HW.region ?_
      refine HList.vals (v := (.int .i64 0)) rfl (HVal.assign' rfl) ?_
      refine HList.nil ?_
      refine nt ?_
      refine HW.block ?_
      refine HW.loop' (fun L4 hL4 => ?_)
      obtain ⟨X4, hX4⟩ : ∃ X4 : Int → Hp → Prop, ∀ (y66 : Int) (H_4 : Hp), X4 y66 H_4 ↔ ∀ ρ, Env.Is ρ [(3, (Sl.v y60)), (4, (Sl.v y61)), (9, (.pointer (some ⟨H_1.size, 0, none⟩))), (10, (.int .i64 y66))] → L4 ρ H_4 := ⟨_, fun _ _ => Iff.rfl⟩
      refine (hX4 _ _).1 (h X4 ?_) _ ?_
      rotate_left
      · exact ⟨rfl, rfl, rfl, rfl, trivial⟩
      clear h
      intro y66 H_4 h
      refine (hX4 _ _).2 fun ρ hI => ?_
      obtain ⟨ρ0, rfl⟩ : ∃ ρ0, ρ = (Env.set (Env.set (Env.set (Env.set ρ0 10 (.int .i64 y66)) 9 (.pointer (some ⟨H_1.size, 0, none⟩))) 4 (Sl.v y61)) 3 (Sl.v y60)) := ⟨ρ, hI.eq⟩
      clear hI; unfold F23_L4b at h; refine hL4 _ _ ?_
      refine HW.seq ?_
      refine HW.seq ?_
      refine HW.region ?_
      refine HList.vals (v := (.int .i64 y66)) rfl (HVal.move' rfl) ?_
      refine HList.vals (v := (Sl.v y60)) rfl (HVal.move' rfl) ?_
      refine HList.vals (v := (.int .i64 ((y60).n : Int))) rfl (HVal.len Tryd.runUnderlying25 rfl) ?_
      refine HList.vals (v := (.bool (decide (y66 < ((y60).n : Int))))) rfl (HVal.lss rfl rfl) ?_
      refine HList.nil ?_
      refine nt ?_
      obtain ⟨hT, hF⟩ := h
      refine HW.cond (decide (y66 < ((y60).n : Int))) rfl (fun hb70 => ?_) (fun hb70 => ?_)
      · have h := hT hb70
        clear hT hF
        refine HW.skip ?_
        refine nt ?_
        refine HW.seq ?_
        refine HW.block ?_
        refine HW.seq ?_
        refine HW.draw mixed [(0, some []), (1, some []), (2, some []), (3, some [8]), (4, some []), (5, some []), (6, some []), (7, some [8]), (8, none), (9, some [])] rfl (by kernel_rfl) (by kernel_rfl) ?_
        refine HPlan.takev (v := (Sl.v y60)) rfl rfl (fun _ => HVal.move' rfl) ?_
        refine HPlan.takev (v := (.int .i64 y66)) rfl rfl (fun _ => HVal.move' rfl) ?_
        obtain ⟨a71, e72, b73, b74, h⟩ := h
        refine HPlan.takev (v := (.pointer (some (Addr.add a71 (y66.toNat * 1))))) rfl rfl (fun _ => HVal.indexAddr Tryd.runUnderlying25 Tryd.sizeOf22 (Sl.v_some rfl e72) rfl b73 b74) ?_
        obtain ⟨x76, c75, h⟩ := h
        refine HPlan.takel (v := (Sl.v x76)) (fun X => cell X (Addr.add a71 (y66.toNat * 1)) = some (Sl.v x76)) rfl rfl (fun _ hX => HVal.load1 Tryd.isAgg22 rfl hX) c75 ?_
        refine HPlan.takev (v := (Sl.v y61)) rfl rfl (fun _ => HVal.move' rfl) ?_
        refine HPlan.takev (v := (.int .i64 y66)) rfl rfl (fun _ => HVal.move' rfl) ?_
        obtain ⟨a77, e78, b79, b80, h⟩ := h
        refine HPlan.takev (v := (.pointer (some (Addr.add a77 (y66.toNat * 1))))) rfl rfl (fun _ => HVal.indexAddr Tryd.runUnderlying25 Tryd.sizeOf22 (Sl.v_some rfl e78) rfl b79 b80) ?_
        obtain ⟨x82, c81, h⟩ := h
        refine HPlan.takel (v := (Sl.v x82)) (fun X => cell X (Addr.add a77 (y66.toNat * 1)) = some (Sl.v x82)) rfl rfl (fun _ hX => HVal.load1 Tryd.isAgg22 rfl hX) c81 ?_
        refine HPlan.ops' rfl rfl (HOp.call' 15 [(Sl.v x76), (Sl.v x82)] (cap := []) rfl rfl Tryd.call15 (walk15 h)) ?_
        rintro _ H83 ⟨r85, rfl, h⟩
        refine ⟨SC_of ⟨fun e => absurd e (by decide), fun e => absurd e (by decide), trivial⟩, ?_⟩
        refine HPlan.takev (v := (.bool (!r85))) rfl rfl (fun _ => HVal.not rfl) ?_
        refine HPlan.done ?_
        refine nt ?_
        obtain ⟨hT, hF⟩ := h
        refine HW.cond (!r85) rfl (fun hb86 => ?_) (fun hb86 => ?_)
        · have h := hT hb86
          clear hT hF
          refine HW.seq ?_
          refine HW.region ?_
          refine HList.vals (v := (.bool false)) rfl (HVal.assign' rfl) ?_
          refine HList.nil ?_
          refine nt ?_
          refine HW.ret ?_
          refine br ?_
          refine tr ?_
          refine tr ?_
          refine br ?_
          refine tr ?_
          exact ⟨_, resOf1 rfl Res1.t, ⟨false, rfl, h⟩⟩
        · have h := hF hb86
          clear hT hF
          refine HW.skip ?_
          refine nb ?_
          refine nt ?_
          refine HW.region ?_
          refine HList.vals (v := (.int .i64 y66)) rfl (HVal.move' rfl) ?_
          refine HList.vals (v := (.int .i64 (IntKind.i64.wrap (y66 + 1)))) rfl (HVal.add rfl rfl) ?_
          refine HList.vals (v := (.int .i64 (IntKind.i64.wrap (y66 + 1)))) rfl (HVal.assign' rfl) ?_
          refine HList.nil ?_
          refine nt ?_
          exact (hX4 _ _).1 h _ ⟨rfl, rfl, rfl, rfl, trivial⟩
      · have h := hF hb70
        clear hT hF
        refine HW.exit ?_
        refine te ?_
        refine te ?_
        refine be ?_
        refine nt ?_
        exact ⟨⟨rfl, rfl, trivial⟩, h⟩
    · rintro ρ H_3 ⟨hI, h⟩
      obtain ⟨ρ0, rfl⟩ : ∃ ρ0, ρ = (Env.set (Env.set ρ0 9 (.pointer (some ⟨H_1.size, 0, none⟩))) 3 (Sl.v y60)) := ⟨ρ, hI.eq⟩
      clear hI; unfold F23_3 at h
      refine HW.cut (fun ρ H_5 => Env.Is ρ [(9, (.pointer (some ⟨H_1.size, 0, none⟩)))] ∧ F23_5 Q ⟨H_1.size, 0, none⟩ H_5) ?_ ?_
      · refine HW.seq ?_
        refine HW.region ?_
        refine HList.vals (v := (.int .i64 0)) rfl (HVal.assign' rfl) ?_
        refine HList.nil ?_
        refine nt ?_
        refine HW.block ?_
        refine HW.loop' (fun L6 hL6 => ?_)
        obtain ⟨X6, hX6⟩ : ∃ X6 : Int → Hp → Prop, ∀ (y88 : Int) (H_6 : Hp), X6 y88 H_6 ↔ ∀ ρ, Env.Is ρ [(3, (Sl.v y60)), (9, (.pointer (some ⟨H_1.size, 0, none⟩))), (11, (.int .i64 y88))] → L6 ρ H_6 := ⟨_, fun _ _ => Iff.rfl⟩
        refine (hX6 _ _).1 (h X6 ?_) _ ?_
        rotate_left
        · exact ⟨rfl, rfl, rfl, trivial⟩
        clear h
        intro y88 H_6 h
        refine (hX6 _ _).2 fun ρ hI => ?_
        obtain ⟨ρ0, rfl⟩ : ∃ ρ0, ρ = (Env.set (Env.set (Env.set ρ0 11 (.int .i64 y88)) 9 (.pointer (some ⟨H_1.size, 0, none⟩))) 3 (Sl.v y60)) := ⟨ρ, hI.eq⟩
        clear hI; unfold F23_L6b at h; refine hL6 _ _ ?_
        refine HW.seq ?_
        refine HW.seq ?_
        refine HW.region ?_
        refine HList.vals (v := (.int .i64 y88)) rfl (HVal.move' rfl) ?_
        refine HList.vals (v := (Sl.v y60)) rfl (HVal.move' rfl) ?_
        refine HList.vals (v := (.int .i64 ((y60).n : Int))) rfl (HVal.len Tryd.runUnderlying25 rfl) ?_
        refine HList.vals (v := (.bool (decide (y88 < ((y60).n : Int))))) rfl (HVal.lss rfl rfl) ?_
        refine HList.nil ?_
        refine nt ?_
        obtain ⟨hT, hF⟩ := h
        refine HW.cond (decide (y88 < ((y60).n : Int))) rfl (fun hb91 => ?_) (fun hb91 => ?_)
        · have h := hT hb91
          clear hT hF
          refine HW.skip ?_
          refine nt ?_
          refine HW.seq ?_
          refine HW.block ?_
          refine HW.region ?_
          refine HList.vals (v := (Sl.v y60)) rfl (HVal.move' rfl) ?_
          refine HList.vals (v := (.int .i64 y88)) rfl (HVal.move' rfl) ?_
          obtain ⟨a92, e93, b94, b95, h⟩ := h
          refine HList.vals (v := (.pointer (some (Addr.add a92 (y88.toNat * 1))))) rfl (HVal.indexAddr Tryd.runUnderlying25 Tryd.sizeOf22 (Sl.v_some rfl e93) rfl b94 b95) ?_
          obtain ⟨x97, c96, h⟩ := h
          refine HList.vals (v := (Sl.v x97)) rfl (HVal.load1 Tryd.isAgg22 rfl c96) ?_
          refine HList.ops' rfl (HOp.call' 41 [(.pointer (some ⟨H_1.size, 0, none⟩)), (Sl.v x97)] (cap := []) rfl rfl Tryd.call41 (walk41 h)) ?_
          rintro _ H98 ⟨rfl, h⟩
          refine HList.nil ?_
          refine nb ?_
          refine nt ?_
          refine HW.region ?_
          refine HList.vals (v := (.int .i64 y88)) rfl (HVal.move' rfl) ?_
          refine HList.vals (v := (.int .i64 (IntKind.i64.wrap (y88 + 1)))) rfl (HVal.add rfl rfl) ?_
          refine HList.vals (v := (.int .i64 (IntKind.i64.wrap (y88 + 1)))) rfl (HVal.assign' rfl) ?_
          refine HList.nil ?_
          refine nt ?_
          exact (hX6 _ _).1 h _ ⟨rfl, rfl, rfl, trivial⟩
        · have h := hF hb91
          clear hT hF
          refine HW.exit ?_
          refine te ?_
          refine te ?_
          refine be ?_
          refine nt ?_
          exact ⟨⟨rfl, trivial⟩, h⟩
      · rintro ρ H_5 ⟨hI, h⟩
        obtain ⟨ρ0, rfl⟩ : ∃ ρ0, ρ = (Env.set ρ0 9 (.pointer (some ⟨H_1.size, 0, none⟩))) := ⟨ρ, hI.eq⟩
        clear hI; unfold F23_5 at h
        refine HW.seq ?_
        refine HW.region ?_
        refine HList.ops' rfl (HOp.call' 42 [(.pointer (some ⟨H_1.size, 0, none⟩))] (cap := []) rfl rfl Tryd.call42 (walk42 h)) ?_
        rintro _ H100 ⟨rfl, h⟩
        refine HList.nil ?_
        refine nt ?_
        refine HW.seq ?_
        refine HW.region ?_
        refine HList.ops' rfl (HOp.call' 22 [(.pointer (some ⟨H_1.size, 0, none⟩))] (cap := []) rfl rfl Tryd.call22 (walk22 h)) ?_
        rintro _ H102 ⟨r104, rfl, h⟩
        refine HList.vals (v := (.bool r104)) rfl (HVal.assign' rfl) ?_
        refine HList.nil ?_
        refine nt ?_
        refine HW.ret ?_
        exact ⟨_, resOf1 rfl Res1.t, ⟨r104, rfl, h⟩⟩

def F7_1 (Q : Bool → Hp → Prop) (y7 : Sl) (y8 : Addr) (H_1 : Hp) : Prop :=
F22 (some y8) H_1 (fun (r144 : Bool) (H142 : Hp) => 
 (r144 = true → (F23 y7 H142 (fun (r149 : Bool) (H147 : Hp) => 
 Q r149 H147))) ∧
 (r144 = false → (Q false H142)))
def F7_7 (Q : Bool → Hp → Prop) (X2 : Int → Hp → Prop) (y122 : Sl) (y123 : Addr) (y124 : Int) (y135 : Bool) (H_7 : Hp) : Prop :=
(y135 = true → (Q false H_7)) ∧
 (y135 = false → (X2 (IntKind.i64.wrap (y124 + 1)) H_7))
def F7_5 (Q : Bool → Hp → Prop) (X2 : Int → Hp → Prop) (y100 : Sl) (y101 : Addr) (y102 : Int) (y103 : Addr) (H_5 : Hp) : Prop :=
∃ (x126 : Int) (x127 : Sl) (x128 : Sl) (x129 : ByteArray), cells H_5 y103 [(.int .i64 x126), (Sl.v x127), (Sl.v x128), (.string x129)] 0 ∧ (
 F19 x126 x127 x128 x129 H_5 (fun (r132 : Bool) (H130 : Hp) => 
 ((!r132) = true → (F7_7 Q X2 y100 y101 y102 true H130)) ∧
 ((!r132) = false → (((decide ((Int.tmod y102 (64 : Int)) = 63)) = true → (F22 (some y101) H130 (fun (r140 : Bool) (H138 : Hp) => 
 F7_7 Q X2 y100 y101 y102 (!r140) H138))) ∧
 ((decide ((Int.tmod y102 (64 : Int)) = 63)) = false → (F7_7 Q X2 y100 y101 y102 false H130))))))
def F7_L6b (Q : Bool → Hp → Prop) (X2 : Int → Hp → Prop) (X6 : Int → Hp → Prop) (y105 : Sl) (y106 : Addr) (y107 : Int) (y108 : Addr) (y109 : Addr) (y104 : Int) (H_6 : Hp) : Prop :=
∃ x111 : Sl, cell H_6 (Addr.add y109 1) = some (Sl.v x111) ∧ (
 ((decide (y104 < ((x111).n : Int))) = true → (∃ x114 : Sl, cell H_6 (Addr.add y109 1) = some (Sl.v x114) ∧ (
 ∃ a115 : Addr, (x114).b = some a115 ∧ (0 : Int) ≤ y104 ∧ y104 < ((x114).n : Int) ∧ (
 ∃ x120 : Int, cell H_6 (Addr.add a115 (y104.toNat * 1)) = some (.int .i64 x120) ∧ (
 ((decide (x120 ≠ (-5))) = true → (Q false H_6)) ∧
 ((decide (x120 ≠ (-5))) = false → (X6 (IntKind.i64.wrap (y104 + 1)) H_6))))))) ∧
 ((decide (y104 < ((x111).n : Int))) = false → (F7_5 Q X2 y105 y106 y107 y108 H_6)))
def F7_L6 (Q : Bool → Hp → Prop) (X2 : Int → Hp → Prop) (y105 : Sl) (y106 : Addr) (y107 : Int) (y108 : Addr) (y109 : Addr) (y104 : Int) (H_6 : Hp) : Prop :=
  ∀ X6 : Int → Hp → Prop, (∀ (y104 : Int) (H_6 : Hp), F7_L6b Q X2 X6 y105 y106 y107 y108 y109 y104 H_6 → X6 y104 H_6) → X6 y104 H_6
def F7_3 (Q : Bool → Hp → Prop) (X2 : Int → Hp → Prop) (y66 : Sl) (y67 : Addr) (y68 : Int) (y69 : Addr) (y70 : Addr) (y71 : Sl) (y72 : Sl) (H_3 : Hp) : Prop :=
F15 y71 y72 H_3 (fun (r96 : Bool) (H94 : Hp) => 
 ((!r96) = true → (Q false H94)) ∧
 ((!r96) = false → (F21 (some y67) y71 H94 (fun (H98 : Hp) => 
 F7_L6 Q X2 y66 y67 y68 y69 y70 0 H98))))
def F7_L4b (Q : Bool → Hp → Prop) (X2 : Int → Hp → Prop) (X4 : Int → Hp → Prop) (y74 : Sl) (y75 : Addr) (y76 : Int) (y77 : Addr) (y78 : Addr) (y79 : Sl) (y80 : Sl) (y73 : Int) (H_4 : Hp) : Prop :=
∃ x82 : Sl, cell H_4 (Addr.add y78 1) = some (Sl.v x82) ∧ (
 ((decide (y73 < ((x82).n : Int))) = true → (∃ x85 : Sl, cell H_4 (Addr.add y78 1) = some (Sl.v x85) ∧ (
 ∃ a86 : Addr, (x85).b = some a86 ∧ (0 : Int) ≤ y73 ∧ y73 < ((x85).n : Int) ∧ (
 (cell H_4 (Addr.add a86 (y73.toNat * 1))).isSome = true ∧ frz H_4 (Addr.add a86 (y73.toNat * 1)) = false ∧ ∀ H90 : Hp, H90 = setc H_4 (Addr.add a86 (y73.toNat * 1)) (.int .i64 (-5)) → (
 X4 (IntKind.i64.wrap (y73 + 1)) H90))))) ∧
 ((decide (y73 < ((x82).n : Int))) = false → (F7_3 Q X2 y74 y75 y76 y77 y78 y79 y80 H_4)))
def F7_L4 (Q : Bool → Hp → Prop) (X2 : Int → Hp → Prop) (y74 : Sl) (y75 : Addr) (y76 : Int) (y77 : Addr) (y78 : Addr) (y79 : Sl) (y80 : Sl) (y73 : Int) (H_4 : Hp) : Prop :=
  ∀ X4 : Int → Hp → Prop, (∀ (y73 : Int) (H_4 : Hp), F7_L4b Q X2 X4 y74 y75 y76 y77 y78 y79 y80 y73 H_4 → X4 y73 H_4) → X4 y73 H_4
def F7_L2b (Q : Bool → Hp → Prop) (X2 : Int → Hp → Prop) (y10 : Sl) (y11 : Addr) (y9 : Int) (H_2 : Hp) : Prop :=
((decide (y9 < ((y10).n : Int))) = true → (∃ a13 : Addr, (y10).b = some a13 ∧ (0 : Int) ≤ y9 ∧ y9 < ((y10).n : Int) ∧ (
 ∃ (x18 : Int) (x19 : Sl) (x20 : Sl) (x21 : ByteArray), cells H_2 (Addr.add a13 (y9.toNat * 4)) [(.int .i64 x18), (Sl.v x19), (Sl.v x20), (.string x21)] 0 ∧ (
 ∀ H22 : Hp, H22 = Array.push H_2 (.cells #[(.int .i64 0), (Sl.v Sl.nil), (Sl.v Sl.nil), (.string (ByteArray.mk #[]))] 41) → (
 mayw H22 ⟨H_2.size, 0, none⟩ 4 0 ∧ ∀ H24 : Hp, H24 = sets H22 ⟨H_2.size, 0, none⟩ [(.int .i64 x18), (Sl.v x19), (Sl.v x20), (.string x21)] 0 → (
 ∃ (x28 : Int) (x29 : Sl) (x30 : Sl) (x31 : ByteArray), cells H24 ⟨H_2.size, 0, none⟩ [(.int .i64 x28), (Sl.v x29), (Sl.v x30), (.string x31)] 0 ∧ (
 F19 x28 x29 x30 x31 H24 (fun (r34 : Bool) (H32 : Hp) => 
 ((!r34) = true → (Q false H32)) ∧
 ((!r34) = false → (∃ (x37 : Int) (x38 : Sl) (x39 : Sl) (x40 : ByteArray), cells H32 ⟨H_2.size, 0, none⟩ [(.int .i64 x37), (Sl.v x38), (Sl.v x39), (.string x40)] 0 ∧ (
 ∀ H41 : Hp, H41 = Array.push H32 (.cells #[(.int .i64 0), (Sl.v Sl.nil), (Sl.v Sl.nil), (.string (ByteArray.mk #[]))] 41) → (
 mayw H41 ⟨H32.size, 0, none⟩ 4 0 ∧ ∀ H43 : Hp, H43 = sets H41 ⟨H32.size, 0, none⟩ [(.int .i64 x37), (Sl.v x38), (Sl.v x39), (.string x40)] 0 → (
 ∃ x47 : Sl, cell H43 (Addr.add ⟨H_2.size, 0, none⟩ 1) = some (Sl.v x47) ∧ (
 AppendF H43 3 1 8 #[(.int .i64 0)] Sl.nil (x47).b (x47).n (fun (r50 : Sl) (H48 : Hp) => 
 (cell H48 (Addr.add ⟨H32.size, 0, none⟩ 1)).isSome = true ∧ frz H48 (Addr.add ⟨H32.size, 0, none⟩ 1) = false ∧ ∀ H51 : Hp, H51 = setc H48 (Addr.add ⟨H32.size, 0, none⟩ 1) (Sl.v r50) → (
 ∃ (x56 : Int) (x57 : Sl) (x58 : Sl) (x59 : ByteArray), cells H51 ⟨H32.size, 0, none⟩ [(.int .i64 x56), (Sl.v x57), (Sl.v x58), (.string x59)] 0 ∧ (
 F20 x56 x57 x58 x59 H51 (fun (r62 : Sl) (H60 : Hp) => 
 AppendF H60 3 1 8 #[(.int .i64 0)] Sl.nil (r62).b (r62).n (fun (r65 : Sl) (H63 : Hp) => 
 F7_L4 Q X2 y10 y11 y9 ⟨H_2.size, 0, none⟩ ⟨H32.size, 0, none⟩ r62 r65 0 H63))))))))))))))))))) ∧
 ((decide (y9 < ((y10).n : Int))) = false → (F7_1 Q y10 y11 H_2))
def F7_L2 (Q : Bool → Hp → Prop) (y10 : Sl) (y11 : Addr) (y9 : Int) (H_2 : Hp) : Prop :=
  ∀ X2 : Int → Hp → Prop, (∀ (y9 : Int) (H_2 : Hp), F7_L2b Q X2 y10 y11 y9 H_2 → X2 y9 H_2) → X2 y9 H_2
def F7 (p0 : Sl) (H : Hp) (Q : Bool → Hp → Prop) : Prop :=
F9 H (fun (r3 : Bool) (H1 : Hp) => 
 ((!r3) = true → (Q false H1)) ∧
 ((!r3) = false → (∀ H5 : Hp, H5 = Array.push H1 (.cells #[(Sl.v Sl.nil), (.int .i64 0), (.int .i64 0)] 44) → (
 F7_L2 Q p0 ⟨H1.size, 0, none⟩ 0 H5))))
set_option maxRecDepth 100000 in
set_option maxHeartbeats 4000000 in
theorem walk7 {w0 : World} {p0 : Sl} {H : Hp} {Q : Bool → Hp → Prop} (h : F7 p0 H Q) :
    Good Tryd.prog w0 7 #[(Sl.v p0)] H (fun v H => ∃ (r0 : Bool) , v = (.bool r0) ∧ Q r0 H) := by
  unfold F7 at h
  refine Good.enter' (fn := Tryd.f7) Tryd.func7 rfl rfl rfl ?_
  refine HW.seq ?_
  refine HW.region ?_
  refine HList.vals (v := (.bool false)) rfl (HVal.assign' rfl) ?_
  refine HList.nil ?_
  refine nt ?_
  refine HW.seq ?_
  refine HW.seq ?_
  refine HW.region ?_
  refine HList.ops' rfl (HOp.call' 9 [] (cap := []) rfl rfl Tryd.call9 (walk9 h)) ?_
  rintro _ H1 ⟨r3, rfl, h⟩
  refine HList.vals (v := (.bool (!r3))) rfl (HVal.not rfl) ?_
  refine HList.nil ?_
  refine nt ?_
  obtain ⟨hT, hF⟩ := h
  refine HW.cond (!r3) rfl (fun hb4 => ?_) (fun hb4 => ?_)
  · have h := hT hb4
    clear hT hF
    refine HW.seq ?_
    refine HW.region ?_
    refine HList.vals (v := (.bool false)) rfl (HVal.assign' rfl) ?_
    refine HList.nil ?_
    refine nt ?_
    refine HW.ret ?_
    refine tr ?_
    exact ⟨_, resOf1 rfl Res1.t, ⟨false, rfl, h⟩⟩
  · have h := hF hb4
    clear hT hF
    refine HW.skip ?_
    refine nt ?_
    refine HW.seq ?_
    refine HW.region ?_
    refine HList.ops' rfl (HOp.alloc Tryd.zeroValue44) ?_
    rintro _ H5 ⟨rfl, e6⟩
    replace h := h H5 e6
    refine HList.nil ?_
    refine nt ?_
    refine HW.cut (fun ρ H_1 => Env.Is ρ [(0, (Sl.v p0)), (3, (.pointer (some ⟨H1.size, 0, none⟩)))] ∧ F7_1 Q p0 ⟨H1.size, 0, none⟩ H_1) ?_ ?_
    · refine HW.seq ?_
      refine HW.region ?_
      refine HList.vals (v := (.int .i64 0)) rfl (HVal.assign' rfl) ?_
      refine HList.nil ?_
      refine nt ?_
      refine HW.block ?_
      refine HW.loop' (fun L2 hL2 => ?_)
      obtain ⟨X2, hX2⟩ : ∃ X2 : Int → Hp → Prop, ∀ (y9 : Int) (H_2 : Hp), X2 y9 H_2 ↔ ∀ ρ, Env.Is ρ [(0, (Sl.v p0)), (3, (.pointer (some ⟨H1.size, 0, none⟩))), (4, (.int .i64 y9))] → L2 ρ H_2 := ⟨_, fun _ _ => Iff.rfl⟩
      refine (hX2 _ _).1 (h X2 ?_) _ ?_
      rotate_left
      · exact ⟨rfl, rfl, rfl, trivial⟩
      clear h
      intro y9 H_2 h
      refine (hX2 _ _).2 fun ρ hI => ?_
      obtain ⟨ρ0, rfl⟩ : ∃ ρ0, ρ = (Env.set (Env.set (Env.set ρ0 4 (.int .i64 y9)) 3 (.pointer (some ⟨H1.size, 0, none⟩))) 0 (Sl.v p0)) := ⟨ρ, hI.eq⟩
      clear hI; unfold F7_L2b at h; refine hL2 _ _ ?_
      refine HW.seq ?_
      refine HW.seq ?_
      refine HW.region ?_
      refine HList.vals (v := (.int .i64 y9)) rfl (HVal.move' rfl) ?_
      refine HList.vals (v := (Sl.v p0)) rfl (HVal.move' rfl) ?_
      refine HList.vals (v := (.int .i64 ((p0).n : Int))) rfl (HVal.len Tryd.runUnderlying38 rfl) ?_
      refine HList.vals (v := (.bool (decide (y9 < ((p0).n : Int))))) rfl (HVal.lss rfl rfl) ?_
      refine HList.nil ?_
      refine nt ?_
      obtain ⟨hT, hF⟩ := h
      refine HW.cond (decide (y9 < ((p0).n : Int))) rfl (fun hb12 => ?_) (fun hb12 => ?_)
      · have h := hT hb12
        clear hT hF
        refine HW.skip ?_
        refine nt ?_
        refine HW.seq ?_
        refine HW.block ?_
        refine HW.seq ?_
        refine HW.region ?_
        refine HList.vals (v := (Sl.v p0)) rfl (HVal.move' rfl) ?_
        refine HList.vals (v := (.int .i64 y9)) rfl (HVal.move' rfl) ?_
        obtain ⟨a13, e14, b15, b16, h⟩ := h
        refine HList.vals (v := (.pointer (some (Addr.add a13 (y9.toNat * 4))))) rfl (HVal.indexAddr Tryd.runUnderlying38 Tryd.sizeOf41 (Sl.v_some rfl e14) rfl b15 b16) ?_
        obtain ⟨x18, x19, x20, x21, c17, h⟩ := h
        refine HList.vals (v := (.agg #[(.int .i64 x18), (Sl.v x19), (Sl.v x20), (.string x21)])) rfl (HVal.loadN [(.int .i64 x18), (Sl.v x19), (Sl.v x20), (.string x21)] Tryd.isAgg41 Tryd.sizeOf41 rfl c17) ?_
        refine HList.ops' rfl (HOp.alloc Tryd.zeroValue41) ?_
        rintro _ H22 ⟨rfl, e23⟩
        replace h := h H22 e23
        obtain ⟨z26, h⟩ := h
        refine HList.opsn (HOp.storeN' (l := [(.int .i64 x18), (Sl.v x19), (Sl.v x20), (.string x21)]) Tryd.sizeOf41 rfl rfl rfl z26) ?_
        rintro _ H24 e25
        replace h := h H24 e25
        refine HList.nil ?_
        refine nt ?_
        refine HW.seq ?_
        refine HW.seq ?_
        refine HW.region ?_
        obtain ⟨x28, x29, x30, x31, c27, h⟩ := h
        refine HList.vals (v := (.agg #[(.int .i64 x28), (Sl.v x29), (Sl.v x30), (.string x31)])) rfl (HVal.loadN [(.int .i64 x28), (Sl.v x29), (Sl.v x30), (.string x31)] Tryd.isAgg41 Tryd.sizeOf41 rfl c27) ?_
        refine HList.ops' rfl (HOp.call' 19 [(.agg #[(.int .i64 x28), (Sl.v x29), (Sl.v x30), (.string x31)])] (cap := []) rfl rfl Tryd.call19 (walk19 h)) ?_
        rintro _ H32 ⟨r34, rfl, h⟩
        refine HList.vals (v := (.bool (!r34))) rfl (HVal.not rfl) ?_
        refine HList.nil ?_
        refine nt ?_
        obtain ⟨hT, hF⟩ := h
        refine HW.cond (!r34) rfl (fun hb35 => ?_) (fun hb35 => ?_)
        · have h := hT hb35
          clear hT hF
          refine HW.seq ?_
          refine HW.region ?_
          refine HList.vals (v := (.bool false)) rfl (HVal.assign' rfl) ?_
          refine HList.nil ?_
          refine nt ?_
          refine HW.ret ?_
          refine tr ?_
          refine br ?_
          refine tr ?_
          refine tr ?_
          refine br ?_
          refine tr ?_
          exact ⟨_, resOf1 rfl Res1.t, ⟨false, rfl, h⟩⟩
        · have h := hF hb35
          clear hT hF
          refine HW.skip ?_
          refine nt ?_
          refine HW.seq ?_
          refine HW.region ?_
          obtain ⟨x37, x38, x39, x40, c36, h⟩ := h
          refine HList.vals (v := (.agg #[(.int .i64 x37), (Sl.v x38), (Sl.v x39), (.string x40)])) rfl (HVal.loadN [(.int .i64 x37), (Sl.v x38), (Sl.v x39), (.string x40)] Tryd.isAgg41 Tryd.sizeOf41 rfl c36) ?_
          refine HList.ops' rfl (HOp.alloc Tryd.zeroValue41) ?_
          rintro _ H41 ⟨rfl, e42⟩
          replace h := h H41 e42
          obtain ⟨z45, h⟩ := h
          refine HList.opsn (HOp.storeN' (l := [(.int .i64 x37), (Sl.v x38), (Sl.v x39), (.string x40)]) Tryd.sizeOf41 rfl rfl rfl z45) ?_
          rintro _ H43 e44
          replace h := h H43 e44
          refine HList.nil ?_
          refine nt ?_
          refine HW.seq ?_
          refine HW.region ?_
          refine HList.vals (v := (.pointer (some (Addr.add ⟨H_2.size, 0, none⟩ 1)))) rfl (HVal.fieldAddr' Tryd.runUnderlying41 rfl rfl Tryd.sizeOf22 rfl) ?_
          obtain ⟨x47, c46, h⟩ := h
          refine HList.vals (v := (Sl.v x47)) rfl (HVal.load1 Tryd.isAgg22 rfl c46) ?_
          refine HList.ops' rfl (HOp.append (k := 1) (b := 8) Tryd.runUnderlying22 Tryd.runUnderlying22 Tryd.typeInfo3 rfl rfl Tryd.zeroValue3 rfl rfl h) ?_
          rintro _ H48 ⟨r50, rfl, h⟩
          refine HList.vals (v := (.pointer (some (Addr.add ⟨H32.size, 0, none⟩ 1)))) rfl (HVal.fieldAddr' Tryd.runUnderlying41 rfl rfl Tryd.sizeOf22 rfl) ?_
          obtain ⟨z53, z54, h⟩ := h
          refine HList.opsn (HOp.store1 Tryd.sizeOf22 rfl rfl rfl z53 z54) ?_
          rintro _ H51 e52
          replace h := h H51 e52
          refine HList.nil ?_
          refine nt ?_
          refine HW.seq ?_
          refine HW.region ?_
          obtain ⟨x56, x57, x58, x59, c55, h⟩ := h
          refine HList.vals (v := (.agg #[(.int .i64 x56), (Sl.v x57), (Sl.v x58), (.string x59)])) rfl (HVal.loadN [(.int .i64 x56), (Sl.v x57), (Sl.v x58), (.string x59)] Tryd.isAgg41 Tryd.sizeOf41 rfl c55) ?_
          refine HList.ops' rfl (HOp.call' 20 [(.agg #[(.int .i64 x56), (Sl.v x57), (Sl.v x58), (.string x59)])] (cap := []) rfl rfl Tryd.call20 (walk20 h)) ?_
          rintro _ H60 ⟨r62, rfl, h⟩
          refine HList.vals (v := (Sl.v r62)) rfl (HVal.assign' rfl) ?_
          refine HList.nil ?_
          refine nt ?_
          refine HW.seq ?_
          refine HW.region ?_
          refine HList.vals (v := (Sl.v r62)) rfl (HVal.move' rfl) ?_
          refine HList.ops' rfl (HOp.append (k := 1) (b := 8) Tryd.runUnderlying22 Tryd.runUnderlying22 Tryd.typeInfo3 rfl rfl Tryd.zeroValue3 rfl rfl h) ?_
          rintro _ H63 ⟨r65, rfl, h⟩
          refine HList.vals (v := (Sl.v r65)) rfl (HVal.assign' rfl) ?_
          refine HList.nil ?_
          refine nt ?_
          refine HW.cut (fun ρ H_3 => Env.Is ρ [(0, (Sl.v p0)), (3, (.pointer (some ⟨H1.size, 0, none⟩))), (4, (.int .i64 y9)), (5, (.pointer (some ⟨H_2.size, 0, none⟩))), (6, (.pointer (some ⟨H32.size, 0, none⟩))), (7, (Sl.v r62)), (8, (Sl.v r65))] ∧ F7_3 Q X2 p0 ⟨H1.size, 0, none⟩ y9 ⟨H_2.size, 0, none⟩ ⟨H32.size, 0, none⟩ r62 r65 H_3) ?_ ?_
          · refine HW.seq ?_
            refine HW.region ?_
            refine HList.vals (v := (.int .i64 0)) rfl (HVal.assign' rfl) ?_
            refine HList.nil ?_
            refine nt ?_
            refine HW.block ?_
            refine HW.loop' (fun L4 hL4 => ?_)
            obtain ⟨X4, hX4⟩ : ∃ X4 : Int → Hp → Prop, ∀ (y73 : Int) (H_4 : Hp), X4 y73 H_4 ↔ ∀ ρ, Env.Is ρ [(0, (Sl.v p0)), (3, (.pointer (some ⟨H1.size, 0, none⟩))), (4, (.int .i64 y9)), (5, (.pointer (some ⟨H_2.size, 0, none⟩))), (6, (.pointer (some ⟨H32.size, 0, none⟩))), (7, (Sl.v r62)), (8, (Sl.v r65)), (9, (.int .i64 y73))] → L4 ρ H_4 := ⟨_, fun _ _ => Iff.rfl⟩
            refine (hX4 _ _).1 (h X4 ?_) _ ?_
            rotate_left
            · exact ⟨rfl, rfl, rfl, rfl, rfl, rfl, rfl, rfl, trivial⟩
            clear h
            intro y73 H_4 h
            refine (hX4 _ _).2 fun ρ hI => ?_
            obtain ⟨ρ0, rfl⟩ : ∃ ρ0, ρ = (Env.set (Env.set (Env.set (Env.set (Env.set (Env.set (Env.set (Env.set ρ0 9 (.int .i64 y73)) 8 (Sl.v r65)) 7 (Sl.v r62)) 6 (.pointer (some ⟨H32.size, 0, none⟩))) 5 (.pointer (some ⟨H_2.size, 0, none⟩))) 4 (.int .i64 y9)) 3 (.pointer (some ⟨H1.size, 0, none⟩))) 0 (Sl.v p0)) := ⟨ρ, hI.eq⟩
            clear hI; unfold F7_L4b at h; refine hL4 _ _ ?_
            refine HW.seq ?_
            refine HW.seq ?_
            refine HW.region ?_
            refine HList.vals (v := (.int .i64 y73)) rfl (HVal.move' rfl) ?_
            refine HList.vals (v := (.pointer (some (Addr.add ⟨H32.size, 0, none⟩ 1)))) rfl (HVal.fieldAddr' Tryd.runUnderlying41 rfl rfl Tryd.sizeOf22 rfl) ?_
            obtain ⟨x82, c81, h⟩ := h
            refine HList.vals (v := (Sl.v x82)) rfl (HVal.load1 Tryd.isAgg22 rfl c81) ?_
            refine HList.vals (v := (.int .i64 ((x82).n : Int))) rfl (HVal.len Tryd.runUnderlying22 rfl) ?_
            refine HList.vals (v := (.bool (decide (y73 < ((x82).n : Int))))) rfl (HVal.lss rfl rfl) ?_
            refine HList.nil ?_
            refine nt ?_
            obtain ⟨hT, hF⟩ := h
            refine HW.cond (decide (y73 < ((x82).n : Int))) rfl (fun hb83 => ?_) (fun hb83 => ?_)
            · have h := hT hb83
              clear hT hF
              refine HW.skip ?_
              refine nt ?_
              refine HW.seq ?_
              refine HW.block ?_
              refine HW.region ?_
              refine HList.vals (v := (.pointer (some (Addr.add ⟨H32.size, 0, none⟩ 1)))) rfl (HVal.fieldAddr' Tryd.runUnderlying41 rfl rfl Tryd.sizeOf22 rfl) ?_
              obtain ⟨x85, c84, h⟩ := h
              refine HList.vals (v := (Sl.v x85)) rfl (HVal.load1 Tryd.isAgg22 rfl c84) ?_
              refine HList.vals (v := (.int .i64 y73)) rfl (HVal.move' rfl) ?_
              obtain ⟨a86, e87, b88, b89, h⟩ := h
              refine HList.vals (v := (.pointer (some (Addr.add a86 (y73.toNat * 1))))) rfl (HVal.indexAddr Tryd.runUnderlying22 Tryd.sizeOf3 (Sl.v_some rfl e87) rfl b88 b89) ?_
              obtain ⟨z92, z93, h⟩ := h
              refine HList.opsn (HOp.store1 Tryd.sizeOf3 rfl rfl rfl z92 z93) ?_
              rintro _ H90 e91
              replace h := h H90 e91
              refine HList.nil ?_
              refine nb ?_
              refine nt ?_
              refine HW.region ?_
              refine HList.vals (v := (.int .i64 y73)) rfl (HVal.move' rfl) ?_
              refine HList.vals (v := (.int .i64 (IntKind.i64.wrap (y73 + 1)))) rfl (HVal.add rfl rfl) ?_
              refine HList.vals (v := (.int .i64 (IntKind.i64.wrap (y73 + 1)))) rfl (HVal.assign' rfl) ?_
              refine HList.nil ?_
              refine nt ?_
              exact (hX4 _ _).1 h _ ⟨rfl, rfl, rfl, rfl, rfl, rfl, rfl, rfl, trivial⟩
            · have h := hF hb83
              clear hT hF
              refine HW.exit ?_
              refine te ?_
              refine te ?_
              refine be ?_
              refine nt ?_
              exact ⟨⟨rfl, rfl, rfl, rfl, rfl, rfl, rfl, trivial⟩, h⟩
          · rintro ρ H_3 ⟨hI, h⟩
            obtain ⟨ρ0, rfl⟩ : ∃ ρ0, ρ = (Env.set (Env.set (Env.set (Env.set (Env.set (Env.set (Env.set ρ0 8 (Sl.v r65)) 7 (Sl.v r62)) 6 (.pointer (some ⟨H32.size, 0, none⟩))) 5 (.pointer (some ⟨H_2.size, 0, none⟩))) 4 (.int .i64 y9)) 3 (.pointer (some ⟨H1.size, 0, none⟩))) 0 (Sl.v p0)) := ⟨ρ, hI.eq⟩
            clear hI; unfold F7_3 at h
            refine HW.seq ?_
            refine HW.seq ?_
            refine HW.region ?_
            refine HList.vals (v := (Sl.v r62)) rfl (HVal.move' rfl) ?_
            refine HList.vals (v := (Sl.v r65)) rfl (HVal.move' rfl) ?_
            refine HList.ops' rfl (HOp.call' 15 [(Sl.v r62), (Sl.v r65)] (cap := []) rfl rfl Tryd.call15 (walk15 h)) ?_
            rintro _ H94 ⟨r96, rfl, h⟩
            refine HList.vals (v := (.bool (!r96))) rfl (HVal.not rfl) ?_
            refine HList.nil ?_
            refine nt ?_
            obtain ⟨hT, hF⟩ := h
            refine HW.cond (!r96) rfl (fun hb97 => ?_) (fun hb97 => ?_)
            · have h := hT hb97
              clear hT hF
              refine HW.seq ?_
              refine HW.region ?_
              refine HList.vals (v := (.bool false)) rfl (HVal.assign' rfl) ?_
              refine HList.nil ?_
              refine nt ?_
              refine HW.ret ?_
              refine tr ?_
              refine br ?_
              refine tr ?_
              refine tr ?_
              refine br ?_
              refine tr ?_
              exact ⟨_, resOf1 rfl Res1.t, ⟨false, rfl, h⟩⟩
            · have h := hF hb97
              clear hT hF
              refine HW.skip ?_
              refine nt ?_
              refine HW.seq ?_
              refine HW.region ?_
              refine HList.vals (v := (Sl.v r62)) rfl (HVal.move' rfl) ?_
              refine HList.ops' rfl (HOp.call' 21 [(.pointer (some ⟨H1.size, 0, none⟩)), (Sl.v r62)] (cap := []) rfl rfl Tryd.call21 (walk21 h)) ?_
              rintro _ H98 ⟨rfl, h⟩
              refine HList.nil ?_
              refine nt ?_
              refine HW.cut (fun ρ H_5 => Env.Is ρ [(0, (Sl.v p0)), (3, (.pointer (some ⟨H1.size, 0, none⟩))), (4, (.int .i64 y9)), (5, (.pointer (some ⟨H_2.size, 0, none⟩)))] ∧ F7_5 Q X2 p0 ⟨H1.size, 0, none⟩ y9 ⟨H_2.size, 0, none⟩ H_5) ?_ ?_
              · refine HW.seq ?_
                refine HW.region ?_
                refine HList.vals (v := (.int .i64 0)) rfl (HVal.assign' rfl) ?_
                refine HList.nil ?_
                refine nt ?_
                refine HW.block ?_
                refine HW.loop' (fun L6 hL6 => ?_)
                obtain ⟨X6, hX6⟩ : ∃ X6 : Int → Hp → Prop, ∀ (y104 : Int) (H_6 : Hp), X6 y104 H_6 ↔ ∀ ρ, Env.Is ρ [(0, (Sl.v p0)), (3, (.pointer (some ⟨H1.size, 0, none⟩))), (4, (.int .i64 y9)), (5, (.pointer (some ⟨H_2.size, 0, none⟩))), (6, (.pointer (some ⟨H32.size, 0, none⟩))), (10, (.int .i64 y104))] → L6 ρ H_6 := ⟨_, fun _ _ => Iff.rfl⟩
                refine (hX6 _ _).1 (h X6 ?_) _ ?_
                rotate_left
                · exact ⟨rfl, rfl, rfl, rfl, rfl, rfl, trivial⟩
                clear h
                intro y104 H_6 h
                refine (hX6 _ _).2 fun ρ hI => ?_
                obtain ⟨ρ0, rfl⟩ : ∃ ρ0, ρ = (Env.set (Env.set (Env.set (Env.set (Env.set (Env.set ρ0 10 (.int .i64 y104)) 6 (.pointer (some ⟨H32.size, 0, none⟩))) 5 (.pointer (some ⟨H_2.size, 0, none⟩))) 4 (.int .i64 y9)) 3 (.pointer (some ⟨H1.size, 0, none⟩))) 0 (Sl.v p0)) := ⟨ρ, hI.eq⟩
                clear hI; unfold F7_L6b at h; refine hL6 _ _ ?_
                refine HW.seq ?_
                refine HW.seq ?_
                refine HW.region ?_
                refine HList.vals (v := (.int .i64 y104)) rfl (HVal.move' rfl) ?_
                refine HList.vals (v := (.pointer (some (Addr.add ⟨H32.size, 0, none⟩ 1)))) rfl (HVal.fieldAddr' Tryd.runUnderlying41 rfl rfl Tryd.sizeOf22 rfl) ?_
                obtain ⟨x111, c110, h⟩ := h
                refine HList.vals (v := (Sl.v x111)) rfl (HVal.load1 Tryd.isAgg22 rfl c110) ?_
                refine HList.vals (v := (.int .i64 ((x111).n : Int))) rfl (HVal.len Tryd.runUnderlying22 rfl) ?_
                refine HList.vals (v := (.bool (decide (y104 < ((x111).n : Int))))) rfl (HVal.lss rfl rfl) ?_
                refine HList.nil ?_
                refine nt ?_
                obtain ⟨hT, hF⟩ := h
                refine HW.cond (decide (y104 < ((x111).n : Int))) rfl (fun hb112 => ?_) (fun hb112 => ?_)
                · have h := hT hb112
                  clear hT hF
                  refine HW.skip ?_
                  refine nt ?_
                  refine HW.seq ?_
                  refine HW.block ?_
                  refine HW.seq ?_
                  refine HW.region ?_
                  refine HList.vals (v := (.pointer (some (Addr.add ⟨H32.size, 0, none⟩ 1)))) rfl (HVal.fieldAddr' Tryd.runUnderlying41 rfl rfl Tryd.sizeOf22 rfl) ?_
                  obtain ⟨x114, c113, h⟩ := h
                  refine HList.vals (v := (Sl.v x114)) rfl (HVal.load1 Tryd.isAgg22 rfl c113) ?_
                  refine HList.vals (v := (.int .i64 y104)) rfl (HVal.move' rfl) ?_
                  obtain ⟨a115, e116, b117, b118, h⟩ := h
                  refine HList.vals (v := (.pointer (some (Addr.add a115 (y104.toNat * 1))))) rfl (HVal.indexAddr Tryd.runUnderlying22 Tryd.sizeOf3 (Sl.v_some rfl e116) rfl b117 b118) ?_
                  obtain ⟨x120, c119, h⟩ := h
                  refine HList.vals (v := (.int .i64 x120)) rfl (HVal.load1 Tryd.isAgg3 rfl c119) ?_
                  refine HList.vals (v := (.bool (decide (x120 ≠ (-5))))) rfl (HVal.neqI rfl rfl) ?_
                  refine HList.nil ?_
                  refine nt ?_
                  obtain ⟨hT, hF⟩ := h
                  refine HW.cond (decide (x120 ≠ (-5))) rfl (fun hb121 => ?_) (fun hb121 => ?_)
                  · have h := hT hb121
                    clear hT hF
                    refine HW.seq ?_
                    refine HW.region ?_
                    refine HList.vals (v := (.bool false)) rfl (HVal.assign' rfl) ?_
                    refine HList.nil ?_
                    refine nt ?_
                    refine HW.ret ?_
                    refine br ?_
                    refine tr ?_
                    refine tr ?_
                    refine br ?_
                    refine tr ?_
                    refine br ?_
                    refine tr ?_
                    refine tr ?_
                    refine br ?_
                    refine tr ?_
                    exact ⟨_, resOf1 rfl Res1.t, ⟨false, rfl, h⟩⟩
                  · have h := hF hb121
                    clear hT hF
                    refine HW.skip ?_
                    refine nb ?_
                    refine nt ?_
                    refine HW.region ?_
                    refine HList.vals (v := (.int .i64 y104)) rfl (HVal.move' rfl) ?_
                    refine HList.vals (v := (.int .i64 (IntKind.i64.wrap (y104 + 1)))) rfl (HVal.add rfl rfl) ?_
                    refine HList.vals (v := (.int .i64 (IntKind.i64.wrap (y104 + 1)))) rfl (HVal.assign' rfl) ?_
                    refine HList.nil ?_
                    refine nt ?_
                    exact (hX6 _ _).1 h _ ⟨rfl, rfl, rfl, rfl, rfl, rfl, trivial⟩
                · have h := hF hb112
                  clear hT hF
                  refine HW.exit ?_
                  refine te ?_
                  refine te ?_
                  refine be ?_
                  refine nt ?_
                  exact ⟨⟨rfl, rfl, rfl, rfl, trivial⟩, h⟩
              · rintro ρ H_5 ⟨hI, h⟩
                obtain ⟨ρ0, rfl⟩ : ∃ ρ0, ρ = (Env.set (Env.set (Env.set (Env.set ρ0 5 (.pointer (some ⟨H_2.size, 0, none⟩))) 4 (.int .i64 y9)) 3 (.pointer (some ⟨H1.size, 0, none⟩))) 0 (Sl.v p0)) := ⟨ρ, hI.eq⟩
                clear hI; unfold F7_5 at h
                refine HW.cut (fun ρ H_7 => ∃ (y135 : Bool), Env.Is ρ [(0, (Sl.v p0)), (3, (.pointer (some ⟨H1.size, 0, none⟩))), (4, (.int .i64 y9)), (76, (.bool y135))] ∧ F7_7 Q X2 p0 ⟨H1.size, 0, none⟩ y9 y135 H_7) ?_ ?_
                · refine HW.region ?_
                  obtain ⟨x126, x127, x128, x129, c125, h⟩ := h
                  refine HList.vals (v := (.agg #[(.int .i64 x126), (Sl.v x127), (Sl.v x128), (.string x129)])) rfl (HVal.loadN [(.int .i64 x126), (Sl.v x127), (Sl.v x128), (.string x129)] Tryd.isAgg41 Tryd.sizeOf41 rfl c125) ?_
                  refine HList.ops' rfl (HOp.call' 19 [(.agg #[(.int .i64 x126), (Sl.v x127), (Sl.v x128), (.string x129)])] (cap := []) rfl rfl Tryd.call19 (walk19 h)) ?_
                  rintro _ H130 ⟨r132, rfl, h⟩
                  refine HList.vals (v := (.bool (!r132))) rfl (HVal.not rfl) ?_
                  refine HList.vals (v := (.bool (!r132))) rfl (HVal.move' rfl) ?_
                  obtain ⟨hT, hF⟩ := h
                  rcases Bool.eq_false_or_eq_true (!r132) with hb133 | hb134
                  · have h := hT hb133
                    clear hT hF
                    refine HList.gskips rfl rfl rfl rfl (congrArg Value.bool hb133) ?_
                    refine HList.gskips rfl rfl rfl rfl (congrArg Value.bool hb133) ?_
                    refine HList.gskips rfl rfl rfl rfl (congrArg Value.bool hb133) ?_
                    refine HList.gskips rfl rfl rfl rfl (congrArg Value.bool hb133) ?_
                    refine HList.uskips rfl rfl rfl rfl rfl ?_
                    refine HList.uskips rfl rfl rfl rfl rfl ?_
                    refine HList.gskips rfl rfl rfl rfl (congrArg Value.bool hb133) ?_
                    refine HList.vals (v := (.bool true)) rfl (HVal.pickT rfl hb133 rfl) ?_
                    refine HList.nil ?_
                    refine nt ?_
                    exact ⟨true, ⟨rfl, rfl, rfl, rfl, trivial⟩, h⟩
                  · have h := hF hb134
                    clear hT hF
                    refine HList.gvals (v := (.int .i64 y9)) rfl rfl rfl rfl (congrArg Value.bool hb134) (HVal.move' rfl) ?_
                    refine HList.gvals (v := (.int .i64 (Int.tmod y9 (64 : Int)))) rfl rfl rfl rfl (congrArg Value.bool hb134) (HVal.rem rfl rfl (by decide)) ?_
                    refine HList.gvals (v := (.bool (decide ((Int.tmod y9 (64 : Int)) = 63)))) rfl rfl rfl rfl (congrArg Value.bool hb134) (HVal.eqlI rfl rfl) ?_
                    refine HList.gvals (v := (.bool (decide ((Int.tmod y9 (64 : Int)) = 63)))) rfl rfl rfl rfl (congrArg Value.bool hb134) (HVal.move' rfl) ?_
                    obtain ⟨hT, hF⟩ := h
                    rcases Bool.eq_false_or_eq_true (decide ((Int.tmod y9 (64 : Int)) = 63)) with hb136 | hb137
                    · have h := hT hb136
                      clear hT hF
                      refine HList.gops rfl rfl rfl rfl (congrArg Value.bool hb136) (HOp.call' 22 [(.pointer (some ⟨H1.size, 0, none⟩))] (cap := []) rfl rfl Tryd.call22 (walk22 h)) ?_
                      rintro _ H138 ⟨r140, rfl, h⟩
                      refine HList.gvals (v := (.bool (!r140))) rfl rfl rfl rfl (congrArg Value.bool hb136) (HVal.not rfl) ?_
                      refine HList.gvals (v := (.bool (!r140))) rfl rfl rfl rfl (congrArg Value.bool hb134) (HVal.pickT rfl hb136 rfl) ?_
                      refine HList.vals (v := (.bool (!r140))) rfl (HVal.pickF rfl hb134 rfl) ?_
                      refine HList.nil ?_
                      refine nt ?_
                      exact ⟨(!r140), ⟨rfl, rfl, rfl, rfl, trivial⟩, h⟩
                    · have h := hF hb137
                      clear hT hF
                      refine HList.gskips rfl rfl rfl rfl (congrArg Value.bool hb137) ?_
                      refine HList.gskips rfl rfl rfl rfl (congrArg Value.bool hb137) ?_
                      refine HList.gvals (v := (.bool false)) rfl rfl rfl rfl (congrArg Value.bool hb134) (HVal.pickF rfl hb137 rfl) ?_
                      refine HList.vals (v := (.bool false)) rfl (HVal.pickF rfl hb134 rfl) ?_
                      refine HList.nil ?_
                      refine nt ?_
                      exact ⟨false, ⟨rfl, rfl, rfl, rfl, trivial⟩, h⟩
                · rintro ρ H_7 ⟨y135, hI, h⟩
                  obtain ⟨ρ0, rfl⟩ : ∃ ρ0, ρ = (Env.set (Env.set (Env.set (Env.set ρ0 76 (.bool y135)) 4 (.int .i64 y9)) 3 (.pointer (some ⟨H1.size, 0, none⟩))) 0 (Sl.v p0)) := ⟨ρ, hI.eq⟩
                  clear hI; unfold F7_7 at h
                  obtain ⟨hT, hF⟩ := h
                  refine HW.cond y135 rfl (fun hb141 => ?_) (fun hb141 => ?_)
                  · have h := hT hb141
                    clear hT hF
                    refine HW.seq ?_
                    refine HW.region ?_
                    refine HList.vals (v := (.bool false)) rfl (HVal.assign' rfl) ?_
                    refine HList.nil ?_
                    refine nt ?_
                    refine HW.ret ?_
                    refine br ?_
                    refine tr ?_
                    refine tr ?_
                    refine br ?_
                    refine tr ?_
                    exact ⟨_, resOf1 rfl Res1.t, ⟨false, rfl, h⟩⟩
                  · have h := hF hb141
                    clear hT hF
                    refine HW.skip ?_
                    refine nb ?_
                    refine nt ?_
                    refine HW.region ?_
                    refine HList.vals (v := (.int .i64 y9)) rfl (HVal.move' rfl) ?_
                    refine HList.vals (v := (.int .i64 (IntKind.i64.wrap (y9 + 1)))) rfl (HVal.add rfl rfl) ?_
                    refine HList.vals (v := (.int .i64 (IntKind.i64.wrap (y9 + 1)))) rfl (HVal.assign' rfl) ?_
                    refine HList.nil ?_
                    refine nt ?_
                    exact (hX2 _ _).1 h _ ⟨rfl, rfl, rfl, trivial⟩
      · have h := hF hb12
        clear hT hF
        refine HW.exit ?_
        refine te ?_
        refine te ?_
        refine be ?_
        refine nt ?_
        exact ⟨⟨rfl, rfl, trivial⟩, h⟩
    · rintro ρ H_1 ⟨hI, h⟩
      obtain ⟨ρ0, rfl⟩ : ∃ ρ0, ρ = (Env.set (Env.set ρ0 3 (.pointer (some ⟨H1.size, 0, none⟩))) 0 (Sl.v p0)) := ⟨ρ, hI.eq⟩
      clear hI; unfold F7_1 at h
      refine HW.seq ?_
      refine HW.region ?_
      refine HList.ops' rfl (HOp.call' 22 [(.pointer (some ⟨H1.size, 0, none⟩))] (cap := []) rfl rfl Tryd.call22 (walk22 h)) ?_
      rintro _ H142 ⟨r144, rfl, h⟩
      refine HList.vals (v := (.bool r144)) rfl (HVal.move' rfl) ?_
      obtain ⟨hT, hF⟩ := h
      rcases Bool.eq_false_or_eq_true r144 with hb145 | hb146
      · have h := hT hb145
        clear hT hF
        refine HList.gvals (v := (Sl.v p0)) rfl rfl rfl rfl (congrArg Value.bool hb145) (HVal.move' rfl) ?_
        refine HList.gops rfl rfl rfl rfl (congrArg Value.bool hb145) (HOp.call' 23 [(Sl.v p0)] (cap := []) rfl rfl Tryd.call23 (walk23 h)) ?_
        rintro _ H147 ⟨r149, rfl, h⟩
        refine HList.vals (v := (.bool r149)) rfl (HVal.pickT rfl hb145 rfl) ?_
        refine HList.vals (v := (.bool r149)) rfl (HVal.assign' rfl) ?_
        refine HList.nil ?_
        refine nt ?_
        refine HW.ret ?_
        exact ⟨_, resOf1 rfl Res1.t, ⟨r149, rfl, h⟩⟩
      · have h := hF hb146
        clear hT hF
        refine HList.gskips rfl rfl rfl rfl (congrArg Value.bool hb146) ?_
        refine HList.gskips rfl rfl rfl rfl (congrArg Value.bool hb146) ?_
        refine HList.vals (v := (.bool false)) rfl (HVal.pickF rfl hb146 rfl) ?_
        refine HList.vals (v := (.bool false)) rfl (HVal.assign' rfl) ?_
        refine HList.nil ?_
        refine nt ?_
        refine HW.ret ?_
        exact ⟨_, resOf1 rfl Res1.t, ⟨false, rfl, h⟩⟩

def F25 (p0_0 : Int) (p0_1 : Sl) (p0_2 : Sl) (p0_3 : ByteArray) (H : Hp) (Q : Int → Sl → Sl → ByteArray → Hp → Prop) : Prop :=
∀ H1 : Hp, H1 = Array.push H (.cells #[(.int .i64 p0_0), (Sl.v p0_1), (Sl.v p0_2), (.string p0_3)] 41) → (
 ∀ H3 : Hp, H3 = Array.push H1 (.cells #[(.int .i64 0), (Sl.v Sl.nil), (Sl.v Sl.nil), (.string (ByteArray.mk #[]))] 41) → (
 ∃ x6 : Sl, cell H3 (Addr.add ⟨H.size, 0, none⟩ 1) = some (Sl.v x6) ∧ (
 ∃ x8 : Sl, cell H3 (Addr.add ⟨H.size, 0, none⟩ 1) = some (Sl.v x8) ∧ (
 F34 x6 H3 (fun (r11 : Sl) (H9 : Hp) => 
 cell H9 (Addr.add ⟨H.size, 0, none⟩ 1) = some (Sl.v x8) ∧ (
 (0 : Int) ≤ ((x8).n : Int) ∧ 0 ≤ ((x8).n : Int).toNat ∧ ((x8).n : Int).toNat ≤ (r11).c ∧ (r11).c ≤ (r11).c ∧ (
 (cell H9 (Addr.add ⟨H.size, 0, none⟩ 1)).isSome = true ∧ frz H9 (Addr.add ⟨H.size, 0, none⟩ 1) = false ∧ ∀ H17 : Hp, H17 = setc H9 (Addr.add ⟨H.size, 0, none⟩ 1) (Sl.v (Sl.cut r11 1 0 (((x8).n : Int).toNat) ((r11).c))) → (
 ∃ x22 : Sl, cell H17 (Addr.add ⟨H.size, 0, none⟩ 2) = some (Sl.v x22) ∧ (
 ∃ x24 : Sl, cell H17 (Addr.add ⟨H.size, 0, none⟩ 2) = some (Sl.v x24) ∧ (
 F34 x22 H17 (fun (r27 : Sl) (H25 : Hp) => 
 cell H25 (Addr.add ⟨H.size, 0, none⟩ 2) = some (Sl.v x24) ∧ (
 (0 : Int) ≤ ((x24).n : Int) ∧ 0 ≤ ((x24).n : Int).toNat ∧ ((x24).n : Int).toNat ≤ (r27).c ∧ (r27).c ≤ (r27).c ∧ (
 (cell H25 (Addr.add ⟨H.size, 0, none⟩ 2)).isSome = true ∧ frz H25 (Addr.add ⟨H.size, 0, none⟩ 2) = false ∧ ∀ H33 : Hp, H33 = setc H25 (Addr.add ⟨H.size, 0, none⟩ 2) (Sl.v (Sl.cut r27 1 0 (((x24).n : Int).toNat) ((r27).c))) → (
 ∃ (x38 : Int) (x39 : Sl) (x40 : Sl) (x41 : ByteArray), cells H33 ⟨H.size, 0, none⟩ [(.int .i64 x38), (Sl.v x39), (Sl.v x40), (.string x41)] 0 ∧ (
 mayw H33 ⟨H1.size, 0, none⟩ 4 0 ∧ ∀ H42 : Hp, H42 = sets H33 ⟨H1.size, 0, none⟩ [(.int .i64 x38), (Sl.v x39), (Sl.v x40), (.string x41)] 0 → (
 ∃ (x45 : Int) (x46 : Sl) (x47 : Sl) (x48 : ByteArray), cells H42 ⟨H1.size, 0, none⟩ [(.int .i64 x45), (Sl.v x46), (Sl.v x47), (.string x48)] 0 ∧ (
 Q x45 x46 x47 x48 H42)))))))))))))))))
set_option maxRecDepth 100000 in
set_option maxHeartbeats 4000000 in
theorem walk25 {w0 : World} {p0_0 : Int} {p0_1 : Sl} {p0_2 : Sl} {p0_3 : ByteArray} {H : Hp} {Q : Int → Sl → Sl → ByteArray → Hp → Prop} (h : F25 p0_0 p0_1 p0_2 p0_3 H Q) :
    Good Tryd.prog w0 25 #[(.agg #[(.int .i64 p0_0), (Sl.v p0_1), (Sl.v p0_2), (.string p0_3)])] H (fun v H => ∃ (r0 : Int) (r1 : Sl) (r2 : Sl) (r3 : ByteArray) , v = (.agg #[(.int .i64 r0), (Sl.v r1), (Sl.v r2), (.string r3)]) ∧ Q r0 r1 r2 r3 H) := by
  unfold F25 at h
  refine Good.enter' (fn := Tryd.f25) Tryd.func25 rfl rfl rfl ?_
  refine HW.seq ?_
  refine HW.region ?_
  refine HList.ops' rfl (HOp.box (v := (.agg #[(.int .i64 p0_0), (Sl.v p0_1), (Sl.v p0_2), (.string p0_3)])) rfl) ?_
  rintro _ H1 ⟨rfl, e2⟩
  replace h := h H1 e2
  refine HList.ops' rfl (HOp.alloc Tryd.zeroValue41) ?_
  rintro _ H3 ⟨rfl, e4⟩
  replace h := h H3 e4
  refine HList.nil ?_
  refine nt ?_
  refine HW.seq ?_
  refine HW.draw mixed [(0, some []), (1, some [2, 8]), (3, some []), (4, some [8]), (5, some []), (2, none), (6, some []), (7, some []), (8, none)] rfl (by kernel_rfl) (by kernel_rfl) ?_
  refine HPlan.takev (v := (.pointer (some (Addr.add ⟨H.size, 0, none⟩ 1)))) rfl rfl (fun _ => HVal.fieldAddr' Tryd.runUnderlying41 rfl rfl Tryd.sizeOf22 rfl) ?_
  obtain ⟨x6, c5, h⟩ := h
  refine HPlan.takel (v := (Sl.v x6)) (fun X => cell X (Addr.add ⟨H.size, 0, none⟩ 1) = some (Sl.v x6)) rfl rfl (fun _ hX => HVal.load1 Tryd.isAgg22 rfl hX) c5 ?_
  refine HPlan.takev (v := (.pointer (some (Addr.add ⟨H.size, 0, none⟩ 1)))) rfl rfl (fun _ => HVal.fieldAddr' Tryd.runUnderlying41 rfl rfl Tryd.sizeOf22 rfl) ?_
  obtain ⟨x8, c7, h⟩ := h
  refine HPlan.takel (v := (Sl.v x8)) (fun X => cell X (Addr.add ⟨H.size, 0, none⟩ 1) = some (Sl.v x8)) rfl rfl (fun _ hX => HVal.load1 Tryd.isAgg22 rfl hX) c7 ?_
  refine HPlan.takev (v := (.int .i64 ((x8).n : Int))) rfl rfl (fun _ => HVal.len Tryd.runUnderlying22 rfl) ?_
  refine HPlan.ops' rfl rfl (HOp.call' 34 [(Sl.v x6)] (cap := []) rfl rfl Tryd.call34 (walk34 h)) ?_
  rintro _ H9 ⟨r11, rfl, h⟩
  obtain ⟨s12, h⟩ := h
  refine ⟨SC_of ⟨fun _ => s12, fun e => absurd e (by decide), trivial⟩, ?_⟩
  obtain ⟨z13, z14, z15, z16, h⟩ := h
  refine HPlan.takev (v := (Sl.v (Sl.cut r11 1 0 (((x8).n : Int).toNat) ((r11).c)))) rfl rfl (fun _ => HVal.slice _ _ _ Tryd.runUnderlying22 Tryd.sizeOf3 rfl rfl ⟨_, _, rfl, z13, rfl⟩ rfl (by decide) z14 z15 z16) ?_
  refine HPlan.takev (v := (.pointer (some (Addr.add ⟨H.size, 0, none⟩ 1)))) rfl rfl (fun _ => HVal.fieldAddr' Tryd.runUnderlying41 rfl rfl Tryd.sizeOf22 rfl) ?_
  obtain ⟨z19, z20, h⟩ := h
  refine HPlan.opsn rfl (HOp.store1 Tryd.sizeOf22 rfl rfl rfl z19 z20) ?_
  rintro _ H17 e18
  replace h := h H17 e18
  refine ⟨SC_of ⟨fun e => absurd e (by decide), fun e => absurd e (by decide), trivial⟩, ?_⟩
  refine HPlan.done ?_
  refine nt ?_
  refine HW.seq ?_
  refine HW.draw mixed [(0, some []), (1, some [2, 8]), (3, some []), (4, some [8]), (5, some []), (2, none), (6, some []), (7, some []), (8, none)] rfl (by kernel_rfl) (by kernel_rfl) ?_
  refine HPlan.takev (v := (.pointer (some (Addr.add ⟨H.size, 0, none⟩ 2)))) rfl rfl (fun _ => HVal.fieldAddr' Tryd.runUnderlying41 rfl rfl Tryd.sizeOf22 rfl) ?_
  obtain ⟨x22, c21, h⟩ := h
  refine HPlan.takel (v := (Sl.v x22)) (fun X => cell X (Addr.add ⟨H.size, 0, none⟩ 2) = some (Sl.v x22)) rfl rfl (fun _ hX => HVal.load1 Tryd.isAgg22 rfl hX) c21 ?_
  refine HPlan.takev (v := (.pointer (some (Addr.add ⟨H.size, 0, none⟩ 2)))) rfl rfl (fun _ => HVal.fieldAddr' Tryd.runUnderlying41 rfl rfl Tryd.sizeOf22 rfl) ?_
  obtain ⟨x24, c23, h⟩ := h
  refine HPlan.takel (v := (Sl.v x24)) (fun X => cell X (Addr.add ⟨H.size, 0, none⟩ 2) = some (Sl.v x24)) rfl rfl (fun _ hX => HVal.load1 Tryd.isAgg22 rfl hX) c23 ?_
  refine HPlan.takev (v := (.int .i64 ((x24).n : Int))) rfl rfl (fun _ => HVal.len Tryd.runUnderlying22 rfl) ?_
  refine HPlan.ops' rfl rfl (HOp.call' 34 [(Sl.v x22)] (cap := []) rfl rfl Tryd.call34 (walk34 h)) ?_
  rintro _ H25 ⟨r27, rfl, h⟩
  obtain ⟨s28, h⟩ := h
  refine ⟨SC_of ⟨fun _ => s28, fun e => absurd e (by decide), trivial⟩, ?_⟩
  obtain ⟨z29, z30, z31, z32, h⟩ := h
  refine HPlan.takev (v := (Sl.v (Sl.cut r27 1 0 (((x24).n : Int).toNat) ((r27).c)))) rfl rfl (fun _ => HVal.slice _ _ _ Tryd.runUnderlying22 Tryd.sizeOf3 rfl rfl ⟨_, _, rfl, z29, rfl⟩ rfl (by decide) z30 z31 z32) ?_
  refine HPlan.takev (v := (.pointer (some (Addr.add ⟨H.size, 0, none⟩ 2)))) rfl rfl (fun _ => HVal.fieldAddr' Tryd.runUnderlying41 rfl rfl Tryd.sizeOf22 rfl) ?_
  obtain ⟨z35, z36, h⟩ := h
  refine HPlan.opsn rfl (HOp.store1 Tryd.sizeOf22 rfl rfl rfl z35 z36) ?_
  rintro _ H33 e34
  replace h := h H33 e34
  refine ⟨SC_of ⟨fun e => absurd e (by decide), fun e => absurd e (by decide), trivial⟩, ?_⟩
  refine HPlan.done ?_
  refine nt ?_
  refine HW.seq ?_
  refine HW.region ?_
  obtain ⟨x38, x39, x40, x41, c37, h⟩ := h
  refine HList.vals (v := (.agg #[(.int .i64 x38), (Sl.v x39), (Sl.v x40), (.string x41)])) rfl (HVal.loadN [(.int .i64 x38), (Sl.v x39), (Sl.v x40), (.string x41)] Tryd.isAgg41 Tryd.sizeOf41 rfl c37) ?_
  obtain ⟨z44, h⟩ := h
  refine HList.opsn (HOp.storeN' (l := [(.int .i64 x38), (Sl.v x39), (Sl.v x40), (.string x41)]) Tryd.sizeOf41 rfl rfl rfl z44) ?_
  rintro _ H42 e43
  replace h := h H42 e43
  refine HList.nil ?_
  refine nt ?_
  refine HW.ret ?_
  obtain ⟨x45, x46, x47, x48, c49, h⟩ := h
  exact ⟨_, resOf1 rfl (Res1.n [(.int .i64 x45), (Sl.v x46), (Sl.v x47), (.string x48)] Tryd.isAgg41 Tryd.sizeOf41 rfl c49), ⟨x45, x46, x47, x48, rfl, h⟩⟩

def F24_3 (Q : Int → Sl → Sl → ByteArray → Hp → Prop) (y27 : Addr) (y28 : Addr) (H_3 : Hp) : Prop :=
∃ (x131 : Int) (x132 : Sl) (x133 : Sl) (x134 : ByteArray), cells H_3 y27 [(.int .i64 x131), (Sl.v x132), (Sl.v x133), (.string x134)] 0 ∧ (
 mayw H_3 y28 4 0 ∧ ∀ H135 : Hp, H135 = sets H_3 y28 [(.int .i64 x131), (Sl.v x132), (Sl.v x133), (.string x134)] 0 → (
 ∃ (x138 : Int) (x139 : Sl) (x140 : Sl) (x141 : ByteArray), cells H135 y28 [(.int .i64 x138), (Sl.v x139), (Sl.v x140), (.string x141)] 0 ∧ (
 Q x138 x139 x140 x141 H135)))
def F24_6 (Q : Int → Sl → Sl → ByteArray → Hp → Prop) (y75 : Int) (y76 : Addr) (y77 : Addr) (y78 : Int) (y83 : Bool) (H_6 : Hp) : Prop :=
(y83 = true → (∃ x86 : ByteArray, cell H_6 (Addr.add y76 3) = some (.string x86) ∧ (
 ((x86).size : Int) ≠ 0 ∧ (
 ∃ x89 : ByteArray, cell H_6 (Addr.add y76 3) = some (.string x89) ∧ (
 (0 : Int) ≤ (Int.tmod y75 ((x86).size : Int)) ∧ 0 ≤ (Int.tmod y75 ((x86).size : Int)).toNat ∧ (Int.tmod y75 ((x86).size : Int)).toNat ≤ (x89).size ∧ (
 (0 : Int) ≤ (Int.tmod (IntKind.i64.wrap (Int.tdiv y75 (7 : Int))) (13 : Int)) ∧ (Int.tmod (IntKind.i64.wrap (Int.tdiv y75 (7 : Int))) (13 : Int)).toNat < (S_0123456789__x).size ∧ (
 ∃ x96 : ByteArray, cell H_6 (Addr.add y76 3) = some (.string x96) ∧ (
 (0 : Int) ≤ (IntKind.i64.wrap ((Int.tmod y75 ((x86).size : Int)) + 1)) ∧ (IntKind.i64.wrap ((Int.tmod y75 ((x86).size : Int)) + 1)).toNat ≤ (x96).size ∧ (x96).size ≤ (x96).size ∧ (
 ∀ H100 : Hp, H100 = Array.push H_6 (.cells #[(.int .u8 (bt S_0123456789__x (Int.tmod (IntKind.i64.wrap (Int.tdiv y75 (7 : Int))) (13 : Int)).toNat))] 5) → (
 cell H100 (Addr.add y76 3) = some (.string x96) ∧ cell H100 (Addr.add y76 3) = some (.string x89) ∧ (
 ∃ L104 : List Int, (rds H100 ((Sl.mk (some ⟨H_6.size, 0, none⟩) 1 1)).b (L104.map (Value.int .u8)) ∧ L104.length = ((Sl.mk (some ⟨H_6.size, 0, none⟩) 1 1)).n) ∧ (
 (((x89).extract 0 ((Int.tmod y75 ((x86).size : Int)).toNat))).size + ((bst L104)).size ≤ 9223372036854775807 ∧ (
 ((((x89).extract 0 ((Int.tmod y75 ((x86).size : Int)).toNat)) ++ (bst L104))).size + (((x96).extract ((IntKind.i64.wrap ((Int.tmod y75 ((x86).size : Int)) + 1)).toNat) ((x96).size))).size ≤ 9223372036854775807 ∧ (
 (cell H100 (Addr.add y76 3)).isSome = true ∧ frz H100 (Addr.add y76 3) = false ∧ ∀ H108 : Hp, H108 = setc H100 (Addr.add y76 3) (.string ((((x89).extract 0 ((Int.tmod y75 ((x86).size : Int)).toNat)) ++ (bst L104)) ++ ((x96).extract ((IntKind.i64.wrap ((Int.tmod y75 ((x86).size : Int)) + 1)).toNat) ((x96).size)))) → (
 F24_3 Q y76 y77 H108))))))))))))))) ∧
 (y83 = false → (((decide (y78 = 3)) = true → (∃ x114 : Sl, cell H_6 (Addr.add y76 2) = some (Sl.v x114) ∧ (
 ∃ x116 : Sl, cell H_6 (Addr.add y76 1) = some (Sl.v x116) ∧ (
 (cell H_6 (Addr.add y76 1)).isSome = true ∧ frz H_6 (Addr.add y76 1) = false ∧ ∀ H117 : Hp, H117 = setc H_6 (Addr.add y76 1) (Sl.v x114) → (
 (cell H117 (Addr.add y76 2)).isSome = true ∧ frz H117 (Addr.add y76 2) = false ∧ ∀ H121 : Hp, H121 = setc H117 (Addr.add y76 2) (Sl.v x116) → (
 F24_3 Q y76 y77 H121)))))) ∧
 ((decide (y78 = 3)) = false → (((decide (y78 = 4)) = true → ((cell H_6 y76).isSome = true ∧ frz H_6 y76 = false ∧ ∀ H126 : Hp, H126 = setc H_6 y76 (.int .i64 (IntKind.i64.wrap (1 + (Int.tmod y75 (6 : Int))))) → (
 F24_3 Q y76 y77 H126))) ∧
 ((decide (y78 = 4)) = false → (F24_3 Q y76 y77 H_6))))))
def F24_5 (Q : Int → Sl → Sl → ByteArray → Hp → Prop) (y52 : Int) (y53 : Addr) (y54 : Addr) (y55 : Int) (y60 : Bool) (H_5 : Hp) : Prop :=
(y60 = true → (∃ x63 : Sl, cell H_5 (Addr.add y53 2) = some (Sl.v x63) ∧ (
 ∃ x65 : Sl, cell H_5 (Addr.add y53 2) = some (Sl.v x65) ∧ (
 ((x65).n : Int) ≠ 0 ∧ (
 ∃ a67 : Addr, (x63).b = some a67 ∧ (0 : Int) ≤ (Int.tmod y52 ((x65).n : Int)) ∧ (Int.tmod y52 ((x65).n : Int)) < ((x63).n : Int) ∧ (
 (cell H_5 (Addr.add a67 ((Int.tmod y52 ((x65).n : Int)).toNat * 1))).isSome = true ∧ frz H_5 (Addr.add a67 ((Int.tmod y52 ((x65).n : Int)).toNat * 1)) = false ∧ ∀ H71 : Hp, H71 = setc H_5 (Addr.add a67 ((Int.tmod y52 ((x65).n : Int)).toNat * 1)) (.int .i64 (Int.tmod (IntKind.i64.wrap (Int.tdiv y52 (7 : Int))) (9 : Int))) → (
 F24_3 Q y53 y54 H71))))))) ∧
 (y60 = false → (((decide (y55 = 2)) = true → (∃ x82 : ByteArray, cell H_5 (Addr.add y53 3) = some (.string x82) ∧ (
 F24_6 Q y52 y53 y54 y55 (decide ((0 : Int) < ((x82).size : Int))) H_5))) ∧
 ((decide (y55 = 2)) = false → (F24_6 Q y52 y53 y54 y55 false H_5))))
def F24_4 (Q : Int → Sl → Sl → ByteArray → Hp → Prop) (y29 : Int) (y30 : Addr) (y31 : Addr) (y32 : Int) (y37 : Bool) (H_4 : Hp) : Prop :=
(y37 = true → (∃ x40 : Sl, cell H_4 (Addr.add y30 1) = some (Sl.v x40) ∧ (
 ∃ x42 : Sl, cell H_4 (Addr.add y30 1) = some (Sl.v x42) ∧ (
 ((x42).n : Int) ≠ 0 ∧ (
 ∃ a44 : Addr, (x40).b = some a44 ∧ (0 : Int) ≤ (Int.tmod y29 ((x42).n : Int)) ∧ (Int.tmod y29 ((x42).n : Int)) < ((x40).n : Int) ∧ (
 (cell H_4 (Addr.add a44 ((Int.tmod y29 ((x42).n : Int)).toNat * 1))).isSome = true ∧ frz H_4 (Addr.add a44 ((Int.tmod y29 ((x42).n : Int)).toNat * 1)) = false ∧ ∀ H48 : Hp, H48 = setc H_4 (Addr.add a44 ((Int.tmod y29 ((x42).n : Int)).toNat * 1)) (.int .i64 (Int.tmod (IntKind.i64.wrap (Int.tdiv y29 (7 : Int))) (9 : Int))) → (
 F24_3 Q y30 y31 H48))))))) ∧
 (y37 = false → (((decide (y32 = 1)) = true → (∃ x59 : Sl, cell H_4 (Addr.add y30 2) = some (Sl.v x59) ∧ (
 F24_5 Q y29 y30 y31 y32 (decide ((0 : Int) < ((x59).n : Int))) H_4))) ∧
 ((decide (y32 = 1)) = false → (F24_5 Q y29 y30 y31 y32 false H_4))))
def F24_2 (Q : Int → Sl → Sl → ByteArray → Hp → Prop) (y9 : Int) (y10 : Addr) (y11 : Addr) (H_2 : Hp) : Prop :=
((decide ((Int.tmod (IntKind.i64.wrap (Int.tdiv y9 (2 : Int))) (5 : Int)) = 0)) = true → (∃ x36 : Sl, cell H_2 (Addr.add y10 1) = some (Sl.v x36) ∧ (
 F24_4 Q (IntKind.i64.wrap (Int.tdiv y9 (10 : Int))) y10 y11 (Int.tmod (IntKind.i64.wrap (Int.tdiv y9 (2 : Int))) (5 : Int)) (decide ((0 : Int) < ((x36).n : Int))) H_2))) ∧
 ((decide ((Int.tmod (IntKind.i64.wrap (Int.tdiv y9 (2 : Int))) (5 : Int)) = 0)) = false → (F24_4 Q (IntKind.i64.wrap (Int.tdiv y9 (10 : Int))) y10 y11 (Int.tmod (IntKind.i64.wrap (Int.tdiv y9 (2 : Int))) (5 : Int)) false H_2))
def F24_1 (Q : Int → Sl → Sl → ByteArray → Hp → Prop) (y5 : Addr) (y6 : Addr) (y8 : Int) (H_1 : Hp) : Prop :=
((decide ((Int.tmod y8 (2 : Int)) = 1)) = true → (∃ (x14 : Int) (x15 : Sl) (x16 : Sl) (x17 : ByteArray), cells H_1 y5 [(.int .i64 x14), (Sl.v x15), (Sl.v x16), (.string x17)] 0 ∧ (
 F25 x14 x15 x16 x17 H_1 (fun (r20 : Int) (r21 : Sl) (r22 : Sl) (r23 : ByteArray) (H18 : Hp) => 
 mayw H18 y5 4 0 ∧ ∀ H24 : Hp, H24 = sets H18 y5 [(.int .i64 r20), (Sl.v r21), (Sl.v r22), (.string r23)] 0 → (
 F24_2 Q y8 y5 y6 H24))))) ∧
 ((decide ((Int.tmod y8 (2 : Int)) = 1)) = false → (F24_2 Q y8 y5 y6 H_1))
def F24 (p0_0 : Int) (p0_1 : Sl) (p0_2 : Sl) (p0_3 : ByteArray) (p1 : Int) (H : Hp) (Q : Int → Sl → Sl → ByteArray → Hp → Prop) : Prop :=
∀ H1 : Hp, H1 = Array.push H (.cells #[(.int .i64 p0_0), (Sl.v p0_1), (Sl.v p0_2), (.string p0_3)] 41) → (
 ∀ H3 : Hp, H3 = Array.push H1 (.cells #[(.int .i64 0), (Sl.v Sl.nil), (Sl.v Sl.nil), (.string (ByteArray.mk #[]))] 41) → (
 ((decide (p1 < 0)) = true → (F24_1 Q ⟨H.size, 0, none⟩ ⟨H1.size, 0, none⟩ (IntKind.i64.wrap (0 - (IntKind.i64.wrap (p1 + 1)))) H3)) ∧
 ((decide (p1 < 0)) = false → (F24_1 Q ⟨H.size, 0, none⟩ ⟨H1.size, 0, none⟩ p1 H3))))
set_option maxRecDepth 100000 in
set_option maxHeartbeats 4000000 in
theorem walk24 {w0 : World} {p0_0 : Int} {p0_1 : Sl} {p0_2 : Sl} {p0_3 : ByteArray} {p1 : Int} {H : Hp} {Q : Int → Sl → Sl → ByteArray → Hp → Prop} (h : F24 p0_0 p0_1 p0_2 p0_3 p1 H Q) :
    Good Tryd.prog w0 24 #[(.agg #[(.int .i64 p0_0), (Sl.v p0_1), (Sl.v p0_2), (.string p0_3)]), (.int .i64 p1)] H (fun v H => ∃ (r0 : Int) (r1 : Sl) (r2 : Sl) (r3 : ByteArray) , v = (.agg #[(.int .i64 r0), (Sl.v r1), (Sl.v r2), (.string r3)]) ∧ Q r0 r1 r2 r3 H) := by
  unfold F24 at h
  refine Good.enter' (fn := Tryd.f24) Tryd.func24 rfl rfl rfl ?_
  refine HW.seq ?_
  refine HW.region ?_
  refine HList.ops' rfl (HOp.box (v := (.agg #[(.int .i64 p0_0), (Sl.v p0_1), (Sl.v p0_2), (.string p0_3)])) rfl) ?_
  rintro _ H1 ⟨rfl, e2⟩
  replace h := h H1 e2
  refine HList.ops' rfl (HOp.alloc Tryd.zeroValue41) ?_
  rintro _ H3 ⟨rfl, e4⟩
  replace h := h H3 e4
  refine HList.nil ?_
  refine nt ?_
  refine HW.cut (fun ρ H_1 => ∃ (y8 : Int), Env.Is ρ [(2, (.pointer (some ⟨H.size, 0, none⟩))), (4, (.pointer (some ⟨H1.size, 0, none⟩))), (1, (.int .i64 y8))] ∧ F24_1 Q ⟨H.size, 0, none⟩ ⟨H1.size, 0, none⟩ y8 H_1) ?_ ?_
  · refine HW.seq ?_
    refine HW.region ?_
    refine HList.vals (v := (.int .i64 p1)) rfl (HVal.move' rfl) ?_
    refine HList.vals (v := (.bool (decide (p1 < 0)))) rfl (HVal.lss rfl rfl) ?_
    refine HList.nil ?_
    refine nt ?_
    obtain ⟨hT, hF⟩ := h
    refine HW.cond (decide (p1 < 0)) rfl (fun hb7 => ?_) (fun hb7 => ?_)
    · have h := hT hb7
      clear hT hF
      refine HW.region ?_
      refine HList.vals (v := (.int .i64 p1)) rfl (HVal.move' rfl) ?_
      refine HList.vals (v := (.int .i64 (IntKind.i64.wrap (p1 + 1)))) rfl (HVal.add rfl rfl) ?_
      refine HList.vals (v := (.int .i64 (IntKind.i64.wrap (0 - (IntKind.i64.wrap (p1 + 1)))))) rfl (HVal.neg rfl) ?_
      refine HList.vals (v := (.int .i64 (IntKind.i64.wrap (0 - (IntKind.i64.wrap (p1 + 1)))))) rfl (HVal.assign' rfl) ?_
      refine HList.nil ?_
      refine nt ?_
      exact ⟨(IntKind.i64.wrap (0 - (IntKind.i64.wrap (p1 + 1)))), ⟨rfl, rfl, rfl, trivial⟩, h⟩
    · have h := hF hb7
      clear hT hF
      refine HW.skip ?_
      refine nt ?_
      exact ⟨p1, ⟨rfl, rfl, rfl, trivial⟩, h⟩
  · rintro ρ H_1 ⟨y8, hI, h⟩
    obtain ⟨ρ0, rfl⟩ : ∃ ρ0, ρ = (Env.set (Env.set (Env.set ρ0 1 (.int .i64 y8)) 4 (.pointer (some ⟨H1.size, 0, none⟩))) 2 (.pointer (some ⟨H.size, 0, none⟩))) := ⟨ρ, hI.eq⟩
    clear hI; unfold F24_1 at h
    refine HW.cut (fun ρ H_2 => Env.Is ρ [(1, (.int .i64 y8)), (2, (.pointer (some ⟨H.size, 0, none⟩))), (4, (.pointer (some ⟨H1.size, 0, none⟩)))] ∧ F24_2 Q y8 ⟨H.size, 0, none⟩ ⟨H1.size, 0, none⟩ H_2) ?_ ?_
    · refine HW.seq ?_
      refine HW.region ?_
      refine HList.vals (v := (.int .i64 y8)) rfl (HVal.move' rfl) ?_
      refine HList.vals (v := (.int .i64 (Int.tmod y8 (2 : Int)))) rfl (HVal.rem rfl rfl (by decide)) ?_
      refine HList.vals (v := (.bool (decide ((Int.tmod y8 (2 : Int)) = 1)))) rfl (HVal.eqlI rfl rfl) ?_
      refine HList.nil ?_
      refine nt ?_
      obtain ⟨hT, hF⟩ := h
      refine HW.cond (decide ((Int.tmod y8 (2 : Int)) = 1)) rfl (fun hb12 => ?_) (fun hb12 => ?_)
      · have h := hT hb12
        clear hT hF
        refine HW.region ?_
        obtain ⟨x14, x15, x16, x17, c13, h⟩ := h
        refine HList.vals (v := (.agg #[(.int .i64 x14), (Sl.v x15), (Sl.v x16), (.string x17)])) rfl (HVal.loadN [(.int .i64 x14), (Sl.v x15), (Sl.v x16), (.string x17)] Tryd.isAgg41 Tryd.sizeOf41 rfl c13) ?_
        refine HList.ops' rfl (HOp.call' 25 [(.agg #[(.int .i64 x14), (Sl.v x15), (Sl.v x16), (.string x17)])] (cap := []) rfl rfl Tryd.call25 (walk25 h)) ?_
        rintro _ H18 ⟨r20, r21, r22, r23, rfl, h⟩
        obtain ⟨z26, h⟩ := h
        refine HList.opsn (HOp.storeN' (l := [(.int .i64 r20), (Sl.v r21), (Sl.v r22), (.string r23)]) Tryd.sizeOf41 rfl rfl rfl z26) ?_
        rintro _ H24 e25
        replace h := h H24 e25
        refine HList.nil ?_
        refine nt ?_
        exact ⟨⟨rfl, rfl, rfl, trivial⟩, h⟩
      · have h := hF hb12
        clear hT hF
        refine HW.skip ?_
        refine nt ?_
        exact ⟨⟨rfl, rfl, rfl, trivial⟩, h⟩
    · rintro ρ H_2 ⟨hI, h⟩
      obtain ⟨ρ0, rfl⟩ : ∃ ρ0, ρ = (Env.set (Env.set (Env.set ρ0 4 (.pointer (some ⟨H1.size, 0, none⟩))) 2 (.pointer (some ⟨H.size, 0, none⟩))) 1 (.int .i64 y8)) := ⟨ρ, hI.eq⟩
      clear hI; unfold F24_2 at h
      refine HW.seq ?_
      refine HW.region ?_
      refine HList.vals (v := (.int .i64 y8)) rfl (HVal.move' rfl) ?_
      refine HList.vals (v := (.int .i64 (IntKind.i64.wrap (Int.tdiv y8 (2 : Int))))) rfl (HVal.quo rfl rfl (by decide)) ?_
      refine HList.vals (v := (.int .i64 (Int.tmod (IntKind.i64.wrap (Int.tdiv y8 (2 : Int))) (5 : Int)))) rfl (HVal.rem rfl rfl (by decide)) ?_
      refine HList.vals (v := (.int .i64 (Int.tmod (IntKind.i64.wrap (Int.tdiv y8 (2 : Int))) (5 : Int)))) rfl (HVal.assign' rfl) ?_
      refine HList.nil ?_
      refine nt ?_
      refine HW.seq ?_
      refine HW.region ?_
      refine HList.vals (v := (.int .i64 y8)) rfl (HVal.move' rfl) ?_
      refine HList.vals (v := (.int .i64 (IntKind.i64.wrap (Int.tdiv y8 (10 : Int))))) rfl (HVal.quo rfl rfl (by decide)) ?_
      refine HList.vals (v := (.int .i64 (IntKind.i64.wrap (Int.tdiv y8 (10 : Int))))) rfl (HVal.assign' rfl) ?_
      refine HList.nil ?_
      refine nt ?_
      refine HW.cut (fun ρ H_3 => Env.Is ρ [(2, (.pointer (some ⟨H.size, 0, none⟩))), (4, (.pointer (some ⟨H1.size, 0, none⟩)))] ∧ F24_3 Q ⟨H.size, 0, none⟩ ⟨H1.size, 0, none⟩ H_3) ?_ ?_
      · refine HW.block ?_
        refine HW.cut (fun ρ H_4 => ∃ (y37 : Bool), Env.Is ρ [(1, (.int .i64 (IntKind.i64.wrap (Int.tdiv y8 (10 : Int))))), (2, (.pointer (some ⟨H.size, 0, none⟩))), (4, (.pointer (some ⟨H1.size, 0, none⟩))), (5, (.int .i64 (Int.tmod (IntKind.i64.wrap (Int.tdiv y8 (2 : Int))) (5 : Int)))), (22, (.bool y37))] ∧ F24_4 Q (IntKind.i64.wrap (Int.tdiv y8 (10 : Int))) ⟨H.size, 0, none⟩ ⟨H1.size, 0, none⟩ (Int.tmod (IntKind.i64.wrap (Int.tdiv y8 (2 : Int))) (5 : Int)) y37 H_4) ?_ ?_
        · refine HW.region ?_
          refine HList.vals (v := (.int .i64 (Int.tmod (IntKind.i64.wrap (Int.tdiv y8 (2 : Int))) (5 : Int)))) rfl (HVal.move' rfl) ?_
          refine HList.vals (v := (.bool (decide ((Int.tmod (IntKind.i64.wrap (Int.tdiv y8 (2 : Int))) (5 : Int)) = 0)))) rfl (HVal.eqlI rfl rfl) ?_
          refine HList.vals (v := (.bool (decide ((Int.tmod (IntKind.i64.wrap (Int.tdiv y8 (2 : Int))) (5 : Int)) = 0)))) rfl (HVal.move' rfl) ?_
          obtain ⟨hT, hF⟩ := h
          rcases Bool.eq_false_or_eq_true (decide ((Int.tmod (IntKind.i64.wrap (Int.tdiv y8 (2 : Int))) (5 : Int)) = 0)) with hb33 | hb34
          · have h := hT hb33
            clear hT hF
            refine HList.gvals (v := (.pointer (some (Addr.add ⟨H.size, 0, none⟩ 1)))) rfl rfl rfl rfl (congrArg Value.bool hb33) (HVal.fieldAddr' Tryd.runUnderlying41 rfl rfl Tryd.sizeOf22 rfl) ?_
            obtain ⟨x36, c35, h⟩ := h
            refine HList.gvals (v := (Sl.v x36)) rfl rfl rfl rfl (congrArg Value.bool hb33) (HVal.load1 Tryd.isAgg22 rfl c35) ?_
            refine HList.gvals (v := (.int .i64 ((x36).n : Int))) rfl rfl rfl rfl (congrArg Value.bool hb33) (HVal.len Tryd.runUnderlying22 rfl) ?_
            refine HList.gvals (v := (.bool (decide ((0 : Int) < ((x36).n : Int))))) rfl rfl rfl rfl (congrArg Value.bool hb33) (HVal.gtr rfl rfl) ?_
            refine HList.vals (v := (.bool (decide ((0 : Int) < ((x36).n : Int))))) rfl (HVal.pickT rfl hb33 rfl) ?_
            refine HList.vals (v := (.bool (decide ((0 : Int) < ((x36).n : Int))))) rfl (HVal.assign' rfl) ?_
            refine HList.nil ?_
            refine nt ?_
            exact ⟨(decide ((0 : Int) < ((x36).n : Int))), ⟨rfl, rfl, rfl, rfl, rfl, trivial⟩, h⟩
          · have h := hF hb34
            clear hT hF
            refine HList.gskips rfl rfl rfl rfl (congrArg Value.bool hb34) ?_
            refine HList.gskips rfl rfl rfl rfl (congrArg Value.bool hb34) ?_
            refine HList.gskips rfl rfl rfl rfl (congrArg Value.bool hb34) ?_
            refine HList.gskips rfl rfl rfl rfl (congrArg Value.bool hb34) ?_
            refine HList.vals (v := (.bool false)) rfl (HVal.pickF rfl hb34 rfl) ?_
            refine HList.vals (v := (.bool false)) rfl (HVal.assign' rfl) ?_
            refine HList.nil ?_
            refine nt ?_
            exact ⟨false, ⟨rfl, rfl, rfl, rfl, rfl, trivial⟩, h⟩
        · rintro ρ H_4 ⟨y37, hI, h⟩
          obtain ⟨ρ0, rfl⟩ : ∃ ρ0, ρ = (Env.set (Env.set (Env.set (Env.set (Env.set ρ0 22 (.bool y37)) 5 (.int .i64 (Int.tmod (IntKind.i64.wrap (Int.tdiv y8 (2 : Int))) (5 : Int)))) 4 (.pointer (some ⟨H1.size, 0, none⟩))) 2 (.pointer (some ⟨H.size, 0, none⟩))) 1 (.int .i64 (IntKind.i64.wrap (Int.tdiv y8 (10 : Int))))) := ⟨ρ, hI.eq⟩
          clear hI; unfold F24_4 at h
          obtain ⟨hT, hF⟩ := h
          refine HW.cond y37 rfl (fun hb38 => ?_) (fun hb38 => ?_)
          · have h := hT hb38
            clear hT hF
            refine HW.draw mixed [(0, some []), (1, some [11]), (2, some []), (3, some []), (4, some [11]), (5, some []), (6, some []), (7, some []), (8, some []), (9, some []), (10, some []), (11, none)] rfl (by kernel_rfl) (by kernel_rfl) ?_
            refine HPlan.takev (v := (.pointer (some (Addr.add ⟨H.size, 0, none⟩ 1)))) rfl rfl (fun _ => HVal.fieldAddr' Tryd.runUnderlying41 rfl rfl Tryd.sizeOf22 rfl) ?_
            obtain ⟨x40, c39, h⟩ := h
            refine HPlan.takel (v := (Sl.v x40)) (fun X => cell X (Addr.add ⟨H.size, 0, none⟩ 1) = some (Sl.v x40)) rfl rfl (fun _ hX => HVal.load1 Tryd.isAgg22 rfl hX) c39 ?_
            refine HPlan.takev (v := (.int .i64 (IntKind.i64.wrap (Int.tdiv y8 (10 : Int))))) rfl rfl (fun _ => HVal.move' rfl) ?_
            refine HPlan.takev (v := (.pointer (some (Addr.add ⟨H.size, 0, none⟩ 1)))) rfl rfl (fun _ => HVal.fieldAddr' Tryd.runUnderlying41 rfl rfl Tryd.sizeOf22 rfl) ?_
            obtain ⟨x42, c41, h⟩ := h
            refine HPlan.takel (v := (Sl.v x42)) (fun X => cell X (Addr.add ⟨H.size, 0, none⟩ 1) = some (Sl.v x42)) rfl rfl (fun _ hX => HVal.load1 Tryd.isAgg22 rfl hX) c41 ?_
            refine HPlan.takev (v := (.int .i64 ((x42).n : Int))) rfl rfl (fun _ => HVal.len Tryd.runUnderlying22 rfl) ?_
            obtain ⟨z43, h⟩ := h
            refine HPlan.takev (v := (.int .i64 (Int.tmod (IntKind.i64.wrap (Int.tdiv y8 (10 : Int))) ((x42).n : Int)))) rfl rfl (fun _ => HVal.rem rfl rfl z43) ?_
            refine HPlan.takev (v := (.int .i64 (IntKind.i64.wrap (Int.tdiv y8 (10 : Int))))) rfl rfl (fun _ => HVal.move' rfl) ?_
            refine HPlan.takev (v := (.int .i64 (IntKind.i64.wrap (Int.tdiv (IntKind.i64.wrap (Int.tdiv y8 (10 : Int))) (7 : Int))))) rfl rfl (fun _ => HVal.quo rfl rfl (by decide)) ?_
            refine HPlan.takev (v := (.int .i64 (Int.tmod (IntKind.i64.wrap (Int.tdiv (IntKind.i64.wrap (Int.tdiv y8 (10 : Int))) (7 : Int))) (9 : Int)))) rfl rfl (fun _ => HVal.rem rfl rfl (by decide)) ?_
            obtain ⟨a44, e45, b46, b47, h⟩ := h
            refine HPlan.takev (v := (.pointer (some (Addr.add a44 ((Int.tmod (IntKind.i64.wrap (Int.tdiv y8 (10 : Int))) ((x42).n : Int)).toNat * 1))))) rfl rfl (fun _ => HVal.indexAddr Tryd.runUnderlying22 Tryd.sizeOf3 (Sl.v_some rfl e45) rfl b46 b47) ?_
            obtain ⟨z50, z51, h⟩ := h
            refine HPlan.opsn rfl (HOp.store1 Tryd.sizeOf3 rfl rfl rfl z50 z51) ?_
            rintro _ H48 e49
            replace h := h H48 e49
            refine ⟨SC_of ⟨fun e => absurd e (by decide), fun e => absurd e (by decide), trivial⟩, ?_⟩
            refine HPlan.done ?_
            refine nb ?_
            refine nt ?_
            exact ⟨⟨rfl, rfl, trivial⟩, h⟩
          · have h := hF hb38
            clear hT hF
            refine HW.cut (fun ρ H_5 => ∃ (y60 : Bool), Env.Is ρ [(1, (.int .i64 (IntKind.i64.wrap (Int.tdiv y8 (10 : Int))))), (2, (.pointer (some ⟨H.size, 0, none⟩))), (4, (.pointer (some ⟨H1.size, 0, none⟩))), (5, (.int .i64 (Int.tmod (IntKind.i64.wrap (Int.tdiv y8 (2 : Int))) (5 : Int)))), (42, (.bool y60))] ∧ F24_5 Q (IntKind.i64.wrap (Int.tdiv y8 (10 : Int))) ⟨H.size, 0, none⟩ ⟨H1.size, 0, none⟩ (Int.tmod (IntKind.i64.wrap (Int.tdiv y8 (2 : Int))) (5 : Int)) y60 H_5) ?_ ?_
            · refine HW.region ?_
              refine HList.vals (v := (.int .i64 (Int.tmod (IntKind.i64.wrap (Int.tdiv y8 (2 : Int))) (5 : Int)))) rfl (HVal.move' rfl) ?_
              refine HList.vals (v := (.bool (decide ((Int.tmod (IntKind.i64.wrap (Int.tdiv y8 (2 : Int))) (5 : Int)) = 1)))) rfl (HVal.eqlI rfl rfl) ?_
              refine HList.vals (v := (.bool (decide ((Int.tmod (IntKind.i64.wrap (Int.tdiv y8 (2 : Int))) (5 : Int)) = 1)))) rfl (HVal.move' rfl) ?_
              obtain ⟨hT, hF⟩ := h
              rcases Bool.eq_false_or_eq_true (decide ((Int.tmod (IntKind.i64.wrap (Int.tdiv y8 (2 : Int))) (5 : Int)) = 1)) with hb56 | hb57
              · have h := hT hb56
                clear hT hF
                refine HList.gvals (v := (.pointer (some (Addr.add ⟨H.size, 0, none⟩ 2)))) rfl rfl rfl rfl (congrArg Value.bool hb56) (HVal.fieldAddr' Tryd.runUnderlying41 rfl rfl Tryd.sizeOf22 rfl) ?_
                obtain ⟨x59, c58, h⟩ := h
                refine HList.gvals (v := (Sl.v x59)) rfl rfl rfl rfl (congrArg Value.bool hb56) (HVal.load1 Tryd.isAgg22 rfl c58) ?_
                refine HList.gvals (v := (.int .i64 ((x59).n : Int))) rfl rfl rfl rfl (congrArg Value.bool hb56) (HVal.len Tryd.runUnderlying22 rfl) ?_
                refine HList.gvals (v := (.bool (decide ((0 : Int) < ((x59).n : Int))))) rfl rfl rfl rfl (congrArg Value.bool hb56) (HVal.gtr rfl rfl) ?_
                refine HList.vals (v := (.bool (decide ((0 : Int) < ((x59).n : Int))))) rfl (HVal.pickT rfl hb56 rfl) ?_
                refine HList.vals (v := (.bool (decide ((0 : Int) < ((x59).n : Int))))) rfl (HVal.assign' rfl) ?_
                refine HList.nil ?_
                refine nt ?_
                exact ⟨(decide ((0 : Int) < ((x59).n : Int))), ⟨rfl, rfl, rfl, rfl, rfl, trivial⟩, h⟩
              · have h := hF hb57
                clear hT hF
                refine HList.gskips rfl rfl rfl rfl (congrArg Value.bool hb57) ?_
                refine HList.gskips rfl rfl rfl rfl (congrArg Value.bool hb57) ?_
                refine HList.gskips rfl rfl rfl rfl (congrArg Value.bool hb57) ?_
                refine HList.gskips rfl rfl rfl rfl (congrArg Value.bool hb57) ?_
                refine HList.vals (v := (.bool false)) rfl (HVal.pickF rfl hb57 rfl) ?_
                refine HList.vals (v := (.bool false)) rfl (HVal.assign' rfl) ?_
                refine HList.nil ?_
                refine nt ?_
                exact ⟨false, ⟨rfl, rfl, rfl, rfl, rfl, trivial⟩, h⟩
            · rintro ρ H_5 ⟨y60, hI, h⟩
              obtain ⟨ρ0, rfl⟩ : ∃ ρ0, ρ = (Env.set (Env.set (Env.set (Env.set (Env.set ρ0 42 (.bool y60)) 5 (.int .i64 (Int.tmod (IntKind.i64.wrap (Int.tdiv y8 (2 : Int))) (5 : Int)))) 4 (.pointer (some ⟨H1.size, 0, none⟩))) 2 (.pointer (some ⟨H.size, 0, none⟩))) 1 (.int .i64 (IntKind.i64.wrap (Int.tdiv y8 (10 : Int))))) := ⟨ρ, hI.eq⟩
              clear hI; unfold F24_5 at h
              obtain ⟨hT, hF⟩ := h
              refine HW.cond y60 rfl (fun hb61 => ?_) (fun hb61 => ?_)
              · have h := hT hb61
                clear hT hF
                refine HW.draw mixed [(0, some []), (1, some [11]), (2, some []), (3, some []), (4, some [11]), (5, some []), (6, some []), (7, some []), (8, some []), (9, some []), (10, some []), (11, none)] rfl (by kernel_rfl) (by kernel_rfl) ?_
                refine HPlan.takev (v := (.pointer (some (Addr.add ⟨H.size, 0, none⟩ 2)))) rfl rfl (fun _ => HVal.fieldAddr' Tryd.runUnderlying41 rfl rfl Tryd.sizeOf22 rfl) ?_
                obtain ⟨x63, c62, h⟩ := h
                refine HPlan.takel (v := (Sl.v x63)) (fun X => cell X (Addr.add ⟨H.size, 0, none⟩ 2) = some (Sl.v x63)) rfl rfl (fun _ hX => HVal.load1 Tryd.isAgg22 rfl hX) c62 ?_
                refine HPlan.takev (v := (.int .i64 (IntKind.i64.wrap (Int.tdiv y8 (10 : Int))))) rfl rfl (fun _ => HVal.move' rfl) ?_
                refine HPlan.takev (v := (.pointer (some (Addr.add ⟨H.size, 0, none⟩ 2)))) rfl rfl (fun _ => HVal.fieldAddr' Tryd.runUnderlying41 rfl rfl Tryd.sizeOf22 rfl) ?_
                obtain ⟨x65, c64, h⟩ := h
                refine HPlan.takel (v := (Sl.v x65)) (fun X => cell X (Addr.add ⟨H.size, 0, none⟩ 2) = some (Sl.v x65)) rfl rfl (fun _ hX => HVal.load1 Tryd.isAgg22 rfl hX) c64 ?_
                refine HPlan.takev (v := (.int .i64 ((x65).n : Int))) rfl rfl (fun _ => HVal.len Tryd.runUnderlying22 rfl) ?_
                obtain ⟨z66, h⟩ := h
                refine HPlan.takev (v := (.int .i64 (Int.tmod (IntKind.i64.wrap (Int.tdiv y8 (10 : Int))) ((x65).n : Int)))) rfl rfl (fun _ => HVal.rem rfl rfl z66) ?_
                refine HPlan.takev (v := (.int .i64 (IntKind.i64.wrap (Int.tdiv y8 (10 : Int))))) rfl rfl (fun _ => HVal.move' rfl) ?_
                refine HPlan.takev (v := (.int .i64 (IntKind.i64.wrap (Int.tdiv (IntKind.i64.wrap (Int.tdiv y8 (10 : Int))) (7 : Int))))) rfl rfl (fun _ => HVal.quo rfl rfl (by decide)) ?_
                refine HPlan.takev (v := (.int .i64 (Int.tmod (IntKind.i64.wrap (Int.tdiv (IntKind.i64.wrap (Int.tdiv y8 (10 : Int))) (7 : Int))) (9 : Int)))) rfl rfl (fun _ => HVal.rem rfl rfl (by decide)) ?_
                obtain ⟨a67, e68, b69, b70, h⟩ := h
                refine HPlan.takev (v := (.pointer (some (Addr.add a67 ((Int.tmod (IntKind.i64.wrap (Int.tdiv y8 (10 : Int))) ((x65).n : Int)).toNat * 1))))) rfl rfl (fun _ => HVal.indexAddr Tryd.runUnderlying22 Tryd.sizeOf3 (Sl.v_some rfl e68) rfl b69 b70) ?_
                obtain ⟨z73, z74, h⟩ := h
                refine HPlan.opsn rfl (HOp.store1 Tryd.sizeOf3 rfl rfl rfl z73 z74) ?_
                rintro _ H71 e72
                replace h := h H71 e72
                refine ⟨SC_of ⟨fun e => absurd e (by decide), fun e => absurd e (by decide), trivial⟩, ?_⟩
                refine HPlan.done ?_
                refine nb ?_
                refine nt ?_
                exact ⟨⟨rfl, rfl, trivial⟩, h⟩
              · have h := hF hb61
                clear hT hF
                refine HW.cut (fun ρ H_6 => ∃ (y83 : Bool), Env.Is ρ [(1, (.int .i64 (IntKind.i64.wrap (Int.tdiv y8 (10 : Int))))), (2, (.pointer (some ⟨H.size, 0, none⟩))), (4, (.pointer (some ⟨H1.size, 0, none⟩))), (5, (.int .i64 (Int.tmod (IntKind.i64.wrap (Int.tdiv y8 (2 : Int))) (5 : Int)))), (62, (.bool y83))] ∧ F24_6 Q (IntKind.i64.wrap (Int.tdiv y8 (10 : Int))) ⟨H.size, 0, none⟩ ⟨H1.size, 0, none⟩ (Int.tmod (IntKind.i64.wrap (Int.tdiv y8 (2 : Int))) (5 : Int)) y83 H_6) ?_ ?_
                · refine HW.region ?_
                  refine HList.vals (v := (.int .i64 (Int.tmod (IntKind.i64.wrap (Int.tdiv y8 (2 : Int))) (5 : Int)))) rfl (HVal.move' rfl) ?_
                  refine HList.vals (v := (.bool (decide ((Int.tmod (IntKind.i64.wrap (Int.tdiv y8 (2 : Int))) (5 : Int)) = 2)))) rfl (HVal.eqlI rfl rfl) ?_
                  refine HList.vals (v := (.bool (decide ((Int.tmod (IntKind.i64.wrap (Int.tdiv y8 (2 : Int))) (5 : Int)) = 2)))) rfl (HVal.move' rfl) ?_
                  obtain ⟨hT, hF⟩ := h
                  rcases Bool.eq_false_or_eq_true (decide ((Int.tmod (IntKind.i64.wrap (Int.tdiv y8 (2 : Int))) (5 : Int)) = 2)) with hb79 | hb80
                  · have h := hT hb79
                    clear hT hF
                    refine HList.gvals (v := (.pointer (some (Addr.add ⟨H.size, 0, none⟩ 3)))) rfl rfl rfl rfl (congrArg Value.bool hb79) (HVal.fieldAddr' Tryd.runUnderlying41 rfl rfl Tryd.sizeOf9 rfl) ?_
                    obtain ⟨x82, c81, h⟩ := h
                    refine HList.gvals (v := (.string x82)) rfl rfl rfl rfl (congrArg Value.bool hb79) (HVal.load1 Tryd.isAgg9 rfl c81) ?_
                    refine HList.gvals (v := (.int .i64 ((x82).size : Int))) rfl rfl rfl rfl (congrArg Value.bool hb79) (HVal.lenS Tryd.runUnderlying9 rfl) ?_
                    refine HList.gvals (v := (.bool (decide ((0 : Int) < ((x82).size : Int))))) rfl rfl rfl rfl (congrArg Value.bool hb79) (HVal.gtr rfl rfl) ?_
                    refine HList.vals (v := (.bool (decide ((0 : Int) < ((x82).size : Int))))) rfl (HVal.pickT rfl hb79 rfl) ?_
                    refine HList.vals (v := (.bool (decide ((0 : Int) < ((x82).size : Int))))) rfl (HVal.assign' rfl) ?_
                    refine HList.nil ?_
                    refine nt ?_
                    exact ⟨(decide ((0 : Int) < ((x82).size : Int))), ⟨rfl, rfl, rfl, rfl, rfl, trivial⟩, h⟩
                  · have h := hF hb80
                    clear hT hF
                    refine HList.gskips rfl rfl rfl rfl (congrArg Value.bool hb80) ?_
                    refine HList.gskips rfl rfl rfl rfl (congrArg Value.bool hb80) ?_
                    refine HList.gskips rfl rfl rfl rfl (congrArg Value.bool hb80) ?_
                    refine HList.gskips rfl rfl rfl rfl (congrArg Value.bool hb80) ?_
                    refine HList.vals (v := (.bool false)) rfl (HVal.pickF rfl hb80 rfl) ?_
                    refine HList.vals (v := (.bool false)) rfl (HVal.assign' rfl) ?_
                    refine HList.nil ?_
                    refine nt ?_
                    exact ⟨false, ⟨rfl, rfl, rfl, rfl, rfl, trivial⟩, h⟩
                · rintro ρ H_6 ⟨y83, hI, h⟩
                  obtain ⟨ρ0, rfl⟩ : ∃ ρ0, ρ = (Env.set (Env.set (Env.set (Env.set (Env.set ρ0 62 (.bool y83)) 5 (.int .i64 (Int.tmod (IntKind.i64.wrap (Int.tdiv y8 (2 : Int))) (5 : Int)))) 4 (.pointer (some ⟨H1.size, 0, none⟩))) 2 (.pointer (some ⟨H.size, 0, none⟩))) 1 (.int .i64 (IntKind.i64.wrap (Int.tdiv y8 (10 : Int))))) := ⟨ρ, hI.eq⟩
                  clear hI; unfold F24_6 at h
                  obtain ⟨hT, hF⟩ := h
                  refine HW.cond y83 rfl (fun hb84 => ?_) (fun hb84 => ?_)
                  · have h := hT hb84
                    clear hT hF
                    refine HW.seq ?_
                    refine HW.region ?_
                    refine HList.vals (v := (.int .i64 (IntKind.i64.wrap (Int.tdiv y8 (10 : Int))))) rfl (HVal.move' rfl) ?_
                    refine HList.vals (v := (.pointer (some (Addr.add ⟨H.size, 0, none⟩ 3)))) rfl (HVal.fieldAddr' Tryd.runUnderlying41 rfl rfl Tryd.sizeOf9 rfl) ?_
                    obtain ⟨x86, c85, h⟩ := h
                    refine HList.vals (v := (.string x86)) rfl (HVal.load1 Tryd.isAgg9 rfl c85) ?_
                    refine HList.vals (v := (.int .i64 ((x86).size : Int))) rfl (HVal.lenS Tryd.runUnderlying9 rfl) ?_
                    obtain ⟨z87, h⟩ := h
                    refine HList.vals (v := (.int .i64 (Int.tmod (IntKind.i64.wrap (Int.tdiv y8 (10 : Int))) ((x86).size : Int)))) rfl (HVal.rem rfl rfl z87) ?_
                    refine HList.vals (v := (.int .i64 (Int.tmod (IntKind.i64.wrap (Int.tdiv y8 (10 : Int))) ((x86).size : Int)))) rfl (HVal.assign' rfl) ?_
                    refine HList.nil ?_
                    refine nt ?_
                    refine HW.draw mixed [(0, some []), (1, some [18]), (2, some []), (3, some []), (4, some []), (5, some []), (6, some []), (7, some []), (11, some []), (12, some [18]), (13, some []), (14, some []), (15, some []), (8, none), (9, some [18]), (10, some []), (16, some []), (17, some []), (18, none)] rfl (by kernel_rfl) (by kernel_rfl) ?_
                    refine HPlan.takev (v := (.pointer (some (Addr.add ⟨H.size, 0, none⟩ 3)))) rfl rfl (fun _ => HVal.fieldAddr' Tryd.runUnderlying41 rfl rfl Tryd.sizeOf9 rfl) ?_
                    obtain ⟨x89, c88, h⟩ := h
                    refine HPlan.takel (v := (.string x89)) (fun X => cell X (Addr.add ⟨H.size, 0, none⟩ 3) = some (.string x89)) rfl rfl (fun _ hX => HVal.load1 Tryd.isAgg9 rfl hX) c88 ?_
                    refine HPlan.takev (v := (.int .i64 (Int.tmod (IntKind.i64.wrap (Int.tdiv y8 (10 : Int))) ((x86).size : Int)))) rfl rfl (fun _ => HVal.move' rfl) ?_
                    obtain ⟨z90, z91, z92, h⟩ := h
                    refine HPlan.takev (v := (.string ((x89).extract 0 ((Int.tmod (IntKind.i64.wrap (Int.tdiv y8 (10 : Int))) ((x86).size : Int)).toNat)))) rfl rfl (fun _ => HVal.sliceS _ _ Tryd.runUnderlying9 rfl rfl ⟨_, _, rfl, z90, rfl⟩ z91 z92) ?_
                    refine HPlan.takev (v := (.int .i64 (IntKind.i64.wrap (Int.tdiv y8 (10 : Int))))) rfl rfl (fun _ => HVal.move' rfl) ?_
                    refine HPlan.takev (v := (.int .i64 (IntKind.i64.wrap (Int.tdiv (IntKind.i64.wrap (Int.tdiv y8 (10 : Int))) (7 : Int))))) rfl rfl (fun _ => HVal.quo rfl rfl (by decide)) ?_
                    refine HPlan.takev (v := (.int .i64 (Int.tmod (IntKind.i64.wrap (Int.tdiv (IntKind.i64.wrap (Int.tdiv y8 (10 : Int))) (7 : Int))) (13 : Int)))) rfl rfl (fun _ => HVal.rem rfl rfl (by decide)) ?_
                    obtain ⟨b93, b94, h⟩ := h
                    refine HPlan.takev (v := (.int .u8 (bt S_0123456789__x (Int.tmod (IntKind.i64.wrap (Int.tdiv (IntKind.i64.wrap (Int.tdiv y8 (10 : Int))) (7 : Int))) (13 : Int)).toNat))) rfl rfl (fun _ => HVal.indexS' Tryd.runUnderlying9 rfl rfl b93 b94) ?_
                    refine HPlan.takev (v := (.pointer (some (Addr.add ⟨H.size, 0, none⟩ 3)))) rfl rfl (fun _ => HVal.fieldAddr' Tryd.runUnderlying41 rfl rfl Tryd.sizeOf9 rfl) ?_
                    obtain ⟨x96, c95, h⟩ := h
                    refine HPlan.takel (v := (.string x96)) (fun X => cell X (Addr.add ⟨H.size, 0, none⟩ 3) = some (.string x96)) rfl rfl (fun _ hX => HVal.load1 Tryd.isAgg9 rfl hX) c95 ?_
                    refine HPlan.takev (v := (.int .i64 (Int.tmod (IntKind.i64.wrap (Int.tdiv y8 (10 : Int))) ((x86).size : Int)))) rfl rfl (fun _ => HVal.move' rfl) ?_
                    refine HPlan.takev (v := (.int .i64 (IntKind.i64.wrap ((Int.tmod (IntKind.i64.wrap (Int.tdiv y8 (10 : Int))) ((x86).size : Int)) + 1)))) rfl rfl (fun _ => HVal.add rfl rfl) ?_
                    obtain ⟨z97, z98, z99, h⟩ := h
                    refine HPlan.takev (v := (.string ((x96).extract ((IntKind.i64.wrap ((Int.tmod (IntKind.i64.wrap (Int.tdiv y8 (10 : Int))) ((x86).size : Int)) + 1)).toNat) ((x96).size)))) rfl rfl (fun _ => HVal.sliceS _ _ Tryd.runUnderlying9 rfl ⟨_, _, rfl, z97, rfl⟩ rfl z98 z99) ?_
                    refine HPlan.ops' rfl rfl (HOp.buildSlice' (zs := [(.int .u8 0)]) (cs := [(.int .u8 (bt S_0123456789__x (Int.tmod (IntKind.i64.wrap (Int.tdiv (IntKind.i64.wrap (Int.tdiv y8 (10 : Int))) (7 : Int))) (13 : Int)).toNat))]) Tryd.runUnderlying57 Tryd.sizeOf5 Tryd.zeroValue5 (by decide) (by kernel_rfl) rfl (by decide)) ?_
                    rintro _ H100 ⟨rfl, e101⟩
                    replace h := h H100 e101
                    obtain ⟨s102, s103, h⟩ := h
                    refine ⟨SC_of ⟨fun _ => s102, fun _ => s103, trivial⟩, ?_⟩
                    obtain ⟨L104, c105, h⟩ := h
                    refine HPlan.takel (v := (.string (bst L104))) (fun X => rds X ((Sl.mk (some ⟨H_6.size, 0, none⟩) 1 1)).b (L104.map (Value.int .u8)) ∧ L104.length = ((Sl.mk (some ⟨H_6.size, 0, none⟩) 1 1)).n) rfl rfl (fun _ hX => HVal.convBS (L := L104) Tryd.runUnderlying57 Tryd.runUnderlying9 Tryd.runUnderlying5 rfl hX) c105 ?_
                    obtain ⟨z106, h⟩ := h
                    refine HPlan.takev (v := (.string (((x89).extract 0 ((Int.tmod (IntKind.i64.wrap (Int.tdiv y8 (10 : Int))) ((x86).size : Int)).toNat)) ++ (bst L104)))) rfl rfl (fun _ => HVal.addS rfl rfl z106) ?_
                    obtain ⟨z107, h⟩ := h
                    refine HPlan.takev (v := (.string ((((x89).extract 0 ((Int.tmod (IntKind.i64.wrap (Int.tdiv y8 (10 : Int))) ((x86).size : Int)).toNat)) ++ (bst L104)) ++ ((x96).extract ((IntKind.i64.wrap ((Int.tmod (IntKind.i64.wrap (Int.tdiv y8 (10 : Int))) ((x86).size : Int)) + 1)).toNat) ((x96).size))))) rfl rfl (fun _ => HVal.addS rfl rfl z107) ?_
                    refine HPlan.takev (v := (.pointer (some (Addr.add ⟨H.size, 0, none⟩ 3)))) rfl rfl (fun _ => HVal.fieldAddr' Tryd.runUnderlying41 rfl rfl Tryd.sizeOf9 rfl) ?_
                    obtain ⟨z110, z111, h⟩ := h
                    refine HPlan.opsn rfl (HOp.store1 Tryd.sizeOf9 rfl rfl rfl z110 z111) ?_
                    rintro _ H108 e109
                    replace h := h H108 e109
                    refine ⟨SC_of ⟨fun e => absurd e (by decide), fun e => absurd e (by decide), fun e => absurd e (by decide), trivial⟩, ?_⟩
                    refine HPlan.done ?_
                    refine nb ?_
                    refine nt ?_
                    exact ⟨⟨rfl, rfl, trivial⟩, h⟩
                  · have h := hF hb84
                    clear hT hF
                    refine HW.seq ?_
                    refine HW.region ?_
                    refine HList.vals (v := (.int .i64 (Int.tmod (IntKind.i64.wrap (Int.tdiv y8 (2 : Int))) (5 : Int)))) rfl (HVal.move' rfl) ?_
                    refine HList.vals (v := (.bool (decide ((Int.tmod (IntKind.i64.wrap (Int.tdiv y8 (2 : Int))) (5 : Int)) = 3)))) rfl (HVal.eqlI rfl rfl) ?_
                    refine HList.vals (v := (.bool (decide ((Int.tmod (IntKind.i64.wrap (Int.tdiv y8 (2 : Int))) (5 : Int)) = 3)))) rfl (HVal.assign' rfl) ?_
                    refine HList.nil ?_
                    refine nt ?_
                    obtain ⟨hT, hF⟩ := h
                    refine HW.cond (decide ((Int.tmod (IntKind.i64.wrap (Int.tdiv y8 (2 : Int))) (5 : Int)) = 3)) rfl (fun hb112 => ?_) (fun hb112 => ?_)
                    · have h := hT hb112
                      clear hT hF
                      refine HW.region ?_
                      refine HList.vals (v := (.pointer (some (Addr.add ⟨H.size, 0, none⟩ 2)))) rfl (HVal.fieldAddr' Tryd.runUnderlying41 rfl rfl Tryd.sizeOf22 rfl) ?_
                      obtain ⟨x114, c113, h⟩ := h
                      refine HList.vals (v := (Sl.v x114)) rfl (HVal.load1 Tryd.isAgg22 rfl c113) ?_
                      refine HList.vals (v := (.pointer (some (Addr.add ⟨H.size, 0, none⟩ 1)))) rfl (HVal.fieldAddr' Tryd.runUnderlying41 rfl rfl Tryd.sizeOf22 rfl) ?_
                      obtain ⟨x116, c115, h⟩ := h
                      refine HList.vals (v := (Sl.v x116)) rfl (HVal.load1 Tryd.isAgg22 rfl c115) ?_
                      refine HList.vals (v := (.pointer (some (Addr.add ⟨H.size, 0, none⟩ 1)))) rfl (HVal.fieldAddr' Tryd.runUnderlying41 rfl rfl Tryd.sizeOf22 rfl) ?_
                      obtain ⟨z119, z120, h⟩ := h
                      refine HList.opsn (HOp.store1 Tryd.sizeOf22 rfl rfl rfl z119 z120) ?_
                      rintro _ H117 e118
                      replace h := h H117 e118
                      refine HList.vals (v := (.pointer (some (Addr.add ⟨H.size, 0, none⟩ 2)))) rfl (HVal.fieldAddr' Tryd.runUnderlying41 rfl rfl Tryd.sizeOf22 rfl) ?_
                      obtain ⟨z123, z124, h⟩ := h
                      refine HList.opsn (HOp.store1 Tryd.sizeOf22 rfl rfl rfl z123 z124) ?_
                      rintro _ H121 e122
                      replace h := h H121 e122
                      refine HList.nil ?_
                      refine nb ?_
                      refine nt ?_
                      exact ⟨⟨rfl, rfl, trivial⟩, h⟩
                    · have h := hF hb112
                      clear hT hF
                      refine HW.seq ?_
                      refine HW.region ?_
                      refine HList.vals (v := (.int .i64 (Int.tmod (IntKind.i64.wrap (Int.tdiv y8 (2 : Int))) (5 : Int)))) rfl (HVal.move' rfl) ?_
                      refine HList.vals (v := (.bool (decide ((Int.tmod (IntKind.i64.wrap (Int.tdiv y8 (2 : Int))) (5 : Int)) = 4)))) rfl (HVal.eqlI rfl rfl) ?_
                      refine HList.vals (v := (.bool (decide ((Int.tmod (IntKind.i64.wrap (Int.tdiv y8 (2 : Int))) (5 : Int)) = 4)))) rfl (HVal.assign' rfl) ?_
                      refine HList.nil ?_
                      refine nt ?_
                      obtain ⟨hT, hF⟩ := h
                      refine HW.cond (decide ((Int.tmod (IntKind.i64.wrap (Int.tdiv y8 (2 : Int))) (5 : Int)) = 4)) rfl (fun hb125 => ?_) (fun hb125 => ?_)
                      · have h := hT hb125
                        clear hT hF
                        refine HW.region ?_
                        refine HList.vals (v := (.int .i64 (IntKind.i64.wrap (Int.tdiv y8 (10 : Int))))) rfl (HVal.move' rfl) ?_
                        refine HList.vals (v := (.int .i64 (Int.tmod (IntKind.i64.wrap (Int.tdiv y8 (10 : Int))) (6 : Int)))) rfl (HVal.rem rfl rfl (by decide)) ?_
                        refine HList.vals (v := (.int .i64 (IntKind.i64.wrap (1 + (Int.tmod (IntKind.i64.wrap (Int.tdiv y8 (10 : Int))) (6 : Int)))))) rfl (HVal.add rfl rfl) ?_
                        refine HList.vals (v := (.pointer (some ⟨H.size, 0, none⟩))) rfl (HVal.fieldAddr0 Tryd.runUnderlying41 rfl rfl Tryd.sizeOf3 rfl) ?_
                        obtain ⟨z128, z129, h⟩ := h
                        refine HList.opsn (HOp.store1 Tryd.sizeOf3 rfl rfl rfl z128 z129) ?_
                        rintro _ H126 e127
                        replace h := h H126 e127
                        refine HList.nil ?_
                        refine nb ?_
                        refine nt ?_
                        exact ⟨⟨rfl, rfl, trivial⟩, h⟩
                      · have h := hF hb125
                        clear hT hF
                        refine HW.skip ?_
                        refine nb ?_
                        refine nt ?_
                        exact ⟨⟨rfl, rfl, trivial⟩, h⟩
      · rintro ρ H_3 ⟨hI, h⟩
        obtain ⟨ρ0, rfl⟩ : ∃ ρ0, ρ = (Env.set (Env.set ρ0 4 (.pointer (some ⟨H1.size, 0, none⟩))) 2 (.pointer (some ⟨H.size, 0, none⟩))) := ⟨ρ, hI.eq⟩
        clear hI; unfold F24_3 at h
        refine HW.seq ?_
        refine HW.region ?_
        obtain ⟨x131, x132, x133, x134, c130, h⟩ := h
        refine HList.vals (v := (.agg #[(.int .i64 x131), (Sl.v x132), (Sl.v x133), (.string x134)])) rfl (HVal.loadN [(.int .i64 x131), (Sl.v x132), (Sl.v x133), (.string x134)] Tryd.isAgg41 Tryd.sizeOf41 rfl c130) ?_
        obtain ⟨z137, h⟩ := h
        refine HList.opsn (HOp.storeN' (l := [(.int .i64 x131), (Sl.v x132), (Sl.v x133), (.string x134)]) Tryd.sizeOf41 rfl rfl rfl z137) ?_
        rintro _ H135 e136
        replace h := h H135 e136
        refine HList.nil ?_
        refine nt ?_
        refine HW.ret ?_
        obtain ⟨x138, x139, x140, x141, c142, h⟩ := h
        exact ⟨_, resOf1 rfl (Res1.n [(.int .i64 x138), (Sl.v x139), (Sl.v x140), (.string x141)] Tryd.isAgg41 Tryd.sizeOf41 rfl c142), ⟨x138, x139, x140, x141, rfl, h⟩⟩

def F26 (p0_0 : Int) (p0_1 : Sl) (p0_2 : Sl) (p0_3 : ByteArray) (H : Hp) (Q : Sl → ByteArray → Int → Bool → Int → Hp → Prop) : Prop :=
∀ H1 : Hp, H1 = Array.push H (.cells #[(.int .i64 p0_0), (Sl.v p0_1), (Sl.v p0_2), (.string p0_3)] 41) → (
 ∀ H3 : Hp, H3 = Array.push H1 (.cells #[(Sl.v Sl.nil), (.string (ByteArray.mk #[])), (.int .i64 0), (.bool false), (.int .i64 0)] 51) → (
 ∃ x6 : Int, cell H3 ⟨H.size, 0, none⟩ = some (.int .i64 x6) ∧ (
 ((decide (x6 = 1)) = true → (∃ x9 : Sl, cell H3 (Addr.add ⟨H.size, 0, none⟩ 1) = some (Sl.v x9) ∧ (
 F12 x9 H3 (fun (r12 : Sl) (H10 : Hp) => 
 mayw H10 ⟨H1.size, 0, none⟩ 5 0 ∧ ∀ H13 : Hp, H13 = sets H10 ⟨H1.size, 0, none⟩ [(Sl.v r12), (.string (ByteArray.mk #[])), (.int .i64 0), (.bool false), (.int .i64 0)] 0 → (
 ∃ (x16 : Sl) (x17 : ByteArray) (x18 : Int) (x19 : Bool) (x20 : Int), cells H13 ⟨H1.size, 0, none⟩ [(Sl.v x16), (.string x17), (.int .i64 x18), (.bool x19), (.int .i64 x20)] 0 ∧ (
 Q x16 x17 x18 x19 x20 H13)))))) ∧
 ((decide (x6 = 1)) = false → (((decide (x6 = 2)) = true → (∃ x24 : Sl, cell H3 (Addr.add ⟨H.size, 0, none⟩ 1) = some (Sl.v x24) ∧ (
 F11 x24 H3 (fun (r27 : Sl) (r28 : Int) (H25 : Hp) => 
 mayw H25 ⟨H1.size, 0, none⟩ 5 0 ∧ ∀ H29 : Hp, H29 = sets H25 ⟨H1.size, 0, none⟩ [(Sl.v r27), (.string (ByteArray.mk #[])), (.int .i64 0), (.bool false), (.int .i64 r28)] 0 → (
 ∃ (x32 : Sl) (x33 : ByteArray) (x34 : Int) (x35 : Bool) (x36 : Int), cells H29 ⟨H1.size, 0, none⟩ [(Sl.v x32), (.string x33), (.int .i64 x34), (.bool x35), (.int .i64 x36)] 0 ∧ (
 Q x32 x33 x34 x35 x36 H29)))))) ∧
 ((decide (x6 = 2)) = false → (((decide (x6 = 3)) = true → (∃ x40 : Sl, cell H3 (Addr.add ⟨H.size, 0, none⟩ 1) = some (Sl.v x40) ∧ (
 ∃ x42 : Sl, cell H3 (Addr.add ⟨H.size, 0, none⟩ 2) = some (Sl.v x42) ∧ (
 F30 x40 x42 H3 (fun (r45 : Bool) (H43 : Hp) => 
 mayw H43 ⟨H1.size, 0, none⟩ 5 0 ∧ ∀ H46 : Hp, H46 = sets H43 ⟨H1.size, 0, none⟩ [(Sl.v Sl.nil), (.string (ByteArray.mk #[])), (.int .i64 0), (.bool r45), (.int .i64 0)] 0 → (
 ∃ (x49 : Sl) (x50 : ByteArray) (x51 : Int) (x52 : Bool) (x53 : Int), cells H46 ⟨H1.size, 0, none⟩ [(Sl.v x49), (.string x50), (.int .i64 x51), (.bool x52), (.int .i64 x53)] 0 ∧ (
 Q x49 x50 x51 x52 x53 H46))))))) ∧
 ((decide (x6 = 3)) = false → (((decide (x6 = 4)) = true → (∃ x57 : Sl, cell H3 (Addr.add ⟨H.size, 0, none⟩ 1) = some (Sl.v x57) ∧ (
 ∃ x59 : Sl, cell H3 (Addr.add ⟨H.size, 0, none⟩ 2) = some (Sl.v x59) ∧ (
 F14 x57 x59 H3 (fun (r62 : Int) (H60 : Hp) => 
 mayw H60 ⟨H1.size, 0, none⟩ 5 0 ∧ ∀ H63 : Hp, H63 = sets H60 ⟨H1.size, 0, none⟩ [(Sl.v Sl.nil), (.string (ByteArray.mk #[])), (.int .i64 r62), (.bool false), (.int .i64 0)] 0 → (
 ∃ (x66 : Sl) (x67 : ByteArray) (x68 : Int) (x69 : Bool) (x70 : Int), cells H63 ⟨H1.size, 0, none⟩ [(Sl.v x66), (.string x67), (.int .i64 x68), (.bool x69), (.int .i64 x70)] 0 ∧ (
 Q x66 x67 x68 x69 x70 H63))))))) ∧
 ((decide (x6 = 4)) = false → (((decide (x6 = 5)) = true → (∃ x74 : Sl, cell H3 (Addr.add ⟨H.size, 0, none⟩ 1) = some (Sl.v x74) ∧ (
 F17 x74 H3 (fun (r77 : ByteArray) (r78 : Int) (H75 : Hp) => 
 mayw H75 ⟨H1.size, 0, none⟩ 5 0 ∧ ∀ H79 : Hp, H79 = sets H75 ⟨H1.size, 0, none⟩ [(Sl.v Sl.nil), (.string r77), (.int .i64 0), (.bool false), (.int .i64 r78)] 0 → (
 ∃ (x82 : Sl) (x83 : ByteArray) (x84 : Int) (x85 : Bool) (x86 : Int), cells H79 ⟨H1.size, 0, none⟩ [(Sl.v x82), (.string x83), (.int .i64 x84), (.bool x85), (.int .i64 x86)] 0 ∧ (
 Q x82 x83 x84 x85 x86 H79)))))) ∧
 ((decide (x6 = 5)) = false → (((decide (x6 = 6)) = true → (∃ x90 : ByteArray, cell H3 (Addr.add ⟨H.size, 0, none⟩ 3) = some (.string x90) ∧ (
 F18 x90 H3 (fun (r93 : Sl) (r94 : Int) (H91 : Hp) => 
 mayw H91 ⟨H1.size, 0, none⟩ 5 0 ∧ ∀ H95 : Hp, H95 = sets H91 ⟨H1.size, 0, none⟩ [(Sl.v r93), (.string (ByteArray.mk #[])), (.int .i64 0), (.bool false), (.int .i64 r94)] 0 → (
 ∃ (x98 : Sl) (x99 : ByteArray) (x100 : Int) (x101 : Bool) (x102 : Int), cells H95 ⟨H1.size, 0, none⟩ [(Sl.v x98), (.string x99), (.int .i64 x100), (.bool x101), (.int .i64 x102)] 0 ∧ (
 Q x98 x99 x100 x101 x102 H95)))))) ∧
 ((decide (x6 = 6)) = false → (mayw H3 ⟨H1.size, 0, none⟩ 5 0 ∧ ∀ H104 : Hp, H104 = sets H3 ⟨H1.size, 0, none⟩ [(Sl.v Sl.nil), (.string (ByteArray.mk #[])), (.int .i64 0), (.bool false), (.int .i64 0)] 0 → (
 ∃ (x107 : Sl) (x108 : ByteArray) (x109 : Int) (x110 : Bool) (x111 : Int), cells H104 ⟨H1.size, 0, none⟩ [(Sl.v x107), (.string x108), (.int .i64 x109), (.bool x110), (.int .i64 x111)] 0 ∧ (
 Q x107 x108 x109 x110 x111 H104)))))))))))))))))
set_option maxRecDepth 100000 in
set_option maxHeartbeats 4000000 in
theorem walk26 {w0 : World} {p0_0 : Int} {p0_1 : Sl} {p0_2 : Sl} {p0_3 : ByteArray} {H : Hp} {Q : Sl → ByteArray → Int → Bool → Int → Hp → Prop} (h : F26 p0_0 p0_1 p0_2 p0_3 H Q) :
    Good Tryd.prog w0 26 #[(.agg #[(.int .i64 p0_0), (Sl.v p0_1), (Sl.v p0_2), (.string p0_3)])] H (fun v H => ∃ (r0 : Sl) (r1 : ByteArray) (r2 : Int) (r3 : Bool) (r4 : Int) , v = (.agg #[(Sl.v r0), (.string r1), (.int .i64 r2), (.bool r3), (.int .i64 r4)]) ∧ Q r0 r1 r2 r3 r4 H) := by
  unfold F26 at h
  refine Good.enter' (fn := Tryd.f26) Tryd.func26 rfl rfl rfl ?_
  refine HW.seq ?_
  refine HW.region ?_
  refine HList.ops' rfl (HOp.box (v := (.agg #[(.int .i64 p0_0), (Sl.v p0_1), (Sl.v p0_2), (.string p0_3)])) rfl) ?_
  rintro _ H1 ⟨rfl, e2⟩
  replace h := h H1 e2
  refine HList.ops' rfl (HOp.alloc Tryd.zeroValue51) ?_
  rintro _ H3 ⟨rfl, e4⟩
  replace h := h H3 e4
  refine HList.nil ?_
  refine nt ?_
  refine HW.seq ?_
  refine HW.seq ?_
  refine HW.region ?_
  refine HList.vals (v := (.pointer (some ⟨H.size, 0, none⟩))) rfl (HVal.fieldAddr0 Tryd.runUnderlying41 rfl rfl Tryd.sizeOf3 rfl) ?_
  obtain ⟨x6, c5, h⟩ := h
  refine HList.vals (v := (.int .i64 x6)) rfl (HVal.load1 Tryd.isAgg3 rfl c5) ?_
  refine HList.nil ?_
  refine nt ?_
  refine HW.block ?_
  refine HW.seq ?_
  refine HW.region ?_
  refine HList.vals (v := (.bool (decide (x6 = 1)))) rfl (HVal.eqlI rfl rfl) ?_
  refine HList.vals (v := (.bool (decide (x6 = 1)))) rfl (HVal.assign' rfl) ?_
  refine HList.nil ?_
  refine nt ?_
  obtain ⟨hT, hF⟩ := h
  refine HW.cond (decide (x6 = 1)) rfl (fun hb7 => ?_) (fun hb7 => ?_)
  · have h := hT hb7
    clear hT hF
    refine HW.seq ?_
    refine HW.region ?_
    refine HList.vals (v := (.pointer (some (Addr.add ⟨H.size, 0, none⟩ 1)))) rfl (HVal.fieldAddr' Tryd.runUnderlying41 rfl rfl Tryd.sizeOf22 rfl) ?_
    obtain ⟨x9, c8, h⟩ := h
    refine HList.vals (v := (Sl.v x9)) rfl (HVal.load1 Tryd.isAgg22 rfl c8) ?_
    refine HList.ops' rfl (HOp.call' 12 [(Sl.v x9)] (cap := []) rfl rfl Tryd.call12 (walk12 h)) ?_
    rintro _ H10 ⟨r12, rfl, h⟩
    refine HList.vals (v := (.agg #[(Sl.v r12), (.string (ByteArray.mk #[])), (.int .i64 0), (.bool false), (.int .i64 0)])) rfl (HVal.build' (cs := [(Sl.v r12), (.string (ByteArray.mk #[])), (.int .i64 0), (.bool false), (.int .i64 0)]) Tryd.runUnderlying51 Tryd.zeroValue51 places51 rfl) ?_
    obtain ⟨z15, h⟩ := h
    refine HList.opsn (HOp.storeN' (l := [(Sl.v r12), (.string (ByteArray.mk #[])), (.int .i64 0), (.bool false), (.int .i64 0)]) Tryd.sizeOf51 rfl rfl rfl z15) ?_
    rintro _ H13 e14
    replace h := h H13 e14
    refine HList.nil ?_
    refine nt ?_
    refine HW.ret ?_
    refine br ?_
    refine tr ?_
    obtain ⟨x16, x17, x18, x19, x20, c21, h⟩ := h
    exact ⟨_, resOf1 rfl (Res1.n [(Sl.v x16), (.string x17), (.int .i64 x18), (.bool x19), (.int .i64 x20)] Tryd.isAgg51 Tryd.sizeOf51 rfl c21), ⟨x16, x17, x18, x19, x20, rfl, h⟩⟩
  · have h := hF hb7
    clear hT hF
    refine HW.seq ?_
    refine HW.region ?_
    refine HList.vals (v := (.bool (decide (x6 = 2)))) rfl (HVal.eqlI rfl rfl) ?_
    refine HList.vals (v := (.bool (decide (x6 = 2)))) rfl (HVal.assign' rfl) ?_
    refine HList.nil ?_
    refine nt ?_
    obtain ⟨hT, hF⟩ := h
    refine HW.cond (decide (x6 = 2)) rfl (fun hb22 => ?_) (fun hb22 => ?_)
    · have h := hT hb22
      clear hT hF
      refine HW.seq ?_
      refine HW.region ?_
      refine HList.vals (v := (.pointer (some (Addr.add ⟨H.size, 0, none⟩ 1)))) rfl (HVal.fieldAddr' Tryd.runUnderlying41 rfl rfl Tryd.sizeOf22 rfl) ?_
      obtain ⟨x24, c23, h⟩ := h
      refine HList.vals (v := (Sl.v x24)) rfl (HVal.load1 Tryd.isAgg22 rfl c23) ?_
      refine HList.ops' rfl (HOp.call' 11 [(Sl.v x24)] (cap := []) rfl rfl Tryd.call11 (walk11 h)) ?_
      rintro _ H25 ⟨r27, r28, rfl, h⟩
      refine HList.vals (v := (.tuple #[(Sl.v r27), (.int .i64 r28)])) rfl (HVal.move' rfl) ?_
      refine HList.vals (v := (Sl.v r27)) rfl (HVal.extract rfl rfl) ?_
      refine HList.vals (v := (.int .i64 r28)) rfl (HVal.extract rfl rfl) ?_
      refine HList.vals (v := (Sl.v r27)) rfl (HVal.assign' rfl) ?_
      refine HList.vals (v := (.int .i64 r28)) rfl (HVal.assign' rfl) ?_
      refine HList.nil ?_
      refine nt ?_
      refine HW.seq ?_
      refine HW.region ?_
      refine HList.vals (v := (Sl.v r27)) rfl (HVal.move' rfl) ?_
      refine HList.vals (v := (.int .i64 r28)) rfl (HVal.move' rfl) ?_
      refine HList.vals (v := (.agg #[(Sl.v r27), (.string (ByteArray.mk #[])), (.int .i64 0), (.bool false), (.int .i64 r28)])) rfl (HVal.build' (cs := [(Sl.v r27), (.string (ByteArray.mk #[])), (.int .i64 0), (.bool false), (.int .i64 r28)]) Tryd.runUnderlying51 Tryd.zeroValue51 places51 rfl) ?_
      obtain ⟨z31, h⟩ := h
      refine HList.opsn (HOp.storeN' (l := [(Sl.v r27), (.string (ByteArray.mk #[])), (.int .i64 0), (.bool false), (.int .i64 r28)]) Tryd.sizeOf51 rfl rfl rfl z31) ?_
      rintro _ H29 e30
      replace h := h H29 e30
      refine HList.nil ?_
      refine nt ?_
      refine HW.ret ?_
      refine br ?_
      refine tr ?_
      obtain ⟨x32, x33, x34, x35, x36, c37, h⟩ := h
      exact ⟨_, resOf1 rfl (Res1.n [(Sl.v x32), (.string x33), (.int .i64 x34), (.bool x35), (.int .i64 x36)] Tryd.isAgg51 Tryd.sizeOf51 rfl c37), ⟨x32, x33, x34, x35, x36, rfl, h⟩⟩
    · have h := hF hb22
      clear hT hF
      refine HW.seq ?_
      refine HW.region ?_
      refine HList.vals (v := (.bool (decide (x6 = 3)))) rfl (HVal.eqlI rfl rfl) ?_
      refine HList.vals (v := (.bool (decide (x6 = 3)))) rfl (HVal.assign' rfl) ?_
      refine HList.nil ?_
      refine nt ?_
      obtain ⟨hT, hF⟩ := h
      refine HW.cond (decide (x6 = 3)) rfl (fun hb38 => ?_) (fun hb38 => ?_)
      · have h := hT hb38
        clear hT hF
        refine HW.seq ?_
        refine HW.region ?_
        refine HList.vals (v := (.pointer (some (Addr.add ⟨H.size, 0, none⟩ 1)))) rfl (HVal.fieldAddr' Tryd.runUnderlying41 rfl rfl Tryd.sizeOf22 rfl) ?_
        obtain ⟨x40, c39, h⟩ := h
        refine HList.vals (v := (Sl.v x40)) rfl (HVal.load1 Tryd.isAgg22 rfl c39) ?_
        refine HList.vals (v := (.pointer (some (Addr.add ⟨H.size, 0, none⟩ 2)))) rfl (HVal.fieldAddr' Tryd.runUnderlying41 rfl rfl Tryd.sizeOf22 rfl) ?_
        obtain ⟨x42, c41, h⟩ := h
        refine HList.vals (v := (Sl.v x42)) rfl (HVal.load1 Tryd.isAgg22 rfl c41) ?_
        refine HList.ops' rfl (HOp.call' 30 [(Sl.v x40), (Sl.v x42)] (cap := []) rfl rfl Tryd.call30 (walk30 h)) ?_
        rintro _ H43 ⟨r45, rfl, h⟩
        refine HList.vals (v := (.agg #[(Sl.v Sl.nil), (.string (ByteArray.mk #[])), (.int .i64 0), (.bool r45), (.int .i64 0)])) rfl (HVal.build' (cs := [(Sl.v Sl.nil), (.string (ByteArray.mk #[])), (.int .i64 0), (.bool r45), (.int .i64 0)]) Tryd.runUnderlying51 Tryd.zeroValue51 places51 rfl) ?_
        obtain ⟨z48, h⟩ := h
        refine HList.opsn (HOp.storeN' (l := [(Sl.v Sl.nil), (.string (ByteArray.mk #[])), (.int .i64 0), (.bool r45), (.int .i64 0)]) Tryd.sizeOf51 rfl rfl rfl z48) ?_
        rintro _ H46 e47
        replace h := h H46 e47
        refine HList.nil ?_
        refine nt ?_
        refine HW.ret ?_
        refine br ?_
        refine tr ?_
        obtain ⟨x49, x50, x51, x52, x53, c54, h⟩ := h
        exact ⟨_, resOf1 rfl (Res1.n [(Sl.v x49), (.string x50), (.int .i64 x51), (.bool x52), (.int .i64 x53)] Tryd.isAgg51 Tryd.sizeOf51 rfl c54), ⟨x49, x50, x51, x52, x53, rfl, h⟩⟩
      · have h := hF hb38
        clear hT hF
        refine HW.seq ?_
        refine HW.region ?_
        refine HList.vals (v := (.bool (decide (x6 = 4)))) rfl (HVal.eqlI rfl rfl) ?_
        refine HList.vals (v := (.bool (decide (x6 = 4)))) rfl (HVal.assign' rfl) ?_
        refine HList.nil ?_
        refine nt ?_
        obtain ⟨hT, hF⟩ := h
        refine HW.cond (decide (x6 = 4)) rfl (fun hb55 => ?_) (fun hb55 => ?_)
        · have h := hT hb55
          clear hT hF
          refine HW.seq ?_
          refine HW.region ?_
          refine HList.vals (v := (.pointer (some (Addr.add ⟨H.size, 0, none⟩ 1)))) rfl (HVal.fieldAddr' Tryd.runUnderlying41 rfl rfl Tryd.sizeOf22 rfl) ?_
          obtain ⟨x57, c56, h⟩ := h
          refine HList.vals (v := (Sl.v x57)) rfl (HVal.load1 Tryd.isAgg22 rfl c56) ?_
          refine HList.vals (v := (.pointer (some (Addr.add ⟨H.size, 0, none⟩ 2)))) rfl (HVal.fieldAddr' Tryd.runUnderlying41 rfl rfl Tryd.sizeOf22 rfl) ?_
          obtain ⟨x59, c58, h⟩ := h
          refine HList.vals (v := (Sl.v x59)) rfl (HVal.load1 Tryd.isAgg22 rfl c58) ?_
          refine HList.ops' rfl (HOp.call' 14 [(Sl.v x57), (Sl.v x59)] (cap := []) rfl rfl Tryd.call14 (walk14 h)) ?_
          rintro _ H60 ⟨r62, rfl, h⟩
          refine HList.vals (v := (.agg #[(Sl.v Sl.nil), (.string (ByteArray.mk #[])), (.int .i64 r62), (.bool false), (.int .i64 0)])) rfl (HVal.build' (cs := [(Sl.v Sl.nil), (.string (ByteArray.mk #[])), (.int .i64 r62), (.bool false), (.int .i64 0)]) Tryd.runUnderlying51 Tryd.zeroValue51 places51 rfl) ?_
          obtain ⟨z65, h⟩ := h
          refine HList.opsn (HOp.storeN' (l := [(Sl.v Sl.nil), (.string (ByteArray.mk #[])), (.int .i64 r62), (.bool false), (.int .i64 0)]) Tryd.sizeOf51 rfl rfl rfl z65) ?_
          rintro _ H63 e64
          replace h := h H63 e64
          refine HList.nil ?_
          refine nt ?_
          refine HW.ret ?_
          refine br ?_
          refine tr ?_
          obtain ⟨x66, x67, x68, x69, x70, c71, h⟩ := h
          exact ⟨_, resOf1 rfl (Res1.n [(Sl.v x66), (.string x67), (.int .i64 x68), (.bool x69), (.int .i64 x70)] Tryd.isAgg51 Tryd.sizeOf51 rfl c71), ⟨x66, x67, x68, x69, x70, rfl, h⟩⟩
        · have h := hF hb55
          clear hT hF
          refine HW.seq ?_
          refine HW.region ?_
          refine HList.vals (v := (.bool (decide (x6 = 5)))) rfl (HVal.eqlI rfl rfl) ?_
          refine HList.vals (v := (.bool (decide (x6 = 5)))) rfl (HVal.assign' rfl) ?_
          refine HList.nil ?_
          refine nt ?_
          obtain ⟨hT, hF⟩ := h
          refine HW.cond (decide (x6 = 5)) rfl (fun hb72 => ?_) (fun hb72 => ?_)
          · have h := hT hb72
            clear hT hF
            refine HW.seq ?_
            refine HW.region ?_
            refine HList.vals (v := (.pointer (some (Addr.add ⟨H.size, 0, none⟩ 1)))) rfl (HVal.fieldAddr' Tryd.runUnderlying41 rfl rfl Tryd.sizeOf22 rfl) ?_
            obtain ⟨x74, c73, h⟩ := h
            refine HList.vals (v := (Sl.v x74)) rfl (HVal.load1 Tryd.isAgg22 rfl c73) ?_
            refine HList.ops' rfl (HOp.call' 17 [(Sl.v x74)] (cap := []) rfl rfl Tryd.call17 (walk17 h)) ?_
            rintro _ H75 ⟨r77, r78, rfl, h⟩
            refine HList.vals (v := (.tuple #[(.string r77), (.int .i64 r78)])) rfl (HVal.move' rfl) ?_
            refine HList.vals (v := (.string r77)) rfl (HVal.extract rfl rfl) ?_
            refine HList.vals (v := (.int .i64 r78)) rfl (HVal.extract rfl rfl) ?_
            refine HList.vals (v := (.string r77)) rfl (HVal.assign' rfl) ?_
            refine HList.vals (v := (.int .i64 r78)) rfl (HVal.assign' rfl) ?_
            refine HList.nil ?_
            refine nt ?_
            refine HW.seq ?_
            refine HW.region ?_
            refine HList.vals (v := (.string r77)) rfl (HVal.move' rfl) ?_
            refine HList.vals (v := (.int .i64 r78)) rfl (HVal.move' rfl) ?_
            refine HList.vals (v := (.agg #[(Sl.v Sl.nil), (.string r77), (.int .i64 0), (.bool false), (.int .i64 r78)])) rfl (HVal.build' (cs := [(Sl.v Sl.nil), (.string r77), (.int .i64 0), (.bool false), (.int .i64 r78)]) Tryd.runUnderlying51 Tryd.zeroValue51 places51 rfl) ?_
            obtain ⟨z81, h⟩ := h
            refine HList.opsn (HOp.storeN' (l := [(Sl.v Sl.nil), (.string r77), (.int .i64 0), (.bool false), (.int .i64 r78)]) Tryd.sizeOf51 rfl rfl rfl z81) ?_
            rintro _ H79 e80
            replace h := h H79 e80
            refine HList.nil ?_
            refine nt ?_
            refine HW.ret ?_
            refine br ?_
            refine tr ?_
            obtain ⟨x82, x83, x84, x85, x86, c87, h⟩ := h
            exact ⟨_, resOf1 rfl (Res1.n [(Sl.v x82), (.string x83), (.int .i64 x84), (.bool x85), (.int .i64 x86)] Tryd.isAgg51 Tryd.sizeOf51 rfl c87), ⟨x82, x83, x84, x85, x86, rfl, h⟩⟩
          · have h := hF hb72
            clear hT hF
            refine HW.seq ?_
            refine HW.region ?_
            refine HList.vals (v := (.bool (decide (x6 = 6)))) rfl (HVal.eqlI rfl rfl) ?_
            refine HList.vals (v := (.bool (decide (x6 = 6)))) rfl (HVal.assign' rfl) ?_
            refine HList.nil ?_
            refine nt ?_
            obtain ⟨hT, hF⟩ := h
            refine HW.cond (decide (x6 = 6)) rfl (fun hb88 => ?_) (fun hb88 => ?_)
            · have h := hT hb88
              clear hT hF
              refine HW.seq ?_
              refine HW.region ?_
              refine HList.vals (v := (.pointer (some (Addr.add ⟨H.size, 0, none⟩ 3)))) rfl (HVal.fieldAddr' Tryd.runUnderlying41 rfl rfl Tryd.sizeOf9 rfl) ?_
              obtain ⟨x90, c89, h⟩ := h
              refine HList.vals (v := (.string x90)) rfl (HVal.load1 Tryd.isAgg9 rfl c89) ?_
              refine HList.ops' rfl (HOp.call' 18 [(.string x90)] (cap := []) rfl rfl Tryd.call18 (walk18 h)) ?_
              rintro _ H91 ⟨r93, r94, rfl, h⟩
              refine HList.vals (v := (.tuple #[(Sl.v r93), (.int .i64 r94)])) rfl (HVal.move' rfl) ?_
              refine HList.vals (v := (Sl.v r93)) rfl (HVal.extract rfl rfl) ?_
              refine HList.vals (v := (.int .i64 r94)) rfl (HVal.extract rfl rfl) ?_
              refine HList.vals (v := (Sl.v r93)) rfl (HVal.assign' rfl) ?_
              refine HList.vals (v := (.int .i64 r94)) rfl (HVal.assign' rfl) ?_
              refine HList.nil ?_
              refine nt ?_
              refine HW.seq ?_
              refine HW.region ?_
              refine HList.vals (v := (Sl.v r93)) rfl (HVal.move' rfl) ?_
              refine HList.vals (v := (.int .i64 r94)) rfl (HVal.move' rfl) ?_
              refine HList.vals (v := (.agg #[(Sl.v r93), (.string (ByteArray.mk #[])), (.int .i64 0), (.bool false), (.int .i64 r94)])) rfl (HVal.build' (cs := [(Sl.v r93), (.string (ByteArray.mk #[])), (.int .i64 0), (.bool false), (.int .i64 r94)]) Tryd.runUnderlying51 Tryd.zeroValue51 places51 rfl) ?_
              obtain ⟨z97, h⟩ := h
              refine HList.opsn (HOp.storeN' (l := [(Sl.v r93), (.string (ByteArray.mk #[])), (.int .i64 0), (.bool false), (.int .i64 r94)]) Tryd.sizeOf51 rfl rfl rfl z97) ?_
              rintro _ H95 e96
              replace h := h H95 e96
              refine HList.nil ?_
              refine nt ?_
              refine HW.ret ?_
              refine br ?_
              refine tr ?_
              obtain ⟨x98, x99, x100, x101, x102, c103, h⟩ := h
              exact ⟨_, resOf1 rfl (Res1.n [(Sl.v x98), (.string x99), (.int .i64 x100), (.bool x101), (.int .i64 x102)] Tryd.isAgg51 Tryd.sizeOf51 rfl c103), ⟨x98, x99, x100, x101, x102, rfl, h⟩⟩
            · have h := hF hb88
              clear hT hF
              refine HW.skip ?_
              refine nb ?_
              refine nt ?_
              refine HW.seq ?_
              refine HW.region ?_
              refine HList.vals (v := (.agg #[(Sl.v Sl.nil), (.string (ByteArray.mk #[])), (.int .i64 0), (.bool false), (.int .i64 0)])) rfl (HVal.build' (cs := [(Sl.v Sl.nil), (.string (ByteArray.mk #[])), (.int .i64 0), (.bool false), (.int .i64 0)]) Tryd.runUnderlying51 Tryd.zeroValue51 places51 rfl) ?_
              obtain ⟨z106, h⟩ := h
              refine HList.opsn (HOp.storeN' (l := [(Sl.v Sl.nil), (.string (ByteArray.mk #[])), (.int .i64 0), (.bool false), (.int .i64 0)]) Tryd.sizeOf51 rfl rfl rfl z106) ?_
              rintro _ H104 e105
              replace h := h H104 e105
              refine HList.nil ?_
              refine nt ?_
              refine HW.ret ?_
              obtain ⟨x107, x108, x109, x110, x111, c112, h⟩ := h
              exact ⟨_, resOf1 rfl (Res1.n [(Sl.v x107), (.string x108), (.int .i64 x109), (.bool x110), (.int .i64 x111)] Tryd.isAgg51 Tryd.sizeOf51 rfl c112), ⟨x107, x108, x109, x110, x111, rfl, h⟩⟩

def F27 (p0_0 : Int) (p0_1 : Sl) (p0_2 : Sl) (p0_3 : ByteArray) (H : Hp) (Q : Sl → ByteArray → Int → Bool → Int → Hp → Prop) : Prop :=
∀ H1 : Hp, H1 = Array.push H (.cells #[(.int .i64 p0_0), (Sl.v p0_1), (Sl.v p0_2), (.string p0_3)] 41) → (
 ∀ H3 : Hp, H3 = Array.push H1 (.cells #[(Sl.v Sl.nil), (.string (ByteArray.mk #[])), (.int .i64 0), (.bool false), (.int .i64 0)] 51) → (
 ∃ (x6 : Int) (x7 : Sl) (x8 : Sl) (x9 : ByteArray), cells H3 ⟨H.size, 0, none⟩ [(.int .i64 x6), (Sl.v x7), (Sl.v x8), (.string x9)] 0 ∧ (
 F25 x6 x7 x8 x9 H3 (fun (r12 : Int) (r13 : Sl) (r14 : Sl) (r15 : ByteArray) (H10 : Hp) => 
 ∀ H16 : Hp, H16 = Array.push H10 (.cells #[(.int .i64 0), (Sl.v Sl.nil), (Sl.v Sl.nil), (.string (ByteArray.mk #[]))] 41) → (
 mayw H16 ⟨H10.size, 0, none⟩ 4 0 ∧ ∀ H18 : Hp, H18 = sets H16 ⟨H10.size, 0, none⟩ [(.int .i64 r12), (Sl.v r13), (Sl.v r14), (.string r15)] 0 → (
 ∃ x22 : Int, cell H18 ⟨H10.size, 0, none⟩ = some (.int .i64 x22) ∧ (
 ((decide (x22 = 1)) = true → (∃ x25 : Sl, cell H18 (Addr.add ⟨H10.size, 0, none⟩ 1) = some (Sl.v x25) ∧ (
 F35 x25 H18 (fun (r28 : Sl) (H26 : Hp) => 
 mayw H26 ⟨H1.size, 0, none⟩ 5 0 ∧ ∀ H29 : Hp, H29 = sets H26 ⟨H1.size, 0, none⟩ [(Sl.v r28), (.string (ByteArray.mk #[])), (.int .i64 0), (.bool false), (.int .i64 0)] 0 → (
 ∃ (x32 : Sl) (x33 : ByteArray) (x34 : Int) (x35 : Bool) (x36 : Int), cells H29 ⟨H1.size, 0, none⟩ [(Sl.v x32), (.string x33), (.int .i64 x34), (.bool x35), (.int .i64 x36)] 0 ∧ (
 Q x32 x33 x34 x35 x36 H29)))))) ∧
 ((decide (x22 = 1)) = false → (((decide (x22 = 2)) = true → (∃ x40 : Sl, cell H18 (Addr.add ⟨H10.size, 0, none⟩ 1) = some (Sl.v x40) ∧ (
 F36 x40 H18 (fun (r43 : Sl) (r44 : Int) (H41 : Hp) => 
 mayw H41 ⟨H1.size, 0, none⟩ 5 0 ∧ ∀ H45 : Hp, H45 = sets H41 ⟨H1.size, 0, none⟩ [(Sl.v r43), (.string (ByteArray.mk #[])), (.int .i64 0), (.bool false), (.int .i64 r44)] 0 → (
 ∃ (x48 : Sl) (x49 : ByteArray) (x50 : Int) (x51 : Bool) (x52 : Int), cells H45 ⟨H1.size, 0, none⟩ [(Sl.v x48), (.string x49), (.int .i64 x50), (.bool x51), (.int .i64 x52)] 0 ∧ (
 Q x48 x49 x50 x51 x52 H45)))))) ∧
 ((decide (x22 = 2)) = false → (((decide (x22 = 3)) = true → (∃ x56 : Sl, cell H18 (Addr.add ⟨H10.size, 0, none⟩ 1) = some (Sl.v x56) ∧ (
 ∃ x58 : Sl, cell H18 (Addr.add ⟨H10.size, 0, none⟩ 2) = some (Sl.v x58) ∧ (
 F37 x56 x58 H18 (fun (r61 : Bool) (H59 : Hp) => 
 mayw H59 ⟨H1.size, 0, none⟩ 5 0 ∧ ∀ H62 : Hp, H62 = sets H59 ⟨H1.size, 0, none⟩ [(Sl.v Sl.nil), (.string (ByteArray.mk #[])), (.int .i64 0), (.bool r61), (.int .i64 0)] 0 → (
 ∃ (x65 : Sl) (x66 : ByteArray) (x67 : Int) (x68 : Bool) (x69 : Int), cells H62 ⟨H1.size, 0, none⟩ [(Sl.v x65), (.string x66), (.int .i64 x67), (.bool x68), (.int .i64 x69)] 0 ∧ (
 Q x65 x66 x67 x68 x69 H62))))))) ∧
 ((decide (x22 = 3)) = false → (((decide (x22 = 4)) = true → (∃ x73 : Sl, cell H18 (Addr.add ⟨H10.size, 0, none⟩ 1) = some (Sl.v x73) ∧ (
 ∃ x75 : Sl, cell H18 (Addr.add ⟨H10.size, 0, none⟩ 2) = some (Sl.v x75) ∧ (
 F38 x73 x75 H18 (fun (r78 : Int) (H76 : Hp) => 
 mayw H76 ⟨H1.size, 0, none⟩ 5 0 ∧ ∀ H79 : Hp, H79 = sets H76 ⟨H1.size, 0, none⟩ [(Sl.v Sl.nil), (.string (ByteArray.mk #[])), (.int .i64 r78), (.bool false), (.int .i64 0)] 0 → (
 ∃ (x82 : Sl) (x83 : ByteArray) (x84 : Int) (x85 : Bool) (x86 : Int), cells H79 ⟨H1.size, 0, none⟩ [(Sl.v x82), (.string x83), (.int .i64 x84), (.bool x85), (.int .i64 x86)] 0 ∧ (
 Q x82 x83 x84 x85 x86 H79))))))) ∧
 ((decide (x22 = 4)) = false → (((decide (x22 = 5)) = true → (∃ x90 : Sl, cell H18 (Addr.add ⟨H10.size, 0, none⟩ 1) = some (Sl.v x90) ∧ (
 F39 x90 H18 (fun (r93 : ByteArray) (r94 : Int) (H91 : Hp) => 
 mayw H91 ⟨H1.size, 0, none⟩ 5 0 ∧ ∀ H95 : Hp, H95 = sets H91 ⟨H1.size, 0, none⟩ [(Sl.v Sl.nil), (.string r93), (.int .i64 0), (.bool false), (.int .i64 r94)] 0 → (
 ∃ (x98 : Sl) (x99 : ByteArray) (x100 : Int) (x101 : Bool) (x102 : Int), cells H95 ⟨H1.size, 0, none⟩ [(Sl.v x98), (.string x99), (.int .i64 x100), (.bool x101), (.int .i64 x102)] 0 ∧ (
 Q x98 x99 x100 x101 x102 H95)))))) ∧
 ((decide (x22 = 5)) = false → (((decide (x22 = 6)) = true → (∃ x106 : ByteArray, cell H18 (Addr.add ⟨H10.size, 0, none⟩ 3) = some (.string x106) ∧ (
 F40 x106 H18 (fun (r109 : Sl) (r110 : Int) (H107 : Hp) => 
 mayw H107 ⟨H1.size, 0, none⟩ 5 0 ∧ ∀ H111 : Hp, H111 = sets H107 ⟨H1.size, 0, none⟩ [(Sl.v r109), (.string (ByteArray.mk #[])), (.int .i64 0), (.bool false), (.int .i64 r110)] 0 → (
 ∃ (x114 : Sl) (x115 : ByteArray) (x116 : Int) (x117 : Bool) (x118 : Int), cells H111 ⟨H1.size, 0, none⟩ [(Sl.v x114), (.string x115), (.int .i64 x116), (.bool x117), (.int .i64 x118)] 0 ∧ (
 Q x114 x115 x116 x117 x118 H111)))))) ∧
 ((decide (x22 = 6)) = false → (mayw H18 ⟨H1.size, 0, none⟩ 5 0 ∧ ∀ H120 : Hp, H120 = sets H18 ⟨H1.size, 0, none⟩ [(Sl.v Sl.nil), (.string (ByteArray.mk #[])), (.int .i64 0), (.bool false), (.int .i64 0)] 0 → (
 ∃ (x123 : Sl) (x124 : ByteArray) (x125 : Int) (x126 : Bool) (x127 : Int), cells H120 ⟨H1.size, 0, none⟩ [(Sl.v x123), (.string x124), (.int .i64 x125), (.bool x126), (.int .i64 x127)] 0 ∧ (
 Q x123 x124 x125 x126 x127 H120)))))))))))))))))))))
set_option maxRecDepth 100000 in
set_option maxHeartbeats 4000000 in
theorem walk27 {w0 : World} {p0_0 : Int} {p0_1 : Sl} {p0_2 : Sl} {p0_3 : ByteArray} {H : Hp} {Q : Sl → ByteArray → Int → Bool → Int → Hp → Prop} (h : F27 p0_0 p0_1 p0_2 p0_3 H Q) :
    Good Tryd.prog w0 27 #[(.agg #[(.int .i64 p0_0), (Sl.v p0_1), (Sl.v p0_2), (.string p0_3)])] H (fun v H => ∃ (r0 : Sl) (r1 : ByteArray) (r2 : Int) (r3 : Bool) (r4 : Int) , v = (.agg #[(Sl.v r0), (.string r1), (.int .i64 r2), (.bool r3), (.int .i64 r4)]) ∧ Q r0 r1 r2 r3 r4 H) := by
  unfold F27 at h
  refine Good.enter' (fn := Tryd.f27) Tryd.func27 rfl rfl rfl ?_
  refine HW.seq ?_
  refine HW.region ?_
  refine HList.ops' rfl (HOp.box (v := (.agg #[(.int .i64 p0_0), (Sl.v p0_1), (Sl.v p0_2), (.string p0_3)])) rfl) ?_
  rintro _ H1 ⟨rfl, e2⟩
  replace h := h H1 e2
  refine HList.ops' rfl (HOp.alloc Tryd.zeroValue51) ?_
  rintro _ H3 ⟨rfl, e4⟩
  replace h := h H3 e4
  refine HList.nil ?_
  refine nt ?_
  refine HW.seq ?_
  refine HW.region ?_
  obtain ⟨x6, x7, x8, x9, c5, h⟩ := h
  refine HList.vals (v := (.agg #[(.int .i64 x6), (Sl.v x7), (Sl.v x8), (.string x9)])) rfl (HVal.loadN [(.int .i64 x6), (Sl.v x7), (Sl.v x8), (.string x9)] Tryd.isAgg41 Tryd.sizeOf41 rfl c5) ?_
  refine HList.ops' rfl (HOp.call' 25 [(.agg #[(.int .i64 x6), (Sl.v x7), (Sl.v x8), (.string x9)])] (cap := []) rfl rfl Tryd.call25 (walk25 h)) ?_
  rintro _ H10 ⟨r12, r13, r14, r15, rfl, h⟩
  refine HList.ops' rfl (HOp.alloc Tryd.zeroValue41) ?_
  rintro _ H16 ⟨rfl, e17⟩
  replace h := h H16 e17
  obtain ⟨z20, h⟩ := h
  refine HList.opsn (HOp.storeN' (l := [(.int .i64 r12), (Sl.v r13), (Sl.v r14), (.string r15)]) Tryd.sizeOf41 rfl rfl rfl z20) ?_
  rintro _ H18 e19
  replace h := h H18 e19
  refine HList.nil ?_
  refine nt ?_
  refine HW.seq ?_
  refine HW.seq ?_
  refine HW.region ?_
  refine HList.vals (v := (.pointer (some ⟨H10.size, 0, none⟩))) rfl (HVal.fieldAddr0 Tryd.runUnderlying41 rfl rfl Tryd.sizeOf3 rfl) ?_
  obtain ⟨x22, c21, h⟩ := h
  refine HList.vals (v := (.int .i64 x22)) rfl (HVal.load1 Tryd.isAgg3 rfl c21) ?_
  refine HList.nil ?_
  refine nt ?_
  refine HW.block ?_
  refine HW.seq ?_
  refine HW.region ?_
  refine HList.vals (v := (.bool (decide (x22 = 1)))) rfl (HVal.eqlI rfl rfl) ?_
  refine HList.vals (v := (.bool (decide (x22 = 1)))) rfl (HVal.assign' rfl) ?_
  refine HList.nil ?_
  refine nt ?_
  obtain ⟨hT, hF⟩ := h
  refine HW.cond (decide (x22 = 1)) rfl (fun hb23 => ?_) (fun hb23 => ?_)
  · have h := hT hb23
    clear hT hF
    refine HW.seq ?_
    refine HW.region ?_
    refine HList.vals (v := (.pointer (some (Addr.add ⟨H10.size, 0, none⟩ 1)))) rfl (HVal.fieldAddr' Tryd.runUnderlying41 rfl rfl Tryd.sizeOf22 rfl) ?_
    obtain ⟨x25, c24, h⟩ := h
    refine HList.vals (v := (Sl.v x25)) rfl (HVal.load1 Tryd.isAgg22 rfl c24) ?_
    refine HList.ops' rfl (HOp.call' 35 [(Sl.v x25)] (cap := []) rfl rfl Tryd.call35 (walk35 h)) ?_
    rintro _ H26 ⟨r28, rfl, h⟩
    refine HList.vals (v := (.agg #[(Sl.v r28), (.string (ByteArray.mk #[])), (.int .i64 0), (.bool false), (.int .i64 0)])) rfl (HVal.build' (cs := [(Sl.v r28), (.string (ByteArray.mk #[])), (.int .i64 0), (.bool false), (.int .i64 0)]) Tryd.runUnderlying51 Tryd.zeroValue51 places51 rfl) ?_
    obtain ⟨z31, h⟩ := h
    refine HList.opsn (HOp.storeN' (l := [(Sl.v r28), (.string (ByteArray.mk #[])), (.int .i64 0), (.bool false), (.int .i64 0)]) Tryd.sizeOf51 rfl rfl rfl z31) ?_
    rintro _ H29 e30
    replace h := h H29 e30
    refine HList.nil ?_
    refine nt ?_
    refine HW.ret ?_
    refine br ?_
    refine tr ?_
    obtain ⟨x32, x33, x34, x35, x36, c37, h⟩ := h
    exact ⟨_, resOf1 rfl (Res1.n [(Sl.v x32), (.string x33), (.int .i64 x34), (.bool x35), (.int .i64 x36)] Tryd.isAgg51 Tryd.sizeOf51 rfl c37), ⟨x32, x33, x34, x35, x36, rfl, h⟩⟩
  · have h := hF hb23
    clear hT hF
    refine HW.seq ?_
    refine HW.region ?_
    refine HList.vals (v := (.bool (decide (x22 = 2)))) rfl (HVal.eqlI rfl rfl) ?_
    refine HList.vals (v := (.bool (decide (x22 = 2)))) rfl (HVal.assign' rfl) ?_
    refine HList.nil ?_
    refine nt ?_
    obtain ⟨hT, hF⟩ := h
    refine HW.cond (decide (x22 = 2)) rfl (fun hb38 => ?_) (fun hb38 => ?_)
    · have h := hT hb38
      clear hT hF
      refine HW.seq ?_
      refine HW.region ?_
      refine HList.vals (v := (.pointer (some (Addr.add ⟨H10.size, 0, none⟩ 1)))) rfl (HVal.fieldAddr' Tryd.runUnderlying41 rfl rfl Tryd.sizeOf22 rfl) ?_
      obtain ⟨x40, c39, h⟩ := h
      refine HList.vals (v := (Sl.v x40)) rfl (HVal.load1 Tryd.isAgg22 rfl c39) ?_
      refine HList.ops' rfl (HOp.call' 36 [(Sl.v x40)] (cap := []) rfl rfl Tryd.call36 (walk36 h)) ?_
      rintro _ H41 ⟨r43, r44, rfl, h⟩
      refine HList.vals (v := (.tuple #[(Sl.v r43), (.int .i64 r44)])) rfl (HVal.move' rfl) ?_
      refine HList.vals (v := (Sl.v r43)) rfl (HVal.extract rfl rfl) ?_
      refine HList.vals (v := (.int .i64 r44)) rfl (HVal.extract rfl rfl) ?_
      refine HList.vals (v := (Sl.v r43)) rfl (HVal.assign' rfl) ?_
      refine HList.vals (v := (.int .i64 r44)) rfl (HVal.assign' rfl) ?_
      refine HList.nil ?_
      refine nt ?_
      refine HW.seq ?_
      refine HW.region ?_
      refine HList.vals (v := (Sl.v r43)) rfl (HVal.move' rfl) ?_
      refine HList.vals (v := (.int .i64 r44)) rfl (HVal.move' rfl) ?_
      refine HList.vals (v := (.agg #[(Sl.v r43), (.string (ByteArray.mk #[])), (.int .i64 0), (.bool false), (.int .i64 r44)])) rfl (HVal.build' (cs := [(Sl.v r43), (.string (ByteArray.mk #[])), (.int .i64 0), (.bool false), (.int .i64 r44)]) Tryd.runUnderlying51 Tryd.zeroValue51 places51 rfl) ?_
      obtain ⟨z47, h⟩ := h
      refine HList.opsn (HOp.storeN' (l := [(Sl.v r43), (.string (ByteArray.mk #[])), (.int .i64 0), (.bool false), (.int .i64 r44)]) Tryd.sizeOf51 rfl rfl rfl z47) ?_
      rintro _ H45 e46
      replace h := h H45 e46
      refine HList.nil ?_
      refine nt ?_
      refine HW.ret ?_
      refine br ?_
      refine tr ?_
      obtain ⟨x48, x49, x50, x51, x52, c53, h⟩ := h
      exact ⟨_, resOf1 rfl (Res1.n [(Sl.v x48), (.string x49), (.int .i64 x50), (.bool x51), (.int .i64 x52)] Tryd.isAgg51 Tryd.sizeOf51 rfl c53), ⟨x48, x49, x50, x51, x52, rfl, h⟩⟩
    · have h := hF hb38
      clear hT hF
      refine HW.seq ?_
      refine HW.region ?_
      refine HList.vals (v := (.bool (decide (x22 = 3)))) rfl (HVal.eqlI rfl rfl) ?_
      refine HList.vals (v := (.bool (decide (x22 = 3)))) rfl (HVal.assign' rfl) ?_
      refine HList.nil ?_
      refine nt ?_
      obtain ⟨hT, hF⟩ := h
      refine HW.cond (decide (x22 = 3)) rfl (fun hb54 => ?_) (fun hb54 => ?_)
      · have h := hT hb54
        clear hT hF
        refine HW.seq ?_
        refine HW.region ?_
        refine HList.vals (v := (.pointer (some (Addr.add ⟨H10.size, 0, none⟩ 1)))) rfl (HVal.fieldAddr' Tryd.runUnderlying41 rfl rfl Tryd.sizeOf22 rfl) ?_
        obtain ⟨x56, c55, h⟩ := h
        refine HList.vals (v := (Sl.v x56)) rfl (HVal.load1 Tryd.isAgg22 rfl c55) ?_
        refine HList.vals (v := (.pointer (some (Addr.add ⟨H10.size, 0, none⟩ 2)))) rfl (HVal.fieldAddr' Tryd.runUnderlying41 rfl rfl Tryd.sizeOf22 rfl) ?_
        obtain ⟨x58, c57, h⟩ := h
        refine HList.vals (v := (Sl.v x58)) rfl (HVal.load1 Tryd.isAgg22 rfl c57) ?_
        refine HList.ops' rfl (HOp.call' 37 [(Sl.v x56), (Sl.v x58)] (cap := []) rfl rfl Tryd.call37 (walk37 h)) ?_
        rintro _ H59 ⟨r61, rfl, h⟩
        refine HList.vals (v := (.agg #[(Sl.v Sl.nil), (.string (ByteArray.mk #[])), (.int .i64 0), (.bool r61), (.int .i64 0)])) rfl (HVal.build' (cs := [(Sl.v Sl.nil), (.string (ByteArray.mk #[])), (.int .i64 0), (.bool r61), (.int .i64 0)]) Tryd.runUnderlying51 Tryd.zeroValue51 places51 rfl) ?_
        obtain ⟨z64, h⟩ := h
        refine HList.opsn (HOp.storeN' (l := [(Sl.v Sl.nil), (.string (ByteArray.mk #[])), (.int .i64 0), (.bool r61), (.int .i64 0)]) Tryd.sizeOf51 rfl rfl rfl z64) ?_
        rintro _ H62 e63
        replace h := h H62 e63
        refine HList.nil ?_
        refine nt ?_
        refine HW.ret ?_
        refine br ?_
        refine tr ?_
        obtain ⟨x65, x66, x67, x68, x69, c70, h⟩ := h
        exact ⟨_, resOf1 rfl (Res1.n [(Sl.v x65), (.string x66), (.int .i64 x67), (.bool x68), (.int .i64 x69)] Tryd.isAgg51 Tryd.sizeOf51 rfl c70), ⟨x65, x66, x67, x68, x69, rfl, h⟩⟩
      · have h := hF hb54
        clear hT hF
        refine HW.seq ?_
        refine HW.region ?_
        refine HList.vals (v := (.bool (decide (x22 = 4)))) rfl (HVal.eqlI rfl rfl) ?_
        refine HList.vals (v := (.bool (decide (x22 = 4)))) rfl (HVal.assign' rfl) ?_
        refine HList.nil ?_
        refine nt ?_
        obtain ⟨hT, hF⟩ := h
        refine HW.cond (decide (x22 = 4)) rfl (fun hb71 => ?_) (fun hb71 => ?_)
        · have h := hT hb71
          clear hT hF
          refine HW.seq ?_
          refine HW.region ?_
          refine HList.vals (v := (.pointer (some (Addr.add ⟨H10.size, 0, none⟩ 1)))) rfl (HVal.fieldAddr' Tryd.runUnderlying41 rfl rfl Tryd.sizeOf22 rfl) ?_
          obtain ⟨x73, c72, h⟩ := h
          refine HList.vals (v := (Sl.v x73)) rfl (HVal.load1 Tryd.isAgg22 rfl c72) ?_
          refine HList.vals (v := (.pointer (some (Addr.add ⟨H10.size, 0, none⟩ 2)))) rfl (HVal.fieldAddr' Tryd.runUnderlying41 rfl rfl Tryd.sizeOf22 rfl) ?_
          obtain ⟨x75, c74, h⟩ := h
          refine HList.vals (v := (Sl.v x75)) rfl (HVal.load1 Tryd.isAgg22 rfl c74) ?_
          refine HList.ops' rfl (HOp.call' 38 [(Sl.v x73), (Sl.v x75)] (cap := []) rfl rfl Tryd.call38 (walk38 h)) ?_
          rintro _ H76 ⟨r78, rfl, h⟩
          refine HList.vals (v := (.agg #[(Sl.v Sl.nil), (.string (ByteArray.mk #[])), (.int .i64 r78), (.bool false), (.int .i64 0)])) rfl (HVal.build' (cs := [(Sl.v Sl.nil), (.string (ByteArray.mk #[])), (.int .i64 r78), (.bool false), (.int .i64 0)]) Tryd.runUnderlying51 Tryd.zeroValue51 places51 rfl) ?_
          obtain ⟨z81, h⟩ := h
          refine HList.opsn (HOp.storeN' (l := [(Sl.v Sl.nil), (.string (ByteArray.mk #[])), (.int .i64 r78), (.bool false), (.int .i64 0)]) Tryd.sizeOf51 rfl rfl rfl z81) ?_
          rintro _ H79 e80
          replace h := h H79 e80
          refine HList.nil ?_
          refine nt ?_
          refine HW.ret ?_
          refine br ?_
          refine tr ?_
          obtain ⟨x82, x83, x84, x85, x86, c87, h⟩ := h
          exact ⟨_, resOf1 rfl (Res1.n [(Sl.v x82), (.string x83), (.int .i64 x84), (.bool x85), (.int .i64 x86)] Tryd.isAgg51 Tryd.sizeOf51 rfl c87), ⟨x82, x83, x84, x85, x86, rfl, h⟩⟩
        · have h := hF hb71
          clear hT hF
          refine HW.seq ?_
          refine HW.region ?_
          refine HList.vals (v := (.bool (decide (x22 = 5)))) rfl (HVal.eqlI rfl rfl) ?_
          refine HList.vals (v := (.bool (decide (x22 = 5)))) rfl (HVal.assign' rfl) ?_
          refine HList.nil ?_
          refine nt ?_
          obtain ⟨hT, hF⟩ := h
          refine HW.cond (decide (x22 = 5)) rfl (fun hb88 => ?_) (fun hb88 => ?_)
          · have h := hT hb88
            clear hT hF
            refine HW.seq ?_
            refine HW.region ?_
            refine HList.vals (v := (.pointer (some (Addr.add ⟨H10.size, 0, none⟩ 1)))) rfl (HVal.fieldAddr' Tryd.runUnderlying41 rfl rfl Tryd.sizeOf22 rfl) ?_
            obtain ⟨x90, c89, h⟩ := h
            refine HList.vals (v := (Sl.v x90)) rfl (HVal.load1 Tryd.isAgg22 rfl c89) ?_
            refine HList.ops' rfl (HOp.call' 39 [(Sl.v x90)] (cap := []) rfl rfl Tryd.call39 (walk39 h)) ?_
            rintro _ H91 ⟨r93, r94, rfl, h⟩
            refine HList.vals (v := (.tuple #[(.string r93), (.int .i64 r94)])) rfl (HVal.move' rfl) ?_
            refine HList.vals (v := (.string r93)) rfl (HVal.extract rfl rfl) ?_
            refine HList.vals (v := (.int .i64 r94)) rfl (HVal.extract rfl rfl) ?_
            refine HList.vals (v := (.string r93)) rfl (HVal.assign' rfl) ?_
            refine HList.vals (v := (.int .i64 r94)) rfl (HVal.assign' rfl) ?_
            refine HList.nil ?_
            refine nt ?_
            refine HW.seq ?_
            refine HW.region ?_
            refine HList.vals (v := (.string r93)) rfl (HVal.move' rfl) ?_
            refine HList.vals (v := (.int .i64 r94)) rfl (HVal.move' rfl) ?_
            refine HList.vals (v := (.agg #[(Sl.v Sl.nil), (.string r93), (.int .i64 0), (.bool false), (.int .i64 r94)])) rfl (HVal.build' (cs := [(Sl.v Sl.nil), (.string r93), (.int .i64 0), (.bool false), (.int .i64 r94)]) Tryd.runUnderlying51 Tryd.zeroValue51 places51 rfl) ?_
            obtain ⟨z97, h⟩ := h
            refine HList.opsn (HOp.storeN' (l := [(Sl.v Sl.nil), (.string r93), (.int .i64 0), (.bool false), (.int .i64 r94)]) Tryd.sizeOf51 rfl rfl rfl z97) ?_
            rintro _ H95 e96
            replace h := h H95 e96
            refine HList.nil ?_
            refine nt ?_
            refine HW.ret ?_
            refine br ?_
            refine tr ?_
            obtain ⟨x98, x99, x100, x101, x102, c103, h⟩ := h
            exact ⟨_, resOf1 rfl (Res1.n [(Sl.v x98), (.string x99), (.int .i64 x100), (.bool x101), (.int .i64 x102)] Tryd.isAgg51 Tryd.sizeOf51 rfl c103), ⟨x98, x99, x100, x101, x102, rfl, h⟩⟩
          · have h := hF hb88
            clear hT hF
            refine HW.seq ?_
            refine HW.region ?_
            refine HList.vals (v := (.bool (decide (x22 = 6)))) rfl (HVal.eqlI rfl rfl) ?_
            refine HList.vals (v := (.bool (decide (x22 = 6)))) rfl (HVal.assign' rfl) ?_
            refine HList.nil ?_
            refine nt ?_
            obtain ⟨hT, hF⟩ := h
            refine HW.cond (decide (x22 = 6)) rfl (fun hb104 => ?_) (fun hb104 => ?_)
            · have h := hT hb104
              clear hT hF
              refine HW.seq ?_
              refine HW.region ?_
              refine HList.vals (v := (.pointer (some (Addr.add ⟨H10.size, 0, none⟩ 3)))) rfl (HVal.fieldAddr' Tryd.runUnderlying41 rfl rfl Tryd.sizeOf9 rfl) ?_
              obtain ⟨x106, c105, h⟩ := h
              refine HList.vals (v := (.string x106)) rfl (HVal.load1 Tryd.isAgg9 rfl c105) ?_
              refine HList.ops' rfl (HOp.call' 40 [(.string x106)] (cap := []) rfl rfl Tryd.call40 (walk40 h)) ?_
              rintro _ H107 ⟨r109, r110, rfl, h⟩
              refine HList.vals (v := (.tuple #[(Sl.v r109), (.int .i64 r110)])) rfl (HVal.move' rfl) ?_
              refine HList.vals (v := (Sl.v r109)) rfl (HVal.extract rfl rfl) ?_
              refine HList.vals (v := (.int .i64 r110)) rfl (HVal.extract rfl rfl) ?_
              refine HList.vals (v := (Sl.v r109)) rfl (HVal.assign' rfl) ?_
              refine HList.vals (v := (.int .i64 r110)) rfl (HVal.assign' rfl) ?_
              refine HList.nil ?_
              refine nt ?_
              refine HW.seq ?_
              refine HW.region ?_
              refine HList.vals (v := (Sl.v r109)) rfl (HVal.move' rfl) ?_
              refine HList.vals (v := (.int .i64 r110)) rfl (HVal.move' rfl) ?_
              refine HList.vals (v := (.agg #[(Sl.v r109), (.string (ByteArray.mk #[])), (.int .i64 0), (.bool false), (.int .i64 r110)])) rfl (HVal.build' (cs := [(Sl.v r109), (.string (ByteArray.mk #[])), (.int .i64 0), (.bool false), (.int .i64 r110)]) Tryd.runUnderlying51 Tryd.zeroValue51 places51 rfl) ?_
              obtain ⟨z113, h⟩ := h
              refine HList.opsn (HOp.storeN' (l := [(Sl.v r109), (.string (ByteArray.mk #[])), (.int .i64 0), (.bool false), (.int .i64 r110)]) Tryd.sizeOf51 rfl rfl rfl z113) ?_
              rintro _ H111 e112
              replace h := h H111 e112
              refine HList.nil ?_
              refine nt ?_
              refine HW.ret ?_
              refine br ?_
              refine tr ?_
              obtain ⟨x114, x115, x116, x117, x118, c119, h⟩ := h
              exact ⟨_, resOf1 rfl (Res1.n [(Sl.v x114), (.string x115), (.int .i64 x116), (.bool x117), (.int .i64 x118)] Tryd.isAgg51 Tryd.sizeOf51 rfl c119), ⟨x114, x115, x116, x117, x118, rfl, h⟩⟩
            · have h := hF hb104
              clear hT hF
              refine HW.skip ?_
              refine nb ?_
              refine nt ?_
              refine HW.seq ?_
              refine HW.region ?_
              refine HList.vals (v := (.agg #[(Sl.v Sl.nil), (.string (ByteArray.mk #[])), (.int .i64 0), (.bool false), (.int .i64 0)])) rfl (HVal.build' (cs := [(Sl.v Sl.nil), (.string (ByteArray.mk #[])), (.int .i64 0), (.bool false), (.int .i64 0)]) Tryd.runUnderlying51 Tryd.zeroValue51 places51 rfl) ?_
              obtain ⟨z122, h⟩ := h
              refine HList.opsn (HOp.storeN' (l := [(Sl.v Sl.nil), (.string (ByteArray.mk #[])), (.int .i64 0), (.bool false), (.int .i64 0)]) Tryd.sizeOf51 rfl rfl rfl z122) ?_
              rintro _ H120 e121
              replace h := h H120 e121
              refine HList.nil ?_
              refine nt ?_
              refine HW.ret ?_
              obtain ⟨x123, x124, x125, x126, x127, c128, h⟩ := h
              exact ⟨_, resOf1 rfl (Res1.n [(Sl.v x123), (.string x124), (.int .i64 x125), (.bool x126), (.int .i64 x127)] Tryd.isAgg51 Tryd.sizeOf51 rfl c128), ⟨x123, x124, x125, x126, x127, rfl, h⟩⟩

def F28 (p0_0 : Sl) (p0_1 : ByteArray) (p0_2 : Int) (p0_3 : Bool) (p0_4 : Int) (p1_0 : Sl) (p1_1 : ByteArray) (p1_2 : Int) (p1_3 : Bool) (p1_4 : Int) (H : Hp) (Q : Bool → Hp → Prop) : Prop :=
∀ H1 : Hp, H1 = Array.push H (.cells #[(Sl.v p0_0), (.string p0_1), (.int .i64 p0_2), (.bool p0_3), (.int .i64 p0_4)] 51) → (
 ∀ H3 : Hp, H3 = Array.push H1 (.cells #[(Sl.v p1_0), (.string p1_1), (.int .i64 p1_2), (.bool p1_3), (.int .i64 p1_4)] 51) → (
 ∃ x6 : ByteArray, cell H3 (Addr.add ⟨H.size, 0, none⟩ 1) = some (.string x6) ∧ (
 ∃ x8 : ByteArray, cell H3 (Addr.add ⟨H1.size, 0, none⟩ 1) = some (.string x8) ∧ (
 ((seq x6 x8) = true → (∃ x12 : Int, cell H3 (Addr.add ⟨H.size, 0, none⟩ 2) = some (.int .i64 x12) ∧ (
 ∃ x14 : Int, cell H3 (Addr.add ⟨H1.size, 0, none⟩ 2) = some (.int .i64 x14) ∧ (
 ((decide (x12 = x14)) = true → (∃ x18 : Bool, cell H3 (Addr.add ⟨H.size, 0, none⟩ 3) = some (.bool x18) ∧ (
 ∃ x20 : Bool, cell H3 (Addr.add ⟨H1.size, 0, none⟩ 3) = some (.bool x20) ∧ (
 ((x18 == x20) = true → (∃ x24 : Int, cell H3 (Addr.add ⟨H.size, 0, none⟩ 4) = some (.int .i64 x24) ∧ (
 ∃ x26 : Int, cell H3 (Addr.add ⟨H1.size, 0, none⟩ 4) = some (.int .i64 x26) ∧ (
 ((decide (x24 = x26)) = true → (∃ x30 : Sl, cell H3 ⟨H.size, 0, none⟩ = some (Sl.v x30) ∧ (
 ∃ x32 : Sl, cell H3 ⟨H1.size, 0, none⟩ = some (Sl.v x32) ∧ (
 F15 x30 x32 H3 (fun (r35 : Bool) (H33 : Hp) => 
 Q r35 H33))))) ∧
 ((decide (x24 = x26)) = false → (Q false H3)))))) ∧
 ((x18 == x20) = false → (Q false H3)))))) ∧
 ((decide (x12 = x14)) = false → (Q false H3)))))) ∧
 ((seq x6 x8) = false → (Q false H3))))))
set_option maxRecDepth 100000 in
set_option maxHeartbeats 4000000 in
theorem walk28 {w0 : World} {p0_0 : Sl} {p0_1 : ByteArray} {p0_2 : Int} {p0_3 : Bool} {p0_4 : Int} {p1_0 : Sl} {p1_1 : ByteArray} {p1_2 : Int} {p1_3 : Bool} {p1_4 : Int} {H : Hp} {Q : Bool → Hp → Prop} (h : F28 p0_0 p0_1 p0_2 p0_3 p0_4 p1_0 p1_1 p1_2 p1_3 p1_4 H Q) :
    Good Tryd.prog w0 28 #[(.agg #[(Sl.v p0_0), (.string p0_1), (.int .i64 p0_2), (.bool p0_3), (.int .i64 p0_4)]), (.agg #[(Sl.v p1_0), (.string p1_1), (.int .i64 p1_2), (.bool p1_3), (.int .i64 p1_4)])] H (fun v H => ∃ (r0 : Bool) , v = (.bool r0) ∧ Q r0 H) := by
  unfold F28 at h
  refine Good.enter' (fn := Tryd.f28) Tryd.func28 rfl rfl rfl ?_
  refine HW.seq ?_
  refine HW.region ?_
  refine HList.ops' rfl (HOp.box (v := (.agg #[(Sl.v p0_0), (.string p0_1), (.int .i64 p0_2), (.bool p0_3), (.int .i64 p0_4)])) rfl) ?_
  rintro _ H1 ⟨rfl, e2⟩
  replace h := h H1 e2
  refine HList.ops' rfl (HOp.box (v := (.agg #[(Sl.v p1_0), (.string p1_1), (.int .i64 p1_2), (.bool p1_3), (.int .i64 p1_4)])) rfl) ?_
  rintro _ H3 ⟨rfl, e4⟩
  replace h := h H3 e4
  refine HList.vals (v := (.bool false)) rfl (HVal.assign' rfl) ?_
  refine HList.nil ?_
  refine nt ?_
  refine HW.seq ?_
  refine HW.region ?_
  refine HList.vals (v := (.pointer (some (Addr.add ⟨H.size, 0, none⟩ 1)))) rfl (HVal.fieldAddr' Tryd.runUnderlying51 rfl rfl Tryd.sizeOf9 rfl) ?_
  obtain ⟨x6, c5, h⟩ := h
  refine HList.vals (v := (.string x6)) rfl (HVal.load1 Tryd.isAgg9 rfl c5) ?_
  refine HList.vals (v := (.pointer (some (Addr.add ⟨H1.size, 0, none⟩ 1)))) rfl (HVal.fieldAddr' Tryd.runUnderlying51 rfl rfl Tryd.sizeOf9 rfl) ?_
  obtain ⟨x8, c7, h⟩ := h
  refine HList.vals (v := (.string x8)) rfl (HVal.load1 Tryd.isAgg9 rfl c7) ?_
  refine HList.vals (v := (.bool (seq x6 x8))) rfl (HVal.eqlS rfl rfl) ?_
  refine HList.vals (v := (.bool (seq x6 x8))) rfl (HVal.move' rfl) ?_
  obtain ⟨hT, hF⟩ := h
  rcases Bool.eq_false_or_eq_true (seq x6 x8) with hb9 | hb10
  · have h := hT hb9
    clear hT hF
    refine HList.gvals (v := (.pointer (some (Addr.add ⟨H.size, 0, none⟩ 2)))) rfl rfl rfl rfl (congrArg Value.bool hb9) (HVal.fieldAddr' Tryd.runUnderlying51 rfl rfl Tryd.sizeOf3 rfl) ?_
    obtain ⟨x12, c11, h⟩ := h
    refine HList.gvals (v := (.int .i64 x12)) rfl rfl rfl rfl (congrArg Value.bool hb9) (HVal.load1 Tryd.isAgg3 rfl c11) ?_
    refine HList.gvals (v := (.pointer (some (Addr.add ⟨H1.size, 0, none⟩ 2)))) rfl rfl rfl rfl (congrArg Value.bool hb9) (HVal.fieldAddr' Tryd.runUnderlying51 rfl rfl Tryd.sizeOf3 rfl) ?_
    obtain ⟨x14, c13, h⟩ := h
    refine HList.gvals (v := (.int .i64 x14)) rfl rfl rfl rfl (congrArg Value.bool hb9) (HVal.load1 Tryd.isAgg3 rfl c13) ?_
    refine HList.gvals (v := (.bool (decide (x12 = x14)))) rfl rfl rfl rfl (congrArg Value.bool hb9) (HVal.eqlI rfl rfl) ?_
    refine HList.vals (v := (.bool (decide (x12 = x14)))) rfl (HVal.pickT rfl hb9 rfl) ?_
    refine HList.vals (v := (.bool (decide (x12 = x14)))) rfl (HVal.move' rfl) ?_
    obtain ⟨hT, hF⟩ := h
    rcases Bool.eq_false_or_eq_true (decide (x12 = x14)) with hb15 | hb16
    · have h := hT hb15
      clear hT hF
      refine HList.gvals (v := (.pointer (some (Addr.add ⟨H.size, 0, none⟩ 3)))) rfl rfl rfl rfl (congrArg Value.bool hb15) (HVal.fieldAddr' Tryd.runUnderlying51 rfl rfl Tryd.sizeOf4 rfl) ?_
      obtain ⟨x18, c17, h⟩ := h
      refine HList.gvals (v := (.bool x18)) rfl rfl rfl rfl (congrArg Value.bool hb15) (HVal.load1 Tryd.isAgg4 rfl c17) ?_
      refine HList.gvals (v := (.pointer (some (Addr.add ⟨H1.size, 0, none⟩ 3)))) rfl rfl rfl rfl (congrArg Value.bool hb15) (HVal.fieldAddr' Tryd.runUnderlying51 rfl rfl Tryd.sizeOf4 rfl) ?_
      obtain ⟨x20, c19, h⟩ := h
      refine HList.gvals (v := (.bool x20)) rfl rfl rfl rfl (congrArg Value.bool hb15) (HVal.load1 Tryd.isAgg4 rfl c19) ?_
      refine HList.gvals (v := (.bool (x18 == x20))) rfl rfl rfl rfl (congrArg Value.bool hb15) (HVal.eqlB Tryd.underlying4 rfl rfl) ?_
      refine HList.vals (v := (.bool (x18 == x20))) rfl (HVal.pickT rfl hb15 rfl) ?_
      refine HList.vals (v := (.bool (x18 == x20))) rfl (HVal.move' rfl) ?_
      obtain ⟨hT, hF⟩ := h
      rcases Bool.eq_false_or_eq_true (x18 == x20) with hb21 | hb22
      · have h := hT hb21
        clear hT hF
        refine HList.gvals (v := (.pointer (some (Addr.add ⟨H.size, 0, none⟩ 4)))) rfl rfl rfl rfl (congrArg Value.bool hb21) (HVal.fieldAddr' Tryd.runUnderlying51 rfl rfl Tryd.sizeOf26 rfl) ?_
        obtain ⟨x24, c23, h⟩ := h
        refine HList.gvals (v := (.int .i64 x24)) rfl rfl rfl rfl (congrArg Value.bool hb21) (HVal.load1 Tryd.isAgg26 rfl c23) ?_
        refine HList.gvals (v := (.pointer (some (Addr.add ⟨H1.size, 0, none⟩ 4)))) rfl rfl rfl rfl (congrArg Value.bool hb21) (HVal.fieldAddr' Tryd.runUnderlying51 rfl rfl Tryd.sizeOf26 rfl) ?_
        obtain ⟨x26, c25, h⟩ := h
        refine HList.gvals (v := (.int .i64 x26)) rfl rfl rfl rfl (congrArg Value.bool hb21) (HVal.load1 Tryd.isAgg26 rfl c25) ?_
        refine HList.gvals (v := (.bool (decide (x24 = x26)))) rfl rfl rfl rfl (congrArg Value.bool hb21) (HVal.eqlI rfl rfl) ?_
        refine HList.vals (v := (.bool (decide (x24 = x26)))) rfl (HVal.pickT rfl hb21 rfl) ?_
        refine HList.vals (v := (.bool (decide (x24 = x26)))) rfl (HVal.move' rfl) ?_
        obtain ⟨hT, hF⟩ := h
        rcases Bool.eq_false_or_eq_true (decide (x24 = x26)) with hb27 | hb28
        · have h := hT hb27
          clear hT hF
          refine HList.gvals (v := (.pointer (some ⟨H.size, 0, none⟩))) rfl rfl rfl rfl (congrArg Value.bool hb27) (HVal.fieldAddr0 Tryd.runUnderlying51 rfl rfl Tryd.sizeOf22 rfl) ?_
          obtain ⟨x30, c29, h⟩ := h
          refine HList.gvals (v := (Sl.v x30)) rfl rfl rfl rfl (congrArg Value.bool hb27) (HVal.load1 Tryd.isAgg22 rfl c29) ?_
          refine HList.gvals (v := (.pointer (some ⟨H1.size, 0, none⟩))) rfl rfl rfl rfl (congrArg Value.bool hb27) (HVal.fieldAddr0 Tryd.runUnderlying51 rfl rfl Tryd.sizeOf22 rfl) ?_
          obtain ⟨x32, c31, h⟩ := h
          refine HList.gvals (v := (Sl.v x32)) rfl rfl rfl rfl (congrArg Value.bool hb27) (HVal.load1 Tryd.isAgg22 rfl c31) ?_
          refine HList.gops rfl rfl rfl rfl (congrArg Value.bool hb27) (HOp.call' 15 [(Sl.v x30), (Sl.v x32)] (cap := []) rfl rfl Tryd.call15 (walk15 h)) ?_
          rintro _ H33 ⟨r35, rfl, h⟩
          refine HList.vals (v := (.bool r35)) rfl (HVal.pickT rfl hb27 rfl) ?_
          refine HList.vals (v := (.bool r35)) rfl (HVal.assign' rfl) ?_
          refine HList.nil ?_
          refine nt ?_
          refine HW.ret ?_
          exact ⟨_, resOf1 rfl Res1.t, ⟨r35, rfl, h⟩⟩
        · have h := hF hb28
          clear hT hF
          refine HList.gskips rfl rfl rfl rfl (congrArg Value.bool hb28) ?_
          refine HList.gskips rfl rfl rfl rfl (congrArg Value.bool hb28) ?_
          refine HList.gskips rfl rfl rfl rfl (congrArg Value.bool hb28) ?_
          refine HList.gskips rfl rfl rfl rfl (congrArg Value.bool hb28) ?_
          refine HList.gskips rfl rfl rfl rfl (congrArg Value.bool hb28) ?_
          refine HList.vals (v := (.bool false)) rfl (HVal.pickF rfl hb28 rfl) ?_
          refine HList.vals (v := (.bool false)) rfl (HVal.assign' rfl) ?_
          refine HList.nil ?_
          refine nt ?_
          refine HW.ret ?_
          exact ⟨_, resOf1 rfl Res1.t, ⟨false, rfl, h⟩⟩
      · have h := hF hb22
        clear hT hF
        refine HList.gskips rfl rfl rfl rfl (congrArg Value.bool hb22) ?_
        refine HList.gskips rfl rfl rfl rfl (congrArg Value.bool hb22) ?_
        refine HList.gskips rfl rfl rfl rfl (congrArg Value.bool hb22) ?_
        refine HList.gskips rfl rfl rfl rfl (congrArg Value.bool hb22) ?_
        refine HList.gskips rfl rfl rfl rfl (congrArg Value.bool hb22) ?_
        refine HList.vals (v := (.bool false)) rfl (HVal.pickF rfl hb22 rfl) ?_
        refine HList.vals (v := (.bool false)) rfl (HVal.move' rfl) ?_
        refine HList.gskips rfl rfl rfl rfl rfl ?_
        refine HList.gskips rfl rfl rfl rfl rfl ?_
        refine HList.gskips rfl rfl rfl rfl rfl ?_
        refine HList.gskips rfl rfl rfl rfl rfl ?_
        refine HList.gskips rfl rfl rfl rfl rfl ?_
        refine HList.vals (v := (.bool false)) rfl (HVal.pickF rfl rfl rfl) ?_
        refine HList.vals (v := (.bool false)) rfl (HVal.assign' rfl) ?_
        refine HList.nil ?_
        refine nt ?_
        refine HW.ret ?_
        exact ⟨_, resOf1 rfl Res1.t, ⟨false, rfl, h⟩⟩
    · have h := hF hb16
      clear hT hF
      refine HList.gskips rfl rfl rfl rfl (congrArg Value.bool hb16) ?_
      refine HList.gskips rfl rfl rfl rfl (congrArg Value.bool hb16) ?_
      refine HList.gskips rfl rfl rfl rfl (congrArg Value.bool hb16) ?_
      refine HList.gskips rfl rfl rfl rfl (congrArg Value.bool hb16) ?_
      refine HList.gskips rfl rfl rfl rfl (congrArg Value.bool hb16) ?_
      refine HList.vals (v := (.bool false)) rfl (HVal.pickF rfl hb16 rfl) ?_
      refine HList.vals (v := (.bool false)) rfl (HVal.move' rfl) ?_
      refine HList.gskips rfl rfl rfl rfl rfl ?_
      refine HList.gskips rfl rfl rfl rfl rfl ?_
      refine HList.gskips rfl rfl rfl rfl rfl ?_
      refine HList.gskips rfl rfl rfl rfl rfl ?_
      refine HList.gskips rfl rfl rfl rfl rfl ?_
      refine HList.vals (v := (.bool false)) rfl (HVal.pickF rfl rfl rfl) ?_
      refine HList.vals (v := (.bool false)) rfl (HVal.move' rfl) ?_
      refine HList.gskips rfl rfl rfl rfl rfl ?_
      refine HList.gskips rfl rfl rfl rfl rfl ?_
      refine HList.gskips rfl rfl rfl rfl rfl ?_
      refine HList.gskips rfl rfl rfl rfl rfl ?_
      refine HList.gskips rfl rfl rfl rfl rfl ?_
      refine HList.vals (v := (.bool false)) rfl (HVal.pickF rfl rfl rfl) ?_
      refine HList.vals (v := (.bool false)) rfl (HVal.assign' rfl) ?_
      refine HList.nil ?_
      refine nt ?_
      refine HW.ret ?_
      exact ⟨_, resOf1 rfl Res1.t, ⟨false, rfl, h⟩⟩
  · have h := hF hb10
    clear hT hF
    refine HList.gskips rfl rfl rfl rfl (congrArg Value.bool hb10) ?_
    refine HList.gskips rfl rfl rfl rfl (congrArg Value.bool hb10) ?_
    refine HList.gskips rfl rfl rfl rfl (congrArg Value.bool hb10) ?_
    refine HList.gskips rfl rfl rfl rfl (congrArg Value.bool hb10) ?_
    refine HList.gskips rfl rfl rfl rfl (congrArg Value.bool hb10) ?_
    refine HList.vals (v := (.bool false)) rfl (HVal.pickF rfl hb10 rfl) ?_
    refine HList.vals (v := (.bool false)) rfl (HVal.move' rfl) ?_
    refine HList.gskips rfl rfl rfl rfl rfl ?_
    refine HList.gskips rfl rfl rfl rfl rfl ?_
    refine HList.gskips rfl rfl rfl rfl rfl ?_
    refine HList.gskips rfl rfl rfl rfl rfl ?_
    refine HList.gskips rfl rfl rfl rfl rfl ?_
    refine HList.vals (v := (.bool false)) rfl (HVal.pickF rfl rfl rfl) ?_
    refine HList.vals (v := (.bool false)) rfl (HVal.move' rfl) ?_
    refine HList.gskips rfl rfl rfl rfl rfl ?_
    refine HList.gskips rfl rfl rfl rfl rfl ?_
    refine HList.gskips rfl rfl rfl rfl rfl ?_
    refine HList.gskips rfl rfl rfl rfl rfl ?_
    refine HList.gskips rfl rfl rfl rfl rfl ?_
    refine HList.vals (v := (.bool false)) rfl (HVal.pickF rfl rfl rfl) ?_
    refine HList.vals (v := (.bool false)) rfl (HVal.move' rfl) ?_
    refine HList.gskips rfl rfl rfl rfl rfl ?_
    refine HList.gskips rfl rfl rfl rfl rfl ?_
    refine HList.gskips rfl rfl rfl rfl rfl ?_
    refine HList.gskips rfl rfl rfl rfl rfl ?_
    refine HList.gskips rfl rfl rfl rfl rfl ?_
    refine HList.vals (v := (.bool false)) rfl (HVal.pickF rfl rfl rfl) ?_
    refine HList.vals (v := (.bool false)) rfl (HVal.assign' rfl) ?_
    refine HList.nil ?_
    refine nt ?_
    refine HW.ret ?_
    exact ⟨_, resOf1 rfl Res1.t, ⟨false, rfl, h⟩⟩

def F29 (p0_0 : Sl) (p0_1 : ByteArray) (p0_2 : Int) (p0_3 : Bool) (p0_4 : Int) (H : Hp) (Q : Int → Hp → Prop) : Prop :=
∀ H1 : Hp, H1 = Array.push H (.cells #[(Sl.v p0_0), (.string p0_1), (.int .i64 p0_2), (.bool p0_3), (.int .i64 p0_4)] 51) → (
 ∃ x4 : Sl, cell H1 ⟨H.size, 0, none⟩ = some (Sl.v x4) ∧ (
 ∃ x6 : ByteArray, cell H1 (Addr.add ⟨H.size, 0, none⟩ 1) = some (.string x6) ∧ (
 Q (IntKind.i64.wrap ((IntKind.i64.wrap (1600 + (IntKind.i64.wrap (16 * ((x4).n : Int))))) + (IntKind.i64.wrap (2 * ((x6).size : Int))))) H1)))
set_option maxRecDepth 100000 in
set_option maxHeartbeats 4000000 in
theorem walk29 {w0 : World} {p0_0 : Sl} {p0_1 : ByteArray} {p0_2 : Int} {p0_3 : Bool} {p0_4 : Int} {H : Hp} {Q : Int → Hp → Prop} (h : F29 p0_0 p0_1 p0_2 p0_3 p0_4 H Q) :
    Good Tryd.prog w0 29 #[(.agg #[(Sl.v p0_0), (.string p0_1), (.int .i64 p0_2), (.bool p0_3), (.int .i64 p0_4)])] H (fun v H => ∃ (r0 : Int) , v = (.int .i64 r0) ∧ Q r0 H) := by
  unfold F29 at h
  refine Good.enter' (fn := Tryd.f29) Tryd.func29 rfl rfl rfl ?_
  refine HW.seq ?_
  refine HW.region ?_
  refine HList.ops' rfl (HOp.box (v := (.agg #[(Sl.v p0_0), (.string p0_1), (.int .i64 p0_2), (.bool p0_3), (.int .i64 p0_4)])) rfl) ?_
  rintro _ H1 ⟨rfl, e2⟩
  replace h := h H1 e2
  refine HList.vals (v := (.int .i64 0)) rfl (HVal.assign' rfl) ?_
  refine HList.nil ?_
  refine nt ?_
  refine HW.seq ?_
  refine HW.region ?_
  refine HList.vals (v := (.pointer (some ⟨H.size, 0, none⟩))) rfl (HVal.fieldAddr0 Tryd.runUnderlying51 rfl rfl Tryd.sizeOf22 rfl) ?_
  obtain ⟨x4, c3, h⟩ := h
  refine HList.vals (v := (Sl.v x4)) rfl (HVal.load1 Tryd.isAgg22 rfl c3) ?_
  refine HList.vals (v := (.int .i64 ((x4).n : Int))) rfl (HVal.len Tryd.runUnderlying22 rfl) ?_
  refine HList.vals (v := (.int .i64 (IntKind.i64.wrap (16 * ((x4).n : Int))))) rfl (HVal.mul rfl rfl) ?_
  refine HList.vals (v := (.int .i64 (IntKind.i64.wrap (1600 + (IntKind.i64.wrap (16 * ((x4).n : Int))))))) rfl (HVal.add rfl rfl) ?_
  refine HList.vals (v := (.pointer (some (Addr.add ⟨H.size, 0, none⟩ 1)))) rfl (HVal.fieldAddr' Tryd.runUnderlying51 rfl rfl Tryd.sizeOf9 rfl) ?_
  obtain ⟨x6, c5, h⟩ := h
  refine HList.vals (v := (.string x6)) rfl (HVal.load1 Tryd.isAgg9 rfl c5) ?_
  refine HList.vals (v := (.int .i64 ((x6).size : Int))) rfl (HVal.lenS Tryd.runUnderlying9 rfl) ?_
  refine HList.vals (v := (.int .i64 (IntKind.i64.wrap (2 * ((x6).size : Int))))) rfl (HVal.mul rfl rfl) ?_
  refine HList.vals (v := (.int .i64 (IntKind.i64.wrap ((IntKind.i64.wrap (1600 + (IntKind.i64.wrap (16 * ((x4).n : Int))))) + (IntKind.i64.wrap (2 * ((x6).size : Int))))))) rfl (HVal.add rfl rfl) ?_
  refine HList.vals (v := (.int .i64 (IntKind.i64.wrap ((IntKind.i64.wrap (1600 + (IntKind.i64.wrap (16 * ((x4).n : Int))))) + (IntKind.i64.wrap (2 * ((x6).size : Int))))))) rfl (HVal.assign' rfl) ?_
  refine HList.nil ?_
  refine nt ?_
  refine HW.ret ?_
  exact ⟨_, resOf1 rfl Res1.t, ⟨(IntKind.i64.wrap ((IntKind.i64.wrap (1600 + (IntKind.i64.wrap (16 * ((x4).n : Int))))) + (IntKind.i64.wrap (2 * ((x6).size : Int))))), rfl, h⟩⟩

def F8_L6b (Q : Bool → Hp → Prop) (X6 : Int → Hp → Prop) (y171 : Sl) (y172 : Sl) (y170 : Int) (H_6 : Hp) : Prop :=
((decide (y170 < ((y171).n : Int))) = true → (∃ a174 : Addr, (y171).b = some a174 ∧ (0 : Int) ≤ y170 ∧ y170 < ((y171).n : Int) ∧ (
 ∃ (x179 : Sl) (x180 : ByteArray) (x181 : Int) (x182 : Bool) (x183 : Int), cells H_6 (Addr.add a174 (y170.toNat * 5)) [(Sl.v x179), (.string x180), (.int .i64 x181), (.bool x182), (.int .i64 x183)] 0 ∧ (
 ∃ a184 : Addr, (y172).b = some a184 ∧ (0 : Int) ≤ y170 ∧ y170 < ((y172).n : Int) ∧ (
 ∃ (x189 : Sl) (x190 : ByteArray) (x191 : Int) (x192 : Bool) (x193 : Int), cells H_6 (Addr.add a184 (y170.toNat * 5)) [(Sl.v x189), (.string x190), (.int .i64 x191), (.bool x192), (.int .i64 x193)] 0 ∧ (
 F28 x179 x180 x181 x182 x183 x189 x190 x191 x192 x193 H_6 (fun (r196 : Bool) (H194 : Hp) => 
 ((!r196) = true → (Q false H194)) ∧
 ((!r196) = false → (X6 (IntKind.i64.wrap (y170 + 1)) H194))))))))) ∧
 ((decide (y170 < ((y171).n : Int))) = false → (Q true H_6))
def F8_L6 (Q : Bool → Hp → Prop) (y171 : Sl) (y172 : Sl) (y170 : Int) (H_6 : Hp) : Prop :=
  ∀ X6 : Int → Hp → Prop, (∀ (y170 : Int) (H_6 : Hp), F8_L6b Q X6 y171 y172 y170 H_6 → X6 y170 H_6) → X6 y170 H_6
def F8_1 (Q : Bool → Hp → Prop) (y168 : Sl) (y169 : Sl) (H_1 : Hp) : Prop :=
F8_L6 Q y168 y169 0 H_1
def F8_3 (Q : Bool → Hp → Prop) (X2 : Sl → Sl → Int → Int → Hp → Prop) (y15 : Sl) (y16 : Sl) (y17 : Addr) (y18 : Int) (y165 : Sl) (y166 : Sl) (y167 : Int) (H_3 : Hp) : Prop :=
X2 y165 y166 y167 (IntKind.i64.wrap (y18 + 1)) H_3
def F8_4 (Q : Bool → Hp → Prop) (X2 : Sl → Sl → Int → Int → Hp → Prop) (y19 : Sl) (y20 : Sl) (y21 : Sl) (y22 : Sl) (y23 : Addr) (y24 : Int) (y25 : Int) (H_4 : Hp) : Prop :=
∃ (x84 : Int) (x85 : Sl) (x86 : Sl) (x87 : ByteArray), cells H_4 y23 [(.int .i64 x84), (Sl.v x85), (Sl.v x86), (.string x87)] 0 ∧ (
 F26 x84 x85 x86 x87 H_4 (fun (r90 : Sl) (r91 : ByteArray) (r92 : Int) (r93 : Bool) (r94 : Int) (H88 : Hp) => 
 ∀ H95 : Hp, H95 = Array.push H88 (.cells #[(Sl.v Sl.nil), (.string (ByteArray.mk #[])), (.int .i64 0), (.bool false), (.int .i64 0)] 51) → (
 mayw H95 ⟨H88.size, 0, none⟩ 5 0 ∧ ∀ H97 : Hp, H97 = sets H95 ⟨H88.size, 0, none⟩ [(Sl.v r90), (.string r91), (.int .i64 r92), (.bool r93), (.int .i64 r94)] 0 → (
 ∃ (x101 : Int) (x102 : Sl) (x103 : Sl) (x104 : ByteArray), cells H97 y23 [(.int .i64 x101), (Sl.v x102), (Sl.v x103), (.string x104)] 0 ∧ (
 F27 x101 x102 x103 x104 H97 (fun (r107 : Sl) (r108 : ByteArray) (r109 : Int) (r110 : Bool) (r111 : Int) (H105 : Hp) => 
 ∀ H112 : Hp, H112 = Array.push H105 (.cells #[(Sl.v Sl.nil), (.string (ByteArray.mk #[])), (.int .i64 0), (.bool false), (.int .i64 0)] 51) → (
 mayw H112 ⟨H105.size, 0, none⟩ 5 0 ∧ ∀ H114 : Hp, H114 = sets H112 ⟨H105.size, 0, none⟩ [(Sl.v r107), (.string r108), (.int .i64 r109), (.bool r110), (.int .i64 r111)] 0 → (
 ∃ (x118 : Sl) (x119 : ByteArray) (x120 : Int) (x121 : Bool) (x122 : Int), cells H114 ⟨H88.size, 0, none⟩ [(Sl.v x118), (.string x119), (.int .i64 x120), (.bool x121), (.int .i64 x122)] 0 ∧ (
 ∃ (x124 : Sl) (x125 : ByteArray) (x126 : Int) (x127 : Bool) (x128 : Int), cells H114 ⟨H105.size, 0, none⟩ [(Sl.v x124), (.string x125), (.int .i64 x126), (.bool x127), (.int .i64 x128)] 0 ∧ (
 F28 x118 x119 x120 x121 x122 x124 x125 x126 x127 x128 H114 (fun (r131 : Bool) (H129 : Hp) => 
 ((!r131) = true → (Q false H129)) ∧
 ((!r131) = false → (((decide (y24 ≤ 33554432)) = true → (∃ (x135 : Sl) (x136 : ByteArray) (x137 : Int) (x138 : Bool) (x139 : Int), cells H129 ⟨H88.size, 0, none⟩ [(Sl.v x135), (.string x136), (.int .i64 x137), (.bool x138), (.int .i64 x139)] 0 ∧ (
 ∀ H140 : Hp, H140 = Array.push H129 (.cells #[(Sl.v x135), (.string x136), (.int .i64 x137), (.bool x138), (.int .i64 x139)] 51) → (
 AppendF H140 51 5 64 #[(Sl.v Sl.nil), (.string (ByteArray.mk #[])), (.int .i64 0), (.bool false), (.int .i64 0)] y21 ((Sl.mk (some ⟨H129.size, 0, none⟩) 1 1)).b ((Sl.mk (some ⟨H129.size, 0, none⟩) 1 1)).n (fun (r144 : Sl) (H142 : Hp) => 
 ∃ (x146 : Sl) (x147 : ByteArray) (x148 : Int) (x149 : Bool) (x150 : Int), cells H142 ⟨H105.size, 0, none⟩ [(Sl.v x146), (.string x147), (.int .i64 x148), (.bool x149), (.int .i64 x150)] 0 ∧ (
 ∀ H151 : Hp, H151 = Array.push H142 (.cells #[(Sl.v x146), (.string x147), (.int .i64 x148), (.bool x149), (.int .i64 x150)] 51) → (
 AppendF H151 51 5 64 #[(Sl.v Sl.nil), (.string (ByteArray.mk #[])), (.int .i64 0), (.bool false), (.int .i64 0)] y22 ((Sl.mk (some ⟨H142.size, 0, none⟩) 1 1)).b ((Sl.mk (some ⟨H142.size, 0, none⟩) 1 1)).n (fun (r155 : Sl) (H153 : Hp) => 
 ∃ (x157 : Sl) (x158 : ByteArray) (x159 : Int) (x160 : Bool) (x161 : Int), cells H153 ⟨H88.size, 0, none⟩ [(Sl.v x157), (.string x158), (.int .i64 x159), (.bool x160), (.int .i64 x161)] 0 ∧ (
 F29 x157 x158 x159 x160 x161 H153 (fun (r164 : Int) (H162 : Hp) => 
 F8_3 Q X2 y19 y20 y23 y25 r144 r155 (IntKind.i64.wrap (y24 + r164)) H162)))))))))) ∧
 ((decide (y24 ≤ 33554432)) = false → (F8_3 Q X2 y19 y20 y23 y25 y21 y22 y24 H129)))))))))))))))
def F8_5 (Q : Bool → Hp → Prop) (X2 : Sl → Sl → Int → Int → Hp → Prop) (y26 : Sl) (y27 : Sl) (y28 : Sl) (y29 : Sl) (y30 : Addr) (y31 : Int) (y32 : Int) (y43 : Bool) (H_5 : Hp) : Prop :=
(y43 = true → (∃ (x46 : Int) (x47 : Sl) (x48 : Sl) (x49 : ByteArray), cells H_5 y30 [(.int .i64 x46), (Sl.v x47), (Sl.v x48), (.string x49)] 0 ∧ (
 ∃ a50 : Addr, (y27).b = some a50 ∧ (0 : Int) ≤ y32 ∧ y32 < ((y27).n : Int) ∧ (
 ∃ x55 : Int, cell H_5 (Addr.add a50 (y32.toNat * 1)) = some (.int .i64 x55) ∧ (
 F24 x46 x47 x48 x49 x55 H_5 (fun (r58 : Int) (r59 : Sl) (r60 : Sl) (r61 : ByteArray) (H56 : Hp) => 
 mayw H56 y30 4 0 ∧ ∀ H62 : Hp, H62 = sets H56 y30 [(.int .i64 r58), (Sl.v r59), (Sl.v r60), (.string r61)] 0 → (
 F8_4 Q X2 y26 y27 y28 y29 y30 y31 y32 H62))))))) ∧
 (y43 = false → (∃ a65 : Addr, (y26).b = some a65 ∧ (0 : Int) ≤ y32 ∧ y32 < ((y26).n : Int) ∧ (
 ∃ (x70 : Int) (x71 : Sl) (x72 : Sl) (x73 : ByteArray), cells H_5 (Addr.add a65 (y32.toNat * 4)) [(.int .i64 x70), (Sl.v x71), (Sl.v x72), (.string x73)] 0 ∧ (
 F25 x70 x71 x72 x73 H_5 (fun (r76 : Int) (r77 : Sl) (r78 : Sl) (r79 : ByteArray) (H74 : Hp) => 
 mayw H74 y30 4 0 ∧ ∀ H80 : Hp, H80 = sets H74 y30 [(.int .i64 r76), (Sl.v r77), (Sl.v r78), (.string r79)] 0 → (
 F8_4 Q X2 y26 y27 y28 y29 y30 y31 y32 H80))))))
def F8_L2b (Q : Bool → Hp → Prop) (X2 : Sl → Sl → Int → Int → Hp → Prop) (y11 : Sl) (y12 : Sl) (y13 : Addr) (y7 : Sl) (y8 : Sl) (y9 : Int) (y10 : Int) (H_2 : Hp) : Prop :=
((decide (y10 < ((y11).n : Int))) = true → (((decide ((0 : Int) < y10)) = true → (((decide (y10 < ((y12).n : Int))) = true → (∃ a37 : Addr, (y12).b = some a37 ∧ (0 : Int) ≤ y10 ∧ y10 < ((y12).n : Int) ∧ (
 ∃ x42 : Int, cell H_2 (Addr.add a37 (y10.toNat * 1)) = some (.int .i64 x42) ∧ (
 F8_5 Q X2 y11 y12 y7 y8 y13 y9 y10 (decide (x42 ≠ 0)) H_2)))) ∧
 ((decide (y10 < ((y12).n : Int))) = false → (F8_5 Q X2 y11 y12 y7 y8 y13 y9 y10 false H_2)))) ∧
 ((decide ((0 : Int) < y10)) = false → (F8_5 Q X2 y11 y12 y7 y8 y13 y9 y10 false H_2)))) ∧
 ((decide (y10 < ((y11).n : Int))) = false → (F8_1 Q y7 y8 H_2))
def F8_L2 (Q : Bool → Hp → Prop) (y11 : Sl) (y12 : Sl) (y13 : Addr) (y7 : Sl) (y8 : Sl) (y9 : Int) (y10 : Int) (H_2 : Hp) : Prop :=
  ∀ X2 : Sl → Sl → Int → Int → Hp → Prop, (∀ (y7 : Sl) (y8 : Sl) (y9 : Int) (y10 : Int) (H_2 : Hp), F8_L2b Q X2 y11 y12 y13 y7 y8 y9 y10 H_2 → X2 y7 y8 y9 y10 H_2) → X2 y7 y8 y9 y10 H_2
def F8 (p0 : Sl) (p1 : Sl) (H : Hp) (Q : Bool → Hp → Prop) : Prop :=
F9 H (fun (r3 : Bool) (H1 : Hp) => 
 ((!r3) = true → (Q false H1)) ∧
 ((!r3) = false → (∀ H5 : Hp, H5 = Array.push H1 (.cells #[(.int .i64 0), (Sl.v Sl.nil), (Sl.v Sl.nil), (.string (ByteArray.mk #[]))] 41) → (
 F8_L2 Q p0 p1 ⟨H1.size, 0, none⟩ Sl.nil Sl.nil 0 0 H5))))
set_option maxRecDepth 100000 in
set_option maxHeartbeats 4000000 in
theorem walk8 {w0 : World} {p0 : Sl} {p1 : Sl} {H : Hp} {Q : Bool → Hp → Prop} (h : F8 p0 p1 H Q) :
    Good Tryd.prog w0 8 #[(Sl.v p0), (Sl.v p1)] H (fun v H => ∃ (r0 : Bool) , v = (.bool r0) ∧ Q r0 H) := by
  unfold F8 at h
  refine Good.enter' (fn := Tryd.f8) Tryd.func8 rfl rfl rfl ?_
  refine HW.seq ?_
  refine HW.region ?_
  refine HList.vals (v := (.bool false)) rfl (HVal.assign' rfl) ?_
  refine HList.nil ?_
  refine nt ?_
  refine HW.seq ?_
  refine HW.seq ?_
  refine HW.region ?_
  refine HList.ops' rfl (HOp.call' 9 [] (cap := []) rfl rfl Tryd.call9 (walk9 h)) ?_
  rintro _ H1 ⟨r3, rfl, h⟩
  refine HList.vals (v := (.bool (!r3))) rfl (HVal.not rfl) ?_
  refine HList.nil ?_
  refine nt ?_
  obtain ⟨hT, hF⟩ := h
  refine HW.cond (!r3) rfl (fun hb4 => ?_) (fun hb4 => ?_)
  · have h := hT hb4
    clear hT hF
    refine HW.seq ?_
    refine HW.region ?_
    refine HList.vals (v := (.bool false)) rfl (HVal.assign' rfl) ?_
    refine HList.nil ?_
    refine nt ?_
    refine HW.ret ?_
    refine tr ?_
    exact ⟨_, resOf1 rfl Res1.t, ⟨false, rfl, h⟩⟩
  · have h := hF hb4
    clear hT hF
    refine HW.skip ?_
    refine nt ?_
    refine HW.seq ?_
    refine HW.region ?_
    refine HList.vals (v := (Sl.v Sl.nil)) rfl (HVal.assign' rfl) ?_
    refine HList.vals (v := (Sl.v Sl.nil)) rfl (HVal.assign' rfl) ?_
    refine HList.nil ?_
    refine nt ?_
    refine HW.seq ?_
    refine HW.region ?_
    refine HList.ops' rfl (HOp.alloc Tryd.zeroValue41) ?_
    rintro _ H5 ⟨rfl, e6⟩
    replace h := h H5 e6
    refine HList.nil ?_
    refine nt ?_
    refine HW.seq ?_
    refine HW.region ?_
    refine HList.vals (v := (.int .i64 0)) rfl (HVal.assign' rfl) ?_
    refine HList.nil ?_
    refine nt ?_
    refine HW.cut (fun ρ H_1 => ∃ (y168 : Sl) (y169 : Sl), Env.Is ρ [(5, (Sl.v y168)), (6, (Sl.v y169))] ∧ F8_1 Q y168 y169 H_1) ?_ ?_
    · refine HW.seq ?_
      refine HW.region ?_
      refine HList.vals (v := (.int .i64 0)) rfl (HVal.assign' rfl) ?_
      refine HList.nil ?_
      refine nt ?_
      refine HW.block ?_
      refine HW.loop' (fun L2 hL2 => ?_)
      obtain ⟨X2, hX2⟩ : ∃ X2 : Sl → Sl → Int → Int → Hp → Prop, ∀ (y7 : Sl) (y8 : Sl) (y9 : Int) (y10 : Int) (H_2 : Hp), X2 y7 y8 y9 y10 H_2 ↔ ∀ ρ, Env.Is ρ [(0, (Sl.v p0)), (1, (Sl.v p1)), (7, (.pointer (some ⟨H1.size, 0, none⟩))), (5, (Sl.v y7)), (6, (Sl.v y8)), (8, (.int .i64 y9)), (9, (.int .i64 y10))] → L2 ρ H_2 := ⟨_, fun _ _ _ _ _ => Iff.rfl⟩
      refine (hX2 _ _ _ _ _).1 (h X2 ?_) _ ?_
      rotate_left
      · exact ⟨rfl, rfl, rfl, rfl, rfl, rfl, rfl, trivial⟩
      clear h
      intro y7 y8 y9 y10 H_2 h
      refine (hX2 _ _ _ _ _).2 fun ρ hI => ?_
      obtain ⟨ρ0, rfl⟩ : ∃ ρ0, ρ = (Env.set (Env.set (Env.set (Env.set (Env.set (Env.set (Env.set ρ0 9 (.int .i64 y10)) 8 (.int .i64 y9)) 6 (Sl.v y8)) 5 (Sl.v y7)) 7 (.pointer (some ⟨H1.size, 0, none⟩))) 1 (Sl.v p1)) 0 (Sl.v p0)) := ⟨ρ, hI.eq⟩
      clear hI; unfold F8_L2b at h; refine hL2 _ _ ?_
      refine HW.seq ?_
      refine HW.seq ?_
      refine HW.region ?_
      refine HList.vals (v := (.int .i64 y10)) rfl (HVal.move' rfl) ?_
      refine HList.vals (v := (Sl.v p0)) rfl (HVal.move' rfl) ?_
      refine HList.vals (v := (.int .i64 ((p0).n : Int))) rfl (HVal.len Tryd.runUnderlying38 rfl) ?_
      refine HList.vals (v := (.bool (decide (y10 < ((p0).n : Int))))) rfl (HVal.lss rfl rfl) ?_
      refine HList.nil ?_
      refine nt ?_
      obtain ⟨hT, hF⟩ := h
      refine HW.cond (decide (y10 < ((p0).n : Int))) rfl (fun hb14 => ?_) (fun hb14 => ?_)
      · have h := hT hb14
        clear hT hF
        refine HW.skip ?_
        refine nt ?_
        refine HW.cut (fun ρ H_3 => ∃ (y165 : Sl) (y166 : Sl) (y167 : Int), Env.Is ρ [(0, (Sl.v p0)), (1, (Sl.v p1)), (7, (.pointer (some ⟨H1.size, 0, none⟩))), (9, (.int .i64 y10)), (5, (Sl.v y165)), (6, (Sl.v y166)), (8, (.int .i64 y167))] ∧ F8_3 Q X2 p0 p1 ⟨H1.size, 0, none⟩ y10 y165 y166 y167 H_3) ?_ ?_
        · refine HW.block ?_
          refine HW.cut (fun ρ H_4 => Env.Is ρ [(0, (Sl.v p0)), (1, (Sl.v p1)), (5, (Sl.v y7)), (6, (Sl.v y8)), (7, (.pointer (some ⟨H1.size, 0, none⟩))), (8, (.int .i64 y9)), (9, (.int .i64 y10))] ∧ F8_4 Q X2 p0 p1 y7 y8 ⟨H1.size, 0, none⟩ y9 y10 H_4) ?_ ?_
          · refine HW.cut (fun ρ H_5 => ∃ (y43 : Bool), Env.Is ρ [(0, (Sl.v p0)), (1, (Sl.v p1)), (5, (Sl.v y7)), (6, (Sl.v y8)), (7, (.pointer (some ⟨H1.size, 0, none⟩))), (8, (.int .i64 y9)), (9, (.int .i64 y10)), (35, (.bool y43))] ∧ F8_5 Q X2 p0 p1 y7 y8 ⟨H1.size, 0, none⟩ y9 y10 y43 H_5) ?_ ?_
            · refine HW.region ?_
              refine HList.vals (v := (.int .i64 y10)) rfl (HVal.move' rfl) ?_
              refine HList.vals (v := (.bool (decide ((0 : Int) < y10)))) rfl (HVal.gtr rfl rfl) ?_
              refine HList.vals (v := (.bool (decide ((0 : Int) < y10)))) rfl (HVal.move' rfl) ?_
              obtain ⟨hT, hF⟩ := h
              rcases Bool.eq_false_or_eq_true (decide ((0 : Int) < y10)) with hb33 | hb34
              · have h := hT hb33
                clear hT hF
                refine HList.gvals (v := (.int .i64 y10)) rfl rfl rfl rfl (congrArg Value.bool hb33) (HVal.move' rfl) ?_
                refine HList.gvals (v := (Sl.v p1)) rfl rfl rfl rfl (congrArg Value.bool hb33) (HVal.move' rfl) ?_
                refine HList.gvals (v := (.int .i64 ((p1).n : Int))) rfl rfl rfl rfl (congrArg Value.bool hb33) (HVal.len Tryd.runUnderlying22 rfl) ?_
                refine HList.gvals (v := (.bool (decide (y10 < ((p1).n : Int))))) rfl rfl rfl rfl (congrArg Value.bool hb33) (HVal.lss rfl rfl) ?_
                refine HList.vals (v := (.bool (decide (y10 < ((p1).n : Int))))) rfl (HVal.pickT rfl hb33 rfl) ?_
                refine HList.vals (v := (.bool (decide (y10 < ((p1).n : Int))))) rfl (HVal.move' rfl) ?_
                obtain ⟨hT, hF⟩ := h
                rcases Bool.eq_false_or_eq_true (decide (y10 < ((p1).n : Int))) with hb35 | hb36
                · have h := hT hb35
                  clear hT hF
                  refine HList.gvals (v := (Sl.v p1)) rfl rfl rfl rfl (congrArg Value.bool hb35) (HVal.move' rfl) ?_
                  refine HList.gvals (v := (.int .i64 y10)) rfl rfl rfl rfl (congrArg Value.bool hb35) (HVal.move' rfl) ?_
                  obtain ⟨a37, e38, b39, b40, h⟩ := h
                  refine HList.gvals (v := (.pointer (some (Addr.add a37 (y10.toNat * 1))))) rfl rfl rfl rfl (congrArg Value.bool hb35) (HVal.indexAddr Tryd.runUnderlying22 Tryd.sizeOf3 (Sl.v_some rfl e38) rfl b39 b40) ?_
                  obtain ⟨x42, c41, h⟩ := h
                  refine HList.gvals (v := (.int .i64 x42)) rfl rfl rfl rfl (congrArg Value.bool hb35) (HVal.load1 Tryd.isAgg3 rfl c41) ?_
                  refine HList.gvals (v := (.bool (decide (x42 ≠ 0)))) rfl rfl rfl rfl (congrArg Value.bool hb35) (HVal.neqI rfl rfl) ?_
                  refine HList.vals (v := (.bool (decide (x42 ≠ 0)))) rfl (HVal.pickT rfl hb35 rfl) ?_
                  refine HList.nil ?_
                  refine nt ?_
                  exact ⟨(decide (x42 ≠ 0)), ⟨rfl, rfl, rfl, rfl, rfl, rfl, rfl, rfl, trivial⟩, h⟩
                · have h := hF hb36
                  clear hT hF
                  refine HList.gskips rfl rfl rfl rfl (congrArg Value.bool hb36) ?_
                  refine HList.gskips rfl rfl rfl rfl (congrArg Value.bool hb36) ?_
                  refine HList.gskips rfl rfl rfl rfl (congrArg Value.bool hb36) ?_
                  refine HList.gskips rfl rfl rfl rfl (congrArg Value.bool hb36) ?_
                  refine HList.gskips rfl rfl rfl rfl (congrArg Value.bool hb36) ?_
                  refine HList.vals (v := (.bool false)) rfl (HVal.pickF rfl hb36 rfl) ?_
                  refine HList.nil ?_
                  refine nt ?_
                  exact ⟨false, ⟨rfl, rfl, rfl, rfl, rfl, rfl, rfl, rfl, trivial⟩, h⟩
              · have h := hF hb34
                clear hT hF
                refine HList.gskips rfl rfl rfl rfl (congrArg Value.bool hb34) ?_
                refine HList.gskips rfl rfl rfl rfl (congrArg Value.bool hb34) ?_
                refine HList.gskips rfl rfl rfl rfl (congrArg Value.bool hb34) ?_
                refine HList.gskips rfl rfl rfl rfl (congrArg Value.bool hb34) ?_
                refine HList.vals (v := (.bool false)) rfl (HVal.pickF rfl hb34 rfl) ?_
                refine HList.vals (v := (.bool false)) rfl (HVal.move' rfl) ?_
                refine HList.gskips rfl rfl rfl rfl rfl ?_
                refine HList.gskips rfl rfl rfl rfl rfl ?_
                refine HList.gskips rfl rfl rfl rfl rfl ?_
                refine HList.gskips rfl rfl rfl rfl rfl ?_
                refine HList.gskips rfl rfl rfl rfl rfl ?_
                refine HList.vals (v := (.bool false)) rfl (HVal.pickF rfl rfl rfl) ?_
                refine HList.nil ?_
                refine nt ?_
                exact ⟨false, ⟨rfl, rfl, rfl, rfl, rfl, rfl, rfl, rfl, trivial⟩, h⟩
            · rintro ρ H_5 ⟨y43, hI, h⟩
              obtain ⟨ρ0, rfl⟩ : ∃ ρ0, ρ = (Env.set (Env.set (Env.set (Env.set (Env.set (Env.set (Env.set (Env.set ρ0 35 (.bool y43)) 9 (.int .i64 y10)) 8 (.int .i64 y9)) 7 (.pointer (some ⟨H1.size, 0, none⟩))) 6 (Sl.v y8)) 5 (Sl.v y7)) 1 (Sl.v p1)) 0 (Sl.v p0)) := ⟨ρ, hI.eq⟩
              clear hI; unfold F8_5 at h
              obtain ⟨hT, hF⟩ := h
              refine HW.cond y43 rfl (fun hb44 => ?_) (fun hb44 => ?_)
              · have h := hT hb44
                clear hT hF
                refine HW.draw mixed [(0, some [5, 6]), (1, some []), (2, some []), (3, some []), (4, some [5, 6]), (5, none), (6, none)] rfl (by kernel_rfl) (by kernel_rfl) ?_
                obtain ⟨x46, x47, x48, x49, c45, h⟩ := h
                refine HPlan.takel (v := (.agg #[(.int .i64 x46), (Sl.v x47), (Sl.v x48), (.string x49)])) (fun X => cells X ⟨H1.size, 0, none⟩ [(.int .i64 x46), (Sl.v x47), (Sl.v x48), (.string x49)] 0) rfl rfl (fun _ hX => HVal.loadN [(.int .i64 x46), (Sl.v x47), (Sl.v x48), (.string x49)] Tryd.isAgg41 Tryd.sizeOf41 rfl hX) c45 ?_
                refine HPlan.takev (v := (Sl.v p1)) rfl rfl (fun _ => HVal.move' rfl) ?_
                refine HPlan.takev (v := (.int .i64 y10)) rfl rfl (fun _ => HVal.move' rfl) ?_
                obtain ⟨a50, e51, b52, b53, h⟩ := h
                refine HPlan.takev (v := (.pointer (some (Addr.add a50 (y10.toNat * 1))))) rfl rfl (fun _ => HVal.indexAddr Tryd.runUnderlying22 Tryd.sizeOf3 (Sl.v_some rfl e51) rfl b52 b53) ?_
                obtain ⟨x55, c54, h⟩ := h
                refine HPlan.takel (v := (.int .i64 x55)) (fun X => cell X (Addr.add a50 (y10.toNat * 1)) = some (.int .i64 x55)) rfl rfl (fun _ hX => HVal.load1 Tryd.isAgg3 rfl hX) c54 ?_
                refine HPlan.ops' rfl rfl (HOp.call' 24 [(.agg #[(.int .i64 x46), (Sl.v x47), (Sl.v x48), (.string x49)]), (.int .i64 x55)] (cap := []) rfl rfl Tryd.call24 (walk24 h)) ?_
                rintro _ H56 ⟨r58, r59, r60, r61, rfl, h⟩
                refine ⟨SC_of ⟨fun e => absurd e (by decide), fun e => absurd e (by decide), trivial⟩, ?_⟩
                obtain ⟨z64, h⟩ := h
                refine HPlan.opsn rfl (HOp.storeN' (l := [(.int .i64 r58), (Sl.v r59), (Sl.v r60), (.string r61)]) Tryd.sizeOf41 rfl rfl rfl z64) ?_
                rintro _ H62 e63
                replace h := h H62 e63
                refine ⟨SC_of ⟨fun e => absurd e (by decide), fun e => absurd e (by decide), trivial⟩, ?_⟩
                refine HPlan.done ?_
                refine nt ?_
                exact ⟨⟨rfl, rfl, rfl, rfl, rfl, rfl, rfl, trivial⟩, h⟩
              · have h := hF hb44
                clear hT hF
                refine HW.region ?_
                refine HList.vals (v := (Sl.v p0)) rfl (HVal.move' rfl) ?_
                refine HList.vals (v := (.int .i64 y10)) rfl (HVal.move' rfl) ?_
                obtain ⟨a65, e66, b67, b68, h⟩ := h
                refine HList.vals (v := (.pointer (some (Addr.add a65 (y10.toNat * 4))))) rfl (HVal.indexAddr Tryd.runUnderlying38 Tryd.sizeOf41 (Sl.v_some rfl e66) rfl b67 b68) ?_
                obtain ⟨x70, x71, x72, x73, c69, h⟩ := h
                refine HList.vals (v := (.agg #[(.int .i64 x70), (Sl.v x71), (Sl.v x72), (.string x73)])) rfl (HVal.loadN [(.int .i64 x70), (Sl.v x71), (Sl.v x72), (.string x73)] Tryd.isAgg41 Tryd.sizeOf41 rfl c69) ?_
                refine HList.ops' rfl (HOp.call' 25 [(.agg #[(.int .i64 x70), (Sl.v x71), (Sl.v x72), (.string x73)])] (cap := []) rfl rfl Tryd.call25 (walk25 h)) ?_
                rintro _ H74 ⟨r76, r77, r78, r79, rfl, h⟩
                obtain ⟨z82, h⟩ := h
                refine HList.opsn (HOp.storeN' (l := [(.int .i64 r76), (Sl.v r77), (Sl.v r78), (.string r79)]) Tryd.sizeOf41 rfl rfl rfl z82) ?_
                rintro _ H80 e81
                replace h := h H80 e81
                refine HList.nil ?_
                refine nt ?_
                exact ⟨⟨rfl, rfl, rfl, rfl, rfl, rfl, rfl, trivial⟩, h⟩
          · rintro ρ H_4 ⟨hI, h⟩
            obtain ⟨ρ0, rfl⟩ : ∃ ρ0, ρ = (Env.set (Env.set (Env.set (Env.set (Env.set (Env.set (Env.set ρ0 9 (.int .i64 y10)) 8 (.int .i64 y9)) 7 (.pointer (some ⟨H1.size, 0, none⟩))) 6 (Sl.v y8)) 5 (Sl.v y7)) 1 (Sl.v p1)) 0 (Sl.v p0)) := ⟨ρ, hI.eq⟩
            clear hI; unfold F8_4 at h
            refine HW.seq ?_
            refine HW.region ?_
            obtain ⟨x84, x85, x86, x87, c83, h⟩ := h
            refine HList.vals (v := (.agg #[(.int .i64 x84), (Sl.v x85), (Sl.v x86), (.string x87)])) rfl (HVal.loadN [(.int .i64 x84), (Sl.v x85), (Sl.v x86), (.string x87)] Tryd.isAgg41 Tryd.sizeOf41 rfl c83) ?_
            refine HList.ops' rfl (HOp.call' 26 [(.agg #[(.int .i64 x84), (Sl.v x85), (Sl.v x86), (.string x87)])] (cap := []) rfl rfl Tryd.call26 (walk26 h)) ?_
            rintro _ H88 ⟨r90, r91, r92, r93, r94, rfl, h⟩
            refine HList.ops' rfl (HOp.alloc Tryd.zeroValue51) ?_
            rintro _ H95 ⟨rfl, e96⟩
            replace h := h H95 e96
            obtain ⟨z99, h⟩ := h
            refine HList.opsn (HOp.storeN' (l := [(Sl.v r90), (.string r91), (.int .i64 r92), (.bool r93), (.int .i64 r94)]) Tryd.sizeOf51 rfl rfl rfl z99) ?_
            rintro _ H97 e98
            replace h := h H97 e98
            refine HList.nil ?_
            refine nt ?_
            refine HW.seq ?_
            refine HW.region ?_
            obtain ⟨x101, x102, x103, x104, c100, h⟩ := h
            refine HList.vals (v := (.agg #[(.int .i64 x101), (Sl.v x102), (Sl.v x103), (.string x104)])) rfl (HVal.loadN [(.int .i64 x101), (Sl.v x102), (Sl.v x103), (.string x104)] Tryd.isAgg41 Tryd.sizeOf41 rfl c100) ?_
            refine HList.ops' rfl (HOp.call' 27 [(.agg #[(.int .i64 x101), (Sl.v x102), (Sl.v x103), (.string x104)])] (cap := []) rfl rfl Tryd.call27 (walk27 h)) ?_
            rintro _ H105 ⟨r107, r108, r109, r110, r111, rfl, h⟩
            refine HList.ops' rfl (HOp.alloc Tryd.zeroValue51) ?_
            rintro _ H112 ⟨rfl, e113⟩
            replace h := h H112 e113
            obtain ⟨z116, h⟩ := h
            refine HList.opsn (HOp.storeN' (l := [(Sl.v r107), (.string r108), (.int .i64 r109), (.bool r110), (.int .i64 r111)]) Tryd.sizeOf51 rfl rfl rfl z116) ?_
            rintro _ H114 e115
            replace h := h H114 e115
            refine HList.nil ?_
            refine nt ?_
            refine HW.seq ?_
            refine HW.seq ?_
            refine HW.region ?_
            obtain ⟨x118, x119, x120, x121, x122, c117, h⟩ := h
            refine HList.vals (v := (.agg #[(Sl.v x118), (.string x119), (.int .i64 x120), (.bool x121), (.int .i64 x122)])) rfl (HVal.loadN [(Sl.v x118), (.string x119), (.int .i64 x120), (.bool x121), (.int .i64 x122)] Tryd.isAgg51 Tryd.sizeOf51 rfl c117) ?_
            obtain ⟨x124, x125, x126, x127, x128, c123, h⟩ := h
            refine HList.vals (v := (.agg #[(Sl.v x124), (.string x125), (.int .i64 x126), (.bool x127), (.int .i64 x128)])) rfl (HVal.loadN [(Sl.v x124), (.string x125), (.int .i64 x126), (.bool x127), (.int .i64 x128)] Tryd.isAgg51 Tryd.sizeOf51 rfl c123) ?_
            refine HList.ops' rfl (HOp.call' 28 [(.agg #[(Sl.v x118), (.string x119), (.int .i64 x120), (.bool x121), (.int .i64 x122)]), (.agg #[(Sl.v x124), (.string x125), (.int .i64 x126), (.bool x127), (.int .i64 x128)])] (cap := []) rfl rfl Tryd.call28 (walk28 h)) ?_
            rintro _ H129 ⟨r131, rfl, h⟩
            refine HList.vals (v := (.bool (!r131))) rfl (HVal.not rfl) ?_
            refine HList.nil ?_
            refine nt ?_
            obtain ⟨hT, hF⟩ := h
            refine HW.cond (!r131) rfl (fun hb132 => ?_) (fun hb132 => ?_)
            · have h := hT hb132
              clear hT hF
              refine HW.seq ?_
              refine HW.region ?_
              refine HList.vals (v := (.bool false)) rfl (HVal.assign' rfl) ?_
              refine HList.nil ?_
              refine nt ?_
              refine HW.ret ?_
              refine tr ?_
              refine br ?_
              refine tr ?_
              refine tr ?_
              refine br ?_
              refine tr ?_
              exact ⟨_, resOf1 rfl Res1.t, ⟨false, rfl, h⟩⟩
            · have h := hF hb132
              clear hT hF
              refine HW.skip ?_
              refine nt ?_
              refine HW.seq ?_
              refine HW.region ?_
              refine HList.vals (v := (.int .i64 y9)) rfl (HVal.move' rfl) ?_
              refine HList.vals (v := (.bool (decide (y9 ≤ 33554432)))) rfl (HVal.leq rfl rfl) ?_
              refine HList.nil ?_
              refine nt ?_
              obtain ⟨hT, hF⟩ := h
              refine HW.cond (decide (y9 ≤ 33554432)) rfl (fun hb133 => ?_) (fun hb133 => ?_)
              · have h := hT hb133
                clear hT hF
                refine HW.seq ?_
                refine HW.region ?_
                refine HList.vals (v := (Sl.v y7)) rfl (HVal.move' rfl) ?_
                obtain ⟨x135, x136, x137, x138, x139, c134, h⟩ := h
                refine HList.vals (v := (.agg #[(Sl.v x135), (.string x136), (.int .i64 x137), (.bool x138), (.int .i64 x139)])) rfl (HVal.loadN [(Sl.v x135), (.string x136), (.int .i64 x137), (.bool x138), (.int .i64 x139)] Tryd.isAgg51 Tryd.sizeOf51 rfl c134) ?_
                refine HList.ops' rfl (HOp.buildSlice' (zs := [(Sl.v Sl.nil), (.string (ByteArray.mk #[])), (.int .i64 0), (.bool false), (.int .i64 0)]) (cs := [(Sl.v x135), (.string x136), (.int .i64 x137), (.bool x138), (.int .i64 x139)]) Tryd.runUnderlying47 Tryd.sizeOf51 Tryd.zeroValue51 (by decide) (by kernel_rfl) rfl (by decide)) ?_
                rintro _ H140 ⟨rfl, e141⟩
                replace h := h H140 e141
                refine HList.ops' rfl (HOp.append (k := 5) (b := 64) Tryd.runUnderlying47 Tryd.runUnderlying47 Tryd.typeInfo51 rfl rfl Tryd.zeroValue51 rfl rfl h) ?_
                rintro _ H142 ⟨r144, rfl, h⟩
                refine HList.vals (v := (Sl.v r144)) rfl (HVal.assign' rfl) ?_
                refine HList.nil ?_
                refine nt ?_
                refine HW.seq ?_
                refine HW.region ?_
                refine HList.vals (v := (Sl.v y8)) rfl (HVal.move' rfl) ?_
                obtain ⟨x146, x147, x148, x149, x150, c145, h⟩ := h
                refine HList.vals (v := (.agg #[(Sl.v x146), (.string x147), (.int .i64 x148), (.bool x149), (.int .i64 x150)])) rfl (HVal.loadN [(Sl.v x146), (.string x147), (.int .i64 x148), (.bool x149), (.int .i64 x150)] Tryd.isAgg51 Tryd.sizeOf51 rfl c145) ?_
                refine HList.ops' rfl (HOp.buildSlice' (zs := [(Sl.v Sl.nil), (.string (ByteArray.mk #[])), (.int .i64 0), (.bool false), (.int .i64 0)]) (cs := [(Sl.v x146), (.string x147), (.int .i64 x148), (.bool x149), (.int .i64 x150)]) Tryd.runUnderlying47 Tryd.sizeOf51 Tryd.zeroValue51 (by decide) (by kernel_rfl) rfl (by decide)) ?_
                rintro _ H151 ⟨rfl, e152⟩
                replace h := h H151 e152
                refine HList.ops' rfl (HOp.append (k := 5) (b := 64) Tryd.runUnderlying47 Tryd.runUnderlying47 Tryd.typeInfo51 rfl rfl Tryd.zeroValue51 rfl rfl h) ?_
                rintro _ H153 ⟨r155, rfl, h⟩
                refine HList.vals (v := (Sl.v r155)) rfl (HVal.assign' rfl) ?_
                refine HList.nil ?_
                refine nt ?_
                refine HW.region ?_
                refine HList.vals (v := (.int .i64 y9)) rfl (HVal.move' rfl) ?_
                obtain ⟨x157, x158, x159, x160, x161, c156, h⟩ := h
                refine HList.vals (v := (.agg #[(Sl.v x157), (.string x158), (.int .i64 x159), (.bool x160), (.int .i64 x161)])) rfl (HVal.loadN [(Sl.v x157), (.string x158), (.int .i64 x159), (.bool x160), (.int .i64 x161)] Tryd.isAgg51 Tryd.sizeOf51 rfl c156) ?_
                refine HList.ops' rfl (HOp.call' 29 [(.agg #[(Sl.v x157), (.string x158), (.int .i64 x159), (.bool x160), (.int .i64 x161)])] (cap := []) rfl rfl Tryd.call29 (walk29 h)) ?_
                rintro _ H162 ⟨r164, rfl, h⟩
                refine HList.vals (v := (.int .i64 (IntKind.i64.wrap (y9 + r164)))) rfl (HVal.add rfl rfl) ?_
                refine HList.vals (v := (.int .i64 (IntKind.i64.wrap (y9 + r164)))) rfl (HVal.assign' rfl) ?_
                refine HList.nil ?_
                refine nb ?_
                refine nt ?_
                exact ⟨r144, r155, (IntKind.i64.wrap (y9 + r164)), ⟨rfl, rfl, rfl, rfl, rfl, rfl, rfl, trivial⟩, h⟩
              · have h := hF hb133
                clear hT hF
                refine HW.skip ?_
                refine nb ?_
                refine nt ?_
                exact ⟨y7, y8, y9, ⟨rfl, rfl, rfl, rfl, rfl, rfl, rfl, trivial⟩, h⟩
        · rintro ρ H_3 ⟨y165, y166, y167, hI, h⟩
          obtain ⟨ρ0, rfl⟩ : ∃ ρ0, ρ = (Env.set (Env.set (Env.set (Env.set (Env.set (Env.set (Env.set ρ0 8 (.int .i64 y167)) 6 (Sl.v y166)) 5 (Sl.v y165)) 9 (.int .i64 y10)) 7 (.pointer (some ⟨H1.size, 0, none⟩))) 1 (Sl.v p1)) 0 (Sl.v p0)) := ⟨ρ, hI.eq⟩
          clear hI; unfold F8_3 at h
          refine HW.region ?_
          refine HList.vals (v := (.int .i64 y10)) rfl (HVal.move' rfl) ?_
          refine HList.vals (v := (.int .i64 (IntKind.i64.wrap (y10 + 1)))) rfl (HVal.add rfl rfl) ?_
          refine HList.vals (v := (.int .i64 (IntKind.i64.wrap (y10 + 1)))) rfl (HVal.assign' rfl) ?_
          refine HList.nil ?_
          refine nt ?_
          exact (hX2 _ _ _ _ _).1 h _ ⟨rfl, rfl, rfl, rfl, rfl, rfl, rfl, trivial⟩
      · have h := hF hb14
        clear hT hF
        refine HW.exit ?_
        refine te ?_
        refine te ?_
        refine be ?_
        refine nt ?_
        exact ⟨y7, y8, ⟨rfl, rfl, trivial⟩, h⟩
    · rintro ρ H_1 ⟨y168, y169, hI, h⟩
      obtain ⟨ρ0, rfl⟩ : ∃ ρ0, ρ = (Env.set (Env.set ρ0 6 (Sl.v y169)) 5 (Sl.v y168)) := ⟨ρ, hI.eq⟩
      clear hI; unfold F8_1 at h
      refine HW.seq ?_
      refine HW.seq ?_
      refine HW.region ?_
      refine HList.vals (v := (.int .i64 0)) rfl (HVal.assign' rfl) ?_
      refine HList.nil ?_
      refine nt ?_
      refine HW.block ?_
      refine HW.loop' (fun L6 hL6 => ?_)
      obtain ⟨X6, hX6⟩ : ∃ X6 : Int → Hp → Prop, ∀ (y170 : Int) (H_6 : Hp), X6 y170 H_6 ↔ ∀ ρ, Env.Is ρ [(5, (Sl.v y168)), (6, (Sl.v y169)), (12, (.int .i64 y170))] → L6 ρ H_6 := ⟨_, fun _ _ => Iff.rfl⟩
      refine (hX6 _ _).1 (h X6 ?_) _ ?_
      rotate_left
      · exact ⟨rfl, rfl, rfl, trivial⟩
      clear h
      intro y170 H_6 h
      refine (hX6 _ _).2 fun ρ hI => ?_
      obtain ⟨ρ0, rfl⟩ : ∃ ρ0, ρ = (Env.set (Env.set (Env.set ρ0 12 (.int .i64 y170)) 6 (Sl.v y169)) 5 (Sl.v y168)) := ⟨ρ, hI.eq⟩
      clear hI; unfold F8_L6b at h; refine hL6 _ _ ?_
      refine HW.seq ?_
      refine HW.seq ?_
      refine HW.region ?_
      refine HList.vals (v := (.int .i64 y170)) rfl (HVal.move' rfl) ?_
      refine HList.vals (v := (Sl.v y168)) rfl (HVal.move' rfl) ?_
      refine HList.vals (v := (.int .i64 ((y168).n : Int))) rfl (HVal.len Tryd.runUnderlying47 rfl) ?_
      refine HList.vals (v := (.bool (decide (y170 < ((y168).n : Int))))) rfl (HVal.lss rfl rfl) ?_
      refine HList.nil ?_
      refine nt ?_
      obtain ⟨hT, hF⟩ := h
      refine HW.cond (decide (y170 < ((y168).n : Int))) rfl (fun hb173 => ?_) (fun hb173 => ?_)
      · have h := hT hb173
        clear hT hF
        refine HW.skip ?_
        refine nt ?_
        refine HW.seq ?_
        refine HW.block ?_
        refine HW.seq ?_
        refine HW.draw mixed [(0, some []), (1, some []), (2, some []), (3, some [8]), (4, some []), (5, some []), (6, some []), (7, some [8]), (8, none), (9, some [])] rfl (by kernel_rfl) (by kernel_rfl) ?_
        refine HPlan.takev (v := (Sl.v y168)) rfl rfl (fun _ => HVal.move' rfl) ?_
        refine HPlan.takev (v := (.int .i64 y170)) rfl rfl (fun _ => HVal.move' rfl) ?_
        obtain ⟨a174, e175, b176, b177, h⟩ := h
        refine HPlan.takev (v := (.pointer (some (Addr.add a174 (y170.toNat * 5))))) rfl rfl (fun _ => HVal.indexAddr Tryd.runUnderlying47 Tryd.sizeOf51 (Sl.v_some rfl e175) rfl b176 b177) ?_
        obtain ⟨x179, x180, x181, x182, x183, c178, h⟩ := h
        refine HPlan.takel (v := (.agg #[(Sl.v x179), (.string x180), (.int .i64 x181), (.bool x182), (.int .i64 x183)])) (fun X => cells X (Addr.add a174 (y170.toNat * 5)) [(Sl.v x179), (.string x180), (.int .i64 x181), (.bool x182), (.int .i64 x183)] 0) rfl rfl (fun _ hX => HVal.loadN [(Sl.v x179), (.string x180), (.int .i64 x181), (.bool x182), (.int .i64 x183)] Tryd.isAgg51 Tryd.sizeOf51 rfl hX) c178 ?_
        refine HPlan.takev (v := (Sl.v y169)) rfl rfl (fun _ => HVal.move' rfl) ?_
        refine HPlan.takev (v := (.int .i64 y170)) rfl rfl (fun _ => HVal.move' rfl) ?_
        obtain ⟨a184, e185, b186, b187, h⟩ := h
        refine HPlan.takev (v := (.pointer (some (Addr.add a184 (y170.toNat * 5))))) rfl rfl (fun _ => HVal.indexAddr Tryd.runUnderlying47 Tryd.sizeOf51 (Sl.v_some rfl e185) rfl b186 b187) ?_
        obtain ⟨x189, x190, x191, x192, x193, c188, h⟩ := h
        refine HPlan.takel (v := (.agg #[(Sl.v x189), (.string x190), (.int .i64 x191), (.bool x192), (.int .i64 x193)])) (fun X => cells X (Addr.add a184 (y170.toNat * 5)) [(Sl.v x189), (.string x190), (.int .i64 x191), (.bool x192), (.int .i64 x193)] 0) rfl rfl (fun _ hX => HVal.loadN [(Sl.v x189), (.string x190), (.int .i64 x191), (.bool x192), (.int .i64 x193)] Tryd.isAgg51 Tryd.sizeOf51 rfl hX) c188 ?_
        refine HPlan.ops' rfl rfl (HOp.call' 28 [(.agg #[(Sl.v x179), (.string x180), (.int .i64 x181), (.bool x182), (.int .i64 x183)]), (.agg #[(Sl.v x189), (.string x190), (.int .i64 x191), (.bool x192), (.int .i64 x193)])] (cap := []) rfl rfl Tryd.call28 (walk28 h)) ?_
        rintro _ H194 ⟨r196, rfl, h⟩
        refine ⟨SC_of ⟨fun e => absurd e (by decide), fun e => absurd e (by decide), trivial⟩, ?_⟩
        refine HPlan.takev (v := (.bool (!r196))) rfl rfl (fun _ => HVal.not rfl) ?_
        refine HPlan.done ?_
        refine nt ?_
        obtain ⟨hT, hF⟩ := h
        refine HW.cond (!r196) rfl (fun hb197 => ?_) (fun hb197 => ?_)
        · have h := hT hb197
          clear hT hF
          refine HW.seq ?_
          refine HW.region ?_
          refine HList.vals (v := (.bool false)) rfl (HVal.assign' rfl) ?_
          refine HList.nil ?_
          refine nt ?_
          refine HW.ret ?_
          refine br ?_
          refine tr ?_
          refine tr ?_
          refine br ?_
          refine tr ?_
          exact ⟨_, resOf1 rfl Res1.t, ⟨false, rfl, h⟩⟩
        · have h := hF hb197
          clear hT hF
          refine HW.skip ?_
          refine nb ?_
          refine nt ?_
          refine HW.region ?_
          refine HList.vals (v := (.int .i64 y170)) rfl (HVal.move' rfl) ?_
          refine HList.vals (v := (.int .i64 (IntKind.i64.wrap (y170 + 1)))) rfl (HVal.add rfl rfl) ?_
          refine HList.vals (v := (.int .i64 (IntKind.i64.wrap (y170 + 1)))) rfl (HVal.assign' rfl) ?_
          refine HList.nil ?_
          refine nt ?_
          exact (hX6 _ _).1 h _ ⟨rfl, rfl, rfl, trivial⟩
      · have h := hF hb173
        clear hT hF
        refine HW.exit ?_
        refine te ?_
        refine te ?_
        refine be ?_
        refine nt ?_
        refine HW.seq ?_
        refine HW.region ?_
        refine HList.vals (v := (.bool true)) rfl (HVal.assign' rfl) ?_
        refine HList.nil ?_
        refine nt ?_
        refine HW.ret ?_
        exact ⟨_, resOf1 rfl Res1.t, ⟨true, rfl, h⟩⟩

end Go.Hw
