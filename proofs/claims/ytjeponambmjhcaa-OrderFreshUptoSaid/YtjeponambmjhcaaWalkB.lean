/- The walks of this seat, printed by a program of this session (wip/tools/gen.py): of each function what it does to the heap, and that it does so. -/
import Derived.Test.YtjeponambmjhcaaHwG
import Derived.Test.YtjeponambmjhcaaProg
import Derived.Test.YtjeponambmjhcaaWalkA
set_option linter.unusedVariables false
set_option linter.unusedSimpArgs false
namespace Go.Hw
open Go Go.Proofs
def F49_1 (Q : ByteArray → Int → Sl → Hp → Prop) (y30 : (Option Addr)) (y31 : Addr) (y32 : Addr) (y68 : Sl) (H_1 : Hp) : Prop :=
∃ a69 : Addr, y30 = some a69 ∧ (
 (cell H_1 (Addr.add a69 2)).isSome = true ∧ frz H_1 (Addr.add a69 2) = false ∧ ∀ H71 : Hp, H71 = setc H_1 (Addr.add a69 2) (Sl.v y68) → (
 ∃ (x76 : ByteArray) (x77 : Int) (x78 : Sl), cells H71 y32 [(.string x76), (.int .i64 x77), (Sl.v x78)] 0 ∧ (
 mayw H71 y31 3 0 ∧ ∀ H79 : Hp, H79 = sets H71 y31 [(.string x76), (.int .i64 x77), (Sl.v x78)] 0 → (
 ∃ (x82 : ByteArray) (x83 : Int) (x84 : Sl), cells H79 y31 [(.string x82), (.int .i64 x83), (Sl.v x84)] 0 ∧ (
 Q x82 x83 x84 H79)))))
def F49_3 (Q : ByteArray → Int → Sl → Hp → Prop) (X2 : Sl → Int → Hp → Prop) (y44 : (Option Addr)) (y45 : Int) (y46 : Addr) (y47 : Addr) (y48 : Int) (y67 : Sl) (H_3 : Hp) : Prop :=
X2 y67 (IntKind.i64.wrap (y48 + 1)) H_3
def F49_L2b (Q : ByteArray → Int → Sl → Hp → Prop) (X2 : Sl → Int → Hp → Prop) (y35 : (Option Addr)) (y36 : Int) (y37 : Addr) (y38 : Addr) (y33 : Sl) (y34 : Int) (H_2 : Hp) : Prop :=
∃ a39 : Addr, y35 = some a39 ∧ (
 ∃ x42 : Sl, cell H_2 (Addr.add a39 2) = some (Sl.v x42) ∧ (
 ((decide (y34 < ((x42).n : Int))) = true → (((decide (y34 ≠ y36)) = true → (∃ a50 : Addr, y35 = some a50 ∧ (
 ∃ x53 : Sl, cell H_2 (Addr.add a50 2) = some (Sl.v x53) ∧ (
 ∃ a54 : Addr, (x53).b = some a54 ∧ (0 : Int) ≤ y34 ∧ y34 < ((x53).n : Int) ∧ (
 ∃ (x59 : ByteArray) (x60 : Int) (x61 : Sl), cells H_2 (Addr.add a54 (y34.toNat * 3)) [(.string x59), (.int .i64 x60), (Sl.v x61)] 0 ∧ (
 ∀ H62 : Hp, H62 = Array.push H_2 (.cells #[(.string x59), (.int .i64 x60), (Sl.v x61)] 32) → (
 AppendF H62 32 3 48 #[(.string (ByteArray.mk #[])), (.int .i64 0), (Sl.v Sl.nil)] y33 ((Sl.mk (some ⟨H_2.size, 0, none⟩) 1 1)).b ((Sl.mk (some ⟨H_2.size, 0, none⟩) 1 1)).n (fun (r66 : Sl) (H64 : Hp) => 
 F49_3 Q X2 y35 y36 y37 y38 y34 r66 H64)))))))) ∧
 ((decide (y34 ≠ y36)) = false → (F49_3 Q X2 y35 y36 y37 y38 y34 y33 H_2)))) ∧
 ((decide (y34 < ((x42).n : Int))) = false → (F49_1 Q y35 y37 y38 y33 H_2))))
def F49_L2 (Q : ByteArray → Int → Sl → Hp → Prop) (y35 : (Option Addr)) (y36 : Int) (y37 : Addr) (y38 : Addr) (y33 : Sl) (y34 : Int) (H_2 : Hp) : Prop :=
  ∀ X2 : Sl → Int → Hp → Prop, (∀ (y33 : Sl) (y34 : Int) (H_2 : Hp), F49_L2b Q X2 y35 y36 y37 y38 y33 y34 H_2 → X2 y33 y34 H_2) → X2 y33 y34 H_2
def F49 (p0 : (Option Addr)) (p1 : Int) (H : Hp) (Q : ByteArray → Int → Sl → Hp → Prop) : Prop :=
∀ H1 : Hp, H1 = Array.push H (.cells #[(.string (ByteArray.mk #[])), (.int .i64 0), (Sl.v Sl.nil)] 32) → (
 ∃ a3 : Addr, p0 = some a3 ∧ (
 ∃ x6 : Sl, cell H1 (Addr.add a3 2) = some (Sl.v x6) ∧ (
 ∃ a7 : Addr, (x6).b = some a7 ∧ (0 : Int) ≤ p1 ∧ p1 < ((x6).n : Int) ∧ (
 ∃ (x12 : ByteArray) (x13 : Int) (x14 : Sl), cells H1 (Addr.add a7 (p1.toNat * 3)) [(.string x12), (.int .i64 x13), (Sl.v x14)] 0 ∧ (
 ∀ H15 : Hp, H15 = Array.push H1 (.cells #[(.string (ByteArray.mk #[])), (.int .i64 0), (Sl.v Sl.nil)] 32) → (
 mayw H15 ⟨H1.size, 0, none⟩ 3 0 ∧ ∀ H17 : Hp, H17 = sets H15 ⟨H1.size, 0, none⟩ [(.string x12), (.int .i64 x13), (Sl.v x14)] 0 → (
 ∃ a20 : Addr, p0 = some a20 ∧ (
 ∃ x23 : Sl, cell H17 (Addr.add a20 2) = some (Sl.v x23) ∧ (
 (0 : Int) ≤ 0 ∧ (0 : Int) ≤ ((x23).n : Int) ∧ (48 : Nat) * ((x23).n : Int) ≤ 140737488355328 ∧ ((x23).n : Int) ≤ 9223372036854775807 ∧ ∀ H24 : Hp, H24 = Array.push H17 (.cells (made #[(.string (ByteArray.mk #[])), (.int .i64 0), (Sl.v Sl.nil)] ((x23).n : Int).toNat) 32) → (
 F49_L2 Q p0 p1 ⟨H.size, 0, none⟩ ⟨H1.size, 0, none⟩ (Sl.mk (some ⟨H17.size, 0, none⟩) (0 : Int).toNat ((x23).n : Int).toNat) 0 H24))))))))))
set_option maxRecDepth 100000 in
set_option maxHeartbeats 4000000 in
theorem walk49 {w0 : World} {p0 : (Option Addr)} {p1 : Int} {H : Hp} {Q : ByteArray → Int → Sl → Hp → Prop} (h : F49 p0 p1 H Q) :
    Good Try.prog w0 49 #[(.pointer p0), (.int .i64 p1)] H (fun v H => ∃ (r0 : ByteArray) (r1 : Int) (r2 : Sl) , v = (.agg #[(.string r0), (.int .i64 r1), (Sl.v r2)]) ∧ Q r0 r1 r2 H) := by
  unfold F49 at h
  refine Good.enter' (fn := Try.f49) Try.func49 rfl rfl rfl ?_
  refine HW.seq ?_
  refine HW.region ?_
  refine HList.ops' rfl (HOp.alloc Try.zeroValue32) ?_
  rintro _ H1 ⟨rfl, e2⟩
  replace h := h H1 e2
  refine HList.nil ?_
  refine nt ?_
  refine HW.seq ?_
  refine HW.region ?_
  refine HList.vals (v := (.pointer p0)) rfl (HVal.move' rfl) ?_
  obtain ⟨a3, e4, h⟩ := h
  refine HList.vals (v := (.pointer (some a3))) rfl (HVal.nilCheck (congrArg Value.pointer e4)) ?_
  refine HList.vals (v := (.pointer (some (Addr.add a3 2)))) rfl (HVal.fieldAddr' Try.runUnderlying80 rfl rfl Try.sizeOf50 rfl) ?_
  obtain ⟨x6, c5, h⟩ := h
  refine HList.vals (v := (Sl.v x6)) rfl (HVal.load1 Try.isAgg50 rfl c5) ?_
  refine HList.vals (v := (.int .i64 p1)) rfl (HVal.move' rfl) ?_
  obtain ⟨a7, e8, b9, b10, h⟩ := h
  refine HList.vals (v := (.pointer (some (Addr.add a7 (p1.toNat * 3))))) rfl (HVal.indexAddr Try.runUnderlying50 Try.sizeOf32 (Sl.v_some rfl e8) rfl b9 b10) ?_
  obtain ⟨x12, x13, x14, c11, h⟩ := h
  refine HList.vals (v := (.agg #[(.string x12), (.int .i64 x13), (Sl.v x14)])) rfl (HVal.loadN [(.string x12), (.int .i64 x13), (Sl.v x14)] Try.isAgg32 Try.sizeOf32 rfl c11) ?_
  refine HList.ops' rfl (HOp.alloc Try.zeroValue32) ?_
  rintro _ H15 ⟨rfl, e16⟩
  replace h := h H15 e16
  obtain ⟨z19, h⟩ := h
  refine HList.opsn (HOp.storeN' (l := [(.string x12), (.int .i64 x13), (Sl.v x14)]) Try.sizeOf32 rfl rfl rfl z19) ?_
  rintro _ H17 e18
  replace h := h H17 e18
  refine HList.nil ?_
  refine nt ?_
  refine HW.seq ?_
  refine HW.region ?_
  refine HList.vals (v := (.pointer p0)) rfl (HVal.move' rfl) ?_
  obtain ⟨a20, e21, h⟩ := h
  refine HList.vals (v := (.pointer (some a20))) rfl (HVal.nilCheck (congrArg Value.pointer e21)) ?_
  refine HList.vals (v := (.pointer (some (Addr.add a20 2)))) rfl (HVal.fieldAddr' Try.runUnderlying80 rfl rfl Try.sizeOf50 rfl) ?_
  obtain ⟨x23, c22, h⟩ := h
  refine HList.vals (v := (Sl.v x23)) rfl (HVal.load1 Try.isAgg50 rfl c22) ?_
  refine HList.vals (v := (.int .i64 ((x23).n : Int))) rfl (HVal.len Try.runUnderlying50 rfl) ?_
  obtain ⟨z26, z27, z28, z29, h⟩ := h
  refine HList.ops' rfl (HOp.makeSlice' (b := 48) Try.runUnderlying50 Try.typeInfo32 rfl Try.zeroValue32 Try.sizeOf32 rfl rfl z26 z27 z28 z29) ?_
  rintro _ H24 ⟨rfl, e25⟩
  replace h := h H24 e25
  refine HList.vals (v := (Sl.v (Sl.mk (some ⟨H17.size, 0, none⟩) (0 : Int).toNat ((x23).n : Int).toNat))) rfl (HVal.assign' rfl) ?_
  refine HList.nil ?_
  refine nt ?_
  refine HW.cut (fun ρ H_1 => ∃ (y68 : Sl), Env.Is ρ [(0, (.pointer p0)), (4, (.pointer (some ⟨H.size, 0, none⟩))), (5, (.pointer (some ⟨H1.size, 0, none⟩))), (6, (Sl.v y68))] ∧ F49_1 Q p0 ⟨H.size, 0, none⟩ ⟨H1.size, 0, none⟩ y68 H_1) ?_ ?_
  · refine HW.seq ?_
    refine HW.region ?_
    refine HList.vals (v := (.int .i64 0)) rfl (HVal.assign' rfl) ?_
    refine HList.nil ?_
    refine nt ?_
    refine HW.block ?_
    refine HW.loop' (fun L2 hL2 => ?_)
    obtain ⟨X2, hX2⟩ : ∃ X2 : Sl → Int → Hp → Prop, ∀ (y33 : Sl) (y34 : Int) (H_2 : Hp), X2 y33 y34 H_2 ↔ ∀ ρ, Env.Is ρ [(0, (.pointer p0)), (1, (.int .i64 p1)), (4, (.pointer (some ⟨H.size, 0, none⟩))), (5, (.pointer (some ⟨H1.size, 0, none⟩))), (6, (Sl.v y33)), (7, (.int .i64 y34))] → L2 ρ H_2 := ⟨_, fun _ _ _ => Iff.rfl⟩
    refine (hX2 _ _ _).1 (h X2 ?_) _ ?_
    rotate_left
    · exact ⟨rfl, rfl, rfl, rfl, rfl, rfl, trivial⟩
    clear h
    intro y33 y34 H_2 h
    refine (hX2 _ _ _).2 fun ρ hI => ?_
    obtain ⟨ρ0, rfl⟩ : ∃ ρ0, ρ = (Env.set (Env.set (Env.set (Env.set (Env.set (Env.set ρ0 7 (.int .i64 y34)) 6 (Sl.v y33)) 5 (.pointer (some ⟨H1.size, 0, none⟩))) 4 (.pointer (some ⟨H.size, 0, none⟩))) 1 (.int .i64 p1)) 0 (.pointer p0)) := ⟨ρ, hI.eq⟩
    clear hI; unfold F49_L2b at h; refine hL2 _ _ ?_
    refine HW.seq ?_
    refine HW.seq ?_
    refine HW.region ?_
    refine HList.vals (v := (.int .i64 y34)) rfl (HVal.move' rfl) ?_
    refine HList.vals (v := (.pointer p0)) rfl (HVal.move' rfl) ?_
    obtain ⟨a39, e40, h⟩ := h
    refine HList.vals (v := (.pointer (some a39))) rfl (HVal.nilCheck (congrArg Value.pointer e40)) ?_
    refine HList.vals (v := (.pointer (some (Addr.add a39 2)))) rfl (HVal.fieldAddr' Try.runUnderlying80 rfl rfl Try.sizeOf50 rfl) ?_
    obtain ⟨x42, c41, h⟩ := h
    refine HList.vals (v := (Sl.v x42)) rfl (HVal.load1 Try.isAgg50 rfl c41) ?_
    refine HList.vals (v := (.int .i64 ((x42).n : Int))) rfl (HVal.len Try.runUnderlying50 rfl) ?_
    refine HList.vals (v := (.bool (decide (y34 < ((x42).n : Int))))) rfl (HVal.lss rfl rfl) ?_
    refine HList.nil ?_
    refine nt ?_
    obtain ⟨hT, hF⟩ := h
    refine HW.cond (decide (y34 < ((x42).n : Int))) rfl (fun hb43 => ?_) (fun hb43 => ?_)
    · have h := hT hb43
      clear hT hF
      refine HW.skip ?_
      refine nt ?_
      refine HW.cut (fun ρ H_3 => ∃ (y67 : Sl), Env.Is ρ [(0, (.pointer p0)), (1, (.int .i64 p1)), (4, (.pointer (some ⟨H.size, 0, none⟩))), (5, (.pointer (some ⟨H1.size, 0, none⟩))), (7, (.int .i64 y34)), (6, (Sl.v y67))] ∧ F49_3 Q X2 p0 p1 ⟨H.size, 0, none⟩ ⟨H1.size, 0, none⟩ y34 y67 H_3) ?_ ?_
      · refine HW.block ?_
        refine HW.seq ?_
        refine HW.region ?_
        refine HList.vals (v := (.int .i64 y34)) rfl (HVal.move' rfl) ?_
        refine HList.vals (v := (.int .i64 p1)) rfl (HVal.move' rfl) ?_
        refine HList.vals (v := (.bool (decide (y34 ≠ p1)))) rfl (HVal.neqI rfl rfl) ?_
        refine HList.nil ?_
        refine nt ?_
        obtain ⟨hT, hF⟩ := h
        refine HW.cond (decide (y34 ≠ p1)) rfl (fun hb49 => ?_) (fun hb49 => ?_)
        · have h := hT hb49
          clear hT hF
          refine HW.region ?_
          refine HList.vals (v := (Sl.v y33)) rfl (HVal.move' rfl) ?_
          refine HList.vals (v := (.pointer p0)) rfl (HVal.move' rfl) ?_
          obtain ⟨a50, e51, h⟩ := h
          refine HList.vals (v := (.pointer (some a50))) rfl (HVal.nilCheck (congrArg Value.pointer e51)) ?_
          refine HList.vals (v := (.pointer (some (Addr.add a50 2)))) rfl (HVal.fieldAddr' Try.runUnderlying80 rfl rfl Try.sizeOf50 rfl) ?_
          obtain ⟨x53, c52, h⟩ := h
          refine HList.vals (v := (Sl.v x53)) rfl (HVal.load1 Try.isAgg50 rfl c52) ?_
          refine HList.vals (v := (.int .i64 y34)) rfl (HVal.move' rfl) ?_
          obtain ⟨a54, e55, b56, b57, h⟩ := h
          refine HList.vals (v := (.pointer (some (Addr.add a54 (y34.toNat * 3))))) rfl (HVal.indexAddr Try.runUnderlying50 Try.sizeOf32 (Sl.v_some rfl e55) rfl b56 b57) ?_
          obtain ⟨x59, x60, x61, c58, h⟩ := h
          refine HList.vals (v := (.agg #[(.string x59), (.int .i64 x60), (Sl.v x61)])) rfl (HVal.loadN [(.string x59), (.int .i64 x60), (Sl.v x61)] Try.isAgg32 Try.sizeOf32 rfl c58) ?_
          refine HList.ops' rfl (HOp.buildSlice' (zs := [(.string (ByteArray.mk #[])), (.int .i64 0), (Sl.v Sl.nil)]) (cs := [(.string x59), (.int .i64 x60), (Sl.v x61)]) Try.runUnderlying50 Try.sizeOf32 Try.zeroValue32 (by decide) (by kernel_rfl) rfl (by decide)) ?_
          rintro _ H62 ⟨rfl, e63⟩
          replace h := h H62 e63
          refine HList.ops' rfl (HOp.append (k := 3) (b := 48) Try.runUnderlying50 Try.runUnderlying50 Try.typeInfo32 rfl rfl Try.zeroValue32 rfl rfl h) ?_
          rintro _ H64 ⟨r66, rfl, h⟩
          refine HList.vals (v := (Sl.v r66)) rfl (HVal.assign' rfl) ?_
          refine HList.nil ?_
          refine nb ?_
          refine nt ?_
          exact ⟨r66, ⟨rfl, rfl, rfl, rfl, rfl, rfl, trivial⟩, h⟩
        · have h := hF hb49
          clear hT hF
          refine HW.skip ?_
          refine nb ?_
          refine nt ?_
          exact ⟨y33, ⟨rfl, rfl, rfl, rfl, rfl, rfl, trivial⟩, h⟩
      · rintro ρ H_3 ⟨y67, hI, h⟩
        obtain ⟨ρ0, rfl⟩ : ∃ ρ0, ρ = (Env.set (Env.set (Env.set (Env.set (Env.set (Env.set ρ0 6 (Sl.v y67)) 7 (.int .i64 y34)) 5 (.pointer (some ⟨H1.size, 0, none⟩))) 4 (.pointer (some ⟨H.size, 0, none⟩))) 1 (.int .i64 p1)) 0 (.pointer p0)) := ⟨ρ, hI.eq⟩
        clear hI; unfold F49_3 at h
        refine HW.region ?_
        refine HList.vals (v := (.int .i64 y34)) rfl (HVal.move' rfl) ?_
        refine HList.vals (v := (.int .i64 (IntKind.i64.wrap (y34 + 1)))) rfl (HVal.add rfl rfl) ?_
        refine HList.vals (v := (.int .i64 (IntKind.i64.wrap (y34 + 1)))) rfl (HVal.assign' rfl) ?_
        refine HList.nil ?_
        refine nt ?_
        exact (hX2 _ _ _).1 h _ ⟨rfl, rfl, rfl, rfl, rfl, rfl, trivial⟩
    · have h := hF hb43
      clear hT hF
      refine HW.exit ?_
      refine te ?_
      refine te ?_
      refine be ?_
      refine nt ?_
      exact ⟨y33, ⟨rfl, rfl, rfl, rfl, trivial⟩, h⟩
  · rintro ρ H_1 ⟨y68, hI, h⟩
    obtain ⟨ρ0, rfl⟩ : ∃ ρ0, ρ = (Env.set (Env.set (Env.set (Env.set ρ0 6 (Sl.v y68)) 5 (.pointer (some ⟨H1.size, 0, none⟩))) 4 (.pointer (some ⟨H.size, 0, none⟩))) 0 (.pointer p0)) := ⟨ρ, hI.eq⟩
    clear hI; unfold F49_1 at h
    refine HW.seq ?_
    refine HW.region ?_
    refine HList.vals (v := (.pointer p0)) rfl (HVal.move' rfl) ?_
    refine HList.vals (v := (Sl.v y68)) rfl (HVal.move' rfl) ?_
    obtain ⟨a69, e70, h⟩ := h
    refine HList.vals (v := (.pointer (some a69))) rfl (HVal.nilCheck (congrArg Value.pointer e70)) ?_
    refine HList.vals (v := (.pointer (some (Addr.add a69 2)))) rfl (HVal.fieldAddr' Try.runUnderlying80 rfl rfl Try.sizeOf50 rfl) ?_
    obtain ⟨z73, z74, h⟩ := h
    refine HList.opsn (HOp.store1 Try.sizeOf50 rfl rfl rfl z73 z74) ?_
    rintro _ H71 e72
    replace h := h H71 e72
    refine HList.nil ?_
    refine nt ?_
    refine HW.seq ?_
    refine HW.region ?_
    obtain ⟨x76, x77, x78, c75, h⟩ := h
    refine HList.vals (v := (.agg #[(.string x76), (.int .i64 x77), (Sl.v x78)])) rfl (HVal.loadN [(.string x76), (.int .i64 x77), (Sl.v x78)] Try.isAgg32 Try.sizeOf32 rfl c75) ?_
    obtain ⟨z81, h⟩ := h
    refine HList.opsn (HOp.storeN' (l := [(.string x76), (.int .i64 x77), (Sl.v x78)]) Try.sizeOf32 rfl rfl rfl z81) ?_
    rintro _ H79 e80
    replace h := h H79 e80
    refine HList.nil ?_
    refine nt ?_
    refine HW.ret ?_
    obtain ⟨x82, x83, x84, c85, h⟩ := h
    exact ⟨_, resOf1 rfl (Res1.n [(.string x82), (.int .i64 x83), (Sl.v x84)] Try.isAgg32 Try.sizeOf32 rfl c85), ⟨x82, x83, x84, rfl, h⟩⟩

def F43_1 (Q : Hp → Prop) (y1 : (Option Addr)) (H_1 : Hp) : Prop :=
∃ a13 : Addr, y1 = some a13 ∧ (
 ∃ x16 : Int, cell H_1 (Addr.add a13 3) = some (.int .i64 x16) ∧ (
 ∃ a17 : Addr, y1 = some a17 ∧ (
 ∃ x20 : Int, cell H_1 a17 = some (.int .i64 x20) ∧ (
 ∃ a21 : Addr, y1 = some a21 ∧ (
 ∃ x24 : Int, cell H_1 (Addr.add a21 4) = some (.int .i64 x24) ∧ (
 ((decide (x24 < (IntKind.i64.wrap (x16 - x20)))) = true → (∃ a26 : Addr, y1 = some a26 ∧ (
 ∃ x29 : Int, cell H_1 (Addr.add a26 3) = some (.int .i64 x29) ∧ (
 ∃ a30 : Addr, y1 = some a30 ∧ (
 ∃ x33 : Int, cell H_1 a30 = some (.int .i64 x33) ∧ (
 ∃ a34 : Addr, y1 = some a34 ∧ (
 (cell H_1 (Addr.add a34 4)).isSome = true ∧ frz H_1 (Addr.add a34 4) = false ∧ ∀ H36 : Hp, H36 = setc H_1 (Addr.add a34 4) (.int .i64 (IntKind.i64.wrap (x29 - x33))) → (
 Q H36)))))))) ∧
 ((decide (x24 < (IntKind.i64.wrap (x16 - x20)))) = false → (Q H_1))))))))
def F43 (p0 : (Option Addr)) (p1 : Int) (H : Hp) (Q : Hp → Prop) : Prop :=
∃ a2 : Addr, p0 = some a2 ∧ (
 ∃ x5 : Int, cell H (Addr.add a2 3) = some (.int .i64 x5) ∧ (
 ((decide (x5 < p1)) = true → (∃ a7 : Addr, p0 = some a7 ∧ (
 (cell H (Addr.add a7 3)).isSome = true ∧ frz H (Addr.add a7 3) = false ∧ ∀ H9 : Hp, H9 = setc H (Addr.add a7 3) (.int .i64 p1) → (
 F43_1 Q p0 H9)))) ∧
 ((decide (x5 < p1)) = false → (F43_1 Q p0 H))))
set_option maxRecDepth 100000 in
set_option maxHeartbeats 4000000 in
theorem walk43 {w0 : World} {p0 : (Option Addr)} {p1 : Int} {H : Hp} {Q : Hp → Prop} (h : F43 p0 p1 H Q) :
    Good Try.prog w0 43 #[(.pointer p0), (.int .i64 p1)] H (fun v H => v = (.tuple #[]) ∧ Q H) := by
  unfold F43 at h
  refine Good.enter' (fn := Try.f43) Try.func43 rfl rfl rfl ?_
  refine HW.cut (fun ρ H_1 => Env.Is ρ [(0, (.pointer p0))] ∧ F43_1 Q p0 H_1) ?_ ?_
  · refine HW.seq ?_
    refine HW.region ?_
    refine HList.vals (v := (.int .i64 p1)) rfl (HVal.move' rfl) ?_
    refine HList.vals (v := (.pointer p0)) rfl (HVal.move' rfl) ?_
    obtain ⟨a2, e3, h⟩ := h
    refine HList.vals (v := (.pointer (some a2))) rfl (HVal.nilCheck (congrArg Value.pointer e3)) ?_
    refine HList.vals (v := (.pointer (some (Addr.add a2 3)))) rfl (HVal.fieldAddr' Try.runUnderlying80 rfl rfl Try.sizeOf2 rfl) ?_
    obtain ⟨x5, c4, h⟩ := h
    refine HList.vals (v := (.int .i64 x5)) rfl (HVal.load1 Try.isAgg2 rfl c4) ?_
    refine HList.vals (v := (.bool (decide (x5 < p1)))) rfl (HVal.gtr rfl rfl) ?_
    refine HList.nil ?_
    refine nt ?_
    obtain ⟨hT, hF⟩ := h
    refine HW.cond (decide (x5 < p1)) rfl (fun hb6 => ?_) (fun hb6 => ?_)
    · have h := hT hb6
      clear hT hF
      refine HW.region ?_
      refine HList.vals (v := (.pointer p0)) rfl (HVal.move' rfl) ?_
      refine HList.vals (v := (.int .i64 p1)) rfl (HVal.move' rfl) ?_
      obtain ⟨a7, e8, h⟩ := h
      refine HList.vals (v := (.pointer (some a7))) rfl (HVal.nilCheck (congrArg Value.pointer e8)) ?_
      refine HList.vals (v := (.pointer (some (Addr.add a7 3)))) rfl (HVal.fieldAddr' Try.runUnderlying80 rfl rfl Try.sizeOf2 rfl) ?_
      obtain ⟨z11, z12, h⟩ := h
      refine HList.opsn (HOp.store1 Try.sizeOf2 rfl rfl rfl z11 z12) ?_
      rintro _ H9 e10
      replace h := h H9 e10
      refine HList.nil ?_
      refine nt ?_
      exact ⟨⟨rfl, trivial⟩, h⟩
    · have h := hF hb6
      clear hT hF
      refine HW.skip ?_
      refine nt ?_
      exact ⟨⟨rfl, trivial⟩, h⟩
  · rintro ρ H_1 ⟨hI, h⟩
    obtain ⟨ρ0, rfl⟩ : ∃ ρ0, ρ = (Env.set ρ0 0 (.pointer p0)) := ⟨ρ, hI.eq⟩
    clear hI; unfold F43_1 at h
    refine HW.seq ?_
    refine HW.draw mixed [(0, some []), (1, some []), (2, some []), (3, some []), (4, some []), (5, some []), (6, some []), (7, some []), (8, some []), (9, some []), (10, some []), (11, some []), (12, some []), (13, some [])] rfl (by kernel_rfl) (by kernel_rfl) ?_
    refine HPlan.takev (v := (.pointer p0)) rfl rfl (fun _ => HVal.move' rfl) ?_
    obtain ⟨a13, e14, h⟩ := h
    refine HPlan.takev (v := (.pointer (some a13))) rfl rfl (fun _ => HVal.nilCheck (congrArg Value.pointer e14)) ?_
    refine HPlan.takev (v := (.pointer (some (Addr.add a13 3)))) rfl rfl (fun _ => HVal.fieldAddr' Try.runUnderlying80 rfl rfl Try.sizeOf2 rfl) ?_
    obtain ⟨x16, c15, h⟩ := h
    refine HPlan.takel (v := (.int .i64 x16)) (fun X => cell X (Addr.add a13 3) = some (.int .i64 x16)) rfl rfl (fun _ hX => HVal.load1 Try.isAgg2 rfl hX) c15 ?_
    refine HPlan.takev (v := (.pointer p0)) rfl rfl (fun _ => HVal.move' rfl) ?_
    obtain ⟨a17, e18, h⟩ := h
    refine HPlan.takev (v := (.pointer (some a17))) rfl rfl (fun _ => HVal.nilCheck (congrArg Value.pointer e18)) ?_
    refine HPlan.takev (v := (.pointer (some a17))) rfl rfl (fun _ => HVal.fieldAddr0 Try.runUnderlying80 rfl rfl Try.sizeOf2 rfl) ?_
    obtain ⟨x20, c19, h⟩ := h
    refine HPlan.takel (v := (.int .i64 x20)) (fun X => cell X a17 = some (.int .i64 x20)) rfl rfl (fun _ hX => HVal.load1 Try.isAgg2 rfl hX) c19 ?_
    refine HPlan.takev (v := (.int .i64 (IntKind.i64.wrap (x16 - x20)))) rfl rfl (fun _ => HVal.sub rfl rfl) ?_
    refine HPlan.takev (v := (.pointer p0)) rfl rfl (fun _ => HVal.move' rfl) ?_
    obtain ⟨a21, e22, h⟩ := h
    refine HPlan.takev (v := (.pointer (some a21))) rfl rfl (fun _ => HVal.nilCheck (congrArg Value.pointer e22)) ?_
    refine HPlan.takev (v := (.pointer (some (Addr.add a21 4)))) rfl rfl (fun _ => HVal.fieldAddr' Try.runUnderlying80 rfl rfl Try.sizeOf2 rfl) ?_
    obtain ⟨x24, c23, h⟩ := h
    refine HPlan.takel (v := (.int .i64 x24)) (fun X => cell X (Addr.add a21 4) = some (.int .i64 x24)) rfl rfl (fun _ hX => HVal.load1 Try.isAgg2 rfl hX) c23 ?_
    refine HPlan.takev (v := (.bool (decide (x24 < (IntKind.i64.wrap (x16 - x20)))))) rfl rfl (fun _ => HVal.gtr rfl rfl) ?_
    refine HPlan.done ?_
    refine nt ?_
    obtain ⟨hT, hF⟩ := h
    refine HW.cond (decide (x24 < (IntKind.i64.wrap (x16 - x20)))) rfl (fun hb25 => ?_) (fun hb25 => ?_)
    · have h := hT hb25
      clear hT hF
      refine HW.draw mixed [(0, some []), (1, some []), (2, some []), (3, some []), (4, some [12]), (5, some []), (6, some []), (7, some []), (8, some [12]), (9, some []), (10, some []), (11, some []), (12, none)] rfl (by kernel_rfl) (by kernel_rfl) ?_
      refine HPlan.takev (v := (.pointer p0)) rfl rfl (fun _ => HVal.move' rfl) ?_
      refine HPlan.takev (v := (.pointer p0)) rfl rfl (fun _ => HVal.move' rfl) ?_
      obtain ⟨a26, e27, h⟩ := h
      refine HPlan.takev (v := (.pointer (some a26))) rfl rfl (fun _ => HVal.nilCheck (congrArg Value.pointer e27)) ?_
      refine HPlan.takev (v := (.pointer (some (Addr.add a26 3)))) rfl rfl (fun _ => HVal.fieldAddr' Try.runUnderlying80 rfl rfl Try.sizeOf2 rfl) ?_
      obtain ⟨x29, c28, h⟩ := h
      refine HPlan.takel (v := (.int .i64 x29)) (fun X => cell X (Addr.add a26 3) = some (.int .i64 x29)) rfl rfl (fun _ hX => HVal.load1 Try.isAgg2 rfl hX) c28 ?_
      refine HPlan.takev (v := (.pointer p0)) rfl rfl (fun _ => HVal.move' rfl) ?_
      obtain ⟨a30, e31, h⟩ := h
      refine HPlan.takev (v := (.pointer (some a30))) rfl rfl (fun _ => HVal.nilCheck (congrArg Value.pointer e31)) ?_
      refine HPlan.takev (v := (.pointer (some a30))) rfl rfl (fun _ => HVal.fieldAddr0 Try.runUnderlying80 rfl rfl Try.sizeOf2 rfl) ?_
      obtain ⟨x33, c32, h⟩ := h
      refine HPlan.takel (v := (.int .i64 x33)) (fun X => cell X a30 = some (.int .i64 x33)) rfl rfl (fun _ hX => HVal.load1 Try.isAgg2 rfl hX) c32 ?_
      refine HPlan.takev (v := (.int .i64 (IntKind.i64.wrap (x29 - x33)))) rfl rfl (fun _ => HVal.sub rfl rfl) ?_
      obtain ⟨a34, e35, h⟩ := h
      refine HPlan.takev (v := (.pointer (some a34))) rfl rfl (fun _ => HVal.nilCheck (congrArg Value.pointer e35)) ?_
      refine HPlan.takev (v := (.pointer (some (Addr.add a34 4)))) rfl rfl (fun _ => HVal.fieldAddr' Try.runUnderlying80 rfl rfl Try.sizeOf2 rfl) ?_
      obtain ⟨z38, z39, h⟩ := h
      refine HPlan.opsn rfl (HOp.store1 Try.sizeOf2 rfl rfl rfl z38 z39) ?_
      rintro _ H36 e37
      replace h := h H36 e37
      refine ⟨SC_of ⟨fun e => absurd e (by decide), fun e => absurd e (by decide), trivial⟩, ?_⟩
      refine HPlan.done ?_
      exact ⟨_, resOf0 rfl , ⟨rfl, h⟩⟩
    · have h := hF hb25
      clear hT hF
      refine HW.skip ?_
      exact ⟨_, resOf0 rfl , ⟨rfl, h⟩⟩

def F44_1 (Q : Sl → Hp → Prop) (y34 : Sl) (H_1 : Hp) : Prop :=
Q y34 H_1
def F44_L2b (Q : Sl → Hp → Prop) (X2 : Sl → Int → Hp → Prop) (y6 : (Option Addr)) (y7 : Int) (y4 : Sl) (y5 : Int) (H_2 : Hp) : Prop :=
((decide ((0 : Int) ≤ y5)) = true → (∃ a10 : Addr, y6 = some a10 ∧ (
 ∃ x13 : Sl, cell H_2 (Addr.add a10 2) = some (Sl.v x13) ∧ (
 ∃ a14 : Addr, (x13).b = some a14 ∧ (0 : Int) ≤ y5 ∧ y5 < ((x13).n : Int) ∧ (
 ∃ x19 : Int, cell H_2 (Addr.add (Addr.add a14 (y5.toNat * 3)) 1) = some (.int .i64 x19) ∧ (
 ((decide (x19 ≤ y7)) = true → (F49 y6 y5 H_2 (fun (r23 : ByteArray) (r24 : Int) (r25 : Sl) (H21 : Hp) => 
 ∀ H26 : Hp, H26 = Array.push H21 (.cells #[(.string r23), (.int .i64 r24), (Sl.v r25)] 32) → (
 AppendF H26 32 3 48 #[(.string (ByteArray.mk #[])), (.int .i64 0), (Sl.v Sl.nil)] y4 ((Sl.mk (some ⟨H21.size, 0, none⟩) 1 1)).b ((Sl.mk (some ⟨H21.size, 0, none⟩) 1 1)).n (fun (r30 : Sl) (H28 : Hp) => 
 F48 y6 H28 (fun (r33 : Int) (H31 : Hp) => 
 X2 r30 r33 H31)))))) ∧
 ((decide (x19 ≤ y7)) = false → (F44_1 Q y4 H_2)))))))) ∧
 ((decide ((0 : Int) ≤ y5)) = false → (F44_1 Q y4 H_2))
def F44_L2 (Q : Sl → Hp → Prop) (y6 : (Option Addr)) (y7 : Int) (y4 : Sl) (y5 : Int) (H_2 : Hp) : Prop :=
  ∀ X2 : Sl → Int → Hp → Prop, (∀ (y4 : Sl) (y5 : Int) (H_2 : Hp), F44_L2b Q X2 y6 y7 y4 y5 H_2 → X2 y4 y5 H_2) → X2 y4 y5 H_2
def F44 (p0 : (Option Addr)) (p1 : Int) (H : Hp) (Q : Sl → Hp → Prop) : Prop :=
F48 p0 H (fun (r3 : Int) (H1 : Hp) => 
 F44_L2 Q p0 p1 Sl.nil r3 H1)
set_option maxRecDepth 100000 in
set_option maxHeartbeats 4000000 in
theorem walk44 {w0 : World} {p0 : (Option Addr)} {p1 : Int} {H : Hp} {Q : Sl → Hp → Prop} (h : F44 p0 p1 H Q) :
    Good Try.prog w0 44 #[(.pointer p0), (.int .i64 p1)] H (fun v H => ∃ (r0 : Sl) , v = (Sl.v r0) ∧ Q r0 H) := by
  unfold F44 at h
  refine Good.enter' (fn := Try.f44) Try.func44 rfl rfl rfl ?_
  refine HW.seq ?_
  refine HW.region ?_
  refine HList.vals (v := (Sl.v Sl.nil)) rfl (HVal.assign' rfl) ?_
  refine HList.nil ?_
  refine nt ?_
  refine HW.seq ?_
  refine HW.region ?_
  refine HList.vals (v := (Sl.v Sl.nil)) rfl (HVal.assign' rfl) ?_
  refine HList.nil ?_
  refine nt ?_
  refine HW.cut (fun ρ H_1 => ∃ (y34 : Sl), Env.Is ρ [(5, (Sl.v y34))] ∧ F44_1 Q y34 H_1) ?_ ?_
  · refine HW.seq ?_
    refine HW.region ?_
    refine HList.vals (v := (.pointer p0)) rfl (HVal.move' rfl) ?_
    refine HList.ops' rfl (HOp.call' 48 [(.pointer p0)] (cap := []) rfl rfl Try.call48 (walk48 h)) ?_
    rintro _ H1 ⟨r3, rfl, h⟩
    refine HList.vals (v := (.int .i64 r3)) rfl (HVal.assign' rfl) ?_
    refine HList.nil ?_
    refine nt ?_
    refine HW.block ?_
    refine HW.loop' (fun L2 hL2 => ?_)
    obtain ⟨X2, hX2⟩ : ∃ X2 : Sl → Int → Hp → Prop, ∀ (y4 : Sl) (y5 : Int) (H_2 : Hp), X2 y4 y5 H_2 ↔ ∀ ρ, Env.Is ρ [(0, (.pointer p0)), (1, (.int .i64 p1)), (5, (Sl.v y4)), (6, (.int .i64 y5))] → L2 ρ H_2 := ⟨_, fun _ _ _ => Iff.rfl⟩
    refine (hX2 _ _ _).1 (h X2 ?_) _ ?_
    rotate_left
    · exact ⟨rfl, rfl, rfl, rfl, trivial⟩
    clear h
    intro y4 y5 H_2 h
    refine (hX2 _ _ _).2 fun ρ hI => ?_
    obtain ⟨ρ0, rfl⟩ : ∃ ρ0, ρ = (Env.set (Env.set (Env.set (Env.set ρ0 6 (.int .i64 y5)) 5 (Sl.v y4)) 1 (.int .i64 p1)) 0 (.pointer p0)) := ⟨ρ, hI.eq⟩
    clear hI; unfold F44_L2b at h; refine hL2 _ _ ?_
    refine HW.seq ?_
    refine HW.seq ?_
    refine HW.region ?_
    refine HList.vals (v := (.int .i64 y5)) rfl (HVal.move' rfl) ?_
    refine HList.vals (v := (.bool (decide ((0 : Int) ≤ y5)))) rfl (HVal.geq rfl rfl) ?_
    refine HList.vals (v := (.bool (decide ((0 : Int) ≤ y5)))) rfl (HVal.move' rfl) ?_
    obtain ⟨hT, hF⟩ := h
    rcases Bool.eq_false_or_eq_true (decide ((0 : Int) ≤ y5)) with hb8 | hb9
    · have h := hT hb8
      clear hT hF
      refine HList.gvals (v := (.pointer p0)) rfl rfl rfl rfl (congrArg Value.bool hb8) (HVal.move' rfl) ?_
      obtain ⟨a10, e11, h⟩ := h
      refine HList.gvals (v := (.pointer (some a10))) rfl rfl rfl rfl (congrArg Value.bool hb8) (HVal.nilCheck (congrArg Value.pointer e11)) ?_
      refine HList.gvals (v := (.pointer (some (Addr.add a10 2)))) rfl rfl rfl rfl (congrArg Value.bool hb8) (HVal.fieldAddr' Try.runUnderlying80 rfl rfl Try.sizeOf50 rfl) ?_
      obtain ⟨x13, c12, h⟩ := h
      refine HList.gvals (v := (Sl.v x13)) rfl rfl rfl rfl (congrArg Value.bool hb8) (HVal.load1 Try.isAgg50 rfl c12) ?_
      refine HList.gvals (v := (.int .i64 y5)) rfl rfl rfl rfl (congrArg Value.bool hb8) (HVal.move' rfl) ?_
      obtain ⟨a14, e15, b16, b17, h⟩ := h
      refine HList.gvals (v := (.pointer (some (Addr.add a14 (y5.toNat * 3))))) rfl rfl rfl rfl (congrArg Value.bool hb8) (HVal.indexAddr Try.runUnderlying50 Try.sizeOf32 (Sl.v_some rfl e15) rfl b16 b17) ?_
      refine HList.gvals (v := (.pointer (some (Addr.add (Addr.add a14 (y5.toNat * 3)) 1)))) rfl rfl rfl rfl (congrArg Value.bool hb8) (HVal.fieldAddr' Try.runUnderlying32 rfl rfl Try.sizeOf2 rfl) ?_
      obtain ⟨x19, c18, h⟩ := h
      refine HList.gvals (v := (.int .i64 x19)) rfl rfl rfl rfl (congrArg Value.bool hb8) (HVal.load1 Try.isAgg2 rfl c18) ?_
      refine HList.gvals (v := (.int .i64 p1)) rfl rfl rfl rfl (congrArg Value.bool hb8) (HVal.move' rfl) ?_
      refine HList.gvals (v := (.bool (decide (x19 ≤ p1)))) rfl rfl rfl rfl (congrArg Value.bool hb8) (HVal.leq rfl rfl) ?_
      refine HList.vals (v := (.bool (decide (x19 ≤ p1)))) rfl (HVal.pickT rfl hb8 rfl) ?_
      refine HList.nil ?_
      refine nt ?_
      obtain ⟨hT, hF⟩ := h
      refine HW.cond (decide (x19 ≤ p1)) rfl (fun hb20 => ?_) (fun hb20 => ?_)
      · have h := hT hb20
        clear hT hF
        refine HW.skip ?_
        refine nt ?_
        refine HW.seq ?_
        refine HW.block ?_
        refine HW.region ?_
        refine HList.vals (v := (Sl.v y4)) rfl (HVal.move' rfl) ?_
        refine HList.vals (v := (.pointer p0)) rfl (HVal.move' rfl) ?_
        refine HList.vals (v := (.int .i64 y5)) rfl (HVal.move' rfl) ?_
        refine HList.ops' rfl (HOp.call' 49 [(.pointer p0), (.int .i64 y5)] (cap := []) rfl rfl Try.call49 (walk49 h)) ?_
        rintro _ H21 ⟨r23, r24, r25, rfl, h⟩
        refine HList.ops' rfl (HOp.buildSlice' (zs := [(.string (ByteArray.mk #[])), (.int .i64 0), (Sl.v Sl.nil)]) (cs := [(.string r23), (.int .i64 r24), (Sl.v r25)]) Try.runUnderlying50 Try.sizeOf32 Try.zeroValue32 (by decide) (by kernel_rfl) rfl (by decide)) ?_
        rintro _ H26 ⟨rfl, e27⟩
        replace h := h H26 e27
        refine HList.ops' rfl (HOp.append (k := 3) (b := 48) Try.runUnderlying50 Try.runUnderlying50 Try.typeInfo32 rfl rfl Try.zeroValue32 rfl rfl h) ?_
        rintro _ H28 ⟨r30, rfl, h⟩
        refine HList.vals (v := (Sl.v r30)) rfl (HVal.assign' rfl) ?_
        refine HList.nil ?_
        refine nb ?_
        refine nt ?_
        refine HW.region ?_
        refine HList.vals (v := (.pointer p0)) rfl (HVal.move' rfl) ?_
        refine HList.ops' rfl (HOp.call' 48 [(.pointer p0)] (cap := []) rfl rfl Try.call48 (walk48 h)) ?_
        rintro _ H31 ⟨r33, rfl, h⟩
        refine HList.vals (v := (.int .i64 r33)) rfl (HVal.assign' rfl) ?_
        refine HList.nil ?_
        refine nt ?_
        exact (hX2 _ _ _).1 h _ ⟨rfl, rfl, rfl, rfl, trivial⟩
      · have h := hF hb20
        clear hT hF
        refine HW.exit ?_
        refine te ?_
        refine te ?_
        refine be ?_
        refine nt ?_
        exact ⟨y4, ⟨rfl, trivial⟩, h⟩
    · have h := hF hb9
      clear hT hF
      refine HList.gskips rfl rfl rfl rfl (congrArg Value.bool hb9) ?_
      refine HList.gskips rfl rfl rfl rfl (congrArg Value.bool hb9) ?_
      refine HList.gskips rfl rfl rfl rfl (congrArg Value.bool hb9) ?_
      refine HList.gskips rfl rfl rfl rfl (congrArg Value.bool hb9) ?_
      refine HList.gskips rfl rfl rfl rfl (congrArg Value.bool hb9) ?_
      refine HList.gskips rfl rfl rfl rfl (congrArg Value.bool hb9) ?_
      refine HList.gskips rfl rfl rfl rfl (congrArg Value.bool hb9) ?_
      refine HList.gskips rfl rfl rfl rfl (congrArg Value.bool hb9) ?_
      refine HList.gskips rfl rfl rfl rfl (congrArg Value.bool hb9) ?_
      refine HList.gskips rfl rfl rfl rfl (congrArg Value.bool hb9) ?_
      refine HList.vals (v := (.bool false)) rfl (HVal.pickF rfl hb9 rfl) ?_
      refine HList.nil ?_
      refine nt ?_
      refine HW.condF false rfl rfl ?_
      refine HW.exit ?_
      refine te ?_
      refine te ?_
      refine be ?_
      refine nt ?_
      exact ⟨y4, ⟨rfl, trivial⟩, h⟩
  · rintro ρ H_1 ⟨y34, hI, h⟩
    obtain ⟨ρ0, rfl⟩ : ∃ ρ0, ρ = (Env.set ρ0 5 (Sl.v y34)) := ⟨ρ, hI.eq⟩
    clear hI; unfold F44_1 at h
    refine HW.seq ?_
    refine HW.region ?_
    refine HList.vals (v := (Sl.v y34)) rfl (HVal.move' rfl) ?_
    refine HList.vals (v := (Sl.v y34)) rfl (HVal.assign' rfl) ?_
    refine HList.nil ?_
    refine nt ?_
    refine HW.ret ?_
    exact ⟨_, resOf1 rfl Res1.t, ⟨y34, rfl, h⟩⟩

def F27_1 (Q : Sl → Int → Hp → Prop) (y1 : (Option Addr)) (y2 : Int) (y5 : Bool) (H_1 : Hp) : Prop :=
(y5 = true → (Q Sl.nil 23 H_1)) ∧
 (y5 = false → (F43 y1 y2 H_1 (fun (H7 : Hp) => 
 ∃ a9 : Addr, y1 = some a9 ∧ (
 ∃ x12 : Int, cell H7 (Addr.add a9 4) = some (.int .i64 x12) ∧ (
 F44 y1 x12 H7 (fun (r15 : Sl) (H13 : Hp) => 
 Q r15 0 H13))))))
def F27 (p0 : (Option Addr)) (p1 : Int) (H : Hp) (Q : Sl → Int → Hp → Prop) : Prop :=
((decide (p1 < 0)) = true → (F27_1 Q p0 p1 true H)) ∧
 ((decide (p1 < 0)) = false → (F27_1 Q p0 p1 (decide ((4611686018427387904 : Int) < p1)) H))
set_option maxRecDepth 100000 in
set_option maxHeartbeats 4000000 in
theorem walk27 {w0 : World} {p0 : (Option Addr)} {p1 : Int} {H : Hp} {Q : Sl → Int → Hp → Prop} (h : F27 p0 p1 H Q) :
    Good Try.prog w0 27 #[(.pointer p0), (.int .i64 p1)] H (fun v H => ∃ (r0 : Sl) (r1 : Int) , v = (.tuple #[(Sl.v r0), (.int .i64 r1)]) ∧ Q r0 r1 H) := by
  unfold F27 at h
  refine Good.enter' (fn := Try.f27) Try.func27 rfl rfl rfl ?_
  refine HW.seq ?_
  refine HW.region ?_
  refine HList.vals (v := (Sl.v Sl.nil)) rfl (HVal.assign' rfl) ?_
  refine HList.vals (v := (.int .i64 0)) rfl (HVal.assign' rfl) ?_
  refine HList.nil ?_
  refine nt ?_
  refine HW.seq ?_
  refine HW.cut (fun ρ H_1 => ∃ (y5 : Bool), Env.Is ρ [(0, (.pointer p0)), (1, (.int .i64 p1)), (11, (.bool y5))] ∧ F27_1 Q p0 p1 y5 H_1) ?_ ?_
  · refine HW.region ?_
    refine HList.vals (v := (.int .i64 p1)) rfl (HVal.move' rfl) ?_
    refine HList.vals (v := (.bool (decide (p1 < 0)))) rfl (HVal.lss rfl rfl) ?_
    refine HList.vals (v := (.bool (decide (p1 < 0)))) rfl (HVal.move' rfl) ?_
    obtain ⟨hT, hF⟩ := h
    rcases Bool.eq_false_or_eq_true (decide (p1 < 0)) with hb3 | hb4
    · have h := hT hb3
      clear hT hF
      refine HList.gskips rfl rfl rfl rfl (congrArg Value.bool hb3) ?_
      refine HList.gskips rfl rfl rfl rfl (congrArg Value.bool hb3) ?_
      refine HList.vals (v := (.bool true)) rfl (HVal.pickT rfl hb3 rfl) ?_
      refine HList.nil ?_
      refine nt ?_
      exact ⟨true, ⟨rfl, rfl, rfl, trivial⟩, h⟩
    · have h := hF hb4
      clear hT hF
      refine HList.gvals (v := (.int .i64 p1)) rfl rfl rfl rfl (congrArg Value.bool hb4) (HVal.move' rfl) ?_
      refine HList.gvals (v := (.bool (decide ((4611686018427387904 : Int) < p1)))) rfl rfl rfl rfl (congrArg Value.bool hb4) (HVal.gtr rfl rfl) ?_
      refine HList.vals (v := (.bool (decide ((4611686018427387904 : Int) < p1)))) rfl (HVal.pickF rfl hb4 rfl) ?_
      refine HList.nil ?_
      refine nt ?_
      exact ⟨(decide ((4611686018427387904 : Int) < p1)), ⟨rfl, rfl, rfl, trivial⟩, h⟩
  · rintro ρ H_1 ⟨y5, hI, h⟩
    obtain ⟨ρ0, rfl⟩ : ∃ ρ0, ρ = (Env.set (Env.set (Env.set ρ0 11 (.bool y5)) 1 (.int .i64 p1)) 0 (.pointer p0)) := ⟨ρ, hI.eq⟩
    clear hI; unfold F27_1 at h
    obtain ⟨hT, hF⟩ := h
    refine HW.cond y5 rfl (fun hb6 => ?_) (fun hb6 => ?_)
    · have h := hT hb6
      clear hT hF
      refine HW.seq ?_
      refine HW.region ?_
      refine HList.vals (v := (Sl.v Sl.nil)) rfl (HVal.assign' rfl) ?_
      refine HList.vals (v := (.int .i64 23)) rfl (HVal.assign' rfl) ?_
      refine HList.nil ?_
      refine nt ?_
      refine HW.ret ?_
      refine tr ?_
      exact ⟨_, resOf2 rfl Res1.t Res1.t, ⟨Sl.nil, 23, rfl, h⟩⟩
    · have h := hF hb6
      clear hT hF
      refine HW.skip ?_
      refine nt ?_
      refine HW.seq ?_
      refine HW.region ?_
      refine HList.vals (v := (.pointer p0)) rfl (HVal.move' rfl) ?_
      refine HList.vals (v := (.int .i64 p1)) rfl (HVal.move' rfl) ?_
      refine HList.ops' rfl (HOp.call' 43 [(.pointer p0), (.int .i64 p1)] (cap := []) rfl rfl Try.call43 (walk43 h)) ?_
      rintro _ H7 ⟨rfl, h⟩
      refine HList.nil ?_
      refine nt ?_
      refine HW.seq ?_
      refine HW.region ?_
      refine HList.vals (v := (.pointer p0)) rfl (HVal.move' rfl) ?_
      refine HList.vals (v := (.pointer p0)) rfl (HVal.move' rfl) ?_
      obtain ⟨a9, e10, h⟩ := h
      refine HList.vals (v := (.pointer (some a9))) rfl (HVal.nilCheck (congrArg Value.pointer e10)) ?_
      refine HList.vals (v := (.pointer (some (Addr.add a9 4)))) rfl (HVal.fieldAddr' Try.runUnderlying80 rfl rfl Try.sizeOf2 rfl) ?_
      obtain ⟨x12, c11, h⟩ := h
      refine HList.vals (v := (.int .i64 x12)) rfl (HVal.load1 Try.isAgg2 rfl c11) ?_
      refine HList.ops' rfl (HOp.call' 44 [(.pointer p0), (.int .i64 x12)] (cap := []) rfl rfl Try.call44 (walk44 h)) ?_
      rintro _ H13 ⟨r15, rfl, h⟩
      refine HList.vals (v := (Sl.v r15)) rfl (HVal.assign' rfl) ?_
      refine HList.vals (v := (.int .i64 0)) rfl (HVal.assign' rfl) ?_
      refine HList.nil ?_
      refine nt ?_
      refine HW.ret ?_
      exact ⟨_, resOf2 rfl Res1.t Res1.t, ⟨r15, 0, rfl, h⟩⟩

def F28_1 (Q : Sl → Hp → Prop) (y4 : Sl) (H_1 : Hp) : Prop :=
Q y4 H_1
def F28_2 (Q : Sl → Hp → Prop) (y5 : (Option Addr)) (y6 : Sl) (y19 : Bool) (H_2 : Hp) : Prop :=
(y19 = true → (∃ a21 : Addr, (y6).b = some a21 ∧ (0 : Int) ≤ (IntKind.i64.wrap (((y6).n : Int) - 1)) ∧ (IntKind.i64.wrap (((y6).n : Int) - 1)) < ((y6).n : Int) ∧ (
 ∃ x26 : Int, cell H_2 (Addr.add (Addr.add a21 ((IntKind.i64.wrap (((y6).n : Int) - 1)).toNat * 3)) 1) = some (.int .i64 x26) ∧ (
 ∃ a27 : Addr, y5 = some a27 ∧ (
 (cell H_2 (Addr.add a27 4)).isSome = true ∧ frz H_2 (Addr.add a27 4) = false ∧ ∀ H29 : Hp, H29 = setc H_2 (Addr.add a27 4) (.int .i64 x26) → (
 F28_1 Q y6 H29)))))) ∧
 (y19 = false → (F28_1 Q y6 H_2))
def F28 (p0 : (Option Addr)) (H : Hp) (Q : Sl → Hp → Prop) : Prop :=
F44 p0 4611686018427387904 H (fun (r3 : Sl) (H1 : Hp) => 
 ((decide ((0 : Int) < ((r3).n : Int))) = true → (∃ a9 : Addr, (r3).b = some a9 ∧ (0 : Int) ≤ (IntKind.i64.wrap (((r3).n : Int) - 1)) ∧ (IntKind.i64.wrap (((r3).n : Int) - 1)) < ((r3).n : Int) ∧ (
 ∃ x14 : Int, cell H1 (Addr.add (Addr.add a9 ((IntKind.i64.wrap (((r3).n : Int) - 1)).toNat * 3)) 1) = some (.int .i64 x14) ∧ (
 ∃ a15 : Addr, p0 = some a15 ∧ (
 ∃ x18 : Int, cell H1 (Addr.add a15 4) = some (.int .i64 x18) ∧ (
 F28_2 Q p0 r3 (decide (x18 < x14)) H1)))))) ∧
 ((decide ((0 : Int) < ((r3).n : Int))) = false → (F28_2 Q p0 r3 false H1)))
set_option maxRecDepth 100000 in
set_option maxHeartbeats 4000000 in
theorem walk28 {w0 : World} {p0 : (Option Addr)} {H : Hp} {Q : Sl → Hp → Prop} (h : F28 p0 H Q) :
    Good Try.prog w0 28 #[(.pointer p0)] H (fun v H => ∃ (r0 : Sl) , v = (Sl.v r0) ∧ Q r0 H) := by
  unfold F28 at h
  refine Good.enter' (fn := Try.f28) Try.func28 rfl rfl rfl ?_
  refine HW.seq ?_
  refine HW.region ?_
  refine HList.vals (v := (Sl.v Sl.nil)) rfl (HVal.assign' rfl) ?_
  refine HList.nil ?_
  refine nt ?_
  refine HW.seq ?_
  refine HW.region ?_
  refine HList.vals (v := (.pointer p0)) rfl (HVal.move' rfl) ?_
  refine HList.ops' rfl (HOp.call' 44 [(.pointer p0), (.int .i64 4611686018427387904)] (cap := []) rfl rfl Try.call44 (walk44 h)) ?_
  rintro _ H1 ⟨r3, rfl, h⟩
  refine HList.vals (v := (Sl.v r3)) rfl (HVal.assign' rfl) ?_
  refine HList.nil ?_
  refine nt ?_
  refine HW.cut (fun ρ H_1 => Env.Is ρ [(3, (Sl.v r3))] ∧ F28_1 Q r3 H_1) ?_ ?_
  · refine HW.cut (fun ρ H_2 => ∃ (y19 : Bool), Env.Is ρ [(0, (.pointer p0)), (3, (Sl.v r3)), (22, (.bool y19))] ∧ F28_2 Q p0 r3 y19 H_2) ?_ ?_
    · refine HW.draw mixed [(0, some []), (1, some []), (2, some []), (3, some []), (4, some []), (5, some []), (6, some []), (7, some []), (8, some []), (9, some []), (10, some []), (11, some []), (12, some []), (13, some []), (14, some []), (15, some []), (16, some [])] rfl (by kernel_rfl) (by kernel_rfl) ?_
      refine HPlan.takev (v := (Sl.v r3)) rfl rfl (fun _ => HVal.move' rfl) ?_
      refine HPlan.takev (v := (.int .i64 ((r3).n : Int))) rfl rfl (fun _ => HVal.len Try.runUnderlying50 rfl) ?_
      refine HPlan.takev (v := (.bool (decide ((0 : Int) < ((r3).n : Int))))) rfl rfl (fun _ => HVal.gtr rfl rfl) ?_
      refine HPlan.takev (v := (.bool (decide ((0 : Int) < ((r3).n : Int))))) rfl rfl (fun _ => HVal.move' rfl) ?_
      obtain ⟨hT, hF⟩ := h
      rcases Bool.eq_false_or_eq_true (decide ((0 : Int) < ((r3).n : Int))) with hb7 | hb8
      · have h := hT hb7
        clear hT hF
        refine HPlan.gtakev (v := (Sl.v r3)) rfl rfl rfl rfl rfl (congrArg Value.bool hb7) (fun _ => HVal.move' rfl) ?_
        refine HPlan.gtakev (v := (Sl.v r3)) rfl rfl rfl rfl rfl (congrArg Value.bool hb7) (fun _ => HVal.move' rfl) ?_
        refine HPlan.gtakev (v := (.int .i64 ((r3).n : Int))) rfl rfl rfl rfl rfl (congrArg Value.bool hb7) (fun _ => HVal.len Try.runUnderlying50 rfl) ?_
        refine HPlan.gtakev (v := (.int .i64 (IntKind.i64.wrap (((r3).n : Int) - 1)))) rfl rfl rfl rfl rfl (congrArg Value.bool hb7) (fun _ => HVal.sub rfl rfl) ?_
        obtain ⟨a9, e10, b11, b12, h⟩ := h
        refine HPlan.gtakev (v := (.pointer (some (Addr.add a9 ((IntKind.i64.wrap (((r3).n : Int) - 1)).toNat * 3))))) rfl rfl rfl rfl rfl (congrArg Value.bool hb7) (fun _ => HVal.indexAddr Try.runUnderlying50 Try.sizeOf32 (Sl.v_some rfl e10) rfl b11 b12) ?_
        refine HPlan.gtakev (v := (.pointer (some (Addr.add (Addr.add a9 ((IntKind.i64.wrap (((r3).n : Int) - 1)).toNat * 3)) 1)))) rfl rfl rfl rfl rfl (congrArg Value.bool hb7) (fun _ => HVal.fieldAddr' Try.runUnderlying32 rfl rfl Try.sizeOf2 rfl) ?_
        obtain ⟨x14, c13, h⟩ := h
        refine HPlan.gtakel (v := (.int .i64 x14)) (fun X => cell X (Addr.add (Addr.add a9 ((IntKind.i64.wrap (((r3).n : Int) - 1)).toNat * 3)) 1) = some (.int .i64 x14)) rfl rfl rfl rfl rfl (congrArg Value.bool hb7) (fun _ hX => HVal.load1 Try.isAgg2 rfl hX) c13 ?_
        refine HPlan.gtakev (v := (.pointer p0)) rfl rfl rfl rfl rfl (congrArg Value.bool hb7) (fun _ => HVal.move' rfl) ?_
        obtain ⟨a15, e16, h⟩ := h
        refine HPlan.gtakev (v := (.pointer (some a15))) rfl rfl rfl rfl rfl (congrArg Value.bool hb7) (fun _ => HVal.nilCheck (congrArg Value.pointer e16)) ?_
        refine HPlan.gtakev (v := (.pointer (some (Addr.add a15 4)))) rfl rfl rfl rfl rfl (congrArg Value.bool hb7) (fun _ => HVal.fieldAddr' Try.runUnderlying80 rfl rfl Try.sizeOf2 rfl) ?_
        obtain ⟨x18, c17, h⟩ := h
        refine HPlan.gtakel (v := (.int .i64 x18)) (fun X => cell X (Addr.add a15 4) = some (.int .i64 x18)) rfl rfl rfl rfl rfl (congrArg Value.bool hb7) (fun _ hX => HVal.load1 Try.isAgg2 rfl hX) c17 ?_
        refine HPlan.gtakev (v := (.bool (decide (x18 < x14)))) rfl rfl rfl rfl rfl (congrArg Value.bool hb7) (fun _ => HVal.gtr rfl rfl) ?_
        refine HPlan.takev (v := (.bool (decide (x18 < x14)))) rfl rfl (fun _ => HVal.pickT rfl hb7 rfl) ?_
        refine HPlan.done ?_
        refine nt ?_
        exact ⟨(decide (x18 < x14)), ⟨rfl, rfl, rfl, trivial⟩, h⟩
      · have h := hF hb8
        clear hT hF
        refine HPlan.takegskip rfl rfl rfl rfl (congrArg Value.bool hb8) ?_
        refine HPlan.takegskip rfl rfl rfl rfl (congrArg Value.bool hb8) ?_
        refine HPlan.takegskip rfl rfl rfl rfl (congrArg Value.bool hb8) ?_
        refine HPlan.takegskip rfl rfl rfl rfl (congrArg Value.bool hb8) ?_
        refine HPlan.takegskip rfl rfl rfl rfl (congrArg Value.bool hb8) ?_
        refine HPlan.takegskip rfl rfl rfl rfl (congrArg Value.bool hb8) ?_
        refine HPlan.takegskip rfl rfl rfl rfl (congrArg Value.bool hb8) ?_
        refine HPlan.takegskip rfl rfl rfl rfl (congrArg Value.bool hb8) ?_
        refine HPlan.takegskip rfl rfl rfl rfl (congrArg Value.bool hb8) ?_
        refine HPlan.takegskip rfl rfl rfl rfl (congrArg Value.bool hb8) ?_
        refine HPlan.takegskip rfl rfl rfl rfl (congrArg Value.bool hb8) ?_
        refine HPlan.takegskip rfl rfl rfl rfl (congrArg Value.bool hb8) ?_
        refine HPlan.takev (v := (.bool false)) rfl rfl (fun _ => HVal.pickF rfl hb8 rfl) ?_
        refine HPlan.done ?_
        refine nt ?_
        exact ⟨false, ⟨rfl, rfl, rfl, trivial⟩, h⟩
    · rintro ρ H_2 ⟨y19, hI, h⟩
      obtain ⟨ρ0, rfl⟩ : ∃ ρ0, ρ = (Env.set (Env.set (Env.set ρ0 22 (.bool y19)) 3 (Sl.v r3)) 0 (.pointer p0)) := ⟨ρ, hI.eq⟩
      clear hI; unfold F28_2 at h
      obtain ⟨hT, hF⟩ := h
      refine HW.cond y19 rfl (fun hb20 => ?_) (fun hb20 => ?_)
      · have h := hT hb20
        clear hT hF
        refine HW.region ?_
        refine HList.vals (v := (.pointer p0)) rfl (HVal.move' rfl) ?_
        refine HList.vals (v := (Sl.v r3)) rfl (HVal.move' rfl) ?_
        refine HList.vals (v := (Sl.v r3)) rfl (HVal.move' rfl) ?_
        refine HList.vals (v := (.int .i64 ((r3).n : Int))) rfl (HVal.len Try.runUnderlying50 rfl) ?_
        refine HList.vals (v := (.int .i64 (IntKind.i64.wrap (((r3).n : Int) - 1)))) rfl (HVal.sub rfl rfl) ?_
        obtain ⟨a21, e22, b23, b24, h⟩ := h
        refine HList.vals (v := (.pointer (some (Addr.add a21 ((IntKind.i64.wrap (((r3).n : Int) - 1)).toNat * 3))))) rfl (HVal.indexAddr Try.runUnderlying50 Try.sizeOf32 (Sl.v_some rfl e22) rfl b23 b24) ?_
        refine HList.vals (v := (.pointer (some (Addr.add (Addr.add a21 ((IntKind.i64.wrap (((r3).n : Int) - 1)).toNat * 3)) 1)))) rfl (HVal.fieldAddr' Try.runUnderlying32 rfl rfl Try.sizeOf2 rfl) ?_
        obtain ⟨x26, c25, h⟩ := h
        refine HList.vals (v := (.int .i64 x26)) rfl (HVal.load1 Try.isAgg2 rfl c25) ?_
        obtain ⟨a27, e28, h⟩ := h
        refine HList.vals (v := (.pointer (some a27))) rfl (HVal.nilCheck (congrArg Value.pointer e28)) ?_
        refine HList.vals (v := (.pointer (some (Addr.add a27 4)))) rfl (HVal.fieldAddr' Try.runUnderlying80 rfl rfl Try.sizeOf2 rfl) ?_
        obtain ⟨z31, z32, h⟩ := h
        refine HList.opsn (HOp.store1 Try.sizeOf2 rfl rfl rfl z31 z32) ?_
        rintro _ H29 e30
        replace h := h H29 e30
        refine HList.nil ?_
        refine nt ?_
        exact ⟨⟨rfl, trivial⟩, h⟩
      · have h := hF hb20
        clear hT hF
        refine HW.skip ?_
        refine nt ?_
        exact ⟨⟨rfl, trivial⟩, h⟩
  · rintro ρ H_1 ⟨hI, h⟩
    obtain ⟨ρ0, rfl⟩ : ∃ ρ0, ρ = (Env.set ρ0 3 (Sl.v r3)) := ⟨ρ, hI.eq⟩
    clear hI; unfold F28_1 at h
    refine HW.seq ?_
    refine HW.region ?_
    refine HList.vals (v := (Sl.v r3)) rfl (HVal.move' rfl) ?_
    refine HList.vals (v := (Sl.v r3)) rfl (HVal.assign' rfl) ?_
    refine HList.nil ?_
    refine nt ?_
    refine HW.ret ?_
    exact ⟨_, resOf1 rfl Res1.t, ⟨r3, rfl, h⟩⟩

def F29_1 (Q : Sl → Hp → Prop) (y6 : Addr) (H_1 : Hp) : Prop :=
F44 (some y6) 4611686018427387904 H_1 (fun (r50 : Sl) (H48 : Hp) => 
 Q r50 H48)
def F29_L2b (Q : Sl → Hp → Prop) (X2 : Int → Hp → Prop) (y8 : (Option Addr)) (y9 : Addr) (y7 : Int) (H_2 : Hp) : Prop :=
∃ a10 : Addr, y8 = some a10 ∧ (
 ∃ x13 : Sl, cell H_2 (Addr.add a10 2) = some (Sl.v x13) ∧ (
 ((decide (y7 < ((x13).n : Int))) = true → (∃ x16 : Sl, cell H_2 (Addr.add y9 2) = some (Sl.v x16) ∧ (
 ∃ a17 : Addr, y8 = some a17 ∧ (
 ∃ x20 : Sl, cell H_2 (Addr.add a17 2) = some (Sl.v x20) ∧ (
 ∃ a21 : Addr, (x20).b = some a21 ∧ (0 : Int) ≤ y7 ∧ y7 < ((x20).n : Int) ∧ (
 ∃ (x26 : ByteArray) (x27 : Int) (x28 : Sl), cells H_2 (Addr.add a21 (y7.toNat * 3)) [(.string x26), (.int .i64 x27), (Sl.v x28)] 0 ∧ (
 F42 x26 x27 x28 H_2 (fun (r31 : ByteArray) (r32 : Int) (r33 : Sl) (H29 : Hp) => 
 cell H29 (Addr.add a17 2) = some (Sl.v x20) ∧ cell H29 (Addr.add y9 2) = some (Sl.v x16) ∧ (
 ∀ H36 : Hp, H36 = Array.push H29 (.cells #[(.string r31), (.int .i64 r32), (Sl.v r33)] 32) → (
 cell H36 (Addr.add a17 2) = some (Sl.v x20) ∧ cell H36 (Addr.add y9 2) = some (Sl.v x16) ∧ (
 AppendF H36 32 3 48 #[(.string (ByteArray.mk #[])), (.int .i64 0), (Sl.v Sl.nil)] x16 ((Sl.mk (some ⟨H29.size, 0, none⟩) 1 1)).b ((Sl.mk (some ⟨H29.size, 0, none⟩) 1 1)).n (fun (r42 : Sl) (H40 : Hp) => 
 cell H40 (Addr.add a17 2) = some (Sl.v x20) ∧ (
 (cell H40 (Addr.add y9 2)).isSome = true ∧ frz H40 (Addr.add y9 2) = false ∧ ∀ H44 : Hp, H44 = setc H40 (Addr.add y9 2) (Sl.v r42) → (
 X2 (IntKind.i64.wrap (y7 + 1)) H44)))))))))))))) ∧
 ((decide (y7 < ((x13).n : Int))) = false → (F29_1 Q y9 H_2))))
def F29_L2 (Q : Sl → Hp → Prop) (y8 : (Option Addr)) (y9 : Addr) (y7 : Int) (H_2 : Hp) : Prop :=
  ∀ X2 : Int → Hp → Prop, (∀ (y7 : Int) (H_2 : Hp), F29_L2b Q X2 y8 y9 y7 H_2 → X2 y7 H_2) → X2 y7 H_2
def F29 (p0 : (Option Addr)) (H : Hp) (Q : Sl → Hp → Prop) : Prop :=
∀ H1 : Hp, H1 = Array.push H (.cells #[(.int .i64 0), (.int .i64 0), (Sl.v Sl.nil), (.int .i64 0), (.int .i64 0)] 80) → (
 mayw H1 ⟨H.size, 0, none⟩ 5 0 ∧ ∀ H3 : Hp, H3 = sets H1 ⟨H.size, 0, none⟩ [(.int .i64 0), (.int .i64 0), (Sl.v Sl.nil), (.int .i64 0), (.int .i64 0)] 0 → (
 F29_L2 Q p0 ⟨H.size, 0, none⟩ 0 H3))
set_option maxRecDepth 100000 in
set_option maxHeartbeats 4000000 in
theorem walk29 {w0 : World} {p0 : (Option Addr)} {H : Hp} {Q : Sl → Hp → Prop} (h : F29 p0 H Q) :
    Good Try.prog w0 29 #[(.pointer p0)] H (fun v H => ∃ (r0 : Sl) , v = (Sl.v r0) ∧ Q r0 H) := by
  unfold F29 at h
  refine Good.enter' (fn := Try.f29) Try.func29 rfl rfl rfl ?_
  refine HW.seq ?_
  refine HW.region ?_
  refine HList.vals (v := (Sl.v Sl.nil)) rfl (HVal.assign' rfl) ?_
  refine HList.nil ?_
  refine nt ?_
  refine HW.seq ?_
  refine HW.region ?_
  refine HList.vals (v := (.agg #[(.int .i64 0), (.int .i64 0), (Sl.v Sl.nil), (.int .i64 0), (.int .i64 0)])) rfl (HVal.build' (cs := [(.int .i64 0), (.int .i64 0), (Sl.v Sl.nil), (.int .i64 0), (.int .i64 0)]) Try.runUnderlying80 Try.zeroValue80 places80 rfl) ?_
  refine HList.ops' rfl (HOp.alloc Try.zeroValue80) ?_
  rintro _ H1 ⟨rfl, e2⟩
  replace h := h H1 e2
  obtain ⟨z5, h⟩ := h
  refine HList.opsn (HOp.storeN' (l := [(.int .i64 0), (.int .i64 0), (Sl.v Sl.nil), (.int .i64 0), (.int .i64 0)]) Try.sizeOf80 rfl rfl rfl z5) ?_
  rintro _ H3 e4
  replace h := h H3 e4
  refine HList.nil ?_
  refine nt ?_
  refine HW.cut (fun ρ H_1 => Env.Is ρ [(3, (.pointer (some ⟨H.size, 0, none⟩)))] ∧ F29_1 Q ⟨H.size, 0, none⟩ H_1) ?_ ?_
  · refine HW.seq ?_
    refine HW.region ?_
    refine HList.vals (v := (.int .i64 0)) rfl (HVal.assign' rfl) ?_
    refine HList.nil ?_
    refine nt ?_
    refine HW.block ?_
    refine HW.loop' (fun L2 hL2 => ?_)
    obtain ⟨X2, hX2⟩ : ∃ X2 : Int → Hp → Prop, ∀ (y7 : Int) (H_2 : Hp), X2 y7 H_2 ↔ ∀ ρ, Env.Is ρ [(0, (.pointer p0)), (3, (.pointer (some ⟨H.size, 0, none⟩))), (4, (.int .i64 y7))] → L2 ρ H_2 := ⟨_, fun _ _ => Iff.rfl⟩
    refine (hX2 _ _).1 (h X2 ?_) _ ?_
    rotate_left
    · exact ⟨rfl, rfl, rfl, trivial⟩
    clear h
    intro y7 H_2 h
    refine (hX2 _ _).2 fun ρ hI => ?_
    obtain ⟨ρ0, rfl⟩ : ∃ ρ0, ρ = (Env.set (Env.set (Env.set ρ0 4 (.int .i64 y7)) 3 (.pointer (some ⟨H.size, 0, none⟩))) 0 (.pointer p0)) := ⟨ρ, hI.eq⟩
    clear hI; unfold F29_L2b at h; refine hL2 _ _ ?_
    refine HW.seq ?_
    refine HW.seq ?_
    refine HW.region ?_
    refine HList.vals (v := (.int .i64 y7)) rfl (HVal.move' rfl) ?_
    refine HList.vals (v := (.pointer p0)) rfl (HVal.move' rfl) ?_
    obtain ⟨a10, e11, h⟩ := h
    refine HList.vals (v := (.pointer (some a10))) rfl (HVal.nilCheck (congrArg Value.pointer e11)) ?_
    refine HList.vals (v := (.pointer (some (Addr.add a10 2)))) rfl (HVal.fieldAddr' Try.runUnderlying80 rfl rfl Try.sizeOf50 rfl) ?_
    obtain ⟨x13, c12, h⟩ := h
    refine HList.vals (v := (Sl.v x13)) rfl (HVal.load1 Try.isAgg50 rfl c12) ?_
    refine HList.vals (v := (.int .i64 ((x13).n : Int))) rfl (HVal.len Try.runUnderlying50 rfl) ?_
    refine HList.vals (v := (.bool (decide (y7 < ((x13).n : Int))))) rfl (HVal.lss rfl rfl) ?_
    refine HList.nil ?_
    refine nt ?_
    obtain ⟨hT, hF⟩ := h
    refine HW.cond (decide (y7 < ((x13).n : Int))) rfl (fun hb14 => ?_) (fun hb14 => ?_)
    · have h := hT hb14
      clear hT hF
      refine HW.skip ?_
      refine nt ?_
      refine HW.seq ?_
      refine HW.block ?_
      refine HW.draw mixed [(0, some []), (1, some [11, 13]), (2, some []), (3, some []), (4, some []), (5, some [13]), (6, some []), (7, some []), (8, some [9, 13]), (9, none), (10, none), (11, none), (12, some []), (13, none)] rfl (by kernel_rfl) (by kernel_rfl) ?_
      refine HPlan.takev (v := (.pointer (some (Addr.add ⟨H.size, 0, none⟩ 2)))) rfl rfl (fun _ => HVal.fieldAddr' Try.runUnderlying80 rfl rfl Try.sizeOf50 rfl) ?_
      obtain ⟨x16, c15, h⟩ := h
      refine HPlan.takel (v := (Sl.v x16)) (fun X => cell X (Addr.add ⟨H.size, 0, none⟩ 2) = some (Sl.v x16)) rfl rfl (fun _ hX => HVal.load1 Try.isAgg50 rfl hX) c15 ?_
      refine HPlan.takev (v := (.pointer p0)) rfl rfl (fun _ => HVal.move' rfl) ?_
      obtain ⟨a17, e18, h⟩ := h
      refine HPlan.takev (v := (.pointer (some a17))) rfl rfl (fun _ => HVal.nilCheck (congrArg Value.pointer e18)) ?_
      refine HPlan.takev (v := (.pointer (some (Addr.add a17 2)))) rfl rfl (fun _ => HVal.fieldAddr' Try.runUnderlying80 rfl rfl Try.sizeOf50 rfl) ?_
      obtain ⟨x20, c19, h⟩ := h
      refine HPlan.takel (v := (Sl.v x20)) (fun X => cell X (Addr.add a17 2) = some (Sl.v x20)) rfl rfl (fun _ hX => HVal.load1 Try.isAgg50 rfl hX) c19 ?_
      refine HPlan.takev (v := (.int .i64 y7)) rfl rfl (fun _ => HVal.move' rfl) ?_
      obtain ⟨a21, e22, b23, b24, h⟩ := h
      refine HPlan.takev (v := (.pointer (some (Addr.add a21 (y7.toNat * 3))))) rfl rfl (fun _ => HVal.indexAddr Try.runUnderlying50 Try.sizeOf32 (Sl.v_some rfl e22) rfl b23 b24) ?_
      obtain ⟨x26, x27, x28, c25, h⟩ := h
      refine HPlan.takel (v := (.agg #[(.string x26), (.int .i64 x27), (Sl.v x28)])) (fun X => cells X (Addr.add a21 (y7.toNat * 3)) [(.string x26), (.int .i64 x27), (Sl.v x28)] 0) rfl rfl (fun _ hX => HVal.loadN [(.string x26), (.int .i64 x27), (Sl.v x28)] Try.isAgg32 Try.sizeOf32 rfl hX) c25 ?_
      refine HPlan.ops' rfl rfl (HOp.call' 42 [(.agg #[(.string x26), (.int .i64 x27), (Sl.v x28)])] (cap := []) rfl rfl Try.call42 (walk42 h)) ?_
      rintro _ H29 ⟨r31, r32, r33, rfl, h⟩
      obtain ⟨s34, s35, h⟩ := h
      refine ⟨SC_of ⟨fun e => absurd e (by decide), fun _ => s34, fun _ => s35, trivial⟩, ?_⟩
      refine HPlan.ops' rfl rfl (HOp.buildSlice' (zs := [(.string (ByteArray.mk #[])), (.int .i64 0), (Sl.v Sl.nil)]) (cs := [(.string r31), (.int .i64 r32), (Sl.v r33)]) Try.runUnderlying50 Try.sizeOf32 Try.zeroValue32 (by decide) (by kernel_rfl) rfl (by decide)) ?_
      rintro _ H36 ⟨rfl, e37⟩
      replace h := h H36 e37
      obtain ⟨s38, s39, h⟩ := h
      refine ⟨SC_of ⟨fun e => absurd e (by decide), fun _ => s38, fun _ => s39, trivial⟩, ?_⟩
      refine HPlan.ops' rfl rfl (HOp.append (k := 3) (b := 48) Try.runUnderlying50 Try.runUnderlying50 Try.typeInfo32 rfl rfl Try.zeroValue32 rfl rfl h) ?_
      rintro _ H40 ⟨r42, rfl, h⟩
      obtain ⟨s43, h⟩ := h
      refine ⟨SC_of ⟨fun e => absurd e (by decide), fun _ => s43, fun e => absurd e (by decide), trivial⟩, ?_⟩
      refine HPlan.takev (v := (.pointer (some (Addr.add ⟨H.size, 0, none⟩ 2)))) rfl rfl (fun _ => HVal.fieldAddr' Try.runUnderlying80 rfl rfl Try.sizeOf50 rfl) ?_
      obtain ⟨z46, z47, h⟩ := h
      refine HPlan.opsn rfl (HOp.store1 Try.sizeOf50 rfl rfl rfl z46 z47) ?_
      rintro _ H44 e45
      replace h := h H44 e45
      refine ⟨SC_of ⟨fun e => absurd e (by decide), fun e => absurd e (by decide), fun e => absurd e (by decide), trivial⟩, ?_⟩
      refine HPlan.done ?_
      refine nb ?_
      refine nt ?_
      refine HW.region ?_
      refine HList.vals (v := (.int .i64 y7)) rfl (HVal.move' rfl) ?_
      refine HList.vals (v := (.int .i64 (IntKind.i64.wrap (y7 + 1)))) rfl (HVal.add rfl rfl) ?_
      refine HList.vals (v := (.int .i64 (IntKind.i64.wrap (y7 + 1)))) rfl (HVal.assign' rfl) ?_
      refine HList.nil ?_
      refine nt ?_
      exact (hX2 _ _).1 h _ ⟨rfl, rfl, rfl, trivial⟩
    · have h := hF hb14
      clear hT hF
      refine HW.exit ?_
      refine te ?_
      refine te ?_
      refine be ?_
      refine nt ?_
      exact ⟨⟨rfl, trivial⟩, h⟩
  · rintro ρ H_1 ⟨hI, h⟩
    obtain ⟨ρ0, rfl⟩ : ∃ ρ0, ρ = (Env.set ρ0 3 (.pointer (some ⟨H.size, 0, none⟩))) := ⟨ρ, hI.eq⟩
    clear hI; unfold F29_1 at h
    refine HW.seq ?_
    refine HW.region ?_
    refine HList.ops' rfl (HOp.call' 44 [(.pointer (some ⟨H.size, 0, none⟩)), (.int .i64 4611686018427387904)] (cap := []) rfl rfl Try.call44 (walk44 h)) ?_
    rintro _ H48 ⟨r50, rfl, h⟩
    refine HList.vals (v := (Sl.v r50)) rfl (HVal.assign' rfl) ?_
    refine HList.nil ?_
    refine nt ?_
    refine HW.ret ?_
    exact ⟨_, resOf1 rfl Res1.t, ⟨r50, rfl, h⟩⟩

def F25_2 (Q : Sl → Int → Hp → Prop) (y43 : (Option Addr)) (y44 : Addr) (y45 : Addr) (y73 : Sl) (H_2 : Hp) : Prop :=
∃ (x75 : ByteArray) (x76 : Int) (x77 : Sl), cells H_2 y44 [(.string x75), (.int .i64 x76), (Sl.v x77)] 0 ∧ (
 F42 x75 x76 x77 H_2 (fun (r80 : ByteArray) (r81 : Int) (r82 : Sl) (H78 : Hp) => 
 ∀ H83 : Hp, H83 = Array.push H78 (.cells #[(.string r80), (.int .i64 r81), (Sl.v r82)] 32) → (
 AppendF H83 32 3 48 #[(.string (ByteArray.mk #[])), (.int .i64 0), (Sl.v Sl.nil)] y73 ((Sl.mk (some ⟨H78.size, 0, none⟩) 1 1)).b ((Sl.mk (some ⟨H78.size, 0, none⟩) 1 1)).n (fun (r87 : Sl) (H85 : Hp) => 
 ∃ a88 : Addr, y43 = some a88 ∧ (
 (cell H85 (Addr.add a88 2)).isSome = true ∧ frz H85 (Addr.add a88 2) = false ∧ ∀ H90 : Hp, H90 = setc H85 (Addr.add a88 2) (Sl.v r87) → (
 ∃ x95 : Int, cell H90 (Addr.add y44 1) = some (.int .i64 x95) ∧ (
 F43 y43 x95 H90 (fun (H96 : Hp) => 
 ∃ a98 : Addr, y43 = some a98 ∧ (
 ∃ x101 : Int, cell H96 (Addr.add a98 4) = some (.int .i64 x101) ∧ (
 F44 y43 x101 H96 (fun (r104 : Sl) (H102 : Hp) => 
 ∃ a105 : Addr, y43 = some a105 ∧ (
 ∃ x108 : Sl, cell H102 (Addr.add a105 2) = some (Sl.v x108) ∧ (
 ∃ a109 : Addr, y43 = some a109 ∧ (
 ∃ x112 : Int, cell H102 (Addr.add a109 1) = some (.int .i64 x112) ∧ (
 ((decide (x112 < ((x108).n : Int))) = true → (∃ (x115 : Int) (x116 : Int) (x117 : Sl) (x118 : Int) (x119 : Int), cells H102 y45 [(.int .i64 x115), (.int .i64 x116), (Sl.v x117), (.int .i64 x118), (.int .i64 x119)] 0 ∧ (
 ∃ a120 : Addr, y43 = some a120 ∧ (
 mayw H102 a120 5 0 ∧ ∀ H122 : Hp, H122 = sets H102 a120 [(.int .i64 x115), (.int .i64 x116), (Sl.v x117), (.int .i64 x118), (.int .i64 x119)] 0 → (
 Q Sl.nil 4 H122))))) ∧
 ((decide (x112 < ((x108).n : Int))) = false → (Q r104 0 H102)))))))))))))))))
def F25_L3b (Q : Sl → Int → Hp → Prop) (X3 : Sl → Int → Hp → Prop) (y48 : (Option Addr)) (y49 : Addr) (y50 : Addr) (y46 : Sl) (y47 : Int) (H_3 : Hp) : Prop :=
∃ a51 : Addr, y48 = some a51 ∧ (
 ∃ x54 : Sl, cell H_3 (Addr.add a51 2) = some (Sl.v x54) ∧ (
 ((decide (y47 < ((x54).n : Int))) = true → (∃ a56 : Addr, y48 = some a56 ∧ (
 ∃ x59 : Sl, cell H_3 (Addr.add a56 2) = some (Sl.v x59) ∧ (
 ∃ a60 : Addr, (x59).b = some a60 ∧ (0 : Int) ≤ y47 ∧ y47 < ((x59).n : Int) ∧ (
 ∃ (x65 : ByteArray) (x66 : Int) (x67 : Sl), cells H_3 (Addr.add a60 (y47.toNat * 3)) [(.string x65), (.int .i64 x66), (Sl.v x67)] 0 ∧ (
 ∀ H68 : Hp, H68 = Array.push H_3 (.cells #[(.string x65), (.int .i64 x66), (Sl.v x67)] 32) → (
 AppendF H68 32 3 48 #[(.string (ByteArray.mk #[])), (.int .i64 0), (Sl.v Sl.nil)] y46 ((Sl.mk (some ⟨H_3.size, 0, none⟩) 1 1)).b ((Sl.mk (some ⟨H_3.size, 0, none⟩) 1 1)).n (fun (r72 : Sl) (H70 : Hp) => 
 X3 r72 (IntKind.i64.wrap (y47 + 1)) H70)))))))) ∧
 ((decide (y47 < ((x54).n : Int))) = false → (F25_2 Q y48 y49 y50 y46 H_3))))
def F25_L3 (Q : Sl → Int → Hp → Prop) (y48 : (Option Addr)) (y49 : Addr) (y50 : Addr) (y46 : Sl) (y47 : Int) (H_3 : Hp) : Prop :=
  ∀ X3 : Sl → Int → Hp → Prop, (∀ (y46 : Sl) (y47 : Int) (H_3 : Hp), F25_L3b Q X3 y48 y49 y50 y46 y47 H_3 → X3 y46 y47 H_3) → X3 y46 y47 H_3
def F25_1 (Q : Sl → Int → Hp → Prop) (y3 : (Option Addr)) (y4 : Addr) (y9 : Bool) (H_1 : Hp) : Prop :=
(y9 = true → (Q Sl.nil 23 H_1)) ∧
 (y9 = false → (∃ x14 : Int, cell H_1 (Addr.add y4 1) = some (.int .i64 x14) ∧ (
 ∃ a15 : Addr, y3 = some a15 ∧ (
 ∃ x18 : Int, cell H_1 (Addr.add a15 4) = some (.int .i64 x18) ∧ (
 ((decide (x14 < x18)) = true → (Q Sl.nil 180 H_1)) ∧
 ((decide (x14 < x18)) = false → (∃ a20 : Addr, y3 = some a20 ∧ (
 ∃ (x23 : Int) (x24 : Int) (x25 : Sl) (x26 : Int) (x27 : Int), cells H_1 a20 [(.int .i64 x23), (.int .i64 x24), (Sl.v x25), (.int .i64 x26), (.int .i64 x27)] 0 ∧ (
 ∀ H28 : Hp, H28 = Array.push H_1 (.cells #[(.int .i64 0), (.int .i64 0), (Sl.v Sl.nil), (.int .i64 0), (.int .i64 0)] 80) → (
 mayw H28 ⟨H_1.size, 0, none⟩ 5 0 ∧ ∀ H30 : Hp, H30 = sets H28 ⟨H_1.size, 0, none⟩ [(.int .i64 x23), (.int .i64 x24), (Sl.v x25), (.int .i64 x26), (.int .i64 x27)] 0 → (
 ∃ a33 : Addr, y3 = some a33 ∧ (
 ∃ x36 : Sl, cell H30 (Addr.add a33 2) = some (Sl.v x36) ∧ (
 (0 : Int) ≤ 0 ∧ (0 : Int) ≤ (IntKind.i64.wrap (((x36).n : Int) + 1)) ∧ (48 : Nat) * (IntKind.i64.wrap (((x36).n : Int) + 1)) ≤ 140737488355328 ∧ (IntKind.i64.wrap (((x36).n : Int) + 1)) ≤ 9223372036854775807 ∧ ∀ H37 : Hp, H37 = Array.push H30 (.cells (made #[(.string (ByteArray.mk #[])), (.int .i64 0), (Sl.v Sl.nil)] (IntKind.i64.wrap (((x36).n : Int) + 1)).toNat) 32) → (
 F25_L3 Q y3 y4 ⟨H_1.size, 0, none⟩ (Sl.mk (some ⟨H30.size, 0, none⟩) (0 : Int).toNat (IntKind.i64.wrap (((x36).n : Int) + 1)).toNat) 0 H37))))))))))))))
def F25 (p0 : (Option Addr)) (p1_0 : ByteArray) (p1_1 : Int) (p1_2 : Sl) (H : Hp) (Q : Sl → Int → Hp → Prop) : Prop :=
∀ H1 : Hp, H1 = Array.push H (.cells #[(.string p1_0), (.int .i64 p1_1), (Sl.v p1_2)] 32) → (
 ∃ x6 : Int, cell H1 (Addr.add ⟨H.size, 0, none⟩ 1) = some (.int .i64 x6) ∧ (
 ((decide (x6 < 0)) = true → (F25_1 Q p0 ⟨H.size, 0, none⟩ true H1)) ∧
 ((decide (x6 < 0)) = false → (∃ x11 : Int, cell H1 (Addr.add ⟨H.size, 0, none⟩ 1) = some (.int .i64 x11) ∧ (
 F25_1 Q p0 ⟨H.size, 0, none⟩ (decide ((4611686018427387904 : Int) < x11)) H1)))))
set_option maxRecDepth 100000 in
set_option maxHeartbeats 4000000 in
theorem walk25 {w0 : World} {p0 : (Option Addr)} {p1_0 : ByteArray} {p1_1 : Int} {p1_2 : Sl} {H : Hp} {Q : Sl → Int → Hp → Prop} (h : F25 p0 p1_0 p1_1 p1_2 H Q) :
    Good Try.prog w0 25 #[(.pointer p0), (.agg #[(.string p1_0), (.int .i64 p1_1), (Sl.v p1_2)])] H (fun v H => ∃ (r0 : Sl) (r1 : Int) , v = (.tuple #[(Sl.v r0), (.int .i64 r1)]) ∧ Q r0 r1 H) := by
  unfold F25 at h
  refine Good.enter' (fn := Try.f25) Try.func25 rfl rfl rfl ?_
  refine HW.seq ?_
  refine HW.region ?_
  refine HList.ops' rfl (HOp.box (v := (.agg #[(.string p1_0), (.int .i64 p1_1), (Sl.v p1_2)])) rfl) ?_
  rintro _ H1 ⟨rfl, e2⟩
  replace h := h H1 e2
  refine HList.vals (v := (Sl.v Sl.nil)) rfl (HVal.assign' rfl) ?_
  refine HList.vals (v := (.int .i64 0)) rfl (HVal.assign' rfl) ?_
  refine HList.nil ?_
  refine nt ?_
  refine HW.seq ?_
  refine HW.cut (fun ρ H_1 => ∃ (y9 : Bool), Env.Is ρ [(0, (.pointer p0)), (3, (.pointer (some ⟨H.size, 0, none⟩))), (17, (.bool y9))] ∧ F25_1 Q p0 ⟨H.size, 0, none⟩ y9 H_1) ?_ ?_
  · refine HW.region ?_
    refine HList.vals (v := (.pointer (some (Addr.add ⟨H.size, 0, none⟩ 1)))) rfl (HVal.fieldAddr' Try.runUnderlying32 rfl rfl Try.sizeOf2 rfl) ?_
    obtain ⟨x6, c5, h⟩ := h
    refine HList.vals (v := (.int .i64 x6)) rfl (HVal.load1 Try.isAgg2 rfl c5) ?_
    refine HList.vals (v := (.bool (decide (x6 < 0)))) rfl (HVal.lss rfl rfl) ?_
    refine HList.vals (v := (.bool (decide (x6 < 0)))) rfl (HVal.move' rfl) ?_
    obtain ⟨hT, hF⟩ := h
    rcases Bool.eq_false_or_eq_true (decide (x6 < 0)) with hb7 | hb8
    · have h := hT hb7
      clear hT hF
      refine HList.gskips rfl rfl rfl rfl (congrArg Value.bool hb7) ?_
      refine HList.gskips rfl rfl rfl rfl (congrArg Value.bool hb7) ?_
      refine HList.gskips rfl rfl rfl rfl (congrArg Value.bool hb7) ?_
      refine HList.vals (v := (.bool true)) rfl (HVal.pickT rfl hb7 rfl) ?_
      refine HList.nil ?_
      refine nt ?_
      exact ⟨true, ⟨rfl, rfl, rfl, trivial⟩, h⟩
    · have h := hF hb8
      clear hT hF
      refine HList.gvals (v := (.pointer (some (Addr.add ⟨H.size, 0, none⟩ 1)))) rfl rfl rfl rfl (congrArg Value.bool hb8) (HVal.fieldAddr' Try.runUnderlying32 rfl rfl Try.sizeOf2 rfl) ?_
      obtain ⟨x11, c10, h⟩ := h
      refine HList.gvals (v := (.int .i64 x11)) rfl rfl rfl rfl (congrArg Value.bool hb8) (HVal.load1 Try.isAgg2 rfl c10) ?_
      refine HList.gvals (v := (.bool (decide ((4611686018427387904 : Int) < x11)))) rfl rfl rfl rfl (congrArg Value.bool hb8) (HVal.gtr rfl rfl) ?_
      refine HList.vals (v := (.bool (decide ((4611686018427387904 : Int) < x11)))) rfl (HVal.pickF rfl hb8 rfl) ?_
      refine HList.nil ?_
      refine nt ?_
      exact ⟨(decide ((4611686018427387904 : Int) < x11)), ⟨rfl, rfl, rfl, trivial⟩, h⟩
  · rintro ρ H_1 ⟨y9, hI, h⟩
    obtain ⟨ρ0, rfl⟩ : ∃ ρ0, ρ = (Env.set (Env.set (Env.set ρ0 17 (.bool y9)) 3 (.pointer (some ⟨H.size, 0, none⟩))) 0 (.pointer p0)) := ⟨ρ, hI.eq⟩
    clear hI; unfold F25_1 at h
    obtain ⟨hT, hF⟩ := h
    refine HW.cond y9 rfl (fun hb12 => ?_) (fun hb12 => ?_)
    · have h := hT hb12
      clear hT hF
      refine HW.seq ?_
      refine HW.region ?_
      refine HList.vals (v := (Sl.v Sl.nil)) rfl (HVal.assign' rfl) ?_
      refine HList.vals (v := (.int .i64 23)) rfl (HVal.assign' rfl) ?_
      refine HList.nil ?_
      refine nt ?_
      refine HW.ret ?_
      refine tr ?_
      exact ⟨_, resOf2 rfl Res1.t Res1.t, ⟨Sl.nil, 23, rfl, h⟩⟩
    · have h := hF hb12
      clear hT hF
      refine HW.skip ?_
      refine nt ?_
      refine HW.seq ?_
      refine HW.seq ?_
      refine HW.draw mixed [(0, some []), (1, some []), (2, some []), (3, some []), (4, some []), (5, some []), (6, some [])] rfl (by kernel_rfl) (by kernel_rfl) ?_
      refine HPlan.takev (v := (.pointer (some (Addr.add ⟨H.size, 0, none⟩ 1)))) rfl rfl (fun _ => HVal.fieldAddr' Try.runUnderlying32 rfl rfl Try.sizeOf2 rfl) ?_
      obtain ⟨x14, c13, h⟩ := h
      refine HPlan.takel (v := (.int .i64 x14)) (fun X => cell X (Addr.add ⟨H.size, 0, none⟩ 1) = some (.int .i64 x14)) rfl rfl (fun _ hX => HVal.load1 Try.isAgg2 rfl hX) c13 ?_
      refine HPlan.takev (v := (.pointer p0)) rfl rfl (fun _ => HVal.move' rfl) ?_
      obtain ⟨a15, e16, h⟩ := h
      refine HPlan.takev (v := (.pointer (some a15))) rfl rfl (fun _ => HVal.nilCheck (congrArg Value.pointer e16)) ?_
      refine HPlan.takev (v := (.pointer (some (Addr.add a15 4)))) rfl rfl (fun _ => HVal.fieldAddr' Try.runUnderlying80 rfl rfl Try.sizeOf2 rfl) ?_
      obtain ⟨x18, c17, h⟩ := h
      refine HPlan.takel (v := (.int .i64 x18)) (fun X => cell X (Addr.add a15 4) = some (.int .i64 x18)) rfl rfl (fun _ hX => HVal.load1 Try.isAgg2 rfl hX) c17 ?_
      refine HPlan.takev (v := (.bool (decide (x14 < x18)))) rfl rfl (fun _ => HVal.lss rfl rfl) ?_
      refine HPlan.done ?_
      refine nt ?_
      obtain ⟨hT, hF⟩ := h
      refine HW.cond (decide (x14 < x18)) rfl (fun hb19 => ?_) (fun hb19 => ?_)
      · have h := hT hb19
        clear hT hF
        refine HW.seq ?_
        refine HW.region ?_
        refine HList.vals (v := (Sl.v Sl.nil)) rfl (HVal.assign' rfl) ?_
        refine HList.vals (v := (.int .i64 180)) rfl (HVal.assign' rfl) ?_
        refine HList.nil ?_
        refine nt ?_
        refine HW.ret ?_
        refine tr ?_
        exact ⟨_, resOf2 rfl Res1.t Res1.t, ⟨Sl.nil, 180, rfl, h⟩⟩
      · have h := hF hb19
        clear hT hF
        refine HW.skip ?_
        refine nt ?_
        refine HW.seq ?_
        refine HW.region ?_
        refine HList.vals (v := (.pointer p0)) rfl (HVal.move' rfl) ?_
        obtain ⟨a20, e21, h⟩ := h
        refine HList.vals (v := (.pointer (some a20))) rfl (HVal.nilCheck (congrArg Value.pointer e21)) ?_
        obtain ⟨x23, x24, x25, x26, x27, c22, h⟩ := h
        refine HList.vals (v := (.agg #[(.int .i64 x23), (.int .i64 x24), (Sl.v x25), (.int .i64 x26), (.int .i64 x27)])) rfl (HVal.loadN [(.int .i64 x23), (.int .i64 x24), (Sl.v x25), (.int .i64 x26), (.int .i64 x27)] Try.isAgg80 Try.sizeOf80 rfl c22) ?_
        refine HList.ops' rfl (HOp.alloc Try.zeroValue80) ?_
        rintro _ H28 ⟨rfl, e29⟩
        replace h := h H28 e29
        obtain ⟨z32, h⟩ := h
        refine HList.opsn (HOp.storeN' (l := [(.int .i64 x23), (.int .i64 x24), (Sl.v x25), (.int .i64 x26), (.int .i64 x27)]) Try.sizeOf80 rfl rfl rfl z32) ?_
        rintro _ H30 e31
        replace h := h H30 e31
        refine HList.nil ?_
        refine nt ?_
        refine HW.seq ?_
        refine HW.region ?_
        refine HList.vals (v := (.pointer p0)) rfl (HVal.move' rfl) ?_
        obtain ⟨a33, e34, h⟩ := h
        refine HList.vals (v := (.pointer (some a33))) rfl (HVal.nilCheck (congrArg Value.pointer e34)) ?_
        refine HList.vals (v := (.pointer (some (Addr.add a33 2)))) rfl (HVal.fieldAddr' Try.runUnderlying80 rfl rfl Try.sizeOf50 rfl) ?_
        obtain ⟨x36, c35, h⟩ := h
        refine HList.vals (v := (Sl.v x36)) rfl (HVal.load1 Try.isAgg50 rfl c35) ?_
        refine HList.vals (v := (.int .i64 ((x36).n : Int))) rfl (HVal.len Try.runUnderlying50 rfl) ?_
        refine HList.vals (v := (.int .i64 (IntKind.i64.wrap (((x36).n : Int) + 1)))) rfl (HVal.add rfl rfl) ?_
        obtain ⟨z39, z40, z41, z42, h⟩ := h
        refine HList.ops' rfl (HOp.makeSlice' (b := 48) Try.runUnderlying50 Try.typeInfo32 rfl Try.zeroValue32 Try.sizeOf32 rfl rfl z39 z40 z41 z42) ?_
        rintro _ H37 ⟨rfl, e38⟩
        replace h := h H37 e38
        refine HList.vals (v := (Sl.v (Sl.mk (some ⟨H30.size, 0, none⟩) (0 : Int).toNat (IntKind.i64.wrap (((x36).n : Int) + 1)).toNat))) rfl (HVal.assign' rfl) ?_
        refine HList.nil ?_
        refine nt ?_
        refine HW.cut (fun ρ H_2 => ∃ (y73 : Sl), Env.Is ρ [(0, (.pointer p0)), (3, (.pointer (some ⟨H.size, 0, none⟩))), (6, (.pointer (some ⟨H_1.size, 0, none⟩))), (7, (Sl.v y73))] ∧ F25_2 Q p0 ⟨H.size, 0, none⟩ ⟨H_1.size, 0, none⟩ y73 H_2) ?_ ?_
        · refine HW.seq ?_
          refine HW.region ?_
          refine HList.vals (v := (.int .i64 0)) rfl (HVal.assign' rfl) ?_
          refine HList.nil ?_
          refine nt ?_
          refine HW.block ?_
          refine HW.loop' (fun L3 hL3 => ?_)
          obtain ⟨X3, hX3⟩ : ∃ X3 : Sl → Int → Hp → Prop, ∀ (y46 : Sl) (y47 : Int) (H_3 : Hp), X3 y46 y47 H_3 ↔ ∀ ρ, Env.Is ρ [(0, (.pointer p0)), (3, (.pointer (some ⟨H.size, 0, none⟩))), (6, (.pointer (some ⟨H_1.size, 0, none⟩))), (7, (Sl.v y46)), (8, (.int .i64 y47))] → L3 ρ H_3 := ⟨_, fun _ _ _ => Iff.rfl⟩
          refine (hX3 _ _ _).1 (h X3 ?_) _ ?_
          rotate_left
          · exact ⟨rfl, rfl, rfl, rfl, rfl, trivial⟩
          clear h
          intro y46 y47 H_3 h
          refine (hX3 _ _ _).2 fun ρ hI => ?_
          obtain ⟨ρ0, rfl⟩ : ∃ ρ0, ρ = (Env.set (Env.set (Env.set (Env.set (Env.set ρ0 8 (.int .i64 y47)) 7 (Sl.v y46)) 6 (.pointer (some ⟨H_1.size, 0, none⟩))) 3 (.pointer (some ⟨H.size, 0, none⟩))) 0 (.pointer p0)) := ⟨ρ, hI.eq⟩
          clear hI; unfold F25_L3b at h; refine hL3 _ _ ?_
          refine HW.seq ?_
          refine HW.seq ?_
          refine HW.region ?_
          refine HList.vals (v := (.int .i64 y47)) rfl (HVal.move' rfl) ?_
          refine HList.vals (v := (.pointer p0)) rfl (HVal.move' rfl) ?_
          obtain ⟨a51, e52, h⟩ := h
          refine HList.vals (v := (.pointer (some a51))) rfl (HVal.nilCheck (congrArg Value.pointer e52)) ?_
          refine HList.vals (v := (.pointer (some (Addr.add a51 2)))) rfl (HVal.fieldAddr' Try.runUnderlying80 rfl rfl Try.sizeOf50 rfl) ?_
          obtain ⟨x54, c53, h⟩ := h
          refine HList.vals (v := (Sl.v x54)) rfl (HVal.load1 Try.isAgg50 rfl c53) ?_
          refine HList.vals (v := (.int .i64 ((x54).n : Int))) rfl (HVal.len Try.runUnderlying50 rfl) ?_
          refine HList.vals (v := (.bool (decide (y47 < ((x54).n : Int))))) rfl (HVal.lss rfl rfl) ?_
          refine HList.nil ?_
          refine nt ?_
          obtain ⟨hT, hF⟩ := h
          refine HW.cond (decide (y47 < ((x54).n : Int))) rfl (fun hb55 => ?_) (fun hb55 => ?_)
          · have h := hT hb55
            clear hT hF
            refine HW.skip ?_
            refine nt ?_
            refine HW.seq ?_
            refine HW.block ?_
            refine HW.region ?_
            refine HList.vals (v := (Sl.v y46)) rfl (HVal.move' rfl) ?_
            refine HList.vals (v := (.pointer p0)) rfl (HVal.move' rfl) ?_
            obtain ⟨a56, e57, h⟩ := h
            refine HList.vals (v := (.pointer (some a56))) rfl (HVal.nilCheck (congrArg Value.pointer e57)) ?_
            refine HList.vals (v := (.pointer (some (Addr.add a56 2)))) rfl (HVal.fieldAddr' Try.runUnderlying80 rfl rfl Try.sizeOf50 rfl) ?_
            obtain ⟨x59, c58, h⟩ := h
            refine HList.vals (v := (Sl.v x59)) rfl (HVal.load1 Try.isAgg50 rfl c58) ?_
            refine HList.vals (v := (.int .i64 y47)) rfl (HVal.move' rfl) ?_
            obtain ⟨a60, e61, b62, b63, h⟩ := h
            refine HList.vals (v := (.pointer (some (Addr.add a60 (y47.toNat * 3))))) rfl (HVal.indexAddr Try.runUnderlying50 Try.sizeOf32 (Sl.v_some rfl e61) rfl b62 b63) ?_
            obtain ⟨x65, x66, x67, c64, h⟩ := h
            refine HList.vals (v := (.agg #[(.string x65), (.int .i64 x66), (Sl.v x67)])) rfl (HVal.loadN [(.string x65), (.int .i64 x66), (Sl.v x67)] Try.isAgg32 Try.sizeOf32 rfl c64) ?_
            refine HList.ops' rfl (HOp.buildSlice' (zs := [(.string (ByteArray.mk #[])), (.int .i64 0), (Sl.v Sl.nil)]) (cs := [(.string x65), (.int .i64 x66), (Sl.v x67)]) Try.runUnderlying50 Try.sizeOf32 Try.zeroValue32 (by decide) (by kernel_rfl) rfl (by decide)) ?_
            rintro _ H68 ⟨rfl, e69⟩
            replace h := h H68 e69
            refine HList.ops' rfl (HOp.append (k := 3) (b := 48) Try.runUnderlying50 Try.runUnderlying50 Try.typeInfo32 rfl rfl Try.zeroValue32 rfl rfl h) ?_
            rintro _ H70 ⟨r72, rfl, h⟩
            refine HList.vals (v := (Sl.v r72)) rfl (HVal.assign' rfl) ?_
            refine HList.nil ?_
            refine nb ?_
            refine nt ?_
            refine HW.region ?_
            refine HList.vals (v := (.int .i64 y47)) rfl (HVal.move' rfl) ?_
            refine HList.vals (v := (.int .i64 (IntKind.i64.wrap (y47 + 1)))) rfl (HVal.add rfl rfl) ?_
            refine HList.vals (v := (.int .i64 (IntKind.i64.wrap (y47 + 1)))) rfl (HVal.assign' rfl) ?_
            refine HList.nil ?_
            refine nt ?_
            exact (hX3 _ _ _).1 h _ ⟨rfl, rfl, rfl, rfl, rfl, trivial⟩
          · have h := hF hb55
            clear hT hF
            refine HW.exit ?_
            refine te ?_
            refine te ?_
            refine be ?_
            refine nt ?_
            exact ⟨y46, ⟨rfl, rfl, rfl, rfl, trivial⟩, h⟩
        · rintro ρ H_2 ⟨y73, hI, h⟩
          obtain ⟨ρ0, rfl⟩ : ∃ ρ0, ρ = (Env.set (Env.set (Env.set (Env.set ρ0 7 (Sl.v y73)) 6 (.pointer (some ⟨H_1.size, 0, none⟩))) 3 (.pointer (some ⟨H.size, 0, none⟩))) 0 (.pointer p0)) := ⟨ρ, hI.eq⟩
          clear hI; unfold F25_2 at h
          refine HW.seq ?_
          refine HW.region ?_
          refine HList.vals (v := (.pointer p0)) rfl (HVal.move' rfl) ?_
          refine HList.vals (v := (Sl.v y73)) rfl (HVal.move' rfl) ?_
          obtain ⟨x75, x76, x77, c74, h⟩ := h
          refine HList.vals (v := (.agg #[(.string x75), (.int .i64 x76), (Sl.v x77)])) rfl (HVal.loadN [(.string x75), (.int .i64 x76), (Sl.v x77)] Try.isAgg32 Try.sizeOf32 rfl c74) ?_
          refine HList.ops' rfl (HOp.call' 42 [(.agg #[(.string x75), (.int .i64 x76), (Sl.v x77)])] (cap := []) rfl rfl Try.call42 (walk42 h)) ?_
          rintro _ H78 ⟨r80, r81, r82, rfl, h⟩
          refine HList.ops' rfl (HOp.buildSlice' (zs := [(.string (ByteArray.mk #[])), (.int .i64 0), (Sl.v Sl.nil)]) (cs := [(.string r80), (.int .i64 r81), (Sl.v r82)]) Try.runUnderlying50 Try.sizeOf32 Try.zeroValue32 (by decide) (by kernel_rfl) rfl (by decide)) ?_
          rintro _ H83 ⟨rfl, e84⟩
          replace h := h H83 e84
          refine HList.ops' rfl (HOp.append (k := 3) (b := 48) Try.runUnderlying50 Try.runUnderlying50 Try.typeInfo32 rfl rfl Try.zeroValue32 rfl rfl h) ?_
          rintro _ H85 ⟨r87, rfl, h⟩
          obtain ⟨a88, e89, h⟩ := h
          refine HList.vals (v := (.pointer (some a88))) rfl (HVal.nilCheck (congrArg Value.pointer e89)) ?_
          refine HList.vals (v := (.pointer (some (Addr.add a88 2)))) rfl (HVal.fieldAddr' Try.runUnderlying80 rfl rfl Try.sizeOf50 rfl) ?_
          obtain ⟨z92, z93, h⟩ := h
          refine HList.opsn (HOp.store1 Try.sizeOf50 rfl rfl rfl z92 z93) ?_
          rintro _ H90 e91
          replace h := h H90 e91
          refine HList.nil ?_
          refine nt ?_
          refine HW.seq ?_
          refine HW.region ?_
          refine HList.vals (v := (.pointer p0)) rfl (HVal.move' rfl) ?_
          refine HList.vals (v := (.pointer (some (Addr.add ⟨H.size, 0, none⟩ 1)))) rfl (HVal.fieldAddr' Try.runUnderlying32 rfl rfl Try.sizeOf2 rfl) ?_
          obtain ⟨x95, c94, h⟩ := h
          refine HList.vals (v := (.int .i64 x95)) rfl (HVal.load1 Try.isAgg2 rfl c94) ?_
          refine HList.ops' rfl (HOp.call' 43 [(.pointer p0), (.int .i64 x95)] (cap := []) rfl rfl Try.call43 (walk43 h)) ?_
          rintro _ H96 ⟨rfl, h⟩
          refine HList.nil ?_
          refine nt ?_
          refine HW.seq ?_
          refine HW.region ?_
          refine HList.vals (v := (.pointer p0)) rfl (HVal.move' rfl) ?_
          refine HList.vals (v := (.pointer p0)) rfl (HVal.move' rfl) ?_
          obtain ⟨a98, e99, h⟩ := h
          refine HList.vals (v := (.pointer (some a98))) rfl (HVal.nilCheck (congrArg Value.pointer e99)) ?_
          refine HList.vals (v := (.pointer (some (Addr.add a98 4)))) rfl (HVal.fieldAddr' Try.runUnderlying80 rfl rfl Try.sizeOf2 rfl) ?_
          obtain ⟨x101, c100, h⟩ := h
          refine HList.vals (v := (.int .i64 x101)) rfl (HVal.load1 Try.isAgg2 rfl c100) ?_
          refine HList.ops' rfl (HOp.call' 44 [(.pointer p0), (.int .i64 x101)] (cap := []) rfl rfl Try.call44 (walk44 h)) ?_
          rintro _ H102 ⟨r104, rfl, h⟩
          refine HList.vals (v := (Sl.v r104)) rfl (HVal.assign' rfl) ?_
          refine HList.nil ?_
          refine nt ?_
          refine HW.seq ?_
          refine HW.seq ?_
          refine HW.draw mixed [(0, some []), (1, some []), (2, some []), (3, some []), (4, some []), (5, some []), (6, some []), (7, some []), (8, some []), (9, some [])] rfl (by kernel_rfl) (by kernel_rfl) ?_
          refine HPlan.takev (v := (.pointer p0)) rfl rfl (fun _ => HVal.move' rfl) ?_
          obtain ⟨a105, e106, h⟩ := h
          refine HPlan.takev (v := (.pointer (some a105))) rfl rfl (fun _ => HVal.nilCheck (congrArg Value.pointer e106)) ?_
          refine HPlan.takev (v := (.pointer (some (Addr.add a105 2)))) rfl rfl (fun _ => HVal.fieldAddr' Try.runUnderlying80 rfl rfl Try.sizeOf50 rfl) ?_
          obtain ⟨x108, c107, h⟩ := h
          refine HPlan.takel (v := (Sl.v x108)) (fun X => cell X (Addr.add a105 2) = some (Sl.v x108)) rfl rfl (fun _ hX => HVal.load1 Try.isAgg50 rfl hX) c107 ?_
          refine HPlan.takev (v := (.int .i64 ((x108).n : Int))) rfl rfl (fun _ => HVal.len Try.runUnderlying50 rfl) ?_
          refine HPlan.takev (v := (.pointer p0)) rfl rfl (fun _ => HVal.move' rfl) ?_
          obtain ⟨a109, e110, h⟩ := h
          refine HPlan.takev (v := (.pointer (some a109))) rfl rfl (fun _ => HVal.nilCheck (congrArg Value.pointer e110)) ?_
          refine HPlan.takev (v := (.pointer (some (Addr.add a109 1)))) rfl rfl (fun _ => HVal.fieldAddr' Try.runUnderlying80 rfl rfl Try.sizeOf3 rfl) ?_
          obtain ⟨x112, c111, h⟩ := h
          refine HPlan.takel (v := (.int .i64 x112)) (fun X => cell X (Addr.add a109 1) = some (.int .i64 x112)) rfl rfl (fun _ hX => HVal.load1 Try.isAgg3 rfl hX) c111 ?_
          refine HPlan.takev (v := (.bool (decide (x112 < ((x108).n : Int))))) rfl rfl (fun _ => HVal.gtr rfl rfl) ?_
          refine HPlan.done ?_
          refine nt ?_
          obtain ⟨hT, hF⟩ := h
          refine HW.cond (decide (x112 < ((x108).n : Int))) rfl (fun hb113 => ?_) (fun hb113 => ?_)
          · have h := hT hb113
            clear hT hF
            refine HW.seq ?_
            refine HW.region ?_
            refine HList.vals (v := (.pointer p0)) rfl (HVal.move' rfl) ?_
            obtain ⟨x115, x116, x117, x118, x119, c114, h⟩ := h
            refine HList.vals (v := (.agg #[(.int .i64 x115), (.int .i64 x116), (Sl.v x117), (.int .i64 x118), (.int .i64 x119)])) rfl (HVal.loadN [(.int .i64 x115), (.int .i64 x116), (Sl.v x117), (.int .i64 x118), (.int .i64 x119)] Try.isAgg80 Try.sizeOf80 rfl c114) ?_
            obtain ⟨a120, e121, h⟩ := h
            refine HList.vals (v := (.pointer (some a120))) rfl (HVal.nilCheck (congrArg Value.pointer e121)) ?_
            obtain ⟨z124, h⟩ := h
            refine HList.opsn (HOp.storeN' (l := [(.int .i64 x115), (.int .i64 x116), (Sl.v x117), (.int .i64 x118), (.int .i64 x119)]) Try.sizeOf80 rfl rfl rfl z124) ?_
            rintro _ H122 e123
            replace h := h H122 e123
            refine HList.nil ?_
            refine nt ?_
            refine HW.seq ?_
            refine HW.region ?_
            refine HList.vals (v := (Sl.v Sl.nil)) rfl (HVal.assign' rfl) ?_
            refine HList.vals (v := (.int .i64 4)) rfl (HVal.assign' rfl) ?_
            refine HList.nil ?_
            refine nt ?_
            refine HW.ret ?_
            refine tr ?_
            exact ⟨_, resOf2 rfl Res1.t Res1.t, ⟨Sl.nil, 4, rfl, h⟩⟩
          · have h := hF hb113
            clear hT hF
            refine HW.skip ?_
            refine nt ?_
            refine HW.seq ?_
            refine HW.region ?_
            refine HList.vals (v := (Sl.v r104)) rfl (HVal.move' rfl) ?_
            refine HList.vals (v := (Sl.v r104)) rfl (HVal.assign' rfl) ?_
            refine HList.vals (v := (.int .i64 0)) rfl (HVal.assign' rfl) ?_
            refine HList.nil ?_
            refine nt ?_
            refine HW.ret ?_
            exact ⟨_, resOf2 rfl Res1.t Res1.t, ⟨r104, 0, rfl, h⟩⟩

def F5 (p0 : Int) (p1 : Int) (H : Hp) (Q : (Option Addr) → (Option Addr) → Bool → Hp → Prop) : Prop :=
∀ H1 : Hp, H1 = Array.push H (.cells #[(.pointer none), (.pointer none)] 26) → (
 F8 p0 p1 H1 (fun (r5 : (Option Addr)) (r6 : Int) (H3 : Hp) => 
 F22 p0 p1 H3 (fun (r9 : (Option Addr)) (r10 : Int) (H7 : Hp) => 
 ((decide (r6 = r10)) = true → (mayw H7 ⟨H.size, 0, none⟩ 2 0 ∧ ∀ H13 : Hp, H13 = sets H7 ⟨H.size, 0, none⟩ [(.pointer r5), (.pointer r9)] 0 → (
 ∃ (x16 : (Option Addr)) (x17 : (Option Addr)), cells H13 ⟨H.size, 0, none⟩ [(.pointer x16), (.pointer x17)] 0 ∧ (
 Q x16 x17 ((r5.isNone) == (r9.isNone)) H13)))) ∧
 ((decide (r6 = r10)) = false → (mayw H7 ⟨H.size, 0, none⟩ 2 0 ∧ ∀ H19 : Hp, H19 = sets H7 ⟨H.size, 0, none⟩ [(.pointer r5), (.pointer r9)] 0 → (
 ∃ (x22 : (Option Addr)) (x23 : (Option Addr)), cells H19 ⟨H.size, 0, none⟩ [(.pointer x22), (.pointer x23)] 0 ∧ (
 Q x22 x23 false H19)))))))
set_option maxRecDepth 100000 in
set_option maxHeartbeats 4000000 in
theorem walk5 {w0 : World} {p0 : Int} {p1 : Int} {H : Hp} {Q : (Option Addr) → (Option Addr) → Bool → Hp → Prop} (h : F5 p0 p1 H Q) :
    Good Try.prog w0 5 #[(.int .i64 p0), (.int .i64 p1)] H (fun v H => ∃ (r0 : (Option Addr)) (r1 : (Option Addr)) (r2 : Bool) , v = (.tuple #[(.agg #[(.pointer r0), (.pointer r1)]), (.bool r2)]) ∧ Q r0 r1 r2 H) := by
  unfold F5 at h
  refine Good.enter' (fn := Try.f5) Try.func5 rfl rfl rfl ?_
  refine HW.seq ?_
  refine HW.region ?_
  refine HList.ops' rfl (HOp.alloc Try.zeroValue26) ?_
  rintro _ H1 ⟨rfl, e2⟩
  replace h := h H1 e2
  refine HList.vals (v := (.bool false)) rfl (HVal.assign' rfl) ?_
  refine HList.nil ?_
  refine nt ?_
  refine HW.seq ?_
  refine HW.region ?_
  refine HList.vals (v := (.int .i64 p0)) rfl (HVal.move' rfl) ?_
  refine HList.vals (v := (.int .i64 p1)) rfl (HVal.move' rfl) ?_
  refine HList.ops' rfl (HOp.call' 8 [(.int .i64 p0), (.int .i64 p1)] (cap := []) rfl rfl Try.call8 (walk8 h)) ?_
  rintro _ H3 ⟨r5, r6, rfl, h⟩
  refine HList.vals (v := (.tuple #[(.pointer r5), (.int .i64 r6)])) rfl (HVal.move' rfl) ?_
  refine HList.vals (v := (.pointer r5)) rfl (HVal.extract rfl rfl) ?_
  refine HList.vals (v := (.int .i64 r6)) rfl (HVal.extract rfl rfl) ?_
  refine HList.vals (v := (.pointer r5)) rfl (HVal.assign' rfl) ?_
  refine HList.vals (v := (.int .i64 r6)) rfl (HVal.assign' rfl) ?_
  refine HList.nil ?_
  refine nt ?_
  refine HW.seq ?_
  refine HW.region ?_
  refine HList.vals (v := (.int .i64 p0)) rfl (HVal.move' rfl) ?_
  refine HList.vals (v := (.int .i64 p1)) rfl (HVal.move' rfl) ?_
  refine HList.ops' rfl (HOp.call' 22 [(.int .i64 p0), (.int .i64 p1)] (cap := []) rfl rfl Try.call22 (walk22 h)) ?_
  rintro _ H7 ⟨r9, r10, rfl, h⟩
  refine HList.vals (v := (.tuple #[(.pointer r9), (.int .i64 r10)])) rfl (HVal.move' rfl) ?_
  refine HList.vals (v := (.pointer r9)) rfl (HVal.extract rfl rfl) ?_
  refine HList.vals (v := (.int .i64 r10)) rfl (HVal.extract rfl rfl) ?_
  refine HList.vals (v := (.pointer r9)) rfl (HVal.assign' rfl) ?_
  refine HList.vals (v := (.int .i64 r10)) rfl (HVal.assign' rfl) ?_
  refine HList.nil ?_
  refine nt ?_
  refine HW.seq ?_
  refine HW.region ?_
  refine HList.vals (v := (.pointer r5)) rfl (HVal.move' rfl) ?_
  refine HList.vals (v := (.pointer r9)) rfl (HVal.move' rfl) ?_
  refine HList.vals (v := (.agg #[(.pointer r5), (.pointer r9)])) rfl (HVal.build' (cs := [(.pointer r5), (.pointer r9)]) Try.runUnderlying26 Try.zeroValue26 places26 rfl) ?_
  refine HList.vals (v := (.int .i64 r6)) rfl (HVal.move' rfl) ?_
  refine HList.vals (v := (.int .i64 r10)) rfl (HVal.move' rfl) ?_
  refine HList.vals (v := (.bool (decide (r6 = r10)))) rfl (HVal.eqlI rfl rfl) ?_
  refine HList.vals (v := (.bool (decide (r6 = r10)))) rfl (HVal.move' rfl) ?_
  obtain ⟨hT, hF⟩ := h
  rcases Bool.eq_false_or_eq_true (decide (r6 = r10)) with hb11 | hb12
  · have h := hT hb11
    clear hT hF
    refine HList.gvals (v := (.pointer r5)) rfl rfl rfl rfl (congrArg Value.bool hb11) (HVal.move' rfl) ?_
    refine HList.gvals (v := (.bool (r5.isNone))) rfl rfl rfl rfl (congrArg Value.bool hb11) (HVal.eqlPN Try.underlying23 rfl rfl) ?_
    refine HList.gvals (v := (.pointer r9)) rfl rfl rfl rfl (congrArg Value.bool hb11) (HVal.move' rfl) ?_
    refine HList.gvals (v := (.bool (r9.isNone))) rfl rfl rfl rfl (congrArg Value.bool hb11) (HVal.eqlPN Try.underlying24 rfl rfl) ?_
    refine HList.gvals (v := (.bool ((r5.isNone) == (r9.isNone)))) rfl rfl rfl rfl (congrArg Value.bool hb11) (HVal.eqlB Try.underlying4 rfl rfl) ?_
    refine HList.vals (v := (.bool ((r5.isNone) == (r9.isNone)))) rfl (HVal.pickT rfl hb11 rfl) ?_
    obtain ⟨z15, h⟩ := h
    refine HList.opsn (HOp.storeN' (l := [(.pointer r5), (.pointer r9)]) Try.sizeOf26 rfl rfl rfl z15) ?_
    rintro _ H13 e14
    replace h := h H13 e14
    refine HList.vals (v := (.bool ((r5.isNone) == (r9.isNone)))) rfl (HVal.assign' rfl) ?_
    refine HList.nil ?_
    refine nt ?_
    refine HW.ret ?_
    obtain ⟨x16, x17, c18, h⟩ := h
    exact ⟨_, resOf2 rfl (Res1.n [(.pointer x16), (.pointer x17)] Try.isAgg26 Try.sizeOf26 rfl c18) Res1.t, ⟨x16, x17, ((r5.isNone) == (r9.isNone)), rfl, h⟩⟩
  · have h := hF hb12
    clear hT hF
    refine HList.gskips rfl rfl rfl rfl (congrArg Value.bool hb12) ?_
    refine HList.gskips rfl rfl rfl rfl (congrArg Value.bool hb12) ?_
    refine HList.gskips rfl rfl rfl rfl (congrArg Value.bool hb12) ?_
    refine HList.gskips rfl rfl rfl rfl (congrArg Value.bool hb12) ?_
    refine HList.gskips rfl rfl rfl rfl (congrArg Value.bool hb12) ?_
    refine HList.vals (v := (.bool false)) rfl (HVal.pickF rfl hb12 rfl) ?_
    obtain ⟨z21, h⟩ := h
    refine HList.opsn (HOp.storeN' (l := [(.pointer r5), (.pointer r9)]) Try.sizeOf26 rfl rfl rfl z21) ?_
    rintro _ H19 e20
    replace h := h H19 e20
    refine HList.vals (v := (.bool false)) rfl (HVal.assign' rfl) ?_
    refine HList.nil ?_
    refine nt ?_
    refine HW.ret ?_
    obtain ⟨x22, x23, c24, h⟩ := h
    exact ⟨_, resOf2 rfl (Res1.n [(.pointer x22), (.pointer x23)] Try.isAgg26 Try.sizeOf26 rfl c24) Res1.t, ⟨x22, x23, false, rfl, h⟩⟩

def F7_1 (Q : Bool → Hp → Prop) (y5 : Addr) (y6 : Addr) (y11 : Bool) (H_1 : Hp) : Prop :=
(y11 = true → (Q true H_1)) ∧
 (y11 = false → (∃ x16 : Int, cell H_1 y6 = some (.int .i64 x16) ∧ (
 ((decide (x16 = 1)) = true → (∃ x19 : (Option Addr), cell H_1 y5 = some (.pointer x19) ∧ (
 ∃ (x21 : ByteArray) (x22 : Int) (x23 : Sl), cells H_1 (Addr.add y6 2) [(.string x21), (.int .i64 x22), (Sl.v x23)] 0 ∧ (
 F11 x21 x22 x23 H_1 (fun (r26 : ByteArray) (r27 : Int) (r28 : Sl) (H24 : Hp) => 
 cell H24 y5 = some (.pointer x19) ∧ (
 F23 x19 r26 r27 r28 H24 (fun (r32 : Sl) (r33 : Int) (H30 : Hp) => 
 ∃ x35 : (Option Addr), cell H30 (Addr.add y5 1) = some (.pointer x35) ∧ (
 ∃ (x37 : ByteArray) (x38 : Int) (x39 : Sl), cells H30 (Addr.add y6 2) [(.string x37), (.int .i64 x38), (Sl.v x39)] 0 ∧ (
 F11 x37 x38 x39 H30 (fun (r42 : ByteArray) (r43 : Int) (r44 : Sl) (H40 : Hp) => 
 cell H40 (Addr.add y5 1) = some (.pointer x35) ∧ (
 F25 x35 r42 r43 r44 H40 (fun (r48 : Sl) (r49 : Int) (H46 : Hp) => 
 ((decide (r33 = r49)) = true → (F12 r32 r48 H46 (fun (r54 : Bool) (H52 : Hp) => 
 Q r54 H52))) ∧
 ((decide (r33 = r49)) = false → (Q false H46)))))))))))))) ∧
 ((decide (x16 = 1)) = false → (((decide (x16 = 2)) = true → (∃ x57 : (Option Addr), cell H_1 y5 = some (.pointer x57) ∧ (
 ∃ x59 : Int, cell H_1 (Addr.add y6 5) = some (.int .i64 x59) ∧ (
 F26 x57 x59 H_1 (fun (r62 : Sl) (r63 : Int) (H60 : Hp) => 
 ∃ x65 : (Option Addr), cell H60 (Addr.add y5 1) = some (.pointer x65) ∧ (
 ∃ x67 : Int, cell H60 (Addr.add y6 5) = some (.int .i64 x67) ∧ (
 F27 x65 x67 H60 (fun (r70 : Sl) (r71 : Int) (H68 : Hp) => 
 ((decide (r63 = r71)) = true → (F12 r62 r70 H68 (fun (r76 : Bool) (H74 : Hp) => 
 Q r76 H74))) ∧
 ((decide (r63 = r71)) = false → (Q false H68)))))))))) ∧
 ((decide (x16 = 2)) = false → (((decide (x16 = 3)) = true → (∃ x79 : (Option Addr), cell H_1 y5 = some (.pointer x79) ∧ (
 F20 x79 H_1 (fun (r82 : Sl) (H80 : Hp) => 
 ∃ x84 : (Option Addr), cell H80 (Addr.add y5 1) = some (.pointer x84) ∧ (
 F28 x84 H80 (fun (r87 : Sl) (H85 : Hp) => 
 F12 r82 r87 H85 (fun (r90 : Bool) (H88 : Hp) => 
 Q r90 H88))))))) ∧
 ((decide (x16 = 3)) = false → (((decide (x16 = 4)) = true → (∃ x93 : (Option Addr), cell H_1 y5 = some (.pointer x93) ∧ (
 ∃ x95 : (Option Addr), cell H_1 (Addr.add y5 1) = some (.pointer x95) ∧ (
 F19 x93 H_1 (fun (r98 : Sl) (H96 : Hp) => 
 cell H96 (Addr.add y5 1) = some (.pointer x95) ∧ (
 F29 x95 H96 (fun (r102 : Sl) (H100 : Hp) => 
 F12 r98 r102 H100 (fun (r105 : Bool) (H103 : Hp) => 
 Q r105 H103)))))))) ∧
 ((decide (x16 = 4)) = false → (((decide (x16 = 5)) = true → (∃ x108 : (Option Addr), cell H_1 y5 = some (.pointer x108) ∧ (
 ∃ x110 : (Option Addr), cell H_1 (Addr.add y5 1) = some (.pointer x110) ∧ (
 F18 x108 H_1 (fun (r113 : Int) (H111 : Hp) => 
 cell H111 (Addr.add y5 1) = some (.pointer x110) ∧ (
 F30 x110 H111 (fun (r117 : Int) (H115 : Hp) => 
 Q (decide (r113 = r117)) H115))))))) ∧
 ((decide (x16 = 5)) = false → (Q true H_1)))))))))))))
def F7 (p0_0 : (Option Addr)) (p0_1 : (Option Addr)) (p1_0 : Int) (p1_1 : Bool) (p1_2 : ByteArray) (p1_3 : Int) (p1_4 : Sl) (p1_5 : Int) (H : Hp) (Q : Bool → Hp → Prop) : Prop :=
∀ H1 : Hp, H1 = Array.push H (.cells #[(.pointer p0_0), (.pointer p0_1)] 26) → (
 ∀ H3 : Hp, H3 = Array.push H1 (.cells #[(.int .i64 p1_0), (.bool p1_1), (.string p1_2), (.int .i64 p1_3), (Sl.v p1_4), (.int .i64 p1_5)] 34) → (
 ∃ x8 : (Option Addr), cell H3 ⟨H.size, 0, none⟩ = some (.pointer x8) ∧ (
 ((x8.isNone) = true → (F7_1 Q ⟨H.size, 0, none⟩ ⟨H1.size, 0, none⟩ true H3)) ∧
 ((x8.isNone) = false → (∃ x13 : (Option Addr), cell H3 (Addr.add ⟨H.size, 0, none⟩ 1) = some (.pointer x13) ∧ (
 F7_1 Q ⟨H.size, 0, none⟩ ⟨H1.size, 0, none⟩ (x13.isNone) H3))))))
set_option maxRecDepth 100000 in
set_option maxHeartbeats 4000000 in
theorem walk7 {w0 : World} {p0_0 : (Option Addr)} {p0_1 : (Option Addr)} {p1_0 : Int} {p1_1 : Bool} {p1_2 : ByteArray} {p1_3 : Int} {p1_4 : Sl} {p1_5 : Int} {H : Hp} {Q : Bool → Hp → Prop} (h : F7 p0_0 p0_1 p1_0 p1_1 p1_2 p1_3 p1_4 p1_5 H Q) :
    Good Try.prog w0 7 #[(.agg #[(.pointer p0_0), (.pointer p0_1)]), (.agg #[(.int .i64 p1_0), (.bool p1_1), (.string p1_2), (.int .i64 p1_3), (Sl.v p1_4), (.int .i64 p1_5)])] H (fun v H => ∃ (r0 : Bool) , v = (.bool r0) ∧ Q r0 H) := by
  unfold F7 at h
  refine Good.enter' (fn := Try.f7) Try.func7 rfl rfl rfl ?_
  refine HW.seq ?_
  refine HW.region ?_
  refine HList.ops' rfl (HOp.box (v := (.agg #[(.pointer p0_0), (.pointer p0_1)])) rfl) ?_
  rintro _ H1 ⟨rfl, e2⟩
  replace h := h H1 e2
  refine HList.ops' rfl (HOp.box (v := (.agg #[(.int .i64 p1_0), (.bool p1_1), (.string p1_2), (.int .i64 p1_3), (Sl.v p1_4), (.int .i64 p1_5)])) rfl) ?_
  rintro _ H3 ⟨rfl, e4⟩
  replace h := h H3 e4
  refine HList.vals (v := (.bool false)) rfl (HVal.assign' rfl) ?_
  refine HList.nil ?_
  refine nt ?_
  refine HW.seq ?_
  refine HW.cut (fun ρ H_1 => ∃ (y11 : Bool), Env.Is ρ [(2, (.pointer (some ⟨H.size, 0, none⟩))), (3, (.pointer (some ⟨H1.size, 0, none⟩))), (22, (.bool y11))] ∧ F7_1 Q ⟨H.size, 0, none⟩ ⟨H1.size, 0, none⟩ y11 H_1) ?_ ?_
  · refine HW.region ?_
    refine HList.vals (v := (.pointer (some ⟨H.size, 0, none⟩))) rfl (HVal.fieldAddr0 Try.runUnderlying26 rfl rfl Try.sizeOf23 rfl) ?_
    obtain ⟨x8, c7, h⟩ := h
    refine HList.vals (v := (.pointer x8)) rfl (HVal.load1 Try.isAgg23 rfl c7) ?_
    refine HList.vals (v := (.bool (x8.isNone))) rfl (HVal.eqlPN Try.underlying23 rfl rfl) ?_
    refine HList.vals (v := (.bool (x8.isNone))) rfl (HVal.move' rfl) ?_
    obtain ⟨hT, hF⟩ := h
    rcases Bool.eq_false_or_eq_true (x8.isNone) with hb9 | hb10
    · have h := hT hb9
      clear hT hF
      refine HList.gskips rfl rfl rfl rfl (congrArg Value.bool hb9) ?_
      refine HList.gskips rfl rfl rfl rfl (congrArg Value.bool hb9) ?_
      refine HList.gskips rfl rfl rfl rfl (congrArg Value.bool hb9) ?_
      refine HList.vals (v := (.bool true)) rfl (HVal.pickT rfl hb9 rfl) ?_
      refine HList.nil ?_
      refine nt ?_
      exact ⟨true, ⟨rfl, rfl, rfl, trivial⟩, h⟩
    · have h := hF hb10
      clear hT hF
      refine HList.gvals (v := (.pointer (some (Addr.add ⟨H.size, 0, none⟩ 1)))) rfl rfl rfl rfl (congrArg Value.bool hb10) (HVal.fieldAddr' Try.runUnderlying26 rfl rfl Try.sizeOf24 rfl) ?_
      obtain ⟨x13, c12, h⟩ := h
      refine HList.gvals (v := (.pointer x13)) rfl rfl rfl rfl (congrArg Value.bool hb10) (HVal.load1 Try.isAgg24 rfl c12) ?_
      refine HList.gvals (v := (.bool (x13.isNone))) rfl rfl rfl rfl (congrArg Value.bool hb10) (HVal.eqlPN Try.underlying24 rfl rfl) ?_
      refine HList.vals (v := (.bool (x13.isNone))) rfl (HVal.pickF rfl hb10 rfl) ?_
      refine HList.nil ?_
      refine nt ?_
      exact ⟨(x13.isNone), ⟨rfl, rfl, rfl, trivial⟩, h⟩
  · rintro ρ H_1 ⟨y11, hI, h⟩
    obtain ⟨ρ0, rfl⟩ : ∃ ρ0, ρ = (Env.set (Env.set (Env.set ρ0 22 (.bool y11)) 3 (.pointer (some ⟨H1.size, 0, none⟩))) 2 (.pointer (some ⟨H.size, 0, none⟩))) := ⟨ρ, hI.eq⟩
    clear hI; unfold F7_1 at h
    obtain ⟨hT, hF⟩ := h
    refine HW.cond y11 rfl (fun hb14 => ?_) (fun hb14 => ?_)
    · have h := hT hb14
      clear hT hF
      refine HW.seq ?_
      refine HW.region ?_
      refine HList.vals (v := (.bool true)) rfl (HVal.assign' rfl) ?_
      refine HList.nil ?_
      refine nt ?_
      refine HW.ret ?_
      refine tr ?_
      exact ⟨_, resOf1 rfl Res1.t, ⟨true, rfl, h⟩⟩
    · have h := hF hb14
      clear hT hF
      refine HW.skip ?_
      refine nt ?_
      refine HW.seq ?_
      refine HW.seq ?_
      refine HW.region ?_
      refine HList.vals (v := (.pointer (some ⟨H1.size, 0, none⟩))) rfl (HVal.fieldAddr0 Try.runUnderlying34 rfl rfl Try.sizeOf3 rfl) ?_
      obtain ⟨x16, c15, h⟩ := h
      refine HList.vals (v := (.int .i64 x16)) rfl (HVal.load1 Try.isAgg3 rfl c15) ?_
      refine HList.nil ?_
      refine nt ?_
      refine HW.block ?_
      refine HW.seq ?_
      refine HW.region ?_
      refine HList.vals (v := (.bool (decide (x16 = 1)))) rfl (HVal.eqlI rfl rfl) ?_
      refine HList.vals (v := (.bool (decide (x16 = 1)))) rfl (HVal.assign' rfl) ?_
      refine HList.nil ?_
      refine nt ?_
      obtain ⟨hT, hF⟩ := h
      refine HW.cond (decide (x16 = 1)) rfl (fun hb17 => ?_) (fun hb17 => ?_)
      · have h := hT hb17
        clear hT hF
        refine HW.seq ?_
        refine HW.draw mixed [(0, some []), (1, some [5]), (2, some []), (3, some [4]), (4, none), (5, none), (6, some []), (7, some []), (8, some []), (9, some []), (10, some [])] rfl (by kernel_rfl) (by kernel_rfl) ?_
        refine HPlan.takev (v := (.pointer (some ⟨H.size, 0, none⟩))) rfl rfl (fun _ => HVal.fieldAddr0 Try.runUnderlying26 rfl rfl Try.sizeOf23 rfl) ?_
        obtain ⟨x19, c18, h⟩ := h
        refine HPlan.takel (v := (.pointer x19)) (fun X => cell X ⟨H.size, 0, none⟩ = some (.pointer x19)) rfl rfl (fun _ hX => HVal.load1 Try.isAgg23 rfl hX) c18 ?_
        refine HPlan.takev (v := (.pointer (some (Addr.add ⟨H1.size, 0, none⟩ 2)))) rfl rfl (fun _ => HVal.fieldAddr' Try.runUnderlying34 rfl rfl Try.sizeOf32 rfl) ?_
        obtain ⟨x21, x22, x23, c20, h⟩ := h
        refine HPlan.takel (v := (.agg #[(.string x21), (.int .i64 x22), (Sl.v x23)])) (fun X => cells X (Addr.add ⟨H1.size, 0, none⟩ 2) [(.string x21), (.int .i64 x22), (Sl.v x23)] 0) rfl rfl (fun _ hX => HVal.loadN [(.string x21), (.int .i64 x22), (Sl.v x23)] Try.isAgg32 Try.sizeOf32 rfl hX) c20 ?_
        refine HPlan.ops' rfl rfl (HOp.call' 11 [(.agg #[(.string x21), (.int .i64 x22), (Sl.v x23)])] (cap := []) rfl rfl Try.call11 (walk11 h)) ?_
        rintro _ H24 ⟨r26, r27, r28, rfl, h⟩
        obtain ⟨s29, h⟩ := h
        refine ⟨SC_of ⟨fun e => absurd e (by decide), fun _ => s29, trivial⟩, ?_⟩
        refine HPlan.ops' rfl rfl (HOp.call' 23 [(.pointer x19), (.agg #[(.string r26), (.int .i64 r27), (Sl.v r28)])] (cap := []) rfl rfl Try.call23 (walk23 h)) ?_
        rintro _ H30 ⟨r32, r33, rfl, h⟩
        refine ⟨SC_of ⟨fun e => absurd e (by decide), fun e => absurd e (by decide), trivial⟩, ?_⟩
        refine HPlan.takev (v := (.tuple #[(Sl.v r32), (.int .i64 r33)])) rfl rfl (fun _ => HVal.move' rfl) ?_
        refine HPlan.takev (v := (Sl.v r32)) rfl rfl (fun _ => HVal.extract rfl rfl) ?_
        refine HPlan.takev (v := (.int .i64 r33)) rfl rfl (fun _ => HVal.extract rfl rfl) ?_
        refine HPlan.takev (v := (Sl.v r32)) rfl rfl (fun _ => HVal.assign' rfl) ?_
        refine HPlan.takev (v := (.int .i64 r33)) rfl rfl (fun _ => HVal.assign' rfl) ?_
        refine HPlan.done ?_
        refine nt ?_
        refine HW.seq ?_
        refine HW.draw mixed [(0, some []), (1, some [5]), (2, some []), (3, some [4]), (4, none), (5, none), (6, some []), (7, some []), (8, some []), (9, some []), (10, some [])] rfl (by kernel_rfl) (by kernel_rfl) ?_
        refine HPlan.takev (v := (.pointer (some (Addr.add ⟨H.size, 0, none⟩ 1)))) rfl rfl (fun _ => HVal.fieldAddr' Try.runUnderlying26 rfl rfl Try.sizeOf24 rfl) ?_
        obtain ⟨x35, c34, h⟩ := h
        refine HPlan.takel (v := (.pointer x35)) (fun X => cell X (Addr.add ⟨H.size, 0, none⟩ 1) = some (.pointer x35)) rfl rfl (fun _ hX => HVal.load1 Try.isAgg24 rfl hX) c34 ?_
        refine HPlan.takev (v := (.pointer (some (Addr.add ⟨H1.size, 0, none⟩ 2)))) rfl rfl (fun _ => HVal.fieldAddr' Try.runUnderlying34 rfl rfl Try.sizeOf32 rfl) ?_
        obtain ⟨x37, x38, x39, c36, h⟩ := h
        refine HPlan.takel (v := (.agg #[(.string x37), (.int .i64 x38), (Sl.v x39)])) (fun X => cells X (Addr.add ⟨H1.size, 0, none⟩ 2) [(.string x37), (.int .i64 x38), (Sl.v x39)] 0) rfl rfl (fun _ hX => HVal.loadN [(.string x37), (.int .i64 x38), (Sl.v x39)] Try.isAgg32 Try.sizeOf32 rfl hX) c36 ?_
        refine HPlan.ops' rfl rfl (HOp.call' 11 [(.agg #[(.string x37), (.int .i64 x38), (Sl.v x39)])] (cap := []) rfl rfl Try.call11 (walk11 h)) ?_
        rintro _ H40 ⟨r42, r43, r44, rfl, h⟩
        obtain ⟨s45, h⟩ := h
        refine ⟨SC_of ⟨fun e => absurd e (by decide), fun _ => s45, trivial⟩, ?_⟩
        refine HPlan.ops' rfl rfl (HOp.call' 25 [(.pointer x35), (.agg #[(.string r42), (.int .i64 r43), (Sl.v r44)])] (cap := []) rfl rfl Try.call25 (walk25 h)) ?_
        rintro _ H46 ⟨r48, r49, rfl, h⟩
        refine ⟨SC_of ⟨fun e => absurd e (by decide), fun e => absurd e (by decide), trivial⟩, ?_⟩
        refine HPlan.takev (v := (.tuple #[(Sl.v r48), (.int .i64 r49)])) rfl rfl (fun _ => HVal.move' rfl) ?_
        refine HPlan.takev (v := (Sl.v r48)) rfl rfl (fun _ => HVal.extract rfl rfl) ?_
        refine HPlan.takev (v := (.int .i64 r49)) rfl rfl (fun _ => HVal.extract rfl rfl) ?_
        refine HPlan.takev (v := (Sl.v r48)) rfl rfl (fun _ => HVal.assign' rfl) ?_
        refine HPlan.takev (v := (.int .i64 r49)) rfl rfl (fun _ => HVal.assign' rfl) ?_
        refine HPlan.done ?_
        refine nt ?_
        refine HW.seq ?_
        refine HW.region ?_
        refine HList.vals (v := (.int .i64 r33)) rfl (HVal.move' rfl) ?_
        refine HList.vals (v := (.int .i64 r49)) rfl (HVal.move' rfl) ?_
        refine HList.vals (v := (.bool (decide (r33 = r49)))) rfl (HVal.eqlI rfl rfl) ?_
        refine HList.vals (v := (.bool (decide (r33 = r49)))) rfl (HVal.move' rfl) ?_
        obtain ⟨hT, hF⟩ := h
        rcases Bool.eq_false_or_eq_true (decide (r33 = r49)) with hb50 | hb51
        · have h := hT hb50
          clear hT hF
          refine HList.gvals (v := (Sl.v r32)) rfl rfl rfl rfl (congrArg Value.bool hb50) (HVal.move' rfl) ?_
          refine HList.gvals (v := (Sl.v r48)) rfl rfl rfl rfl (congrArg Value.bool hb50) (HVal.move' rfl) ?_
          refine HList.gops rfl rfl rfl rfl (congrArg Value.bool hb50) (HOp.call' 12 [(Sl.v r32), (Sl.v r48)] (cap := []) rfl rfl Try.call12 (walk12 h)) ?_
          rintro _ H52 ⟨r54, rfl, h⟩
          refine HList.vals (v := (.bool r54)) rfl (HVal.pickT rfl hb50 rfl) ?_
          refine HList.vals (v := (.bool r54)) rfl (HVal.assign' rfl) ?_
          refine HList.nil ?_
          refine nt ?_
          refine HW.ret ?_
          refine br ?_
          refine tr ?_
          exact ⟨_, resOf1 rfl Res1.t, ⟨r54, rfl, h⟩⟩
        · have h := hF hb51
          clear hT hF
          refine HList.gskips rfl rfl rfl rfl (congrArg Value.bool hb51) ?_
          refine HList.gskips rfl rfl rfl rfl (congrArg Value.bool hb51) ?_
          refine HList.gskips rfl rfl rfl rfl (congrArg Value.bool hb51) ?_
          refine HList.vals (v := (.bool false)) rfl (HVal.pickF rfl hb51 rfl) ?_
          refine HList.vals (v := (.bool false)) rfl (HVal.assign' rfl) ?_
          refine HList.nil ?_
          refine nt ?_
          refine HW.ret ?_
          refine br ?_
          refine tr ?_
          exact ⟨_, resOf1 rfl Res1.t, ⟨false, rfl, h⟩⟩
      · have h := hF hb17
        clear hT hF
        refine HW.seq ?_
        refine HW.region ?_
        refine HList.vals (v := (.bool (decide (x16 = 2)))) rfl (HVal.eqlI rfl rfl) ?_
        refine HList.vals (v := (.bool (decide (x16 = 2)))) rfl (HVal.assign' rfl) ?_
        refine HList.nil ?_
        refine nt ?_
        obtain ⟨hT, hF⟩ := h
        refine HW.cond (decide (x16 = 2)) rfl (fun hb55 => ?_) (fun hb55 => ?_)
        · have h := hT hb55
          clear hT hF
          refine HW.seq ?_
          refine HW.region ?_
          refine HList.vals (v := (.pointer (some ⟨H.size, 0, none⟩))) rfl (HVal.fieldAddr0 Try.runUnderlying26 rfl rfl Try.sizeOf23 rfl) ?_
          obtain ⟨x57, c56, h⟩ := h
          refine HList.vals (v := (.pointer x57)) rfl (HVal.load1 Try.isAgg23 rfl c56) ?_
          refine HList.vals (v := (.pointer (some (Addr.add ⟨H1.size, 0, none⟩ 5)))) rfl (HVal.fieldAddr' Try.runUnderlying34 rfl rfl Try.sizeOf2 rfl) ?_
          obtain ⟨x59, c58, h⟩ := h
          refine HList.vals (v := (.int .i64 x59)) rfl (HVal.load1 Try.isAgg2 rfl c58) ?_
          refine HList.ops' rfl (HOp.call' 26 [(.pointer x57), (.int .i64 x59)] (cap := []) rfl rfl Try.call26 (walk26 h)) ?_
          rintro _ H60 ⟨r62, r63, rfl, h⟩
          refine HList.vals (v := (.tuple #[(Sl.v r62), (.int .i64 r63)])) rfl (HVal.move' rfl) ?_
          refine HList.vals (v := (Sl.v r62)) rfl (HVal.extract rfl rfl) ?_
          refine HList.vals (v := (.int .i64 r63)) rfl (HVal.extract rfl rfl) ?_
          refine HList.vals (v := (Sl.v r62)) rfl (HVal.assign' rfl) ?_
          refine HList.vals (v := (.int .i64 r63)) rfl (HVal.assign' rfl) ?_
          refine HList.nil ?_
          refine nt ?_
          refine HW.seq ?_
          refine HW.region ?_
          refine HList.vals (v := (.pointer (some (Addr.add ⟨H.size, 0, none⟩ 1)))) rfl (HVal.fieldAddr' Try.runUnderlying26 rfl rfl Try.sizeOf24 rfl) ?_
          obtain ⟨x65, c64, h⟩ := h
          refine HList.vals (v := (.pointer x65)) rfl (HVal.load1 Try.isAgg24 rfl c64) ?_
          refine HList.vals (v := (.pointer (some (Addr.add ⟨H1.size, 0, none⟩ 5)))) rfl (HVal.fieldAddr' Try.runUnderlying34 rfl rfl Try.sizeOf2 rfl) ?_
          obtain ⟨x67, c66, h⟩ := h
          refine HList.vals (v := (.int .i64 x67)) rfl (HVal.load1 Try.isAgg2 rfl c66) ?_
          refine HList.ops' rfl (HOp.call' 27 [(.pointer x65), (.int .i64 x67)] (cap := []) rfl rfl Try.call27 (walk27 h)) ?_
          rintro _ H68 ⟨r70, r71, rfl, h⟩
          refine HList.vals (v := (.tuple #[(Sl.v r70), (.int .i64 r71)])) rfl (HVal.move' rfl) ?_
          refine HList.vals (v := (Sl.v r70)) rfl (HVal.extract rfl rfl) ?_
          refine HList.vals (v := (.int .i64 r71)) rfl (HVal.extract rfl rfl) ?_
          refine HList.vals (v := (Sl.v r70)) rfl (HVal.assign' rfl) ?_
          refine HList.vals (v := (.int .i64 r71)) rfl (HVal.assign' rfl) ?_
          refine HList.nil ?_
          refine nt ?_
          refine HW.seq ?_
          refine HW.region ?_
          refine HList.vals (v := (.int .i64 r63)) rfl (HVal.move' rfl) ?_
          refine HList.vals (v := (.int .i64 r71)) rfl (HVal.move' rfl) ?_
          refine HList.vals (v := (.bool (decide (r63 = r71)))) rfl (HVal.eqlI rfl rfl) ?_
          refine HList.vals (v := (.bool (decide (r63 = r71)))) rfl (HVal.move' rfl) ?_
          obtain ⟨hT, hF⟩ := h
          rcases Bool.eq_false_or_eq_true (decide (r63 = r71)) with hb72 | hb73
          · have h := hT hb72
            clear hT hF
            refine HList.gvals (v := (Sl.v r62)) rfl rfl rfl rfl (congrArg Value.bool hb72) (HVal.move' rfl) ?_
            refine HList.gvals (v := (Sl.v r70)) rfl rfl rfl rfl (congrArg Value.bool hb72) (HVal.move' rfl) ?_
            refine HList.gops rfl rfl rfl rfl (congrArg Value.bool hb72) (HOp.call' 12 [(Sl.v r62), (Sl.v r70)] (cap := []) rfl rfl Try.call12 (walk12 h)) ?_
            rintro _ H74 ⟨r76, rfl, h⟩
            refine HList.vals (v := (.bool r76)) rfl (HVal.pickT rfl hb72 rfl) ?_
            refine HList.vals (v := (.bool r76)) rfl (HVal.assign' rfl) ?_
            refine HList.nil ?_
            refine nt ?_
            refine HW.ret ?_
            refine br ?_
            refine tr ?_
            exact ⟨_, resOf1 rfl Res1.t, ⟨r76, rfl, h⟩⟩
          · have h := hF hb73
            clear hT hF
            refine HList.gskips rfl rfl rfl rfl (congrArg Value.bool hb73) ?_
            refine HList.gskips rfl rfl rfl rfl (congrArg Value.bool hb73) ?_
            refine HList.gskips rfl rfl rfl rfl (congrArg Value.bool hb73) ?_
            refine HList.vals (v := (.bool false)) rfl (HVal.pickF rfl hb73 rfl) ?_
            refine HList.vals (v := (.bool false)) rfl (HVal.assign' rfl) ?_
            refine HList.nil ?_
            refine nt ?_
            refine HW.ret ?_
            refine br ?_
            refine tr ?_
            exact ⟨_, resOf1 rfl Res1.t, ⟨false, rfl, h⟩⟩
        · have h := hF hb55
          clear hT hF
          refine HW.seq ?_
          refine HW.region ?_
          refine HList.vals (v := (.bool (decide (x16 = 3)))) rfl (HVal.eqlI rfl rfl) ?_
          refine HList.vals (v := (.bool (decide (x16 = 3)))) rfl (HVal.assign' rfl) ?_
          refine HList.nil ?_
          refine nt ?_
          obtain ⟨hT, hF⟩ := h
          refine HW.cond (decide (x16 = 3)) rfl (fun hb77 => ?_) (fun hb77 => ?_)
          · have h := hT hb77
            clear hT hF
            refine HW.seq ?_
            refine HW.region ?_
            refine HList.vals (v := (.pointer (some ⟨H.size, 0, none⟩))) rfl (HVal.fieldAddr0 Try.runUnderlying26 rfl rfl Try.sizeOf23 rfl) ?_
            obtain ⟨x79, c78, h⟩ := h
            refine HList.vals (v := (.pointer x79)) rfl (HVal.load1 Try.isAgg23 rfl c78) ?_
            refine HList.ops' rfl (HOp.call' 20 [(.pointer x79)] (cap := []) rfl rfl Try.call20 (walk20 h)) ?_
            rintro _ H80 ⟨r82, rfl, h⟩
            refine HList.vals (v := (Sl.v r82)) rfl (HVal.assign' rfl) ?_
            refine HList.nil ?_
            refine nt ?_
            refine HW.seq ?_
            refine HW.region ?_
            refine HList.vals (v := (.pointer (some (Addr.add ⟨H.size, 0, none⟩ 1)))) rfl (HVal.fieldAddr' Try.runUnderlying26 rfl rfl Try.sizeOf24 rfl) ?_
            obtain ⟨x84, c83, h⟩ := h
            refine HList.vals (v := (.pointer x84)) rfl (HVal.load1 Try.isAgg24 rfl c83) ?_
            refine HList.ops' rfl (HOp.call' 28 [(.pointer x84)] (cap := []) rfl rfl Try.call28 (walk28 h)) ?_
            rintro _ H85 ⟨r87, rfl, h⟩
            refine HList.vals (v := (Sl.v r87)) rfl (HVal.assign' rfl) ?_
            refine HList.nil ?_
            refine nt ?_
            refine HW.seq ?_
            refine HW.region ?_
            refine HList.vals (v := (Sl.v r82)) rfl (HVal.move' rfl) ?_
            refine HList.vals (v := (Sl.v r87)) rfl (HVal.move' rfl) ?_
            refine HList.ops' rfl (HOp.call' 12 [(Sl.v r82), (Sl.v r87)] (cap := []) rfl rfl Try.call12 (walk12 h)) ?_
            rintro _ H88 ⟨r90, rfl, h⟩
            refine HList.vals (v := (.bool r90)) rfl (HVal.assign' rfl) ?_
            refine HList.nil ?_
            refine nt ?_
            refine HW.ret ?_
            refine br ?_
            refine tr ?_
            exact ⟨_, resOf1 rfl Res1.t, ⟨r90, rfl, h⟩⟩
          · have h := hF hb77
            clear hT hF
            refine HW.seq ?_
            refine HW.region ?_
            refine HList.vals (v := (.bool (decide (x16 = 4)))) rfl (HVal.eqlI rfl rfl) ?_
            refine HList.vals (v := (.bool (decide (x16 = 4)))) rfl (HVal.assign' rfl) ?_
            refine HList.nil ?_
            refine nt ?_
            obtain ⟨hT, hF⟩ := h
            refine HW.cond (decide (x16 = 4)) rfl (fun hb91 => ?_) (fun hb91 => ?_)
            · have h := hT hb91
              clear hT hF
              refine HW.seq ?_
              refine HW.draw mixed [(0, some []), (1, some [2]), (3, some []), (4, some [5]), (2, none), (5, none), (6, none), (7, some [])] rfl (by kernel_rfl) (by kernel_rfl) ?_
              refine HPlan.takev (v := (.pointer (some ⟨H.size, 0, none⟩))) rfl rfl (fun _ => HVal.fieldAddr0 Try.runUnderlying26 rfl rfl Try.sizeOf23 rfl) ?_
              obtain ⟨x93, c92, h⟩ := h
              refine HPlan.takel (v := (.pointer x93)) (fun X => cell X ⟨H.size, 0, none⟩ = some (.pointer x93)) rfl rfl (fun _ hX => HVal.load1 Try.isAgg23 rfl hX) c92 ?_
              refine HPlan.takev (v := (.pointer (some (Addr.add ⟨H.size, 0, none⟩ 1)))) rfl rfl (fun _ => HVal.fieldAddr' Try.runUnderlying26 rfl rfl Try.sizeOf24 rfl) ?_
              obtain ⟨x95, c94, h⟩ := h
              refine HPlan.takel (v := (.pointer x95)) (fun X => cell X (Addr.add ⟨H.size, 0, none⟩ 1) = some (.pointer x95)) rfl rfl (fun _ hX => HVal.load1 Try.isAgg24 rfl hX) c94 ?_
              refine HPlan.ops' rfl rfl (HOp.call' 19 [(.pointer x93)] (cap := []) rfl rfl Try.call19 (walk19 h)) ?_
              rintro _ H96 ⟨r98, rfl, h⟩
              obtain ⟨s99, h⟩ := h
              refine ⟨SC_of ⟨fun _ => s99, fun e => absurd e (by decide), trivial⟩, ?_⟩
              refine HPlan.ops' rfl rfl (HOp.call' 29 [(.pointer x95)] (cap := []) rfl rfl Try.call29 (walk29 h)) ?_
              rintro _ H100 ⟨r102, rfl, h⟩
              refine ⟨SC_of ⟨fun e => absurd e (by decide), fun e => absurd e (by decide), trivial⟩, ?_⟩
              refine HPlan.ops' rfl rfl (HOp.call' 12 [(Sl.v r98), (Sl.v r102)] (cap := []) rfl rfl Try.call12 (walk12 h)) ?_
              rintro _ H103 ⟨r105, rfl, h⟩
              refine ⟨SC_of ⟨fun e => absurd e (by decide), fun e => absurd e (by decide), trivial⟩, ?_⟩
              refine HPlan.takev (v := (.bool r105)) rfl rfl (fun _ => HVal.assign' rfl) ?_
              refine HPlan.done ?_
              refine nt ?_
              refine HW.ret ?_
              refine br ?_
              refine tr ?_
              exact ⟨_, resOf1 rfl Res1.t, ⟨r105, rfl, h⟩⟩
            · have h := hF hb91
              clear hT hF
              refine HW.seq ?_
              refine HW.region ?_
              refine HList.vals (v := (.bool (decide (x16 = 5)))) rfl (HVal.eqlI rfl rfl) ?_
              refine HList.vals (v := (.bool (decide (x16 = 5)))) rfl (HVal.assign' rfl) ?_
              refine HList.nil ?_
              refine nt ?_
              obtain ⟨hT, hF⟩ := h
              refine HW.cond (decide (x16 = 5)) rfl (fun hb106 => ?_) (fun hb106 => ?_)
              · have h := hT hb106
                clear hT hF
                refine HW.seq ?_
                refine HW.draw mixed [(0, some []), (1, some [2]), (3, some []), (4, some [5]), (2, none), (5, none), (6, some []), (7, some [])] rfl (by kernel_rfl) (by kernel_rfl) ?_
                refine HPlan.takev (v := (.pointer (some ⟨H.size, 0, none⟩))) rfl rfl (fun _ => HVal.fieldAddr0 Try.runUnderlying26 rfl rfl Try.sizeOf23 rfl) ?_
                obtain ⟨x108, c107, h⟩ := h
                refine HPlan.takel (v := (.pointer x108)) (fun X => cell X ⟨H.size, 0, none⟩ = some (.pointer x108)) rfl rfl (fun _ hX => HVal.load1 Try.isAgg23 rfl hX) c107 ?_
                refine HPlan.takev (v := (.pointer (some (Addr.add ⟨H.size, 0, none⟩ 1)))) rfl rfl (fun _ => HVal.fieldAddr' Try.runUnderlying26 rfl rfl Try.sizeOf24 rfl) ?_
                obtain ⟨x110, c109, h⟩ := h
                refine HPlan.takel (v := (.pointer x110)) (fun X => cell X (Addr.add ⟨H.size, 0, none⟩ 1) = some (.pointer x110)) rfl rfl (fun _ hX => HVal.load1 Try.isAgg24 rfl hX) c109 ?_
                refine HPlan.ops' rfl rfl (HOp.call' 18 [(.pointer x108)] (cap := []) rfl rfl Try.call18 (walk18 h)) ?_
                rintro _ H111 ⟨r113, rfl, h⟩
                obtain ⟨s114, h⟩ := h
                refine ⟨SC_of ⟨fun _ => s114, fun e => absurd e (by decide), trivial⟩, ?_⟩
                refine HPlan.ops' rfl rfl (HOp.call' 30 [(.pointer x110)] (cap := []) rfl rfl Try.call30 (walk30 h)) ?_
                rintro _ H115 ⟨r117, rfl, h⟩
                refine ⟨SC_of ⟨fun e => absurd e (by decide), fun e => absurd e (by decide), trivial⟩, ?_⟩
                refine HPlan.takev (v := (.bool (decide (r113 = r117)))) rfl rfl (fun _ => HVal.eqlI rfl rfl) ?_
                refine HPlan.takev (v := (.bool (decide (r113 = r117)))) rfl rfl (fun _ => HVal.assign' rfl) ?_
                refine HPlan.done ?_
                refine nt ?_
                refine HW.ret ?_
                refine br ?_
                refine tr ?_
                exact ⟨_, resOf1 rfl Res1.t, ⟨(decide (r113 = r117)), rfl, h⟩⟩
              · have h := hF hb106
                clear hT hF
                refine HW.skip ?_
                refine nb ?_
                refine nt ?_
                refine HW.seq ?_
                refine HW.region ?_
                refine HList.vals (v := (.bool true)) rfl (HVal.assign' rfl) ?_
                refine HList.nil ?_
                refine nt ?_
                refine HW.ret ?_
                exact ⟨_, resOf1 rfl Res1.t, ⟨true, rfl, h⟩⟩

def F6_1 (Q : Bool → Hp → Prop) (y5 : (Option Addr)) (y8 : Bool) (H_1 : Hp) : Prop :=
(y8 = true → (Q false H_1)) ∧
 (y8 = false → (F24 S_a 5 H_1 (fun (r12 : ByteArray) (r13 : Int) (r14 : Sl) (H10 : Hp) => 
 F23 y5 r12 r13 r14 H10 (fun (r17 : Sl) (r18 : Int) (H15 : Hp) => 
 F24 S_b 12 H15 (fun (r21 : ByteArray) (r22 : Int) (r23 : Sl) (H19 : Hp) => 
 F23 y5 r21 r22 r23 H19 (fun (r26 : Sl) (r27 : Int) (H24 : Hp) => 
 F24 S_c 3 H24 (fun (r30 : ByteArray) (r31 : Int) (r32 : Sl) (H28 : Hp) => 
 F23 y5 r30 r31 r32 H28 (fun (r35 : Sl) (r36 : Int) (H33 : Hp) => 
 F24 S_d 1 H33 (fun (r39 : ByteArray) (r40 : Int) (r41 : Sl) (H37 : Hp) => 
 F23 y5 r39 r40 r41 H37 (fun (r44 : Sl) (r45 : Int) (H42 : Hp) => 
 F24 S_e 13 H42 (fun (r48 : ByteArray) (r49 : Int) (r50 : Sl) (H46 : Hp) => 
 F23 y5 r48 r49 r50 H46 (fun (r53 : Sl) (r54 : Int) (H51 : Hp) => 
 ((decide (r18 = 0)) = true → (((decide (r27 = 0)) = true → (((decide (r36 = 0)) = true → (((decide (r45 = 180)) = true → (((decide (r54 = 0)) = true → (((decide ((IntKind.i64.wrap ((IntKind.i64.wrap (((r17).n : Int) + ((r26).n : Int))) + ((r35).n : Int))) = 0)) = true → (F24 S_c 3 H51 (fun (r69 : ByteArray) (r70 : Int) (r71 : Sl) (H67 : Hp) => 
 ∀ H72 : Hp, H72 = Array.push H67 (.cells #[(.string r69), (.int .i64 r70), (Sl.v r71)] 32) → (
 F12 r53 (Sl.mk (some ⟨H67.size, 0, none⟩) 1 1) H72 (fun (r76 : Bool) (H74 : Hp) => 
 (r76 = true → (F18 y5 H74 (fun (r81 : Int) (H79 : Hp) => 
 ((decide (r81 = 3)) = true → (F19 y5 H79 (fun (r86 : Sl) (H84 : Hp) => 
 F24 S_a 5 H84 (fun (r89 : ByteArray) (r90 : Int) (r91 : Sl) (H87 : Hp) => 
 F24 S_b 12 H87 (fun (r94 : ByteArray) (r95 : Int) (r96 : Sl) (H92 : Hp) => 
 F24 S_e 13 H92 (fun (r99 : ByteArray) (r100 : Int) (r101 : Sl) (H97 : Hp) => 
 ∀ H102 : Hp, H102 = Array.push H97 (.cells #[(.string r89), (.int .i64 r90), (Sl.v r91), (.string r94), (.int .i64 r95), (Sl.v r96), (.string r99), (.int .i64 r100), (Sl.v r101)] 32) → (
 F12 r86 (Sl.mk (some ⟨H97.size, 0, none⟩) 3 3) H102 (fun (r106 : Bool) (H104 : Hp) => 
 Q r106 H104)))))))) ∧
 ((decide (r81 = 3)) = false → (Q false H79))))) ∧
 (r76 = false → (Q false H74))))))) ∧
 ((decide ((IntKind.i64.wrap ((IntKind.i64.wrap (((r17).n : Int) + ((r26).n : Int))) + ((r35).n : Int))) = 0)) = false → (Q false H51)))) ∧
 ((decide (r54 = 0)) = false → (Q false H51)))) ∧
 ((decide (r45 = 180)) = false → (Q false H51)))) ∧
 ((decide (r36 = 0)) = false → (Q false H51)))) ∧
 ((decide (r27 = 0)) = false → (Q false H51)))) ∧
 ((decide (r18 = 0)) = false → (Q false H51))))))))))))))
def F6 (H : Hp) (Q : Bool → Hp → Prop) : Prop :=
F8 10 3 H (fun (r3 : (Option Addr)) (r4 : Int) (H1 : Hp) => 
 ((r3.isNone) = true → (F6_1 Q r3 true H1)) ∧
 ((r3.isNone) = false → (F6_1 Q r3 (decide (r4 ≠ 0)) H1)))
set_option maxRecDepth 100000 in
set_option maxHeartbeats 4000000 in
theorem walk6 {w0 : World} {H : Hp} {Q : Bool → Hp → Prop} (h : F6 H Q) :
    Good Try.prog w0 6 #[] H (fun v H => ∃ (r0 : Bool) , v = (.bool r0) ∧ Q r0 H) := by
  unfold F6 at h
  refine Good.enter' (fn := Try.f6) Try.func6 rfl rfl rfl ?_
  refine HW.seq ?_
  refine HW.region ?_
  refine HList.vals (v := (.bool false)) rfl (HVal.assign' rfl) ?_
  refine HList.nil ?_
  refine nt ?_
  refine HW.seq ?_
  refine HW.region ?_
  refine HList.ops' rfl (HOp.call' 8 [(.int .i64 10), (.int .i64 3)] (cap := []) rfl rfl Try.call8 (walk8 h)) ?_
  rintro _ H1 ⟨r3, r4, rfl, h⟩
  refine HList.vals (v := (.tuple #[(.pointer r3), (.int .i64 r4)])) rfl (HVal.move' rfl) ?_
  refine HList.vals (v := (.pointer r3)) rfl (HVal.extract rfl rfl) ?_
  refine HList.vals (v := (.int .i64 r4)) rfl (HVal.extract rfl rfl) ?_
  refine HList.vals (v := (.pointer r3)) rfl (HVal.assign' rfl) ?_
  refine HList.vals (v := (.int .i64 r4)) rfl (HVal.assign' rfl) ?_
  refine HList.nil ?_
  refine nt ?_
  refine HW.seq ?_
  refine HW.cut (fun ρ H_1 => ∃ (y8 : Bool), Env.Is ρ [(1, (.pointer r3)), (21, (.bool y8))] ∧ F6_1 Q r3 y8 H_1) ?_ ?_
  · refine HW.region ?_
    refine HList.vals (v := (.pointer r3)) rfl (HVal.move' rfl) ?_
    refine HList.vals (v := (.bool (r3.isNone))) rfl (HVal.eqlPN Try.underlying23 rfl rfl) ?_
    refine HList.vals (v := (.bool (r3.isNone))) rfl (HVal.move' rfl) ?_
    obtain ⟨hT, hF⟩ := h
    rcases Bool.eq_false_or_eq_true (r3.isNone) with hb6 | hb7
    · have h := hT hb6
      clear hT hF
      refine HList.gskips rfl rfl rfl rfl (congrArg Value.bool hb6) ?_
      refine HList.gskips rfl rfl rfl rfl (congrArg Value.bool hb6) ?_
      refine HList.vals (v := (.bool true)) rfl (HVal.pickT rfl hb6 rfl) ?_
      refine HList.nil ?_
      refine nt ?_
      exact ⟨true, ⟨rfl, rfl, trivial⟩, h⟩
    · have h := hF hb7
      clear hT hF
      refine HList.gvals (v := (.int .i64 r4)) rfl rfl rfl rfl (congrArg Value.bool hb7) (HVal.move' rfl) ?_
      refine HList.gvals (v := (.bool (decide (r4 ≠ 0)))) rfl rfl rfl rfl (congrArg Value.bool hb7) (HVal.neqI rfl rfl) ?_
      refine HList.vals (v := (.bool (decide (r4 ≠ 0)))) rfl (HVal.pickF rfl hb7 rfl) ?_
      refine HList.nil ?_
      refine nt ?_
      exact ⟨(decide (r4 ≠ 0)), ⟨rfl, rfl, trivial⟩, h⟩
  · rintro ρ H_1 ⟨y8, hI, h⟩
    obtain ⟨ρ0, rfl⟩ : ∃ ρ0, ρ = (Env.set (Env.set ρ0 21 (.bool y8)) 1 (.pointer r3)) := ⟨ρ, hI.eq⟩
    clear hI; unfold F6_1 at h
    obtain ⟨hT, hF⟩ := h
    refine HW.cond y8 rfl (fun hb9 => ?_) (fun hb9 => ?_)
    · have h := hT hb9
      clear hT hF
      refine HW.seq ?_
      refine HW.region ?_
      refine HList.vals (v := (.bool false)) rfl (HVal.assign' rfl) ?_
      refine HList.nil ?_
      refine nt ?_
      refine HW.ret ?_
      refine tr ?_
      exact ⟨_, resOf1 rfl Res1.t, ⟨false, rfl, h⟩⟩
    · have h := hF hb9
      clear hT hF
      refine HW.skip ?_
      refine nt ?_
      refine HW.seq ?_
      refine HW.region ?_
      refine HList.vals (v := (.pointer r3)) rfl (HVal.move' rfl) ?_
      refine HList.ops' rfl (HOp.call' 24 [(.string S_a), (.int .i64 5)] (cap := []) rfl rfl Try.call24 (walk24 h)) ?_
      rintro _ H10 ⟨r12, r13, r14, rfl, h⟩
      refine HList.ops' rfl (HOp.call' 23 [(.pointer r3), (.agg #[(.string r12), (.int .i64 r13), (Sl.v r14)])] (cap := []) rfl rfl Try.call23 (walk23 h)) ?_
      rintro _ H15 ⟨r17, r18, rfl, h⟩
      refine HList.vals (v := (.tuple #[(Sl.v r17), (.int .i64 r18)])) rfl (HVal.move' rfl) ?_
      refine HList.vals (v := (Sl.v r17)) rfl (HVal.extract rfl rfl) ?_
      refine HList.vals (v := (.int .i64 r18)) rfl (HVal.extract rfl rfl) ?_
      refine HList.vals (v := (Sl.v r17)) rfl (HVal.assign' rfl) ?_
      refine HList.vals (v := (.int .i64 r18)) rfl (HVal.assign' rfl) ?_
      refine HList.nil ?_
      refine nt ?_
      refine HW.seq ?_
      refine HW.region ?_
      refine HList.vals (v := (.pointer r3)) rfl (HVal.move' rfl) ?_
      refine HList.ops' rfl (HOp.call' 24 [(.string S_b), (.int .i64 12)] (cap := []) rfl rfl Try.call24 (walk24 h)) ?_
      rintro _ H19 ⟨r21, r22, r23, rfl, h⟩
      refine HList.ops' rfl (HOp.call' 23 [(.pointer r3), (.agg #[(.string r21), (.int .i64 r22), (Sl.v r23)])] (cap := []) rfl rfl Try.call23 (walk23 h)) ?_
      rintro _ H24 ⟨r26, r27, rfl, h⟩
      refine HList.vals (v := (.tuple #[(Sl.v r26), (.int .i64 r27)])) rfl (HVal.move' rfl) ?_
      refine HList.vals (v := (Sl.v r26)) rfl (HVal.extract rfl rfl) ?_
      refine HList.vals (v := (.int .i64 r27)) rfl (HVal.extract rfl rfl) ?_
      refine HList.vals (v := (Sl.v r26)) rfl (HVal.assign' rfl) ?_
      refine HList.vals (v := (.int .i64 r27)) rfl (HVal.assign' rfl) ?_
      refine HList.nil ?_
      refine nt ?_
      refine HW.seq ?_
      refine HW.region ?_
      refine HList.vals (v := (.pointer r3)) rfl (HVal.move' rfl) ?_
      refine HList.ops' rfl (HOp.call' 24 [(.string S_c), (.int .i64 3)] (cap := []) rfl rfl Try.call24 (walk24 h)) ?_
      rintro _ H28 ⟨r30, r31, r32, rfl, h⟩
      refine HList.ops' rfl (HOp.call' 23 [(.pointer r3), (.agg #[(.string r30), (.int .i64 r31), (Sl.v r32)])] (cap := []) rfl rfl Try.call23 (walk23 h)) ?_
      rintro _ H33 ⟨r35, r36, rfl, h⟩
      refine HList.vals (v := (.tuple #[(Sl.v r35), (.int .i64 r36)])) rfl (HVal.move' rfl) ?_
      refine HList.vals (v := (Sl.v r35)) rfl (HVal.extract rfl rfl) ?_
      refine HList.vals (v := (.int .i64 r36)) rfl (HVal.extract rfl rfl) ?_
      refine HList.vals (v := (Sl.v r35)) rfl (HVal.assign' rfl) ?_
      refine HList.vals (v := (.int .i64 r36)) rfl (HVal.assign' rfl) ?_
      refine HList.nil ?_
      refine nt ?_
      refine HW.seq ?_
      refine HW.region ?_
      refine HList.vals (v := (.pointer r3)) rfl (HVal.move' rfl) ?_
      refine HList.ops' rfl (HOp.call' 24 [(.string S_d), (.int .i64 1)] (cap := []) rfl rfl Try.call24 (walk24 h)) ?_
      rintro _ H37 ⟨r39, r40, r41, rfl, h⟩
      refine HList.ops' rfl (HOp.call' 23 [(.pointer r3), (.agg #[(.string r39), (.int .i64 r40), (Sl.v r41)])] (cap := []) rfl rfl Try.call23 (walk23 h)) ?_
      rintro _ H42 ⟨r44, r45, rfl, h⟩
      refine HList.vals (v := (.tuple #[(Sl.v r44), (.int .i64 r45)])) rfl (HVal.move' rfl) ?_
      refine HList.vals (v := (Sl.v r44)) rfl (HVal.extract rfl rfl) ?_
      refine HList.vals (v := (.int .i64 r45)) rfl (HVal.extract rfl rfl) ?_
      refine HList.vals (v := (Sl.v r44)) rfl (HVal.assign' rfl) ?_
      refine HList.vals (v := (.int .i64 r45)) rfl (HVal.assign' rfl) ?_
      refine HList.nil ?_
      refine nt ?_
      refine HW.seq ?_
      refine HW.region ?_
      refine HList.vals (v := (.pointer r3)) rfl (HVal.move' rfl) ?_
      refine HList.ops' rfl (HOp.call' 24 [(.string S_e), (.int .i64 13)] (cap := []) rfl rfl Try.call24 (walk24 h)) ?_
      rintro _ H46 ⟨r48, r49, r50, rfl, h⟩
      refine HList.ops' rfl (HOp.call' 23 [(.pointer r3), (.agg #[(.string r48), (.int .i64 r49), (Sl.v r50)])] (cap := []) rfl rfl Try.call23 (walk23 h)) ?_
      rintro _ H51 ⟨r53, r54, rfl, h⟩
      refine HList.vals (v := (.tuple #[(Sl.v r53), (.int .i64 r54)])) rfl (HVal.move' rfl) ?_
      refine HList.vals (v := (Sl.v r53)) rfl (HVal.extract rfl rfl) ?_
      refine HList.vals (v := (.int .i64 r54)) rfl (HVal.extract rfl rfl) ?_
      refine HList.vals (v := (Sl.v r53)) rfl (HVal.assign' rfl) ?_
      refine HList.vals (v := (.int .i64 r54)) rfl (HVal.assign' rfl) ?_
      refine HList.nil ?_
      refine nt ?_
      refine HW.seq ?_
      refine HW.region ?_
      refine HList.vals (v := (.int .i64 r18)) rfl (HVal.move' rfl) ?_
      refine HList.vals (v := (.bool (decide (r18 = 0)))) rfl (HVal.eqlI rfl rfl) ?_
      refine HList.vals (v := (.bool (decide (r18 = 0)))) rfl (HVal.move' rfl) ?_
      obtain ⟨hT, hF⟩ := h
      rcases Bool.eq_false_or_eq_true (decide (r18 = 0)) with hb55 | hb56
      · have h := hT hb55
        clear hT hF
        refine HList.gvals (v := (.int .i64 r27)) rfl rfl rfl rfl (congrArg Value.bool hb55) (HVal.move' rfl) ?_
        refine HList.gvals (v := (.bool (decide (r27 = 0)))) rfl rfl rfl rfl (congrArg Value.bool hb55) (HVal.eqlI rfl rfl) ?_
        refine HList.vals (v := (.bool (decide (r27 = 0)))) rfl (HVal.pickT rfl hb55 rfl) ?_
        refine HList.vals (v := (.bool (decide (r27 = 0)))) rfl (HVal.move' rfl) ?_
        obtain ⟨hT, hF⟩ := h
        rcases Bool.eq_false_or_eq_true (decide (r27 = 0)) with hb57 | hb58
        · have h := hT hb57
          clear hT hF
          refine HList.gvals (v := (.int .i64 r36)) rfl rfl rfl rfl (congrArg Value.bool hb57) (HVal.move' rfl) ?_
          refine HList.gvals (v := (.bool (decide (r36 = 0)))) rfl rfl rfl rfl (congrArg Value.bool hb57) (HVal.eqlI rfl rfl) ?_
          refine HList.vals (v := (.bool (decide (r36 = 0)))) rfl (HVal.pickT rfl hb57 rfl) ?_
          refine HList.vals (v := (.bool (decide (r36 = 0)))) rfl (HVal.move' rfl) ?_
          obtain ⟨hT, hF⟩ := h
          rcases Bool.eq_false_or_eq_true (decide (r36 = 0)) with hb59 | hb60
          · have h := hT hb59
            clear hT hF
            refine HList.gvals (v := (.int .i64 r45)) rfl rfl rfl rfl (congrArg Value.bool hb59) (HVal.move' rfl) ?_
            refine HList.gvals (v := (.bool (decide (r45 = 180)))) rfl rfl rfl rfl (congrArg Value.bool hb59) (HVal.eqlI rfl rfl) ?_
            refine HList.vals (v := (.bool (decide (r45 = 180)))) rfl (HVal.pickT rfl hb59 rfl) ?_
            refine HList.vals (v := (.bool (decide (r45 = 180)))) rfl (HVal.move' rfl) ?_
            obtain ⟨hT, hF⟩ := h
            rcases Bool.eq_false_or_eq_true (decide (r45 = 180)) with hb61 | hb62
            · have h := hT hb61
              clear hT hF
              refine HList.gvals (v := (.int .i64 r54)) rfl rfl rfl rfl (congrArg Value.bool hb61) (HVal.move' rfl) ?_
              refine HList.gvals (v := (.bool (decide (r54 = 0)))) rfl rfl rfl rfl (congrArg Value.bool hb61) (HVal.eqlI rfl rfl) ?_
              refine HList.vals (v := (.bool (decide (r54 = 0)))) rfl (HVal.pickT rfl hb61 rfl) ?_
              refine HList.vals (v := (.bool (decide (r54 = 0)))) rfl (HVal.move' rfl) ?_
              obtain ⟨hT, hF⟩ := h
              rcases Bool.eq_false_or_eq_true (decide (r54 = 0)) with hb63 | hb64
              · have h := hT hb63
                clear hT hF
                refine HList.gvals (v := (Sl.v r17)) rfl rfl rfl rfl (congrArg Value.bool hb63) (HVal.move' rfl) ?_
                refine HList.gvals (v := (.int .i64 ((r17).n : Int))) rfl rfl rfl rfl (congrArg Value.bool hb63) (HVal.len Try.runUnderlying50 rfl) ?_
                refine HList.gvals (v := (Sl.v r26)) rfl rfl rfl rfl (congrArg Value.bool hb63) (HVal.move' rfl) ?_
                refine HList.gvals (v := (.int .i64 ((r26).n : Int))) rfl rfl rfl rfl (congrArg Value.bool hb63) (HVal.len Try.runUnderlying50 rfl) ?_
                refine HList.gvals (v := (.int .i64 (IntKind.i64.wrap (((r17).n : Int) + ((r26).n : Int))))) rfl rfl rfl rfl (congrArg Value.bool hb63) (HVal.add rfl rfl) ?_
                refine HList.gvals (v := (Sl.v r35)) rfl rfl rfl rfl (congrArg Value.bool hb63) (HVal.move' rfl) ?_
                refine HList.gvals (v := (.int .i64 ((r35).n : Int))) rfl rfl rfl rfl (congrArg Value.bool hb63) (HVal.len Try.runUnderlying50 rfl) ?_
                refine HList.gvals (v := (.int .i64 (IntKind.i64.wrap ((IntKind.i64.wrap (((r17).n : Int) + ((r26).n : Int))) + ((r35).n : Int))))) rfl rfl rfl rfl (congrArg Value.bool hb63) (HVal.add rfl rfl) ?_
                refine HList.gvals (v := (.bool (decide ((IntKind.i64.wrap ((IntKind.i64.wrap (((r17).n : Int) + ((r26).n : Int))) + ((r35).n : Int))) = 0)))) rfl rfl rfl rfl (congrArg Value.bool hb63) (HVal.eqlI rfl rfl) ?_
                refine HList.vals (v := (.bool (decide ((IntKind.i64.wrap ((IntKind.i64.wrap (((r17).n : Int) + ((r26).n : Int))) + ((r35).n : Int))) = 0)))) rfl (HVal.pickT rfl hb63 rfl) ?_
                refine HList.vals (v := (.bool (decide ((IntKind.i64.wrap ((IntKind.i64.wrap (((r17).n : Int) + ((r26).n : Int))) + ((r35).n : Int))) = 0)))) rfl (HVal.move' rfl) ?_
                obtain ⟨hT, hF⟩ := h
                rcases Bool.eq_false_or_eq_true (decide ((IntKind.i64.wrap ((IntKind.i64.wrap (((r17).n : Int) + ((r26).n : Int))) + ((r35).n : Int))) = 0)) with hb65 | hb66
                · have h := hT hb65
                  clear hT hF
                  refine HList.gvals (v := (Sl.v r53)) rfl rfl rfl rfl (congrArg Value.bool hb65) (HVal.move' rfl) ?_
                  refine HList.gops rfl rfl rfl rfl (congrArg Value.bool hb65) (HOp.call' 24 [(.string S_c), (.int .i64 3)] (cap := []) rfl rfl Try.call24 (walk24 h)) ?_
                  rintro _ H67 ⟨r69, r70, r71, rfl, h⟩
                  refine HList.gops rfl rfl rfl rfl (congrArg Value.bool hb65) (HOp.buildSlice' (zs := [(.string (ByteArray.mk #[])), (.int .i64 0), (Sl.v Sl.nil)]) (cs := [(.string r69), (.int .i64 r70), (Sl.v r71)]) Try.runUnderlying50 Try.sizeOf32 Try.zeroValue32 (by decide) (by kernel_rfl) rfl (by decide)) ?_
                  rintro _ H72 ⟨rfl, e73⟩
                  replace h := h H72 e73
                  refine HList.gops rfl rfl rfl rfl (congrArg Value.bool hb65) (HOp.call' 12 [(Sl.v r53), (Sl.v (Sl.mk (some ⟨H67.size, 0, none⟩) 1 1))] (cap := []) rfl rfl Try.call12 (walk12 h)) ?_
                  rintro _ H74 ⟨r76, rfl, h⟩
                  refine HList.vals (v := (.bool r76)) rfl (HVal.pickT rfl hb65 rfl) ?_
                  refine HList.vals (v := (.bool r76)) rfl (HVal.move' rfl) ?_
                  obtain ⟨hT, hF⟩ := h
                  rcases Bool.eq_false_or_eq_true r76 with hb77 | hb78
                  · have h := hT hb77
                    clear hT hF
                    refine HList.gvals (v := (.pointer r3)) rfl rfl rfl rfl (congrArg Value.bool hb77) (HVal.move' rfl) ?_
                    refine HList.gops rfl rfl rfl rfl (congrArg Value.bool hb77) (HOp.call' 18 [(.pointer r3)] (cap := []) rfl rfl Try.call18 (walk18 h)) ?_
                    rintro _ H79 ⟨r81, rfl, h⟩
                    refine HList.gvals (v := (.bool (decide (r81 = 3)))) rfl rfl rfl rfl (congrArg Value.bool hb77) (HVal.eqlI rfl rfl) ?_
                    refine HList.vals (v := (.bool (decide (r81 = 3)))) rfl (HVal.pickT rfl hb77 rfl) ?_
                    refine HList.vals (v := (.bool (decide (r81 = 3)))) rfl (HVal.move' rfl) ?_
                    obtain ⟨hT, hF⟩ := h
                    rcases Bool.eq_false_or_eq_true (decide (r81 = 3)) with hb82 | hb83
                    · have h := hT hb82
                      clear hT hF
                      refine HList.gvals (v := (.pointer r3)) rfl rfl rfl rfl (congrArg Value.bool hb82) (HVal.move' rfl) ?_
                      refine HList.gops rfl rfl rfl rfl (congrArg Value.bool hb82) (HOp.call' 19 [(.pointer r3)] (cap := []) rfl rfl Try.call19 (walk19 h)) ?_
                      rintro _ H84 ⟨r86, rfl, h⟩
                      refine HList.gops rfl rfl rfl rfl (congrArg Value.bool hb82) (HOp.call' 24 [(.string S_a), (.int .i64 5)] (cap := []) rfl rfl Try.call24 (walk24 h)) ?_
                      rintro _ H87 ⟨r89, r90, r91, rfl, h⟩
                      refine HList.gops rfl rfl rfl rfl (congrArg Value.bool hb82) (HOp.call' 24 [(.string S_b), (.int .i64 12)] (cap := []) rfl rfl Try.call24 (walk24 h)) ?_
                      rintro _ H92 ⟨r94, r95, r96, rfl, h⟩
                      refine HList.gops rfl rfl rfl rfl (congrArg Value.bool hb82) (HOp.call' 24 [(.string S_e), (.int .i64 13)] (cap := []) rfl rfl Try.call24 (walk24 h)) ?_
                      rintro _ H97 ⟨r99, r100, r101, rfl, h⟩
                      refine HList.gops rfl rfl rfl rfl (congrArg Value.bool hb82) (HOp.buildSlice' (zs := [(.string (ByteArray.mk #[])), (.int .i64 0), (Sl.v Sl.nil), (.string (ByteArray.mk #[])), (.int .i64 0), (Sl.v Sl.nil), (.string (ByteArray.mk #[])), (.int .i64 0), (Sl.v Sl.nil)]) (cs := [(.string r89), (.int .i64 r90), (Sl.v r91), (.string r94), (.int .i64 r95), (Sl.v r96), (.string r99), (.int .i64 r100), (Sl.v r101)]) Try.runUnderlying50 Try.sizeOf32 Try.zeroValue32 (by decide) (by kernel_rfl) rfl (by decide)) ?_
                      rintro _ H102 ⟨rfl, e103⟩
                      replace h := h H102 e103
                      refine HList.gops rfl rfl rfl rfl (congrArg Value.bool hb82) (HOp.call' 12 [(Sl.v r86), (Sl.v (Sl.mk (some ⟨H97.size, 0, none⟩) 3 3))] (cap := []) rfl rfl Try.call12 (walk12 h)) ?_
                      rintro _ H104 ⟨r106, rfl, h⟩
                      refine HList.vals (v := (.bool r106)) rfl (HVal.pickT rfl hb82 rfl) ?_
                      refine HList.vals (v := (.bool r106)) rfl (HVal.assign' rfl) ?_
                      refine HList.nil ?_
                      refine nt ?_
                      refine HW.ret ?_
                      exact ⟨_, resOf1 rfl Res1.t, ⟨r106, rfl, h⟩⟩
                    · have h := hF hb83
                      clear hT hF
                      refine HList.gskips rfl rfl rfl rfl (congrArg Value.bool hb83) ?_
                      refine HList.gskips rfl rfl rfl rfl (congrArg Value.bool hb83) ?_
                      refine HList.gskips rfl rfl rfl rfl (congrArg Value.bool hb83) ?_
                      refine HList.gskips rfl rfl rfl rfl (congrArg Value.bool hb83) ?_
                      refine HList.gskips rfl rfl rfl rfl (congrArg Value.bool hb83) ?_
                      refine HList.gskips rfl rfl rfl rfl (congrArg Value.bool hb83) ?_
                      refine HList.gskips rfl rfl rfl rfl (congrArg Value.bool hb83) ?_
                      refine HList.vals (v := (.bool false)) rfl (HVal.pickF rfl hb83 rfl) ?_
                      refine HList.vals (v := (.bool false)) rfl (HVal.assign' rfl) ?_
                      refine HList.nil ?_
                      refine nt ?_
                      refine HW.ret ?_
                      exact ⟨_, resOf1 rfl Res1.t, ⟨false, rfl, h⟩⟩
                  · have h := hF hb78
                    clear hT hF
                    refine HList.gskips rfl rfl rfl rfl (congrArg Value.bool hb78) ?_
                    refine HList.gskips rfl rfl rfl rfl (congrArg Value.bool hb78) ?_
                    refine HList.gskips rfl rfl rfl rfl (congrArg Value.bool hb78) ?_
                    refine HList.vals (v := (.bool false)) rfl (HVal.pickF rfl hb78 rfl) ?_
                    refine HList.vals (v := (.bool false)) rfl (HVal.move' rfl) ?_
                    refine HList.gskips rfl rfl rfl rfl rfl ?_
                    refine HList.gskips rfl rfl rfl rfl rfl ?_
                    refine HList.gskips rfl rfl rfl rfl rfl ?_
                    refine HList.gskips rfl rfl rfl rfl rfl ?_
                    refine HList.gskips rfl rfl rfl rfl rfl ?_
                    refine HList.gskips rfl rfl rfl rfl rfl ?_
                    refine HList.gskips rfl rfl rfl rfl rfl ?_
                    refine HList.vals (v := (.bool false)) rfl (HVal.pickF rfl rfl rfl) ?_
                    refine HList.vals (v := (.bool false)) rfl (HVal.assign' rfl) ?_
                    refine HList.nil ?_
                    refine nt ?_
                    refine HW.ret ?_
                    exact ⟨_, resOf1 rfl Res1.t, ⟨false, rfl, h⟩⟩
                · have h := hF hb66
                  clear hT hF
                  refine HList.gskips rfl rfl rfl rfl (congrArg Value.bool hb66) ?_
                  refine HList.gskips rfl rfl rfl rfl (congrArg Value.bool hb66) ?_
                  refine HList.gskips rfl rfl rfl rfl (congrArg Value.bool hb66) ?_
                  refine HList.gskips rfl rfl rfl rfl (congrArg Value.bool hb66) ?_
                  refine HList.vals (v := (.bool false)) rfl (HVal.pickF rfl hb66 rfl) ?_
                  refine HList.vals (v := (.bool false)) rfl (HVal.move' rfl) ?_
                  refine HList.gskips rfl rfl rfl rfl rfl ?_
                  refine HList.gskips rfl rfl rfl rfl rfl ?_
                  refine HList.gskips rfl rfl rfl rfl rfl ?_
                  refine HList.vals (v := (.bool false)) rfl (HVal.pickF rfl rfl rfl) ?_
                  refine HList.vals (v := (.bool false)) rfl (HVal.move' rfl) ?_
                  refine HList.gskips rfl rfl rfl rfl rfl ?_
                  refine HList.gskips rfl rfl rfl rfl rfl ?_
                  refine HList.gskips rfl rfl rfl rfl rfl ?_
                  refine HList.gskips rfl rfl rfl rfl rfl ?_
                  refine HList.gskips rfl rfl rfl rfl rfl ?_
                  refine HList.gskips rfl rfl rfl rfl rfl ?_
                  refine HList.gskips rfl rfl rfl rfl rfl ?_
                  refine HList.vals (v := (.bool false)) rfl (HVal.pickF rfl rfl rfl) ?_
                  refine HList.vals (v := (.bool false)) rfl (HVal.assign' rfl) ?_
                  refine HList.nil ?_
                  refine nt ?_
                  refine HW.ret ?_
                  exact ⟨_, resOf1 rfl Res1.t, ⟨false, rfl, h⟩⟩
              · have h := hF hb64
                clear hT hF
                refine HList.gskips rfl rfl rfl rfl (congrArg Value.bool hb64) ?_
                refine HList.gskips rfl rfl rfl rfl (congrArg Value.bool hb64) ?_
                refine HList.gskips rfl rfl rfl rfl (congrArg Value.bool hb64) ?_
                refine HList.gskips rfl rfl rfl rfl (congrArg Value.bool hb64) ?_
                refine HList.gskips rfl rfl rfl rfl (congrArg Value.bool hb64) ?_
                refine HList.gskips rfl rfl rfl rfl (congrArg Value.bool hb64) ?_
                refine HList.gskips rfl rfl rfl rfl (congrArg Value.bool hb64) ?_
                refine HList.gskips rfl rfl rfl rfl (congrArg Value.bool hb64) ?_
                refine HList.gskips rfl rfl rfl rfl (congrArg Value.bool hb64) ?_
                refine HList.vals (v := (.bool false)) rfl (HVal.pickF rfl hb64 rfl) ?_
                refine HList.vals (v := (.bool false)) rfl (HVal.move' rfl) ?_
                refine HList.gskips rfl rfl rfl rfl rfl ?_
                refine HList.gskips rfl rfl rfl rfl rfl ?_
                refine HList.gskips rfl rfl rfl rfl rfl ?_
                refine HList.gskips rfl rfl rfl rfl rfl ?_
                refine HList.vals (v := (.bool false)) rfl (HVal.pickF rfl rfl rfl) ?_
                refine HList.vals (v := (.bool false)) rfl (HVal.move' rfl) ?_
                refine HList.gskips rfl rfl rfl rfl rfl ?_
                refine HList.gskips rfl rfl rfl rfl rfl ?_
                refine HList.gskips rfl rfl rfl rfl rfl ?_
                refine HList.vals (v := (.bool false)) rfl (HVal.pickF rfl rfl rfl) ?_
                refine HList.vals (v := (.bool false)) rfl (HVal.move' rfl) ?_
                refine HList.gskips rfl rfl rfl rfl rfl ?_
                refine HList.gskips rfl rfl rfl rfl rfl ?_
                refine HList.gskips rfl rfl rfl rfl rfl ?_
                refine HList.gskips rfl rfl rfl rfl rfl ?_
                refine HList.gskips rfl rfl rfl rfl rfl ?_
                refine HList.gskips rfl rfl rfl rfl rfl ?_
                refine HList.gskips rfl rfl rfl rfl rfl ?_
                refine HList.vals (v := (.bool false)) rfl (HVal.pickF rfl rfl rfl) ?_
                refine HList.vals (v := (.bool false)) rfl (HVal.assign' rfl) ?_
                refine HList.nil ?_
                refine nt ?_
                refine HW.ret ?_
                exact ⟨_, resOf1 rfl Res1.t, ⟨false, rfl, h⟩⟩
            · have h := hF hb62
              clear hT hF
              refine HList.gskips rfl rfl rfl rfl (congrArg Value.bool hb62) ?_
              refine HList.gskips rfl rfl rfl rfl (congrArg Value.bool hb62) ?_
              refine HList.vals (v := (.bool false)) rfl (HVal.pickF rfl hb62 rfl) ?_
              refine HList.vals (v := (.bool false)) rfl (HVal.move' rfl) ?_
              refine HList.gskips rfl rfl rfl rfl rfl ?_
              refine HList.gskips rfl rfl rfl rfl rfl ?_
              refine HList.gskips rfl rfl rfl rfl rfl ?_
              refine HList.gskips rfl rfl rfl rfl rfl ?_
              refine HList.gskips rfl rfl rfl rfl rfl ?_
              refine HList.gskips rfl rfl rfl rfl rfl ?_
              refine HList.gskips rfl rfl rfl rfl rfl ?_
              refine HList.gskips rfl rfl rfl rfl rfl ?_
              refine HList.gskips rfl rfl rfl rfl rfl ?_
              refine HList.vals (v := (.bool false)) rfl (HVal.pickF rfl rfl rfl) ?_
              refine HList.vals (v := (.bool false)) rfl (HVal.move' rfl) ?_
              refine HList.gskips rfl rfl rfl rfl rfl ?_
              refine HList.gskips rfl rfl rfl rfl rfl ?_
              refine HList.gskips rfl rfl rfl rfl rfl ?_
              refine HList.gskips rfl rfl rfl rfl rfl ?_
              refine HList.vals (v := (.bool false)) rfl (HVal.pickF rfl rfl rfl) ?_
              refine HList.vals (v := (.bool false)) rfl (HVal.move' rfl) ?_
              refine HList.gskips rfl rfl rfl rfl rfl ?_
              refine HList.gskips rfl rfl rfl rfl rfl ?_
              refine HList.gskips rfl rfl rfl rfl rfl ?_
              refine HList.vals (v := (.bool false)) rfl (HVal.pickF rfl rfl rfl) ?_
              refine HList.vals (v := (.bool false)) rfl (HVal.move' rfl) ?_
              refine HList.gskips rfl rfl rfl rfl rfl ?_
              refine HList.gskips rfl rfl rfl rfl rfl ?_
              refine HList.gskips rfl rfl rfl rfl rfl ?_
              refine HList.gskips rfl rfl rfl rfl rfl ?_
              refine HList.gskips rfl rfl rfl rfl rfl ?_
              refine HList.gskips rfl rfl rfl rfl rfl ?_
              refine HList.gskips rfl rfl rfl rfl rfl ?_
              refine HList.vals (v := (.bool false)) rfl (HVal.pickF rfl rfl rfl) ?_
              refine HList.vals (v := (.bool false)) rfl (HVal.assign' rfl) ?_
              refine HList.nil ?_
              refine nt ?_
              refine HW.ret ?_
              exact ⟨_, resOf1 rfl Res1.t, ⟨false, rfl, h⟩⟩
          · have h := hF hb60
            clear hT hF
            refine HList.gskips rfl rfl rfl rfl (congrArg Value.bool hb60) ?_
            refine HList.gskips rfl rfl rfl rfl (congrArg Value.bool hb60) ?_
            refine HList.vals (v := (.bool false)) rfl (HVal.pickF rfl hb60 rfl) ?_
            refine HList.vals (v := (.bool false)) rfl (HVal.move' rfl) ?_
            refine HList.gskips rfl rfl rfl rfl rfl ?_
            refine HList.gskips rfl rfl rfl rfl rfl ?_
            refine HList.vals (v := (.bool false)) rfl (HVal.pickF rfl rfl rfl) ?_
            refine HList.vals (v := (.bool false)) rfl (HVal.move' rfl) ?_
            refine HList.gskips rfl rfl rfl rfl rfl ?_
            refine HList.gskips rfl rfl rfl rfl rfl ?_
            refine HList.gskips rfl rfl rfl rfl rfl ?_
            refine HList.gskips rfl rfl rfl rfl rfl ?_
            refine HList.gskips rfl rfl rfl rfl rfl ?_
            refine HList.gskips rfl rfl rfl rfl rfl ?_
            refine HList.gskips rfl rfl rfl rfl rfl ?_
            refine HList.gskips rfl rfl rfl rfl rfl ?_
            refine HList.gskips rfl rfl rfl rfl rfl ?_
            refine HList.vals (v := (.bool false)) rfl (HVal.pickF rfl rfl rfl) ?_
            refine HList.vals (v := (.bool false)) rfl (HVal.move' rfl) ?_
            refine HList.gskips rfl rfl rfl rfl rfl ?_
            refine HList.gskips rfl rfl rfl rfl rfl ?_
            refine HList.gskips rfl rfl rfl rfl rfl ?_
            refine HList.gskips rfl rfl rfl rfl rfl ?_
            refine HList.vals (v := (.bool false)) rfl (HVal.pickF rfl rfl rfl) ?_
            refine HList.vals (v := (.bool false)) rfl (HVal.move' rfl) ?_
            refine HList.gskips rfl rfl rfl rfl rfl ?_
            refine HList.gskips rfl rfl rfl rfl rfl ?_
            refine HList.gskips rfl rfl rfl rfl rfl ?_
            refine HList.vals (v := (.bool false)) rfl (HVal.pickF rfl rfl rfl) ?_
            refine HList.vals (v := (.bool false)) rfl (HVal.move' rfl) ?_
            refine HList.gskips rfl rfl rfl rfl rfl ?_
            refine HList.gskips rfl rfl rfl rfl rfl ?_
            refine HList.gskips rfl rfl rfl rfl rfl ?_
            refine HList.gskips rfl rfl rfl rfl rfl ?_
            refine HList.gskips rfl rfl rfl rfl rfl ?_
            refine HList.gskips rfl rfl rfl rfl rfl ?_
            refine HList.gskips rfl rfl rfl rfl rfl ?_
            refine HList.vals (v := (.bool false)) rfl (HVal.pickF rfl rfl rfl) ?_
            refine HList.vals (v := (.bool false)) rfl (HVal.assign' rfl) ?_
            refine HList.nil ?_
            refine nt ?_
            refine HW.ret ?_
            exact ⟨_, resOf1 rfl Res1.t, ⟨false, rfl, h⟩⟩
        · have h := hF hb58
          clear hT hF
          refine HList.gskips rfl rfl rfl rfl (congrArg Value.bool hb58) ?_
          refine HList.gskips rfl rfl rfl rfl (congrArg Value.bool hb58) ?_
          refine HList.vals (v := (.bool false)) rfl (HVal.pickF rfl hb58 rfl) ?_
          refine HList.vals (v := (.bool false)) rfl (HVal.move' rfl) ?_
          refine HList.gskips rfl rfl rfl rfl rfl ?_
          refine HList.gskips rfl rfl rfl rfl rfl ?_
          refine HList.vals (v := (.bool false)) rfl (HVal.pickF rfl rfl rfl) ?_
          refine HList.vals (v := (.bool false)) rfl (HVal.move' rfl) ?_
          refine HList.gskips rfl rfl rfl rfl rfl ?_
          refine HList.gskips rfl rfl rfl rfl rfl ?_
          refine HList.vals (v := (.bool false)) rfl (HVal.pickF rfl rfl rfl) ?_
          refine HList.vals (v := (.bool false)) rfl (HVal.move' rfl) ?_
          refine HList.gskips rfl rfl rfl rfl rfl ?_
          refine HList.gskips rfl rfl rfl rfl rfl ?_
          refine HList.gskips rfl rfl rfl rfl rfl ?_
          refine HList.gskips rfl rfl rfl rfl rfl ?_
          refine HList.gskips rfl rfl rfl rfl rfl ?_
          refine HList.gskips rfl rfl rfl rfl rfl ?_
          refine HList.gskips rfl rfl rfl rfl rfl ?_
          refine HList.gskips rfl rfl rfl rfl rfl ?_
          refine HList.gskips rfl rfl rfl rfl rfl ?_
          refine HList.vals (v := (.bool false)) rfl (HVal.pickF rfl rfl rfl) ?_
          refine HList.vals (v := (.bool false)) rfl (HVal.move' rfl) ?_
          refine HList.gskips rfl rfl rfl rfl rfl ?_
          refine HList.gskips rfl rfl rfl rfl rfl ?_
          refine HList.gskips rfl rfl rfl rfl rfl ?_
          refine HList.gskips rfl rfl rfl rfl rfl ?_
          refine HList.vals (v := (.bool false)) rfl (HVal.pickF rfl rfl rfl) ?_
          refine HList.vals (v := (.bool false)) rfl (HVal.move' rfl) ?_
          refine HList.gskips rfl rfl rfl rfl rfl ?_
          refine HList.gskips rfl rfl rfl rfl rfl ?_
          refine HList.gskips rfl rfl rfl rfl rfl ?_
          refine HList.vals (v := (.bool false)) rfl (HVal.pickF rfl rfl rfl) ?_
          refine HList.vals (v := (.bool false)) rfl (HVal.move' rfl) ?_
          refine HList.gskips rfl rfl rfl rfl rfl ?_
          refine HList.gskips rfl rfl rfl rfl rfl ?_
          refine HList.gskips rfl rfl rfl rfl rfl ?_
          refine HList.gskips rfl rfl rfl rfl rfl ?_
          refine HList.gskips rfl rfl rfl rfl rfl ?_
          refine HList.gskips rfl rfl rfl rfl rfl ?_
          refine HList.gskips rfl rfl rfl rfl rfl ?_
          refine HList.vals (v := (.bool false)) rfl (HVal.pickF rfl rfl rfl) ?_
          refine HList.vals (v := (.bool false)) rfl (HVal.assign' rfl) ?_
          refine HList.nil ?_
          refine nt ?_
          refine HW.ret ?_
          exact ⟨_, resOf1 rfl Res1.t, ⟨false, rfl, h⟩⟩
      · have h := hF hb56
        clear hT hF
        refine HList.gskips rfl rfl rfl rfl (congrArg Value.bool hb56) ?_
        refine HList.gskips rfl rfl rfl rfl (congrArg Value.bool hb56) ?_
        refine HList.vals (v := (.bool false)) rfl (HVal.pickF rfl hb56 rfl) ?_
        refine HList.vals (v := (.bool false)) rfl (HVal.move' rfl) ?_
        refine HList.gskips rfl rfl rfl rfl rfl ?_
        refine HList.gskips rfl rfl rfl rfl rfl ?_
        refine HList.vals (v := (.bool false)) rfl (HVal.pickF rfl rfl rfl) ?_
        refine HList.vals (v := (.bool false)) rfl (HVal.move' rfl) ?_
        refine HList.gskips rfl rfl rfl rfl rfl ?_
        refine HList.gskips rfl rfl rfl rfl rfl ?_
        refine HList.vals (v := (.bool false)) rfl (HVal.pickF rfl rfl rfl) ?_
        refine HList.vals (v := (.bool false)) rfl (HVal.move' rfl) ?_
        refine HList.gskips rfl rfl rfl rfl rfl ?_
        refine HList.gskips rfl rfl rfl rfl rfl ?_
        refine HList.vals (v := (.bool false)) rfl (HVal.pickF rfl rfl rfl) ?_
        refine HList.vals (v := (.bool false)) rfl (HVal.move' rfl) ?_
        refine HList.gskips rfl rfl rfl rfl rfl ?_
        refine HList.gskips rfl rfl rfl rfl rfl ?_
        refine HList.gskips rfl rfl rfl rfl rfl ?_
        refine HList.gskips rfl rfl rfl rfl rfl ?_
        refine HList.gskips rfl rfl rfl rfl rfl ?_
        refine HList.gskips rfl rfl rfl rfl rfl ?_
        refine HList.gskips rfl rfl rfl rfl rfl ?_
        refine HList.gskips rfl rfl rfl rfl rfl ?_
        refine HList.gskips rfl rfl rfl rfl rfl ?_
        refine HList.vals (v := (.bool false)) rfl (HVal.pickF rfl rfl rfl) ?_
        refine HList.vals (v := (.bool false)) rfl (HVal.move' rfl) ?_
        refine HList.gskips rfl rfl rfl rfl rfl ?_
        refine HList.gskips rfl rfl rfl rfl rfl ?_
        refine HList.gskips rfl rfl rfl rfl rfl ?_
        refine HList.gskips rfl rfl rfl rfl rfl ?_
        refine HList.vals (v := (.bool false)) rfl (HVal.pickF rfl rfl rfl) ?_
        refine HList.vals (v := (.bool false)) rfl (HVal.move' rfl) ?_
        refine HList.gskips rfl rfl rfl rfl rfl ?_
        refine HList.gskips rfl rfl rfl rfl rfl ?_
        refine HList.gskips rfl rfl rfl rfl rfl ?_
        refine HList.vals (v := (.bool false)) rfl (HVal.pickF rfl rfl rfl) ?_
        refine HList.vals (v := (.bool false)) rfl (HVal.move' rfl) ?_
        refine HList.gskips rfl rfl rfl rfl rfl ?_
        refine HList.gskips rfl rfl rfl rfl rfl ?_
        refine HList.gskips rfl rfl rfl rfl rfl ?_
        refine HList.gskips rfl rfl rfl rfl rfl ?_
        refine HList.gskips rfl rfl rfl rfl rfl ?_
        refine HList.gskips rfl rfl rfl rfl rfl ?_
        refine HList.gskips rfl rfl rfl rfl rfl ?_
        refine HList.vals (v := (.bool false)) rfl (HVal.pickF rfl rfl rfl) ?_
        refine HList.vals (v := (.bool false)) rfl (HVal.assign' rfl) ?_
        refine HList.nil ?_
        refine nt ?_
        refine HW.ret ?_
        exact ⟨_, resOf1 rfl Res1.t, ⟨false, rfl, h⟩⟩

def F3_7 (Q : Bool → Hp → Prop) (y147 : Addr) (y148 : Addr) (y155 : Bool) (H_7 : Hp) : Prop :=
(y155 = true → (∃ (x159 : (Option Addr)) (x160 : (Option Addr)), cells H_7 y147 [(.pointer x159), (.pointer x160)] 0 ∧ (
 F7 x159 x160 4 false (ByteArray.mk #[]) 0 Sl.nil 0 H_7 (fun (r163 : Bool) (H161 : Hp) => 
 (r163 = true → (∃ (x167 : (Option Addr)) (x168 : (Option Addr)), cells H161 y148 [(.pointer x167), (.pointer x168)] 0 ∧ (
 F7 x167 x168 4 false (ByteArray.mk #[]) 0 Sl.nil 0 H161 (fun (r171 : Bool) (H169 : Hp) => 
 Q r171 H169)))) ∧
 (r163 = false → (Q false H161)))))) ∧
 (y155 = false → (Q false H_7))
def F3_2 (Q : Bool → Hp → Prop) (y25 : Int) (y26 : Int) (y27 : Addr) (y28 : Addr) (y145 : Bool) (y146 : Bool) (H_2 : Hp) : Prop :=
((!y146) = true → (F5 y25 y26 H_2 (fun (r152 : (Option Addr)) (r153 : (Option Addr)) (r154 : Bool) (H150 : Hp) => 
 F3_7 Q y27 y28 r154 H150))) ∧
 ((!y146) = false → (F3_7 Q y27 y28 y145 H_2))
def F3_4 (Q : Bool → Hp → Prop) (X3 : Bool → Bool → Int → Hp → Prop) (y46 : Int) (y47 : Int) (y48 : Sl) (y49 : Addr) (y50 : Addr) (y51 : Int) (y52 : Addr) (y125 : Bool) (y126 : Bool) (H_4 : Hp) : Prop :=
∃ (x128 : (Option Addr)) (x129 : (Option Addr)), cells H_4 y52 [(.pointer x128), (.pointer x129)] 0 ∧ (
 ∃ a130 : Addr, (y48).b = some a130 ∧ (0 : Int) ≤ y51 ∧ y51 < ((y48).n : Int) ∧ (
 ∃ (x135 : Int) (x136 : Bool) (x137 : ByteArray) (x138 : Int) (x139 : Sl) (x140 : Int), cells H_4 (Addr.add a130 (y51.toNat * 6)) [(.int .i64 x135), (.bool x136), (.string x137), (.int .i64 x138), (Sl.v x139), (.int .i64 x140)] 0 ∧ (
 F7 x128 x129 x135 x136 x137 x138 x139 x140 H_4 (fun (r143 : Bool) (H141 : Hp) => 
 ((!r143) = true → (Q false H141)) ∧
 ((!r143) = false → (X3 y125 y126 (IntKind.i64.wrap (y51 + 1)) H141))))))
def F3_6 (Q : Bool → Hp → Prop) (X3 : Bool → Bool → Int → Hp → Prop) (y95 : Int) (y96 : Int) (y97 : Sl) (y98 : Addr) (y99 : Bool) (y100 : Addr) (y101 : Bool) (y102 : Int) (y103 : Addr) (y106 : Bool) (H_6 : Hp) : Prop :=
(y106 = true → (Q false H_6)) ∧
 (y106 = false → (F3_4 Q X3 y95 y96 y97 y98 y100 y102 y103 y99 y101 H_6))
def F3_5 (Q : Bool → Hp → Prop) (X3 : Bool → Bool → Int → Hp → Prop) (y60 : Int) (y61 : Int) (y62 : Sl) (y63 : Addr) (y64 : Addr) (y65 : Int) (y66 : Addr) (y77 : Bool) (y78 : Bool) (H_5 : Hp) : Prop :=
∃ (x80 : (Option Addr)) (x81 : (Option Addr)), cells H_5 y64 [(.pointer x80), (.pointer x81)] 0 ∧ (
 mayw H_5 y66 2 0 ∧ ∀ H82 : Hp, H82 = sets H_5 y66 [(.pointer x80), (.pointer x81)] 0 → (
 F5 y60 y61 H82 (fun (r87 : (Option Addr)) (r88 : (Option Addr)) (r89 : Bool) (H85 : Hp) => 
 ∀ H90 : Hp, H90 = Array.push H85 (.cells #[(.pointer none), (.pointer none)] 26) → (
 mayw H90 ⟨H85.size, 0, none⟩ 2 0 ∧ ∀ H92 : Hp, H92 = sets H90 ⟨H85.size, 0, none⟩ [(.pointer r87), (.pointer r88)] 0 → (
 ((!r89) = true → (F3_6 Q X3 y60 y61 y62 y63 y77 y64 y78 y65 y66 true H92)) ∧
 ((!r89) = false → (∃ (x108 : (Option Addr)) (x109 : (Option Addr)), cells H92 ⟨H85.size, 0, none⟩ [(.pointer x108), (.pointer x109)] 0 ∧ (
 ∃ a110 : Addr, (y62).b = some a110 ∧ (0 : Int) ≤ y65 ∧ y65 < ((y62).n : Int) ∧ (
 ∃ (x115 : Int) (x116 : Bool) (x117 : ByteArray) (x118 : Int) (x119 : Sl) (x120 : Int), cells H92 (Addr.add a110 (y65.toNat * 6)) [(.int .i64 x115), (.bool x116), (.string x117), (.int .i64 x118), (Sl.v x119), (.int .i64 x120)] 0 ∧ (
 F7 x108 x109 x115 x116 x117 x118 x119 x120 H92 (fun (r123 : Bool) (H121 : Hp) => 
 F3_6 Q X3 y60 y61 y62 y63 y77 y64 y78 y65 y66 (!r123) H121)))))))))))
def F3_L3b (Q : Bool → Hp → Prop) (X3 : Bool → Bool → Int → Hp → Prop) (y32 : Int) (y33 : Int) (y34 : Sl) (y35 : Addr) (y36 : Addr) (y29 : Bool) (y30 : Bool) (y31 : Int) (H_3 : Hp) : Prop :=
((decide (y31 < ((y34).n : Int))) = true → (∃ (x39 : (Option Addr)) (x40 : (Option Addr)), cells H_3 y35 [(.pointer x39), (.pointer x40)] 0 ∧ (
 ∀ H41 : Hp, H41 = Array.push H_3 (.cells #[(.pointer none), (.pointer none)] 26) → (
 mayw H41 ⟨H_3.size, 0, none⟩ 2 0 ∧ ∀ H43 : Hp, H43 = sets H41 ⟨H_3.size, 0, none⟩ [(.pointer x39), (.pointer x40)] 0 → (
 ∃ a53 : Addr, (y34).b = some a53 ∧ (0 : Int) ≤ y31 ∧ y31 < ((y34).n : Int) ∧ (
 ∃ x58 : Bool, cell H43 (Addr.add (Addr.add a53 (y31.toNat * 6)) 1) = some (.bool x58) ∧ (
 (x58 = true → (((!y30) = true → (F5 y32 y33 H43 (fun (r70 : (Option Addr)) (r71 : (Option Addr)) (r72 : Bool) (H68 : Hp) => 
 mayw H68 y36 2 0 ∧ ∀ H73 : Hp, H73 = sets H68 y36 [(.pointer r70), (.pointer r71)] 0 → (
 ((!r72) = true → (Q false H73)) ∧
 ((!r72) = false → (F3_5 Q X3 y32 y33 y34 y35 y36 y31 ⟨H_3.size, 0, none⟩ r72 true H73)))))) ∧
 ((!y30) = false → (F3_5 Q X3 y32 y33 y34 y35 y36 y31 ⟨H_3.size, 0, none⟩ y29 y30 H43)))) ∧
 (x58 = false → (F3_4 Q X3 y32 y33 y34 y35 y36 y31 ⟨H_3.size, 0, none⟩ y29 y30 H43))))))))) ∧
 ((decide (y31 < ((y34).n : Int))) = false → (F3_2 Q y32 y33 y35 y36 y29 y30 H_3))
def F3_L3 (Q : Bool → Hp → Prop) (y32 : Int) (y33 : Int) (y34 : Sl) (y35 : Addr) (y36 : Addr) (y29 : Bool) (y30 : Bool) (y31 : Int) (H_3 : Hp) : Prop :=
  ∀ X3 : Bool → Bool → Int → Hp → Prop, (∀ (y29 : Bool) (y30 : Bool) (y31 : Int) (H_3 : Hp), F3_L3b Q X3 y32 y33 y34 y35 y36 y29 y30 y31 H_3 → X3 y29 y30 y31 H_3) → X3 y29 y30 y31 H_3
def F3_1 (Q : Bool → Hp → Prop) (y11 : Int) (y12 : Int) (y13 : Sl) (y14 : Addr) (y15 : Bool) (y21 : Bool) (H_1 : Hp) : Prop :=
(y21 = true → (Q false H_1)) ∧
 (y21 = false → (∀ H23 : Hp, H23 = Array.push H_1 (.cells #[(.pointer none), (.pointer none)] 26) → (
 F3_L3 Q y11 y12 y13 y14 ⟨H_1.size, 0, none⟩ y15 false 0 H23)))
def F3 (p0 : Int) (p1 : Int) (p2 : Int) (p3 : Int) (p4 : Sl) (H : Hp) (Q : Bool → Hp → Prop) : Prop :=
F5 p0 p1 H (fun (r3 : (Option Addr)) (r4 : (Option Addr)) (r5 : Bool) (H1 : Hp) => 
 ∀ H6 : Hp, H6 = Array.push H1 (.cells #[(.pointer none), (.pointer none)] 26) → (
 mayw H6 ⟨H1.size, 0, none⟩ 2 0 ∧ ∀ H8 : Hp, H8 = sets H6 ⟨H1.size, 0, none⟩ [(.pointer r3), (.pointer r4)] 0 → (
 F6 H8 (fun (r18 : Bool) (H16 : Hp) => 
 ((!r18) = true → (F3_1 Q p2 p3 p4 ⟨H1.size, 0, none⟩ r5 true H16)) ∧
 ((!r18) = false → (F3_1 Q p2 p3 p4 ⟨H1.size, 0, none⟩ r5 (!r5) H16))))))
set_option maxRecDepth 100000 in
set_option maxHeartbeats 4000000 in
theorem walk3 {w0 : World} {p0 : Int} {p1 : Int} {p2 : Int} {p3 : Int} {p4 : Sl} {H : Hp} {Q : Bool → Hp → Prop} (h : F3 p0 p1 p2 p3 p4 H Q) :
    Good Try.prog w0 3 #[(.int .i64 p0), (.int .i64 p1), (.int .i64 p2), (.int .i64 p3), (Sl.v p4)] H (fun v H => ∃ (r0 : Bool) , v = (.bool r0) ∧ Q r0 H) := by
  unfold F3 at h
  refine Good.enter' (fn := Try.f3) Try.func3 rfl rfl rfl ?_
  refine HW.seq ?_
  refine HW.region ?_
  refine HList.vals (v := (.bool false)) rfl (HVal.assign' rfl) ?_
  refine HList.nil ?_
  refine nt ?_
  refine HW.seq ?_
  refine HW.region ?_
  refine HList.vals (v := (.int .i64 p0)) rfl (HVal.move' rfl) ?_
  refine HList.vals (v := (.int .i64 p1)) rfl (HVal.move' rfl) ?_
  refine HList.ops' rfl (HOp.call' 5 [(.int .i64 p0), (.int .i64 p1)] (cap := []) rfl rfl Try.call5 (walk5 h)) ?_
  rintro _ H1 ⟨r3, r4, r5, rfl, h⟩
  refine HList.vals (v := (.tuple #[(.agg #[(.pointer r3), (.pointer r4)]), (.bool r5)])) rfl (HVal.move' rfl) ?_
  refine HList.vals (v := (.agg #[(.pointer r3), (.pointer r4)])) rfl (HVal.extract rfl rfl) ?_
  refine HList.vals (v := (.bool r5)) rfl (HVal.extract rfl rfl) ?_
  refine HList.ops' rfl (HOp.alloc Try.zeroValue26) ?_
  rintro _ H6 ⟨rfl, e7⟩
  replace h := h H6 e7
  obtain ⟨z10, h⟩ := h
  refine HList.opsn (HOp.storeN' (l := [(.pointer r3), (.pointer r4)]) Try.sizeOf26 rfl rfl rfl z10) ?_
  rintro _ H8 e9
  replace h := h H8 e9
  refine HList.vals (v := (.bool r5)) rfl (HVal.assign' rfl) ?_
  refine HList.nil ?_
  refine nt ?_
  refine HW.seq ?_
  refine HW.cut (fun ρ H_1 => ∃ (y21 : Bool), Env.Is ρ [(2, (.int .i64 p2)), (3, (.int .i64 p3)), (4, (Sl.v p4)), (11, (.pointer (some ⟨H1.size, 0, none⟩))), (12, (.bool r5)), (30, (.bool y21))] ∧ F3_1 Q p2 p3 p4 ⟨H1.size, 0, none⟩ r5 y21 H_1) ?_ ?_
  · refine HW.region ?_
    refine HList.ops' rfl (HOp.call' 6 [] (cap := []) rfl rfl Try.call6 (walk6 h)) ?_
    rintro _ H16 ⟨r18, rfl, h⟩
    refine HList.vals (v := (.bool (!r18))) rfl (HVal.not rfl) ?_
    refine HList.vals (v := (.bool (!r18))) rfl (HVal.move' rfl) ?_
    obtain ⟨hT, hF⟩ := h
    rcases Bool.eq_false_or_eq_true (!r18) with hb19 | hb20
    · have h := hT hb19
      clear hT hF
      refine HList.gskips rfl rfl rfl rfl (congrArg Value.bool hb19) ?_
      refine HList.gskips rfl rfl rfl rfl (congrArg Value.bool hb19) ?_
      refine HList.vals (v := (.bool true)) rfl (HVal.pickT rfl hb19 rfl) ?_
      refine HList.nil ?_
      refine nt ?_
      exact ⟨true, ⟨rfl, rfl, rfl, rfl, rfl, rfl, trivial⟩, h⟩
    · have h := hF hb20
      clear hT hF
      refine HList.gvals (v := (.bool r5)) rfl rfl rfl rfl (congrArg Value.bool hb20) (HVal.move' rfl) ?_
      refine HList.gvals (v := (.bool (!r5))) rfl rfl rfl rfl (congrArg Value.bool hb20) (HVal.not rfl) ?_
      refine HList.vals (v := (.bool (!r5))) rfl (HVal.pickF rfl hb20 rfl) ?_
      refine HList.nil ?_
      refine nt ?_
      exact ⟨(!r5), ⟨rfl, rfl, rfl, rfl, rfl, rfl, trivial⟩, h⟩
  · rintro ρ H_1 ⟨y21, hI, h⟩
    obtain ⟨ρ0, rfl⟩ : ∃ ρ0, ρ = (Env.set (Env.set (Env.set (Env.set (Env.set (Env.set ρ0 30 (.bool y21)) 12 (.bool r5)) 11 (.pointer (some ⟨H1.size, 0, none⟩))) 4 (Sl.v p4)) 3 (.int .i64 p3)) 2 (.int .i64 p2)) := ⟨ρ, hI.eq⟩
    clear hI; unfold F3_1 at h
    obtain ⟨hT, hF⟩ := h
    refine HW.cond y21 rfl (fun hb22 => ?_) (fun hb22 => ?_)
    · have h := hT hb22
      clear hT hF
      refine HW.seq ?_
      refine HW.region ?_
      refine HList.vals (v := (.bool false)) rfl (HVal.assign' rfl) ?_
      refine HList.nil ?_
      refine nt ?_
      refine HW.ret ?_
      refine tr ?_
      exact ⟨_, resOf1 rfl Res1.t, ⟨false, rfl, h⟩⟩
    · have h := hF hb22
      clear hT hF
      refine HW.skip ?_
      refine nt ?_
      refine HW.seq ?_
      refine HW.region ?_
      refine HList.ops' rfl (HOp.alloc Try.zeroValue26) ?_
      rintro _ H23 ⟨rfl, e24⟩
      replace h := h H23 e24
      refine HList.nil ?_
      refine nt ?_
      refine HW.seq ?_
      refine HW.region ?_
      refine HList.vals (v := (.bool false)) rfl (HVal.assign' rfl) ?_
      refine HList.nil ?_
      refine nt ?_
      refine HW.cut (fun ρ H_2 => ∃ (y145 : Bool) (y146 : Bool), Env.Is ρ [(2, (.int .i64 p2)), (3, (.int .i64 p3)), (11, (.pointer (some ⟨H1.size, 0, none⟩))), (13, (.pointer (some ⟨H_1.size, 0, none⟩))), (12, (.bool y145)), (14, (.bool y146))] ∧ F3_2 Q p2 p3 ⟨H1.size, 0, none⟩ ⟨H_1.size, 0, none⟩ y145 y146 H_2) ?_ ?_
      · refine HW.seq ?_
        refine HW.region ?_
        refine HList.vals (v := (.int .i64 0)) rfl (HVal.assign' rfl) ?_
        refine HList.nil ?_
        refine nt ?_
        refine HW.block ?_
        refine HW.loop' (fun L3 hL3 => ?_)
        obtain ⟨X3, hX3⟩ : ∃ X3 : Bool → Bool → Int → Hp → Prop, ∀ (y29 : Bool) (y30 : Bool) (y31 : Int) (H_3 : Hp), X3 y29 y30 y31 H_3 ↔ ∀ ρ, Env.Is ρ [(2, (.int .i64 p2)), (3, (.int .i64 p3)), (4, (Sl.v p4)), (11, (.pointer (some ⟨H1.size, 0, none⟩))), (13, (.pointer (some ⟨H_1.size, 0, none⟩))), (12, (.bool y29)), (14, (.bool y30)), (15, (.int .i64 y31))] → L3 ρ H_3 := ⟨_, fun _ _ _ _ => Iff.rfl⟩
        refine (hX3 _ _ _ _).1 (h X3 ?_) _ ?_
        rotate_left
        · exact ⟨rfl, rfl, rfl, rfl, rfl, rfl, rfl, rfl, trivial⟩
        clear h
        intro y29 y30 y31 H_3 h
        refine (hX3 _ _ _ _).2 fun ρ hI => ?_
        obtain ⟨ρ0, rfl⟩ : ∃ ρ0, ρ = (Env.set (Env.set (Env.set (Env.set (Env.set (Env.set (Env.set (Env.set ρ0 15 (.int .i64 y31)) 14 (.bool y30)) 12 (.bool y29)) 13 (.pointer (some ⟨H_1.size, 0, none⟩))) 11 (.pointer (some ⟨H1.size, 0, none⟩))) 4 (Sl.v p4)) 3 (.int .i64 p3)) 2 (.int .i64 p2)) := ⟨ρ, hI.eq⟩
        clear hI; unfold F3_L3b at h; refine hL3 _ _ ?_
        refine HW.seq ?_
        refine HW.seq ?_
        refine HW.region ?_
        refine HList.vals (v := (.int .i64 y31)) rfl (HVal.move' rfl) ?_
        refine HList.vals (v := (Sl.v p4)) rfl (HVal.move' rfl) ?_
        refine HList.vals (v := (.int .i64 ((p4).n : Int))) rfl (HVal.len Try.runUnderlying22 rfl) ?_
        refine HList.vals (v := (.bool (decide (y31 < ((p4).n : Int))))) rfl (HVal.lss rfl rfl) ?_
        refine HList.nil ?_
        refine nt ?_
        obtain ⟨hT, hF⟩ := h
        refine HW.cond (decide (y31 < ((p4).n : Int))) rfl (fun hb37 => ?_) (fun hb37 => ?_)
        · have h := hT hb37
          clear hT hF
          refine HW.skip ?_
          refine nt ?_
          refine HW.seq ?_
          refine HW.block ?_
          refine HW.seq ?_
          refine HW.region ?_
          obtain ⟨x39, x40, c38, h⟩ := h
          refine HList.vals (v := (.agg #[(.pointer x39), (.pointer x40)])) rfl (HVal.loadN [(.pointer x39), (.pointer x40)] Try.isAgg26 Try.sizeOf26 rfl c38) ?_
          refine HList.ops' rfl (HOp.alloc Try.zeroValue26) ?_
          rintro _ H41 ⟨rfl, e42⟩
          replace h := h H41 e42
          obtain ⟨z45, h⟩ := h
          refine HList.opsn (HOp.storeN' (l := [(.pointer x39), (.pointer x40)]) Try.sizeOf26 rfl rfl rfl z45) ?_
          rintro _ H43 e44
          replace h := h H43 e44
          refine HList.nil ?_
          refine nt ?_
          refine HW.cut (fun ρ H_4 => ∃ (y125 : Bool) (y126 : Bool), Env.Is ρ [(2, (.int .i64 p2)), (3, (.int .i64 p3)), (4, (Sl.v p4)), (11, (.pointer (some ⟨H1.size, 0, none⟩))), (13, (.pointer (some ⟨H_1.size, 0, none⟩))), (15, (.int .i64 y31)), (16, (.pointer (some ⟨H_3.size, 0, none⟩))), (12, (.bool y125)), (14, (.bool y126))] ∧ F3_4 Q X3 p2 p3 p4 ⟨H1.size, 0, none⟩ ⟨H_1.size, 0, none⟩ y31 ⟨H_3.size, 0, none⟩ y125 y126 H_4) ?_ ?_
          · refine HW.seq ?_
            refine HW.region ?_
            refine HList.vals (v := (Sl.v p4)) rfl (HVal.move' rfl) ?_
            refine HList.vals (v := (.int .i64 y31)) rfl (HVal.move' rfl) ?_
            obtain ⟨a53, e54, b55, b56, h⟩ := h
            refine HList.vals (v := (.pointer (some (Addr.add a53 (y31.toNat * 6))))) rfl (HVal.indexAddr Try.runUnderlying22 Try.sizeOf34 (Sl.v_some rfl e54) rfl b55 b56) ?_
            refine HList.vals (v := (.pointer (some (Addr.add (Addr.add a53 (y31.toNat * 6)) 1)))) rfl (HVal.fieldAddr' Try.runUnderlying34 rfl rfl Try.sizeOf4 rfl) ?_
            obtain ⟨x58, c57, h⟩ := h
            refine HList.vals (v := (.bool x58)) rfl (HVal.load1 Try.isAgg4 rfl c57) ?_
            refine HList.nil ?_
            refine nt ?_
            obtain ⟨hT, hF⟩ := h
            refine HW.cond x58 rfl (fun hb59 => ?_) (fun hb59 => ?_)
            · have h := hT hb59
              clear hT hF
              refine HW.cut (fun ρ H_5 => ∃ (y77 : Bool) (y78 : Bool), Env.Is ρ [(2, (.int .i64 p2)), (3, (.int .i64 p3)), (4, (Sl.v p4)), (11, (.pointer (some ⟨H1.size, 0, none⟩))), (13, (.pointer (some ⟨H_1.size, 0, none⟩))), (15, (.int .i64 y31)), (16, (.pointer (some ⟨H_3.size, 0, none⟩))), (12, (.bool y77)), (14, (.bool y78))] ∧ F3_5 Q X3 p2 p3 p4 ⟨H1.size, 0, none⟩ ⟨H_1.size, 0, none⟩ y31 ⟨H_3.size, 0, none⟩ y77 y78 H_5) ?_ ?_
              · refine HW.seq ?_
                refine HW.region ?_
                refine HList.vals (v := (.bool y30)) rfl (HVal.move' rfl) ?_
                refine HList.vals (v := (.bool (!y30))) rfl (HVal.not rfl) ?_
                refine HList.nil ?_
                refine nt ?_
                obtain ⟨hT, hF⟩ := h
                refine HW.cond (!y30) rfl (fun hb67 => ?_) (fun hb67 => ?_)
                · have h := hT hb67
                  clear hT hF
                  refine HW.seq ?_
                  refine HW.region ?_
                  refine HList.vals (v := (.int .i64 p2)) rfl (HVal.move' rfl) ?_
                  refine HList.vals (v := (.int .i64 p3)) rfl (HVal.move' rfl) ?_
                  refine HList.ops' rfl (HOp.call' 5 [(.int .i64 p2), (.int .i64 p3)] (cap := []) rfl rfl Try.call5 (walk5 h)) ?_
                  rintro _ H68 ⟨r70, r71, r72, rfl, h⟩
                  refine HList.vals (v := (.tuple #[(.agg #[(.pointer r70), (.pointer r71)]), (.bool r72)])) rfl (HVal.move' rfl) ?_
                  refine HList.vals (v := (.agg #[(.pointer r70), (.pointer r71)])) rfl (HVal.extract rfl rfl) ?_
                  refine HList.vals (v := (.bool r72)) rfl (HVal.extract rfl rfl) ?_
                  obtain ⟨z75, h⟩ := h
                  refine HList.opsn (HOp.storeN' (l := [(.pointer r70), (.pointer r71)]) Try.sizeOf26 rfl rfl rfl z75) ?_
                  rintro _ H73 e74
                  replace h := h H73 e74
                  refine HList.vals (v := (.bool r72)) rfl (HVal.assign' rfl) ?_
                  refine HList.nil ?_
                  refine nt ?_
                  refine HW.seq ?_
                  refine HW.region ?_
                  refine HList.vals (v := (.bool true)) rfl (HVal.assign' rfl) ?_
                  refine HList.nil ?_
                  refine nt ?_
                  refine HW.seq ?_
                  refine HW.region ?_
                  refine HList.vals (v := (.bool r72)) rfl (HVal.move' rfl) ?_
                  refine HList.vals (v := (.bool (!r72))) rfl (HVal.not rfl) ?_
                  refine HList.nil ?_
                  refine nt ?_
                  obtain ⟨hT, hF⟩ := h
                  refine HW.cond (!r72) rfl (fun hb76 => ?_) (fun hb76 => ?_)
                  · have h := hT hb76
                    clear hT hF
                    refine HW.seq ?_
                    refine HW.region ?_
                    refine HList.vals (v := (.bool false)) rfl (HVal.assign' rfl) ?_
                    refine HList.nil ?_
                    refine nt ?_
                    refine HW.ret ?_
                    refine tr ?_
                    refine tr ?_
                    refine br ?_
                    refine tr ?_
                    refine tr ?_
                    refine br ?_
                    refine tr ?_
                    exact ⟨_, resOf1 rfl Res1.t, ⟨false, rfl, h⟩⟩
                  · have h := hF hb76
                    clear hT hF
                    refine HW.skip ?_
                    refine nt ?_
                    exact ⟨r72, true, ⟨rfl, rfl, rfl, rfl, rfl, rfl, rfl, rfl, rfl, trivial⟩, h⟩
                · have h := hF hb67
                  clear hT hF
                  refine HW.skip ?_
                  refine nt ?_
                  exact ⟨y29, y30, ⟨rfl, rfl, rfl, rfl, rfl, rfl, rfl, rfl, rfl, trivial⟩, h⟩
              · rintro ρ H_5 ⟨y77, y78, hI, h⟩
                obtain ⟨ρ0, rfl⟩ : ∃ ρ0, ρ = (Env.set (Env.set (Env.set (Env.set (Env.set (Env.set (Env.set (Env.set (Env.set ρ0 14 (.bool y78)) 12 (.bool y77)) 16 (.pointer (some ⟨H_3.size, 0, none⟩))) 15 (.int .i64 y31)) 13 (.pointer (some ⟨H_1.size, 0, none⟩))) 11 (.pointer (some ⟨H1.size, 0, none⟩))) 4 (Sl.v p4)) 3 (.int .i64 p3)) 2 (.int .i64 p2)) := ⟨ρ, hI.eq⟩
                clear hI; unfold F3_5 at h
                refine HW.seq ?_
                refine HW.region ?_
                obtain ⟨x80, x81, c79, h⟩ := h
                refine HList.vals (v := (.agg #[(.pointer x80), (.pointer x81)])) rfl (HVal.loadN [(.pointer x80), (.pointer x81)] Try.isAgg26 Try.sizeOf26 rfl c79) ?_
                obtain ⟨z84, h⟩ := h
                refine HList.opsn (HOp.storeN' (l := [(.pointer x80), (.pointer x81)]) Try.sizeOf26 rfl rfl rfl z84) ?_
                rintro _ H82 e83
                replace h := h H82 e83
                refine HList.nil ?_
                refine nt ?_
                refine HW.seq ?_
                refine HW.region ?_
                refine HList.vals (v := (.int .i64 p2)) rfl (HVal.move' rfl) ?_
                refine HList.vals (v := (.int .i64 p3)) rfl (HVal.move' rfl) ?_
                refine HList.ops' rfl (HOp.call' 5 [(.int .i64 p2), (.int .i64 p3)] (cap := []) rfl rfl Try.call5 (walk5 h)) ?_
                rintro _ H85 ⟨r87, r88, r89, rfl, h⟩
                refine HList.vals (v := (.tuple #[(.agg #[(.pointer r87), (.pointer r88)]), (.bool r89)])) rfl (HVal.move' rfl) ?_
                refine HList.vals (v := (.agg #[(.pointer r87), (.pointer r88)])) rfl (HVal.extract rfl rfl) ?_
                refine HList.vals (v := (.bool r89)) rfl (HVal.extract rfl rfl) ?_
                refine HList.ops' rfl (HOp.alloc Try.zeroValue26) ?_
                rintro _ H90 ⟨rfl, e91⟩
                replace h := h H90 e91
                obtain ⟨z94, h⟩ := h
                refine HList.opsn (HOp.storeN' (l := [(.pointer r87), (.pointer r88)]) Try.sizeOf26 rfl rfl rfl z94) ?_
                rintro _ H92 e93
                replace h := h H92 e93
                refine HList.vals (v := (.bool r89)) rfl (HVal.assign' rfl) ?_
                refine HList.nil ?_
                refine nt ?_
                refine HW.cut (fun ρ H_6 => ∃ (y106 : Bool), Env.Is ρ [(2, (.int .i64 p2)), (3, (.int .i64 p3)), (4, (Sl.v p4)), (11, (.pointer (some ⟨H1.size, 0, none⟩))), (12, (.bool y77)), (13, (.pointer (some ⟨H_1.size, 0, none⟩))), (14, (.bool y78)), (15, (.int .i64 y31)), (16, (.pointer (some ⟨H_3.size, 0, none⟩))), (70, (.bool y106))] ∧ F3_6 Q X3 p2 p3 p4 ⟨H1.size, 0, none⟩ y77 ⟨H_1.size, 0, none⟩ y78 y31 ⟨H_3.size, 0, none⟩ y106 H_6) ?_ ?_
                · refine HW.draw mixed [(0, some []), (1, some []), (2, some []), (3, some [8]), (4, some []), (5, some []), (6, some []), (7, some [8]), (8, none), (9, some []), (10, some [])] rfl (by kernel_rfl) (by kernel_rfl) ?_
                  refine HPlan.takev (v := (.bool r89)) rfl rfl (fun _ => HVal.move' rfl) ?_
                  refine HPlan.takev (v := (.bool (!r89))) rfl rfl (fun _ => HVal.not rfl) ?_
                  refine HPlan.takev (v := (.bool (!r89))) rfl rfl (fun _ => HVal.move' rfl) ?_
                  obtain ⟨hT, hF⟩ := h
                  rcases Bool.eq_false_or_eq_true (!r89) with hb104 | hb105
                  · have h := hT hb104
                    clear hT hF
                    refine HPlan.takegskip rfl rfl rfl rfl (congrArg Value.bool hb104) ?_
                    refine HPlan.takegskip rfl rfl rfl rfl (congrArg Value.bool hb104) ?_
                    refine HPlan.takegskip rfl rfl rfl rfl (congrArg Value.bool hb104) ?_
                    refine HPlan.takegskip rfl rfl rfl rfl (congrArg Value.bool hb104) ?_
                    refine HPlan.takegskip rfl rfl rfl rfl (congrArg Value.bool hb104) ?_
                    refine HPlan.opgskip rfl rfl rfl rfl (congrArg Value.bool hb104) ?_
                    refine HPlan.takegskip rfl rfl rfl rfl (congrArg Value.bool hb104) ?_
                    refine HPlan.takev (v := (.bool true)) rfl rfl (fun _ => HVal.pickT rfl hb104 rfl) ?_
                    refine HPlan.done ?_
                    refine nt ?_
                    exact ⟨true, ⟨rfl, rfl, rfl, rfl, rfl, rfl, rfl, rfl, rfl, rfl, trivial⟩, h⟩
                  · have h := hF hb105
                    clear hT hF
                    obtain ⟨x108, x109, c107, h⟩ := h
                    refine HPlan.gtakel (v := (.agg #[(.pointer x108), (.pointer x109)])) (fun X => cells X ⟨H85.size, 0, none⟩ [(.pointer x108), (.pointer x109)] 0) rfl rfl rfl rfl rfl (congrArg Value.bool hb105) (fun _ hX => HVal.loadN [(.pointer x108), (.pointer x109)] Try.isAgg26 Try.sizeOf26 rfl hX) c107 ?_
                    refine HPlan.gtakev (v := (Sl.v p4)) rfl rfl rfl rfl rfl (congrArg Value.bool hb105) (fun _ => HVal.move' rfl) ?_
                    refine HPlan.gtakev (v := (.int .i64 y31)) rfl rfl rfl rfl rfl (congrArg Value.bool hb105) (fun _ => HVal.move' rfl) ?_
                    obtain ⟨a110, e111, b112, b113, h⟩ := h
                    refine HPlan.gtakev (v := (.pointer (some (Addr.add a110 (y31.toNat * 6))))) rfl rfl rfl rfl rfl (congrArg Value.bool hb105) (fun _ => HVal.indexAddr Try.runUnderlying22 Try.sizeOf34 (Sl.v_some rfl e111) rfl b112 b113) ?_
                    obtain ⟨x115, x116, x117, x118, x119, x120, c114, h⟩ := h
                    refine HPlan.gtakel (v := (.agg #[(.int .i64 x115), (.bool x116), (.string x117), (.int .i64 x118), (Sl.v x119), (.int .i64 x120)])) (fun X => cells X (Addr.add a110 (y31.toNat * 6)) [(.int .i64 x115), (.bool x116), (.string x117), (.int .i64 x118), (Sl.v x119), (.int .i64 x120)] 0) rfl rfl rfl rfl rfl (congrArg Value.bool hb105) (fun _ hX => HVal.loadN [(.int .i64 x115), (.bool x116), (.string x117), (.int .i64 x118), (Sl.v x119), (.int .i64 x120)] Try.isAgg34 Try.sizeOf34 rfl hX) c114 ?_
                    refine HPlan.gops rfl rfl rfl rfl rfl (congrArg Value.bool hb105) (HOp.call' 7 [(.agg #[(.pointer x108), (.pointer x109)]), (.agg #[(.int .i64 x115), (.bool x116), (.string x117), (.int .i64 x118), (Sl.v x119), (.int .i64 x120)])] (cap := []) rfl rfl Try.call7 (walk7 h)) ?_
                    rintro _ H121 ⟨r123, rfl, h⟩
                    refine ⟨SC_of ⟨fun e => absurd e (by decide), fun e => absurd e (by decide), trivial⟩, ?_⟩
                    refine HPlan.gtakev (v := (.bool (!r123))) rfl rfl rfl rfl rfl (congrArg Value.bool hb105) (fun _ => HVal.not rfl) ?_
                    refine HPlan.takev (v := (.bool (!r123))) rfl rfl (fun _ => HVal.pickF rfl hb105 rfl) ?_
                    refine HPlan.done ?_
                    refine nt ?_
                    exact ⟨(!r123), ⟨rfl, rfl, rfl, rfl, rfl, rfl, rfl, rfl, rfl, rfl, trivial⟩, h⟩
                · rintro ρ H_6 ⟨y106, hI, h⟩
                  obtain ⟨ρ0, rfl⟩ : ∃ ρ0, ρ = (Env.set (Env.set (Env.set (Env.set (Env.set (Env.set (Env.set (Env.set (Env.set (Env.set ρ0 70 (.bool y106)) 16 (.pointer (some ⟨H_3.size, 0, none⟩))) 15 (.int .i64 y31)) 14 (.bool y78)) 13 (.pointer (some ⟨H_1.size, 0, none⟩))) 12 (.bool y77)) 11 (.pointer (some ⟨H1.size, 0, none⟩))) 4 (Sl.v p4)) 3 (.int .i64 p3)) 2 (.int .i64 p2)) := ⟨ρ, hI.eq⟩
                  clear hI; unfold F3_6 at h
                  obtain ⟨hT, hF⟩ := h
                  refine HW.cond y106 rfl (fun hb124 => ?_) (fun hb124 => ?_)
                  · have h := hT hb124
                    clear hT hF
                    refine HW.seq ?_
                    refine HW.region ?_
                    refine HList.vals (v := (.bool false)) rfl (HVal.assign' rfl) ?_
                    refine HList.nil ?_
                    refine nt ?_
                    refine HW.ret ?_
                    refine tr ?_
                    refine br ?_
                    refine tr ?_
                    refine tr ?_
                    refine br ?_
                    refine tr ?_
                    exact ⟨_, resOf1 rfl Res1.t, ⟨false, rfl, h⟩⟩
                  · have h := hF hb124
                    clear hT hF
                    refine HW.skip ?_
                    refine nt ?_
                    exact ⟨y77, y78, ⟨rfl, rfl, rfl, rfl, rfl, rfl, rfl, rfl, rfl, trivial⟩, h⟩
            · have h := hF hb59
              clear hT hF
              refine HW.skip ?_
              refine nt ?_
              exact ⟨y29, y30, ⟨rfl, rfl, rfl, rfl, rfl, rfl, rfl, rfl, rfl, trivial⟩, h⟩
          · rintro ρ H_4 ⟨y125, y126, hI, h⟩
            obtain ⟨ρ0, rfl⟩ : ∃ ρ0, ρ = (Env.set (Env.set (Env.set (Env.set (Env.set (Env.set (Env.set (Env.set (Env.set ρ0 14 (.bool y126)) 12 (.bool y125)) 16 (.pointer (some ⟨H_3.size, 0, none⟩))) 15 (.int .i64 y31)) 13 (.pointer (some ⟨H_1.size, 0, none⟩))) 11 (.pointer (some ⟨H1.size, 0, none⟩))) 4 (Sl.v p4)) 3 (.int .i64 p3)) 2 (.int .i64 p2)) := ⟨ρ, hI.eq⟩
            clear hI; unfold F3_4 at h
            refine HW.seq ?_
            refine HW.draw mixed [(0, some [5]), (1, some []), (2, some []), (3, some []), (4, some [5]), (5, none), (6, some [])] rfl (by kernel_rfl) (by kernel_rfl) ?_
            obtain ⟨x128, x129, c127, h⟩ := h
            refine HPlan.takel (v := (.agg #[(.pointer x128), (.pointer x129)])) (fun X => cells X ⟨H_3.size, 0, none⟩ [(.pointer x128), (.pointer x129)] 0) rfl rfl (fun _ hX => HVal.loadN [(.pointer x128), (.pointer x129)] Try.isAgg26 Try.sizeOf26 rfl hX) c127 ?_
            refine HPlan.takev (v := (Sl.v p4)) rfl rfl (fun _ => HVal.move' rfl) ?_
            refine HPlan.takev (v := (.int .i64 y31)) rfl rfl (fun _ => HVal.move' rfl) ?_
            obtain ⟨a130, e131, b132, b133, h⟩ := h
            refine HPlan.takev (v := (.pointer (some (Addr.add a130 (y31.toNat * 6))))) rfl rfl (fun _ => HVal.indexAddr Try.runUnderlying22 Try.sizeOf34 (Sl.v_some rfl e131) rfl b132 b133) ?_
            obtain ⟨x135, x136, x137, x138, x139, x140, c134, h⟩ := h
            refine HPlan.takel (v := (.agg #[(.int .i64 x135), (.bool x136), (.string x137), (.int .i64 x138), (Sl.v x139), (.int .i64 x140)])) (fun X => cells X (Addr.add a130 (y31.toNat * 6)) [(.int .i64 x135), (.bool x136), (.string x137), (.int .i64 x138), (Sl.v x139), (.int .i64 x140)] 0) rfl rfl (fun _ hX => HVal.loadN [(.int .i64 x135), (.bool x136), (.string x137), (.int .i64 x138), (Sl.v x139), (.int .i64 x140)] Try.isAgg34 Try.sizeOf34 rfl hX) c134 ?_
            refine HPlan.ops' rfl rfl (HOp.call' 7 [(.agg #[(.pointer x128), (.pointer x129)]), (.agg #[(.int .i64 x135), (.bool x136), (.string x137), (.int .i64 x138), (Sl.v x139), (.int .i64 x140)])] (cap := []) rfl rfl Try.call7 (walk7 h)) ?_
            rintro _ H141 ⟨r143, rfl, h⟩
            refine ⟨SC_of ⟨fun e => absurd e (by decide), fun e => absurd e (by decide), trivial⟩, ?_⟩
            refine HPlan.takev (v := (.bool (!r143))) rfl rfl (fun _ => HVal.not rfl) ?_
            refine HPlan.done ?_
            refine nt ?_
            obtain ⟨hT, hF⟩ := h
            refine HW.cond (!r143) rfl (fun hb144 => ?_) (fun hb144 => ?_)
            · have h := hT hb144
              clear hT hF
              refine HW.seq ?_
              refine HW.region ?_
              refine HList.vals (v := (.bool false)) rfl (HVal.assign' rfl) ?_
              refine HList.nil ?_
              refine nt ?_
              refine HW.ret ?_
              refine br ?_
              refine tr ?_
              refine tr ?_
              refine br ?_
              refine tr ?_
              exact ⟨_, resOf1 rfl Res1.t, ⟨false, rfl, h⟩⟩
            · have h := hF hb144
              clear hT hF
              refine HW.skip ?_
              refine nb ?_
              refine nt ?_
              refine HW.region ?_
              refine HList.vals (v := (.int .i64 y31)) rfl (HVal.move' rfl) ?_
              refine HList.vals (v := (.int .i64 (IntKind.i64.wrap (y31 + 1)))) rfl (HVal.add rfl rfl) ?_
              refine HList.vals (v := (.int .i64 (IntKind.i64.wrap (y31 + 1)))) rfl (HVal.assign' rfl) ?_
              refine HList.nil ?_
              refine nt ?_
              exact (hX3 _ _ _ _).1 h _ ⟨rfl, rfl, rfl, rfl, rfl, rfl, rfl, rfl, trivial⟩
        · have h := hF hb37
          clear hT hF
          refine HW.exit ?_
          refine te ?_
          refine te ?_
          refine be ?_
          refine nt ?_
          exact ⟨y29, y30, ⟨rfl, rfl, rfl, rfl, rfl, rfl, trivial⟩, h⟩
      · rintro ρ H_2 ⟨y145, y146, hI, h⟩
        obtain ⟨ρ0, rfl⟩ : ∃ ρ0, ρ = (Env.set (Env.set (Env.set (Env.set (Env.set (Env.set ρ0 14 (.bool y146)) 12 (.bool y145)) 13 (.pointer (some ⟨H_1.size, 0, none⟩))) 11 (.pointer (some ⟨H1.size, 0, none⟩))) 3 (.int .i64 p3)) 2 (.int .i64 p2)) := ⟨ρ, hI.eq⟩
        clear hI; unfold F3_2 at h
        refine HW.cut (fun ρ H_7 => ∃ (y155 : Bool), Env.Is ρ [(11, (.pointer (some ⟨H1.size, 0, none⟩))), (13, (.pointer (some ⟨H_1.size, 0, none⟩))), (12, (.bool y155))] ∧ F3_7 Q ⟨H1.size, 0, none⟩ ⟨H_1.size, 0, none⟩ y155 H_7) ?_ ?_
        · refine HW.seq ?_
          refine HW.region ?_
          refine HList.vals (v := (.bool y146)) rfl (HVal.move' rfl) ?_
          refine HList.vals (v := (.bool (!y146))) rfl (HVal.not rfl) ?_
          refine HList.nil ?_
          refine nt ?_
          obtain ⟨hT, hF⟩ := h
          refine HW.cond (!y146) rfl (fun hb149 => ?_) (fun hb149 => ?_)
          · have h := hT hb149
            clear hT hF
            refine HW.region ?_
            refine HList.vals (v := (.int .i64 p2)) rfl (HVal.move' rfl) ?_
            refine HList.vals (v := (.int .i64 p3)) rfl (HVal.move' rfl) ?_
            refine HList.ops' rfl (HOp.call' 5 [(.int .i64 p2), (.int .i64 p3)] (cap := []) rfl rfl Try.call5 (walk5 h)) ?_
            rintro _ H150 ⟨r152, r153, r154, rfl, h⟩
            refine HList.vals (v := (.tuple #[(.agg #[(.pointer r152), (.pointer r153)]), (.bool r154)])) rfl (HVal.move' rfl) ?_
            refine HList.vals (v := (.agg #[(.pointer r152), (.pointer r153)])) rfl (HVal.extract rfl rfl) ?_
            refine HList.vals (v := (.bool r154)) rfl (HVal.extract rfl rfl) ?_
            refine HList.vals (v := (.bool r154)) rfl (HVal.assign' rfl) ?_
            refine HList.nil ?_
            refine nt ?_
            exact ⟨r154, ⟨rfl, rfl, rfl, trivial⟩, h⟩
          · have h := hF hb149
            clear hT hF
            refine HW.skip ?_
            refine nt ?_
            exact ⟨y145, ⟨rfl, rfl, rfl, trivial⟩, h⟩
        · rintro ρ H_7 ⟨y155, hI, h⟩
          obtain ⟨ρ0, rfl⟩ : ∃ ρ0, ρ = (Env.set (Env.set (Env.set ρ0 12 (.bool y155)) 13 (.pointer (some ⟨H_1.size, 0, none⟩))) 11 (.pointer (some ⟨H1.size, 0, none⟩))) := ⟨ρ, hI.eq⟩
          clear hI; unfold F3_7 at h
          refine HW.seq ?_
          refine HW.region ?_
          refine HList.vals (v := (.bool y155)) rfl (HVal.move' rfl) ?_
          refine HList.vals (v := (.bool y155)) rfl (HVal.move' rfl) ?_
          obtain ⟨hT, hF⟩ := h
          rcases Bool.eq_false_or_eq_true y155 with hb156 | hb157
          · have h := hT hb156
            clear hT hF
            obtain ⟨x159, x160, c158, h⟩ := h
            refine HList.gvals (v := (.agg #[(.pointer x159), (.pointer x160)])) rfl rfl rfl rfl (congrArg Value.bool hb156) (HVal.loadN [(.pointer x159), (.pointer x160)] Try.isAgg26 Try.sizeOf26 rfl c158) ?_
            refine HList.gvals (v := (.agg #[(.int .i64 4), (.bool false), (.string (ByteArray.mk #[])), (.int .i64 0), (Sl.v Sl.nil), (.int .i64 0)])) rfl rfl rfl rfl (congrArg Value.bool hb156) (HVal.build' (cs := [(.int .i64 4), (.bool false), (.string (ByteArray.mk #[])), (.int .i64 0), (Sl.v Sl.nil), (.int .i64 0)]) Try.runUnderlying34 Try.zeroValue34 places34 rfl) ?_
            refine HList.gops rfl rfl rfl rfl (congrArg Value.bool hb156) (HOp.call' 7 [(.agg #[(.pointer x159), (.pointer x160)]), (.agg #[(.int .i64 4), (.bool false), (.string (ByteArray.mk #[])), (.int .i64 0), (Sl.v Sl.nil), (.int .i64 0)])] (cap := []) rfl rfl Try.call7 (walk7 h)) ?_
            rintro _ H161 ⟨r163, rfl, h⟩
            refine HList.vals (v := (.bool r163)) rfl (HVal.pickT rfl hb156 rfl) ?_
            refine HList.vals (v := (.bool r163)) rfl (HVal.move' rfl) ?_
            obtain ⟨hT, hF⟩ := h
            rcases Bool.eq_false_or_eq_true r163 with hb164 | hb165
            · have h := hT hb164
              clear hT hF
              obtain ⟨x167, x168, c166, h⟩ := h
              refine HList.gvals (v := (.agg #[(.pointer x167), (.pointer x168)])) rfl rfl rfl rfl (congrArg Value.bool hb164) (HVal.loadN [(.pointer x167), (.pointer x168)] Try.isAgg26 Try.sizeOf26 rfl c166) ?_
              refine HList.gvals (v := (.agg #[(.int .i64 4), (.bool false), (.string (ByteArray.mk #[])), (.int .i64 0), (Sl.v Sl.nil), (.int .i64 0)])) rfl rfl rfl rfl (congrArg Value.bool hb164) (HVal.build' (cs := [(.int .i64 4), (.bool false), (.string (ByteArray.mk #[])), (.int .i64 0), (Sl.v Sl.nil), (.int .i64 0)]) Try.runUnderlying34 Try.zeroValue34 places34 rfl) ?_
              refine HList.gops rfl rfl rfl rfl (congrArg Value.bool hb164) (HOp.call' 7 [(.agg #[(.pointer x167), (.pointer x168)]), (.agg #[(.int .i64 4), (.bool false), (.string (ByteArray.mk #[])), (.int .i64 0), (Sl.v Sl.nil), (.int .i64 0)])] (cap := []) rfl rfl Try.call7 (walk7 h)) ?_
              rintro _ H169 ⟨r171, rfl, h⟩
              refine HList.vals (v := (.bool r171)) rfl (HVal.pickT rfl hb164 rfl) ?_
              refine HList.vals (v := (.bool r171)) rfl (HVal.assign' rfl) ?_
              refine HList.nil ?_
              refine nt ?_
              refine HW.ret ?_
              exact ⟨_, resOf1 rfl Res1.t, ⟨r171, rfl, h⟩⟩
            · have h := hF hb165
              clear hT hF
              refine HList.gskips rfl rfl rfl rfl (congrArg Value.bool hb165) ?_
              refine HList.gskips rfl rfl rfl rfl (congrArg Value.bool hb165) ?_
              refine HList.gskips rfl rfl rfl rfl (congrArg Value.bool hb165) ?_
              refine HList.vals (v := (.bool false)) rfl (HVal.pickF rfl hb165 rfl) ?_
              refine HList.vals (v := (.bool false)) rfl (HVal.assign' rfl) ?_
              refine HList.nil ?_
              refine nt ?_
              refine HW.ret ?_
              exact ⟨_, resOf1 rfl Res1.t, ⟨false, rfl, h⟩⟩
          · have h := hF hb157
            clear hT hF
            refine HList.gskips rfl rfl rfl rfl (congrArg Value.bool hb157) ?_
            refine HList.gskips rfl rfl rfl rfl (congrArg Value.bool hb157) ?_
            refine HList.gskips rfl rfl rfl rfl (congrArg Value.bool hb157) ?_
            refine HList.vals (v := (.bool false)) rfl (HVal.pickF rfl hb157 rfl) ?_
            refine HList.vals (v := (.bool false)) rfl (HVal.move' rfl) ?_
            refine HList.gskips rfl rfl rfl rfl rfl ?_
            refine HList.gskips rfl rfl rfl rfl rfl ?_
            refine HList.gskips rfl rfl rfl rfl rfl ?_
            refine HList.vals (v := (.bool false)) rfl (HVal.pickF rfl rfl rfl) ?_
            refine HList.vals (v := (.bool false)) rfl (HVal.assign' rfl) ?_
            refine HList.nil ?_
            refine nt ?_
            refine HW.ret ?_
            exact ⟨_, resOf1 rfl Res1.t, ⟨false, rfl, h⟩⟩

end Go.Hw
