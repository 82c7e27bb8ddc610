/- The walks of this seat, printed by a program of this session (wip/tools/gen.py): of each function what it does to the heap, and that it does so. -/
import Derived.Test.YtjeponambmjhcaaHwG
import Derived.Test.YtjeponambmjhcaaProg
import Derived.Test.YtjeponambmjhcaaWalkB
set_option linter.unusedVariables false
set_option linter.unusedSimpArgs false
namespace Go.Hw
open Go Go.Proofs
def F15 (p0 : Int) (H : Hp) (Q : Int → Int → ByteArray → Bool → Hp → Prop) : Prop :=
∀ H1 : Hp, H1 = Array.push H (.cells #[(.int .i64 0), (.int .i64 0), (.string (ByteArray.mk #[])), (.bool false)] 49) → (
 mayw H1 ⟨H.size, 0, none⟩ 4 0 ∧ ∀ H3 : Hp, H3 = sets H1 ⟨H.size, 0, none⟩ [(.int .i64 9), (.int .i64 p0), (.string (ByteArray.mk #[])), (.bool false)] 0 → (
 ∃ (x6 : Int) (x7 : Int) (x8 : ByteArray) (x9 : Bool), cells H3 ⟨H.size, 0, none⟩ [(.int .i64 x6), (.int .i64 x7), (.string x8), (.bool x9)] 0 ∧ (
 Q x6 x7 x8 x9 H3)))
set_option maxRecDepth 100000 in
set_option maxHeartbeats 4000000 in
theorem walk15 {w0 : World} {p0 : Int} {H : Hp} {Q : Int → Int → ByteArray → Bool → Hp → Prop} (h : F15 p0 H Q) :
    Good Try.prog w0 15 #[(.int .i64 p0)] H (fun v H => ∃ (r0 : Int) (r1 : Int) (r2 : ByteArray) (r3 : Bool) , v = (.agg #[(.int .i64 r0), (.int .i64 r1), (.string r2), (.bool r3)]) ∧ Q r0 r1 r2 r3 H) := by
  unfold F15 at h
  refine Good.enter' (fn := Try.f15) Try.func15 rfl rfl rfl ?_
  refine HW.seq ?_
  refine HW.region ?_
  refine HList.ops' rfl (HOp.alloc Try.zeroValue49) ?_
  rintro _ H1 ⟨rfl, e2⟩
  replace h := h H1 e2
  refine HList.nil ?_
  refine nt ?_
  refine HW.seq ?_
  refine HW.region ?_
  refine HList.vals (v := (.int .i64 p0)) rfl (HVal.move' rfl) ?_
  refine HList.vals (v := (.agg #[(.int .i64 9), (.int .i64 p0), (.string (ByteArray.mk #[])), (.bool false)])) rfl (HVal.build' (cs := [(.int .i64 9), (.int .i64 p0), (.string (ByteArray.mk #[])), (.bool false)]) Try.runUnderlying49 Try.zeroValue49 places49 rfl) ?_
  obtain ⟨z5, h⟩ := h
  refine HList.opsn (HOp.storeN' (l := [(.int .i64 9), (.int .i64 p0), (.string (ByteArray.mk #[])), (.bool false)]) Try.sizeOf49 rfl rfl rfl z5) ?_
  rintro _ H3 e4
  replace h := h H3 e4
  refine HList.nil ?_
  refine nt ?_
  refine HW.ret ?_
  obtain ⟨x6, x7, x8, x9, c10, h⟩ := h
  exact ⟨_, resOf1 rfl (Res1.n [(.int .i64 x6), (.int .i64 x7), (.string x8), (.bool x9)] Try.isAgg49 Try.sizeOf49 rfl c10), ⟨x6, x7, x8, x9, rfl, h⟩⟩

def F45 (p0 : Int) (H : Hp) (Q : Int → Hp → Prop) : Prop :=
Q (if (70000 : Int) < p0 then 70000 else p0) H
set_option maxRecDepth 100000 in
set_option maxHeartbeats 4000000 in
theorem walk45 {w0 : World} {p0 : Int} {H : Hp} {Q : Int → Hp → Prop} (h : F45 p0 H Q) :
    Good Try.prog w0 45 #[(.int .i64 p0)] H (fun v H => ∃ (r0 : Int) , v = (.int .i64 r0) ∧ Q r0 H) := by
  unfold F45 at h
  refine Good.enter' (fn := Try.f45) Try.func45 rfl rfl rfl ?_
  refine HW.seq ?_
  refine HW.region ?_
  refine HList.vals (v := (.int .i64 0)) rfl (HVal.assign' rfl) ?_
  refine HList.nil ?_
  refine nt ?_
  refine HW.seq ?_
  refine HW.region ?_
  refine HList.vals (v := (.int .i64 p0)) rfl (HVal.move' rfl) ?_
  refine HList.vals (v := (.int .i64 (if (70000 : Int) < p0 then 70000 else p0))) rfl (HVal.min rfl rfl) ?_
  refine HList.vals (v := (.int .i64 (if (70000 : Int) < p0 then 70000 else p0))) rfl (HVal.assign' rfl) ?_
  refine HList.nil ?_
  refine nt ?_
  refine HW.ret ?_
  exact ⟨_, resOf1 rfl Res1.t, ⟨(if (70000 : Int) < p0 then 70000 else p0), rfl, h⟩⟩

def F13_2 (Q : Bool → Hp → Prop) (X1 : Int → Hp → Prop) (y11 : Sl) (y12 : Addr) (y13 : Int) (y14 : Int) (y39 : Bool) (H_2 : Hp) : Prop :=
(y39 = true → (Q false H_2)) ∧
 (y39 = false → (X1 (IntKind.i64.wrap (y14 + 1)) H_2))
def F13_L1b (Q : Bool → Hp → Prop) (X1 : Int → Hp → Prop) (y7 : Sl) (y8 : Addr) (y9 : Int) (y6 : Int) (H_1 : Hp) : Prop :=
((decide (y6 < ((y7).n : Int))) = true → (((decide (y6 < y9)) = true → (∃ a17 : Addr, (y7).b = some a17 ∧ (0 : Int) ≤ y6 ∧ y6 < ((y7).n : Int) ∧ (
 ∃ (x22 : Int) (x23 : Int) (x24 : ByteArray) (x25 : Bool), cells H_1 (Addr.add a17 (y6.toNat * 4)) [(.int .i64 x22), (.int .i64 x23), (.string x24), (.bool x25)] 0 ∧ (
 ∃ x27 : Sl, cell H_1 (Addr.add y8 2) = some (Sl.v x27) ∧ (
 ∃ a28 : Addr, (x27).b = some a28 ∧ (0 : Int) ≤ y6 ∧ y6 < ((x27).n : Int) ∧ (
 ∃ (x33 : Int) (x34 : Int) (x35 : ByteArray) (x36 : Bool), cells H_1 (Addr.add a28 (y6.toNat * 4)) [(.int .i64 x33), (.int .i64 x34), (.string x35), (.bool x36)] 0 ∧ (
 ((!(decide (x22 = x33) && (decide (x23 = x34) && (seq x24 x35 && (x25 == x36))))) = true → (F13_2 Q X1 y7 y8 y9 y6 true H_1)) ∧
 ((!(decide (x22 = x33) && (decide (x23 = x34) && (seq x24 x35 && (x25 == x36))))) = false → (((decide (y9 ≤ y6)) = true → (∃ a42 : Addr, (y7).b = some a42 ∧ (0 : Int) ≤ y6 ∧ y6 < ((y7).n : Int) ∧ (
 ∃ (x47 : Int) (x48 : Int) (x49 : ByteArray) (x50 : Bool), cells H_1 (Addr.add a42 (y6.toNat * 4)) [(.int .i64 x47), (.int .i64 x48), (.string x49), (.bool x50)] 0 ∧ (
 F15 (IntKind.i64.wrap ((IntKind.i64.wrap (y9 - y6)) - 1)) H_1 (fun (r53 : Int) (r54 : Int) (r55 : ByteArray) (r56 : Bool) (H51 : Hp) => 
 cells H51 (Addr.add a42 (y6.toNat * 4)) [(.int .i64 x47), (.int .i64 x48), (.string x49), (.bool x50)] 0 ∧ cells H51 (Addr.add a28 (y6.toNat * 4)) [(.int .i64 x33), (.int .i64 x34), (.string x35), (.bool x36)] 0 ∧ cell H51 (Addr.add y8 2) = some (Sl.v x27) ∧ cells H51 (Addr.add a17 (y6.toNat * 4)) [(.int .i64 x22), (.int .i64 x23), (.string x24), (.bool x25)] 0 ∧ (
 F13_2 Q X1 y7 y8 y9 y6 (!(decide (x47 = r53) && (decide (x48 = r54) && (seq x49 r55 && (x50 == r56))))) H51)))))) ∧
 ((decide (y9 ≤ y6)) = false → (F13_2 Q X1 y7 y8 y9 y6 false H_1))))))))))) ∧
 ((decide (y6 < y9)) = false → (((decide (y9 ≤ y6)) = true → (∃ a63 : Addr, (y7).b = some a63 ∧ (0 : Int) ≤ y6 ∧ y6 < ((y7).n : Int) ∧ (
 ∃ (x68 : Int) (x69 : Int) (x70 : ByteArray) (x71 : Bool), cells H_1 (Addr.add a63 (y6.toNat * 4)) [(.int .i64 x68), (.int .i64 x69), (.string x70), (.bool x71)] 0 ∧ (
 F15 (IntKind.i64.wrap ((IntKind.i64.wrap (y9 - y6)) - 1)) H_1 (fun (r74 : Int) (r75 : Int) (r76 : ByteArray) (r77 : Bool) (H72 : Hp) => 
 cells H72 (Addr.add a63 (y6.toNat * 4)) [(.int .i64 x68), (.int .i64 x69), (.string x70), (.bool x71)] 0 ∧ (
 F13_2 Q X1 y7 y8 y9 y6 (!(decide (x68 = r74) && (decide (x69 = r75) && (seq x70 r76 && (x71 == r77))))) H72)))))) ∧
 ((decide (y9 ≤ y6)) = false → (F13_2 Q X1 y7 y8 y9 y6 false H_1)))))) ∧
 ((decide (y6 < ((y7).n : Int))) = false → (Q true H_1))
def F13_L1 (Q : Bool → Hp → Prop) (y7 : Sl) (y8 : Addr) (y9 : Int) (y6 : Int) (H_1 : Hp) : Prop :=
  ∀ X1 : Int → Hp → Prop, (∀ (y6 : Int) (H_1 : Hp), F13_L1b Q X1 y7 y8 y9 y6 H_1 → X1 y6 H_1) → X1 y6 H_1
def F13 (p0 : Sl) (p1_0 : ByteArray) (p1_1 : Int) (p1_2 : Sl) (H : Hp) (Q : Bool → Hp → Prop) : Prop :=
∀ H1 : Hp, H1 = Array.push H (.cells #[(.string p1_0), (.int .i64 p1_1), (Sl.v p1_2)] 32) → (
 ∃ x4 : Sl, cell H1 (Addr.add ⟨H.size, 0, none⟩ 2) = some (Sl.v x4) ∧ (
 ((decide (((p0).n : Int) ≠ (IntKind.i64.wrap (((x4).n : Int) + 34)))) = true → (Q false H1)) ∧
 ((decide (((p0).n : Int) ≠ (IntKind.i64.wrap (((x4).n : Int) + 34)))) = false → (F13_L1 Q p0 ⟨H.size, 0, none⟩ ((x4).n : Int) 0 H1))))
set_option maxRecDepth 100000 in
set_option maxHeartbeats 4000000 in
theorem walk13 {w0 : World} {p0 : Sl} {p1_0 : ByteArray} {p1_1 : Int} {p1_2 : Sl} {H : Hp} {Q : Bool → Hp → Prop} (h : F13 p0 p1_0 p1_1 p1_2 H Q) :
    Good Try.prog w0 13 #[(Sl.v p0), (.agg #[(.string p1_0), (.int .i64 p1_1), (Sl.v p1_2)])] H (fun v H => ∃ (r0 : Bool) , v = (.bool r0) ∧ Q r0 H) := by
  unfold F13 at h
  refine Good.enter' (fn := Try.f13) Try.func13 rfl rfl rfl ?_
  refine HW.seq ?_
  refine HW.region ?_
  refine HList.ops' rfl (HOp.box (v := (.agg #[(.string p1_0), (.int .i64 p1_1), (Sl.v p1_2)])) rfl) ?_
  rintro _ H1 ⟨rfl, e2⟩
  replace h := h H1 e2
  refine HList.vals (v := (.bool false)) rfl (HVal.assign' rfl) ?_
  refine HList.nil ?_
  refine nt ?_
  refine HW.seq ?_
  refine HW.region ?_
  refine HList.vals (v := (.pointer (some (Addr.add ⟨H.size, 0, none⟩ 2)))) rfl (HVal.fieldAddr' Try.runUnderlying32 rfl rfl Try.sizeOf30 rfl) ?_
  obtain ⟨x4, c3, h⟩ := h
  refine HList.vals (v := (Sl.v x4)) rfl (HVal.load1 Try.isAgg30 rfl c3) ?_
  refine HList.vals (v := (.int .i64 ((x4).n : Int))) rfl (HVal.len Try.runUnderlying30 rfl) ?_
  refine HList.vals (v := (.int .i64 ((x4).n : Int))) rfl (HVal.assign' rfl) ?_
  refine HList.nil ?_
  refine nt ?_
  refine HW.seq ?_
  refine HW.seq ?_
  refine HW.region ?_
  refine HList.vals (v := (Sl.v p0)) rfl (HVal.move' rfl) ?_
  refine HList.vals (v := (.int .i64 ((p0).n : Int))) rfl (HVal.len Try.runUnderlying30 rfl) ?_
  refine HList.vals (v := (.int .i64 ((x4).n : Int))) rfl (HVal.move' rfl) ?_
  refine HList.vals (v := (.int .i64 (IntKind.i64.wrap (((x4).n : Int) + 34)))) rfl (HVal.add rfl rfl) ?_
  refine HList.vals (v := (.bool (decide (((p0).n : Int) ≠ (IntKind.i64.wrap (((x4).n : Int) + 34)))))) rfl (HVal.neqI rfl rfl) ?_
  refine HList.nil ?_
  refine nt ?_
  obtain ⟨hT, hF⟩ := h
  refine HW.cond (decide (((p0).n : Int) ≠ (IntKind.i64.wrap (((x4).n : Int) + 34)))) rfl (fun hb5 => ?_) (fun hb5 => ?_)
  · have h := hT hb5
    clear hT hF
    refine HW.seq ?_
    refine HW.region ?_
    refine HList.vals (v := (.bool false)) rfl (HVal.assign' rfl) ?_
    refine HList.nil ?_
    refine nt ?_
    refine HW.ret ?_
    refine tr ?_
    exact ⟨_, resOf1 rfl Res1.t, ⟨false, rfl, h⟩⟩
  · have h := hF hb5
    clear hT hF
    refine HW.skip ?_
    refine nt ?_
    refine HW.seq ?_
    refine HW.seq ?_
    refine HW.region ?_
    refine HList.vals (v := (.int .i64 0)) rfl (HVal.assign' rfl) ?_
    refine HList.nil ?_
    refine nt ?_
    refine HW.block ?_
    refine HW.loop' (fun L1 hL1 => ?_)
    obtain ⟨X1, hX1⟩ : ∃ X1 : Int → Hp → Prop, ∀ (y6 : Int) (H_1 : Hp), X1 y6 H_1 ↔ ∀ ρ, Env.Is ρ [(0, (Sl.v p0)), (3, (.pointer (some ⟨H.size, 0, none⟩))), (5, (.int .i64 ((x4).n : Int))), (6, (.int .i64 y6))] → L1 ρ H_1 := ⟨_, fun _ _ => Iff.rfl⟩
    refine (hX1 _ _).1 (h X1 ?_) _ ?_
    rotate_left
    · exact ⟨rfl, rfl, rfl, rfl, trivial⟩
    clear h
    intro y6 H_1 h
    refine (hX1 _ _).2 fun ρ hI => ?_
    obtain ⟨ρ0, rfl⟩ : ∃ ρ0, ρ = (Env.set (Env.set (Env.set (Env.set ρ0 6 (.int .i64 y6)) 5 (.int .i64 ((x4).n : Int))) 3 (.pointer (some ⟨H.size, 0, none⟩))) 0 (Sl.v p0)) := ⟨ρ, hI.eq⟩
    clear hI; unfold F13_L1b at h; refine hL1 _ _ ?_
    refine HW.seq ?_
    refine HW.seq ?_
    refine HW.region ?_
    refine HList.vals (v := (.int .i64 y6)) rfl (HVal.move' rfl) ?_
    refine HList.vals (v := (Sl.v p0)) rfl (HVal.move' rfl) ?_
    refine HList.vals (v := (.int .i64 ((p0).n : Int))) rfl (HVal.len Try.runUnderlying30 rfl) ?_
    refine HList.vals (v := (.bool (decide (y6 < ((p0).n : Int))))) rfl (HVal.lss rfl rfl) ?_
    refine HList.nil ?_
    refine nt ?_
    obtain ⟨hT, hF⟩ := h
    refine HW.cond (decide (y6 < ((p0).n : Int))) rfl (fun hb10 => ?_) (fun hb10 => ?_)
    · have h := hT hb10
      clear hT hF
      refine HW.skip ?_
      refine nt ?_
      refine HW.seq ?_
      refine HW.block ?_
      refine HW.cut (fun ρ H_2 => ∃ (y39 : Bool), Env.Is ρ [(0, (Sl.v p0)), (3, (.pointer (some ⟨H.size, 0, none⟩))), (5, (.int .i64 ((x4).n : Int))), (6, (.int .i64 y6)), (52, (.bool y39))] ∧ F13_2 Q X1 p0 ⟨H.size, 0, none⟩ ((x4).n : Int) y6 y39 H_2) ?_ ?_
      · refine HW.draw mixed [(0, some []), (1, some []), (2, some []), (3, some []), (4, some []), (5, some []), (6, some []), (7, some []), (8, some []), (9, some []), (10, some []), (11, some []), (12, some []), (13, some []), (14, some []), (15, some []), (16, some []), (17, some []), (18, some []), (19, some []), (20, some []), (21, some []), (22, some []), (23, some []), (24, some []), (25, some []), (26, some []), (27, some []), (28, none), (29, some []), (30, some []), (31, some [])] rfl (by kernel_rfl) (by kernel_rfl) ?_
        refine HPlan.takev (v := (.int .i64 y6)) rfl rfl (fun _ => HVal.move' rfl) ?_
        refine HPlan.takev (v := (.int .i64 ((x4).n : Int))) rfl rfl (fun _ => HVal.move' rfl) ?_
        refine HPlan.takev (v := (.bool (decide (y6 < ((x4).n : Int))))) rfl rfl (fun _ => HVal.lss rfl rfl) ?_
        refine HPlan.takev (v := (.bool (decide (y6 < ((x4).n : Int))))) rfl rfl (fun _ => HVal.move' rfl) ?_
        obtain ⟨hT, hF⟩ := h
        rcases Bool.eq_false_or_eq_true (decide (y6 < ((x4).n : Int))) with hb15 | hb16
        · have h := hT hb15
          clear hT hF
          refine HPlan.gtakev (v := (Sl.v p0)) rfl rfl rfl rfl rfl (congrArg Value.bool hb15) (fun _ => HVal.move' rfl) ?_
          refine HPlan.gtakev (v := (.int .i64 y6)) rfl rfl rfl rfl rfl (congrArg Value.bool hb15) (fun _ => HVal.move' rfl) ?_
          obtain ⟨a17, e18, b19, b20, h⟩ := h
          refine HPlan.gtakev (v := (.pointer (some (Addr.add a17 (y6.toNat * 4))))) rfl rfl rfl rfl rfl (congrArg Value.bool hb15) (fun _ => HVal.indexAddr Try.runUnderlying30 Try.sizeOf49 (Sl.v_some rfl e18) rfl b19 b20) ?_
          obtain ⟨x22, x23, x24, x25, c21, h⟩ := h
          refine HPlan.gtakel (v := (.agg #[(.int .i64 x22), (.int .i64 x23), (.string x24), (.bool x25)])) (fun X => cells X (Addr.add a17 (y6.toNat * 4)) [(.int .i64 x22), (.int .i64 x23), (.string x24), (.bool x25)] 0) rfl rfl rfl rfl rfl (congrArg Value.bool hb15) (fun _ hX => HVal.loadN [(.int .i64 x22), (.int .i64 x23), (.string x24), (.bool x25)] Try.isAgg49 Try.sizeOf49 rfl hX) c21 ?_
          refine HPlan.gtakev (v := (.pointer (some (Addr.add ⟨H.size, 0, none⟩ 2)))) rfl rfl rfl rfl rfl (congrArg Value.bool hb15) (fun _ => HVal.fieldAddr' Try.runUnderlying32 rfl rfl Try.sizeOf30 rfl) ?_
          obtain ⟨x27, c26, h⟩ := h
          refine HPlan.gtakel (v := (Sl.v x27)) (fun X => cell X (Addr.add ⟨H.size, 0, none⟩ 2) = some (Sl.v x27)) rfl rfl rfl rfl rfl (congrArg Value.bool hb15) (fun _ hX => HVal.load1 Try.isAgg30 rfl hX) c26 ?_
          refine HPlan.gtakev (v := (.int .i64 y6)) rfl rfl rfl rfl rfl (congrArg Value.bool hb15) (fun _ => HVal.move' rfl) ?_
          obtain ⟨a28, e29, b30, b31, h⟩ := h
          refine HPlan.gtakev (v := (.pointer (some (Addr.add a28 (y6.toNat * 4))))) rfl rfl rfl rfl rfl (congrArg Value.bool hb15) (fun _ => HVal.indexAddr Try.runUnderlying30 Try.sizeOf49 (Sl.v_some rfl e29) rfl b30 b31) ?_
          obtain ⟨x33, x34, x35, x36, c32, h⟩ := h
          refine HPlan.gtakel (v := (.agg #[(.int .i64 x33), (.int .i64 x34), (.string x35), (.bool x36)])) (fun X => cells X (Addr.add a28 (y6.toNat * 4)) [(.int .i64 x33), (.int .i64 x34), (.string x35), (.bool x36)] 0) rfl rfl rfl rfl rfl (congrArg Value.bool hb15) (fun _ hX => HVal.loadN [(.int .i64 x33), (.int .i64 x34), (.string x35), (.bool x36)] Try.isAgg49 Try.sizeOf49 rfl hX) c32 ?_
          refine HPlan.gtakev (v := (.bool (!(decide (x22 = x33) && (decide (x23 = x34) && (seq x24 x35 && (x25 == x36))))))) rfl rfl rfl rfl rfl (congrArg Value.bool hb15) (fun _ => eqs49_neq rfl rfl) ?_
          refine HPlan.takev (v := (.bool (!(decide (x22 = x33) && (decide (x23 = x34) && (seq x24 x35 && (x25 == x36))))))) rfl rfl (fun _ => HVal.pickT rfl hb15 rfl) ?_
          refine HPlan.takev (v := (.bool (!(decide (x22 = x33) && (decide (x23 = x34) && (seq x24 x35 && (x25 == x36))))))) rfl rfl (fun _ => HVal.move' rfl) ?_
          obtain ⟨hT, hF⟩ := h
          rcases Bool.eq_false_or_eq_true (!(decide (x22 = x33) && (decide (x23 = x34) && (seq x24 x35 && (x25 == x36))))) with hb37 | hb38
          · have h := hT hb37
            clear hT hF
            refine HPlan.takegskip rfl rfl rfl rfl (congrArg Value.bool hb37) ?_
            refine HPlan.takegskip rfl rfl rfl rfl (congrArg Value.bool hb37) ?_
            refine HPlan.takegskip rfl rfl rfl rfl (congrArg Value.bool hb37) ?_
            refine HPlan.takegskip rfl rfl rfl rfl (congrArg Value.bool hb37) ?_
            refine HPlan.takeuskip rfl rfl rfl rfl rfl ?_
            refine HPlan.takeuskip rfl rfl rfl rfl rfl ?_
            refine HPlan.takeuskip rfl rfl rfl rfl rfl ?_
            refine HPlan.takeuskip rfl rfl rfl rfl rfl ?_
            refine HPlan.takeuskip rfl rfl rfl rfl rfl ?_
            refine HPlan.takeuskip rfl rfl rfl rfl rfl ?_
            refine HPlan.takeuskip rfl rfl rfl rfl rfl ?_
            refine HPlan.takeuskip rfl rfl rfl rfl rfl ?_
            refine HPlan.opuskip rfl rfl rfl rfl rfl ?_
            refine HPlan.takeuskip rfl rfl rfl rfl rfl ?_
            refine HPlan.takegskip rfl rfl rfl rfl (congrArg Value.bool hb37) ?_
            refine HPlan.takev (v := (.bool true)) rfl rfl (fun _ => HVal.pickT rfl hb37 rfl) ?_
            refine HPlan.done ?_
            refine nt ?_
            exact ⟨true, ⟨rfl, rfl, rfl, rfl, rfl, trivial⟩, h⟩
          · have h := hF hb38
            clear hT hF
            refine HPlan.gtakev (v := (.int .i64 y6)) rfl rfl rfl rfl rfl (congrArg Value.bool hb38) (fun _ => HVal.move' rfl) ?_
            refine HPlan.gtakev (v := (.int .i64 ((x4).n : Int))) rfl rfl rfl rfl rfl (congrArg Value.bool hb38) (fun _ => HVal.move' rfl) ?_
            refine HPlan.gtakev (v := (.bool (decide (((x4).n : Int) ≤ y6)))) rfl rfl rfl rfl rfl (congrArg Value.bool hb38) (fun _ => HVal.geq rfl rfl) ?_
            refine HPlan.gtakev (v := (.bool (decide (((x4).n : Int) ≤ y6)))) rfl rfl rfl rfl rfl (congrArg Value.bool hb38) (fun _ => HVal.move' rfl) ?_
            obtain ⟨hT, hF⟩ := h
            rcases Bool.eq_false_or_eq_true (decide (((x4).n : Int) ≤ y6)) with hb40 | hb41
            · have h := hT hb40
              clear hT hF
              refine HPlan.gtakev (v := (Sl.v p0)) rfl rfl rfl rfl rfl (congrArg Value.bool hb40) (fun _ => HVal.move' rfl) ?_
              refine HPlan.gtakev (v := (.int .i64 y6)) rfl rfl rfl rfl rfl (congrArg Value.bool hb40) (fun _ => HVal.move' rfl) ?_
              obtain ⟨a42, e43, b44, b45, h⟩ := h
              refine HPlan.gtakev (v := (.pointer (some (Addr.add a42 (y6.toNat * 4))))) rfl rfl rfl rfl rfl (congrArg Value.bool hb40) (fun _ => HVal.indexAddr Try.runUnderlying30 Try.sizeOf49 (Sl.v_some rfl e43) rfl b44 b45) ?_
              obtain ⟨x47, x48, x49, x50, c46, h⟩ := h
              refine HPlan.gtakel (v := (.agg #[(.int .i64 x47), (.int .i64 x48), (.string x49), (.bool x50)])) (fun X => cells X (Addr.add a42 (y6.toNat * 4)) [(.int .i64 x47), (.int .i64 x48), (.string x49), (.bool x50)] 0) rfl rfl rfl rfl rfl (congrArg Value.bool hb40) (fun _ hX => HVal.loadN [(.int .i64 x47), (.int .i64 x48), (.string x49), (.bool x50)] Try.isAgg49 Try.sizeOf49 rfl hX) c46 ?_
              refine HPlan.gtakev (v := (.int .i64 ((x4).n : Int))) rfl rfl rfl rfl rfl (congrArg Value.bool hb40) (fun _ => HVal.move' rfl) ?_
              refine HPlan.gtakev (v := (.int .i64 y6)) rfl rfl rfl rfl rfl (congrArg Value.bool hb40) (fun _ => HVal.move' rfl) ?_
              refine HPlan.gtakev (v := (.int .i64 (IntKind.i64.wrap (((x4).n : Int) - y6)))) rfl rfl rfl rfl rfl (congrArg Value.bool hb40) (fun _ => HVal.sub rfl rfl) ?_
              refine HPlan.gtakev (v := (.int .i64 (IntKind.i64.wrap ((IntKind.i64.wrap (((x4).n : Int) - y6)) - 1)))) rfl rfl rfl rfl rfl (congrArg Value.bool hb40) (fun _ => HVal.sub rfl rfl) ?_
              refine HPlan.gops rfl rfl rfl rfl rfl (congrArg Value.bool hb40) (HOp.call' 15 [(.int .i64 (IntKind.i64.wrap ((IntKind.i64.wrap (((x4).n : Int) - y6)) - 1)))] (cap := []) rfl rfl Try.call15 (walk15 h)) ?_
              rintro _ H51 ⟨r53, r54, r55, r56, rfl, h⟩
              obtain ⟨s57, s58, s59, s60, h⟩ := h
              refine ⟨SC_of ⟨fun _ => s57, fun _ => s58, fun _ => s59, fun _ => s60, trivial⟩, ?_⟩
              refine HPlan.gtakev (v := (.bool (!(decide (x47 = r53) && (decide (x48 = r54) && (seq x49 r55 && (x50 == r56))))))) rfl rfl rfl rfl rfl (congrArg Value.bool hb40) (fun _ => eqs49_neq rfl rfl) ?_
              refine HPlan.gtakev (v := (.bool (!(decide (x47 = r53) && (decide (x48 = r54) && (seq x49 r55 && (x50 == r56))))))) rfl rfl rfl rfl rfl (congrArg Value.bool hb38) (fun _ => HVal.pickT rfl hb40 rfl) ?_
              refine HPlan.takev (v := (.bool (!(decide (x47 = r53) && (decide (x48 = r54) && (seq x49 r55 && (x50 == r56))))))) rfl rfl (fun _ => HVal.pickF rfl hb38 rfl) ?_
              refine HPlan.done ?_
              refine nt ?_
              exact ⟨(!(decide (x47 = r53) && (decide (x48 = r54) && (seq x49 r55 && (x50 == r56))))), ⟨rfl, rfl, rfl, rfl, rfl, trivial⟩, h⟩
            · have h := hF hb41
              clear hT hF
              refine HPlan.takegskip rfl rfl rfl rfl (congrArg Value.bool hb41) ?_
              refine HPlan.takegskip rfl rfl rfl rfl (congrArg Value.bool hb41) ?_
              refine HPlan.takegskip rfl rfl rfl rfl (congrArg Value.bool hb41) ?_
              refine HPlan.takegskip rfl rfl rfl rfl (congrArg Value.bool hb41) ?_
              refine HPlan.takegskip rfl rfl rfl rfl (congrArg Value.bool hb41) ?_
              refine HPlan.takegskip rfl rfl rfl rfl (congrArg Value.bool hb41) ?_
              refine HPlan.takegskip rfl rfl rfl rfl (congrArg Value.bool hb41) ?_
              refine HPlan.takegskip rfl rfl rfl rfl (congrArg Value.bool hb41) ?_
              refine HPlan.opgskip rfl rfl rfl rfl (congrArg Value.bool hb41) ?_
              refine HPlan.takegskip rfl rfl rfl rfl (congrArg Value.bool hb41) ?_
              refine HPlan.gtakev (v := (.bool false)) rfl rfl rfl rfl rfl (congrArg Value.bool hb38) (fun _ => HVal.pickF rfl hb41 rfl) ?_
              refine HPlan.takev (v := (.bool false)) rfl rfl (fun _ => HVal.pickF rfl hb38 rfl) ?_
              refine HPlan.done ?_
              refine nt ?_
              exact ⟨false, ⟨rfl, rfl, rfl, rfl, rfl, trivial⟩, h⟩
        · have h := hF hb16
          clear hT hF
          refine HPlan.takegskip rfl rfl rfl rfl (congrArg Value.bool hb16) ?_
          refine HPlan.takegskip rfl rfl rfl rfl (congrArg Value.bool hb16) ?_
          refine HPlan.takegskip rfl rfl rfl rfl (congrArg Value.bool hb16) ?_
          refine HPlan.takegskip rfl rfl rfl rfl (congrArg Value.bool hb16) ?_
          refine HPlan.takegskip rfl rfl rfl rfl (congrArg Value.bool hb16) ?_
          refine HPlan.takegskip rfl rfl rfl rfl (congrArg Value.bool hb16) ?_
          refine HPlan.takegskip rfl rfl rfl rfl (congrArg Value.bool hb16) ?_
          refine HPlan.takegskip rfl rfl rfl rfl (congrArg Value.bool hb16) ?_
          refine HPlan.takegskip rfl rfl rfl rfl (congrArg Value.bool hb16) ?_
          refine HPlan.takegskip rfl rfl rfl rfl (congrArg Value.bool hb16) ?_
          refine HPlan.takev (v := (.bool false)) rfl rfl (fun _ => HVal.pickF rfl hb16 rfl) ?_
          refine HPlan.takev (v := (.bool false)) rfl rfl (fun _ => HVal.move' rfl) ?_
          refine HPlan.gtakev (v := (.int .i64 y6)) rfl rfl rfl rfl rfl rfl (fun _ => HVal.move' rfl) ?_
          refine HPlan.gtakev (v := (.int .i64 ((x4).n : Int))) rfl rfl rfl rfl rfl rfl (fun _ => HVal.move' rfl) ?_
          refine HPlan.gtakev (v := (.bool (decide (((x4).n : Int) ≤ y6)))) rfl rfl rfl rfl rfl rfl (fun _ => HVal.geq rfl rfl) ?_
          refine HPlan.gtakev (v := (.bool (decide (((x4).n : Int) ≤ y6)))) rfl rfl rfl rfl rfl rfl (fun _ => HVal.move' rfl) ?_
          obtain ⟨hT, hF⟩ := h
          rcases Bool.eq_false_or_eq_true (decide (((x4).n : Int) ≤ y6)) with hb61 | hb62
          · have h := hT hb61
            clear hT hF
            refine HPlan.gtakev (v := (Sl.v p0)) rfl rfl rfl rfl rfl (congrArg Value.bool hb61) (fun _ => HVal.move' rfl) ?_
            refine HPlan.gtakev (v := (.int .i64 y6)) rfl rfl rfl rfl rfl (congrArg Value.bool hb61) (fun _ => HVal.move' rfl) ?_
            obtain ⟨a63, e64, b65, b66, h⟩ := h
            refine HPlan.gtakev (v := (.pointer (some (Addr.add a63 (y6.toNat * 4))))) rfl rfl rfl rfl rfl (congrArg Value.bool hb61) (fun _ => HVal.indexAddr Try.runUnderlying30 Try.sizeOf49 (Sl.v_some rfl e64) rfl b65 b66) ?_
            obtain ⟨x68, x69, x70, x71, c67, h⟩ := h
            refine HPlan.gtakel (v := (.agg #[(.int .i64 x68), (.int .i64 x69), (.string x70), (.bool x71)])) (fun X => cells X (Addr.add a63 (y6.toNat * 4)) [(.int .i64 x68), (.int .i64 x69), (.string x70), (.bool x71)] 0) rfl rfl rfl rfl rfl (congrArg Value.bool hb61) (fun _ hX => HVal.loadN [(.int .i64 x68), (.int .i64 x69), (.string x70), (.bool x71)] Try.isAgg49 Try.sizeOf49 rfl hX) c67 ?_
            refine HPlan.gtakev (v := (.int .i64 ((x4).n : Int))) rfl rfl rfl rfl rfl (congrArg Value.bool hb61) (fun _ => HVal.move' rfl) ?_
            refine HPlan.gtakev (v := (.int .i64 y6)) rfl rfl rfl rfl rfl (congrArg Value.bool hb61) (fun _ => HVal.move' rfl) ?_
            refine HPlan.gtakev (v := (.int .i64 (IntKind.i64.wrap (((x4).n : Int) - y6)))) rfl rfl rfl rfl rfl (congrArg Value.bool hb61) (fun _ => HVal.sub rfl rfl) ?_
            refine HPlan.gtakev (v := (.int .i64 (IntKind.i64.wrap ((IntKind.i64.wrap (((x4).n : Int) - y6)) - 1)))) rfl rfl rfl rfl rfl (congrArg Value.bool hb61) (fun _ => HVal.sub rfl rfl) ?_
            refine HPlan.gops rfl rfl rfl rfl rfl (congrArg Value.bool hb61) (HOp.call' 15 [(.int .i64 (IntKind.i64.wrap ((IntKind.i64.wrap (((x4).n : Int) - y6)) - 1)))] (cap := []) rfl rfl Try.call15 (walk15 h)) ?_
            rintro _ H72 ⟨r74, r75, r76, r77, rfl, h⟩
            obtain ⟨s78, h⟩ := h
            refine ⟨SC_of ⟨fun _ => s78, trivial⟩, ?_⟩
            refine HPlan.gtakev (v := (.bool (!(decide (x68 = r74) && (decide (x69 = r75) && (seq x70 r76 && (x71 == r77))))))) rfl rfl rfl rfl rfl (congrArg Value.bool hb61) (fun _ => eqs49_neq rfl rfl) ?_
            refine HPlan.gtakev (v := (.bool (!(decide (x68 = r74) && (decide (x69 = r75) && (seq x70 r76 && (x71 == r77))))))) rfl rfl rfl rfl rfl rfl (fun _ => HVal.pickT rfl hb61 rfl) ?_
            refine HPlan.takev (v := (.bool (!(decide (x68 = r74) && (decide (x69 = r75) && (seq x70 r76 && (x71 == r77))))))) rfl rfl (fun _ => HVal.pickF rfl rfl rfl) ?_
            refine HPlan.done ?_
            refine nt ?_
            exact ⟨(!(decide (x68 = r74) && (decide (x69 = r75) && (seq x70 r76 && (x71 == r77))))), ⟨rfl, rfl, rfl, rfl, rfl, trivial⟩, h⟩
          · have h := hF hb62
            clear hT hF
            refine HPlan.takegskip rfl rfl rfl rfl (congrArg Value.bool hb62) ?_
            refine HPlan.takegskip rfl rfl rfl rfl (congrArg Value.bool hb62) ?_
            refine HPlan.takegskip rfl rfl rfl rfl (congrArg Value.bool hb62) ?_
            refine HPlan.takegskip rfl rfl rfl rfl (congrArg Value.bool hb62) ?_
            refine HPlan.takegskip rfl rfl rfl rfl (congrArg Value.bool hb62) ?_
            refine HPlan.takegskip rfl rfl rfl rfl (congrArg Value.bool hb62) ?_
            refine HPlan.takegskip rfl rfl rfl rfl (congrArg Value.bool hb62) ?_
            refine HPlan.takegskip rfl rfl rfl rfl (congrArg Value.bool hb62) ?_
            refine HPlan.opgskip rfl rfl rfl rfl (congrArg Value.bool hb62) ?_
            refine HPlan.takegskip rfl rfl rfl rfl (congrArg Value.bool hb62) ?_
            refine HPlan.gtakev (v := (.bool false)) rfl rfl rfl rfl rfl rfl (fun _ => HVal.pickF rfl hb62 rfl) ?_
            refine HPlan.takev (v := (.bool false)) rfl rfl (fun _ => HVal.pickF rfl rfl rfl) ?_
            refine HPlan.done ?_
            refine nt ?_
            exact ⟨false, ⟨rfl, rfl, rfl, rfl, rfl, trivial⟩, h⟩
      · rintro ρ H_2 ⟨y39, hI, h⟩
        obtain ⟨ρ0, rfl⟩ : ∃ ρ0, ρ = (Env.set (Env.set (Env.set (Env.set (Env.set ρ0 52 (.bool y39)) 6 (.int .i64 y6)) 5 (.int .i64 ((x4).n : Int))) 3 (.pointer (some ⟨H.size, 0, none⟩))) 0 (Sl.v p0)) := ⟨ρ, hI.eq⟩
        clear hI; unfold F13_2 at h
        obtain ⟨hT, hF⟩ := h
        refine HW.cond y39 rfl (fun hb79 => ?_) (fun hb79 => ?_)
        · have h := hT hb79
          clear hT hF
          refine HW.seq ?_
          refine HW.region ?_
          refine HList.vals (v := (.bool false)) rfl (HVal.assign' rfl) ?_
          refine HList.nil ?_
          refine nt ?_
          refine HW.ret ?_
          refine br ?_
          refine tr ?_
          refine tr ?_
          refine br ?_
          refine tr ?_
          exact ⟨_, resOf1 rfl Res1.t, ⟨false, rfl, h⟩⟩
        · have h := hF hb79
          clear hT hF
          refine HW.skip ?_
          refine nb ?_
          refine nt ?_
          refine HW.region ?_
          refine HList.vals (v := (.int .i64 y6)) rfl (HVal.move' rfl) ?_
          refine HList.vals (v := (.int .i64 (IntKind.i64.wrap (y6 + 1)))) rfl (HVal.add rfl rfl) ?_
          refine HList.vals (v := (.int .i64 (IntKind.i64.wrap (y6 + 1)))) rfl (HVal.assign' rfl) ?_
          refine HList.nil ?_
          refine nt ?_
          exact (hX1 _ _).1 h _ ⟨rfl, rfl, rfl, rfl, trivial⟩
    · have h := hF hb10
      clear hT hF
      refine HW.exit ?_
      refine te ?_
      refine te ?_
      refine be ?_
      refine nt ?_
      refine HW.seq ?_
      refine HW.region ?_
      refine HList.vals (v := (.bool true)) rfl (HVal.assign' rfl) ?_
      refine HList.nil ?_
      refine nt ?_
      refine HW.ret ?_
      exact ⟨_, resOf1 rfl Res1.t, ⟨true, rfl, h⟩⟩

def F9_1 (Q : ByteArray → Int → Sl → Sl → Hp → Prop) (y13 : Addr) (y14 : Addr) (y15 : Int) (y16 : Sl) (H_1 : Hp) : Prop :=
(0 : Int) ≤ y15 ∧ 0 ≤ y15.toNat ∧ y15.toNat ≤ (y16).c ∧ (y16).c ≤ (y16).c ∧ (
 (cell H_1 (Addr.add y13 2)).isSome = true ∧ frz H_1 (Addr.add y13 2) = false ∧ ∀ H64 : Hp, H64 = setc H_1 (Addr.add y13 2) (Sl.v (Sl.cut y16 4 0 y15.toNat ((y16).c))) → (
 ∃ (x69 : ByteArray) (x70 : Int) (x71 : Sl), cells H64 y13 [(.string x69), (.int .i64 x70), (Sl.v x71)] 0 ∧ (
 mayw H64 y14 3 0 ∧ ∀ H72 : Hp, H72 = sets H64 y14 [(.string x69), (.int .i64 x70), (Sl.v x71)] 0 → (
 ∃ (x75 : ByteArray) (x76 : Int) (x77 : Sl), cells H72 y14 [(.string x75), (.int .i64 x76), (Sl.v x77)] 0 ∧ (
 Q x75 x76 x77 y16 H72)))))
def F9_3 (Q : ByteArray → Int → Sl → Sl → Hp → Prop) (X2 : Int → Hp → Prop) (y23 : Addr) (y24 : Addr) (y25 : Int) (y26 : Sl) (y27 : Int) (H_3 : Hp) : Prop :=
X2 (IntKind.i64.wrap (y27 + 1)) H_3
def F9_L2b (Q : ByteArray → Int → Sl → Sl → Hp → Prop) (X2 : Int → Hp → Prop) (y18 : Addr) (y19 : Addr) (y20 : Int) (y21 : Sl) (y17 : Int) (H_2 : Hp) : Prop :=
((decide (y17 < ((y21).n : Int))) = true → (F15 (IntKind.i64.wrap ((IntKind.i64.wrap (y20 - y17)) - 1)) H_2 (fun (r30 : Int) (r31 : Int) (r32 : ByteArray) (r33 : Bool) (H28 : Hp) => 
 ∃ a34 : Addr, (y21).b = some a34 ∧ (0 : Int) ≤ y17 ∧ y17 < ((y21).n : Int) ∧ (
 mayw H28 (Addr.add a34 (y17.toNat * 4)) 4 0 ∧ ∀ H38 : Hp, H38 = sets H28 (Addr.add a34 (y17.toNat * 4)) [(.int .i64 r30), (.int .i64 r31), (.string r32), (.bool r33)] 0 → (
 ((decide (y17 < y20)) = true → (∃ x43 : Sl, cell H38 (Addr.add y18 2) = some (Sl.v x43) ∧ (
 ∃ a44 : Addr, (x43).b = some a44 ∧ (0 : Int) ≤ y17 ∧ y17 < ((x43).n : Int) ∧ (
 ∃ (x49 : Int) (x50 : Int) (x51 : ByteArray) (x52 : Bool), cells H38 (Addr.add a44 (y17.toNat * 4)) [(.int .i64 x49), (.int .i64 x50), (.string x51), (.bool x52)] 0 ∧ (
 ∃ a53 : Addr, (y21).b = some a53 ∧ (0 : Int) ≤ y17 ∧ y17 < ((y21).n : Int) ∧ (
 mayw H38 (Addr.add a53 (y17.toNat * 4)) 4 0 ∧ ∀ H57 : Hp, H57 = sets H38 (Addr.add a53 (y17.toNat * 4)) [(.int .i64 x49), (.int .i64 x50), (.string x51), (.bool x52)] 0 → (
 F9_3 Q X2 y18 y19 y20 y21 y17 H57))))))) ∧
 ((decide (y17 < y20)) = false → (F9_3 Q X2 y18 y19 y20 y21 y17 H38))))))) ∧
 ((decide (y17 < ((y21).n : Int))) = false → (F9_1 Q y18 y19 y20 y21 H_2))
def F9_L2 (Q : ByteArray → Int → Sl → Sl → Hp → Prop) (y18 : Addr) (y19 : Addr) (y20 : Int) (y21 : Sl) (y17 : Int) (H_2 : Hp) : Prop :=
  ∀ X2 : Int → Hp → Prop, (∀ (y17 : Int) (H_2 : Hp), F9_L2b Q X2 y18 y19 y20 y21 y17 H_2 → X2 y17 H_2) → X2 y17 H_2
def F9 (p0_0 : ByteArray) (p0_1 : Int) (p0_2 : Sl) (H : Hp) (Q : ByteArray → Int → Sl → Sl → Hp → Prop) : Prop :=
∀ H1 : Hp, H1 = Array.push H (.cells #[(.string p0_0), (.int .i64 p0_1), (Sl.v p0_2)] 32) → (
 ∀ H3 : Hp, H3 = Array.push H1 (.cells #[(.string (ByteArray.mk #[])), (.int .i64 0), (Sl.v Sl.nil)] 32) → (
 ∃ x6 : Sl, cell H3 (Addr.add ⟨H.size, 0, none⟩ 2) = some (Sl.v x6) ∧ (
 (0 : Int) ≤ (IntKind.i64.wrap (((x6).n : Int) + 34)) ∧ (IntKind.i64.wrap (((x6).n : Int) + 34)) ≤ (IntKind.i64.wrap (((x6).n : Int) + 34)) ∧ (40 : Nat) * (IntKind.i64.wrap (((x6).n : Int) + 34)) ≤ 140737488355328 ∧ (IntKind.i64.wrap (((x6).n : Int) + 34)) ≤ 9223372036854775807 ∧ ∀ H7 : Hp, H7 = Array.push H3 (.cells (made #[(.int .i64 0), (.int .i64 0), (.string (ByteArray.mk #[])), (.bool false)] (IntKind.i64.wrap (((x6).n : Int) + 34)).toNat) 49) → (
 F9_L2 Q ⟨H.size, 0, none⟩ ⟨H1.size, 0, none⟩ ((x6).n : Int) (Sl.mk (some ⟨H3.size, 0, none⟩) (IntKind.i64.wrap (((x6).n : Int) + 34)).toNat (IntKind.i64.wrap (((x6).n : Int) + 34)).toNat) 0 H7))))
set_option maxRecDepth 100000 in
set_option maxHeartbeats 4000000 in
theorem walk9 {w0 : World} {p0_0 : ByteArray} {p0_1 : Int} {p0_2 : Sl} {H : Hp} {Q : ByteArray → Int → Sl → Sl → Hp → Prop} (h : F9 p0_0 p0_1 p0_2 H Q) :
    Good Try.prog w0 9 #[(.agg #[(.string p0_0), (.int .i64 p0_1), (Sl.v p0_2)])] H (fun v H => ∃ (r0 : ByteArray) (r1 : Int) (r2 : Sl) (r3 : Sl) , v = (.tuple #[(.agg #[(.string r0), (.int .i64 r1), (Sl.v r2)]), (Sl.v r3)]) ∧ Q r0 r1 r2 r3 H) := by
  unfold F9 at h
  refine Good.enter' (fn := Try.f9) Try.func9 rfl rfl rfl ?_
  refine HW.seq ?_
  refine HW.region ?_
  refine HList.ops' rfl (HOp.box (v := (.agg #[(.string p0_0), (.int .i64 p0_1), (Sl.v p0_2)])) rfl) ?_
  rintro _ H1 ⟨rfl, e2⟩
  replace h := h H1 e2
  refine HList.ops' rfl (HOp.alloc Try.zeroValue32) ?_
  rintro _ H3 ⟨rfl, e4⟩
  replace h := h H3 e4
  refine HList.vals (v := (Sl.v Sl.nil)) rfl (HVal.assign' rfl) ?_
  refine HList.nil ?_
  refine nt ?_
  refine HW.seq ?_
  refine HW.region ?_
  refine HList.vals (v := (.pointer (some (Addr.add ⟨H.size, 0, none⟩ 2)))) rfl (HVal.fieldAddr' Try.runUnderlying32 rfl rfl Try.sizeOf30 rfl) ?_
  obtain ⟨x6, c5, h⟩ := h
  refine HList.vals (v := (Sl.v x6)) rfl (HVal.load1 Try.isAgg30 rfl c5) ?_
  refine HList.vals (v := (.int .i64 ((x6).n : Int))) rfl (HVal.len Try.runUnderlying30 rfl) ?_
  refine HList.vals (v := (.int .i64 ((x6).n : Int))) rfl (HVal.assign' rfl) ?_
  refine HList.nil ?_
  refine nt ?_
  refine HW.seq ?_
  refine HW.region ?_
  refine HList.vals (v := (.int .i64 ((x6).n : Int))) rfl (HVal.move' rfl) ?_
  refine HList.vals (v := (.int .i64 (IntKind.i64.wrap (((x6).n : Int) + 34)))) rfl (HVal.add rfl rfl) ?_
  obtain ⟨z9, z10, z11, z12, h⟩ := h
  refine HList.ops' rfl (HOp.makeSlice' (b := 40) Try.runUnderlying30 Try.typeInfo49 rfl Try.zeroValue49 Try.sizeOf49 rfl rfl z9 z10 z11 z12) ?_
  rintro _ H7 ⟨rfl, e8⟩
  replace h := h H7 e8
  refine HList.vals (v := (Sl.v (Sl.mk (some ⟨H3.size, 0, none⟩) (IntKind.i64.wrap (((x6).n : Int) + 34)).toNat (IntKind.i64.wrap (((x6).n : Int) + 34)).toNat))) rfl (HVal.assign' rfl) ?_
  refine HList.nil ?_
  refine nt ?_
  refine HW.cut (fun ρ H_1 => Env.Is ρ [(1, (.pointer (some ⟨H.size, 0, none⟩))), (2, (.pointer (some ⟨H1.size, 0, none⟩))), (4, (.int .i64 ((x6).n : Int))), (5, (Sl.v (Sl.mk (some ⟨H3.size, 0, none⟩) (IntKind.i64.wrap (((x6).n : Int) + 34)).toNat (IntKind.i64.wrap (((x6).n : Int) + 34)).toNat)))] ∧ F9_1 Q ⟨H.size, 0, none⟩ ⟨H1.size, 0, none⟩ ((x6).n : Int) (Sl.mk (some ⟨H3.size, 0, none⟩) (IntKind.i64.wrap (((x6).n : Int) + 34)).toNat (IntKind.i64.wrap (((x6).n : Int) + 34)).toNat) H_1) ?_ ?_
  · refine HW.seq ?_
    refine HW.region ?_
    refine HList.vals (v := (.int .i64 0)) rfl (HVal.assign' rfl) ?_
    refine HList.nil ?_
    refine nt ?_
    refine HW.block ?_
    refine HW.loop' (fun L2 hL2 => ?_)
    obtain ⟨X2, hX2⟩ : ∃ X2 : Int → Hp → Prop, ∀ (y17 : Int) (H_2 : Hp), X2 y17 H_2 ↔ ∀ ρ, Env.Is ρ [(1, (.pointer (some ⟨H.size, 0, none⟩))), (2, (.pointer (some ⟨H1.size, 0, none⟩))), (4, (.int .i64 ((x6).n : Int))), (5, (Sl.v (Sl.mk (some ⟨H3.size, 0, none⟩) (IntKind.i64.wrap (((x6).n : Int) + 34)).toNat (IntKind.i64.wrap (((x6).n : Int) + 34)).toNat))), (6, (.int .i64 y17))] → L2 ρ H_2 := ⟨_, fun _ _ => Iff.rfl⟩
    refine (hX2 _ _).1 (h X2 ?_) _ ?_
    rotate_left
    · exact ⟨rfl, rfl, rfl, rfl, rfl, trivial⟩
    clear h
    intro y17 H_2 h
    refine (hX2 _ _).2 fun ρ hI => ?_
    obtain ⟨ρ0, rfl⟩ : ∃ ρ0, ρ = (Env.set (Env.set (Env.set (Env.set (Env.set ρ0 6 (.int .i64 y17)) 5 (Sl.v (Sl.mk (some ⟨H3.size, 0, none⟩) (IntKind.i64.wrap (((x6).n : Int) + 34)).toNat (IntKind.i64.wrap (((x6).n : Int) + 34)).toNat))) 4 (.int .i64 ((x6).n : Int))) 2 (.pointer (some ⟨H1.size, 0, none⟩))) 1 (.pointer (some ⟨H.size, 0, none⟩))) := ⟨ρ, hI.eq⟩
    clear hI; unfold F9_L2b at h; refine hL2 _ _ ?_
    refine HW.seq ?_
    refine HW.seq ?_
    refine HW.region ?_
    refine HList.vals (v := (.int .i64 y17)) rfl (HVal.move' rfl) ?_
    refine HList.vals (v := (Sl.v (Sl.mk (some ⟨H3.size, 0, none⟩) (IntKind.i64.wrap (((x6).n : Int) + 34)).toNat (IntKind.i64.wrap (((x6).n : Int) + 34)).toNat))) rfl (HVal.move' rfl) ?_
    refine HList.vals (v := (.int .i64 (((Sl.mk (some ⟨H3.size, 0, none⟩) (IntKind.i64.wrap (((x6).n : Int) + 34)).toNat (IntKind.i64.wrap (((x6).n : Int) + 34)).toNat)).n : Int))) rfl (HVal.len Try.runUnderlying30 rfl) ?_
    refine HList.vals (v := (.bool (decide (y17 < (((Sl.mk (some ⟨H3.size, 0, none⟩) (IntKind.i64.wrap (((x6).n : Int) + 34)).toNat (IntKind.i64.wrap (((x6).n : Int) + 34)).toNat)).n : Int))))) rfl (HVal.lss rfl rfl) ?_
    refine HList.nil ?_
    refine nt ?_
    obtain ⟨hT, hF⟩ := h
    refine HW.cond (decide (y17 < (((Sl.mk (some ⟨H3.size, 0, none⟩) (IntKind.i64.wrap (((x6).n : Int) + 34)).toNat (IntKind.i64.wrap (((x6).n : Int) + 34)).toNat)).n : Int))) rfl (fun hb22 => ?_) (fun hb22 => ?_)
    · have h := hT hb22
      clear hT hF
      refine HW.skip ?_
      refine nt ?_
      refine HW.cut (fun ρ H_3 => Env.Is ρ [(1, (.pointer (some ⟨H.size, 0, none⟩))), (2, (.pointer (some ⟨H1.size, 0, none⟩))), (4, (.int .i64 ((x6).n : Int))), (5, (Sl.v (Sl.mk (some ⟨H3.size, 0, none⟩) (IntKind.i64.wrap (((x6).n : Int) + 34)).toNat (IntKind.i64.wrap (((x6).n : Int) + 34)).toNat))), (6, (.int .i64 y17))] ∧ F9_3 Q X2 ⟨H.size, 0, none⟩ ⟨H1.size, 0, none⟩ ((x6).n : Int) (Sl.mk (some ⟨H3.size, 0, none⟩) (IntKind.i64.wrap (((x6).n : Int) + 34)).toNat (IntKind.i64.wrap (((x6).n : Int) + 34)).toNat) y17 H_3) ?_ ?_
      · refine HW.block ?_
        refine HW.seq ?_
        refine HW.region ?_
        refine HList.vals (v := (Sl.v (Sl.mk (some ⟨H3.size, 0, none⟩) (IntKind.i64.wrap (((x6).n : Int) + 34)).toNat (IntKind.i64.wrap (((x6).n : Int) + 34)).toNat))) rfl (HVal.move' rfl) ?_
        refine HList.vals (v := (.int .i64 y17)) rfl (HVal.move' rfl) ?_
        refine HList.vals (v := (.int .i64 ((x6).n : Int))) rfl (HVal.move' rfl) ?_
        refine HList.vals (v := (.int .i64 y17)) rfl (HVal.move' rfl) ?_
        refine HList.vals (v := (.int .i64 (IntKind.i64.wrap (((x6).n : Int) - y17)))) rfl (HVal.sub rfl rfl) ?_
        refine HList.vals (v := (.int .i64 (IntKind.i64.wrap ((IntKind.i64.wrap (((x6).n : Int) - y17)) - 1)))) rfl (HVal.sub rfl rfl) ?_
        refine HList.ops' rfl (HOp.call' 15 [(.int .i64 (IntKind.i64.wrap ((IntKind.i64.wrap (((x6).n : Int) - y17)) - 1)))] (cap := []) rfl rfl Try.call15 (walk15 h)) ?_
        rintro _ H28 ⟨r30, r31, r32, r33, rfl, h⟩
        obtain ⟨a34, e35, b36, b37, h⟩ := h
        refine HList.vals (v := (.pointer (some (Addr.add a34 (y17.toNat * 4))))) rfl (HVal.indexAddr Try.runUnderlying30 Try.sizeOf49 (Sl.v_some rfl e35) rfl b36 b37) ?_
        obtain ⟨z40, h⟩ := h
        refine HList.opsn (HOp.storeN' (l := [(.int .i64 r30), (.int .i64 r31), (.string r32), (.bool r33)]) Try.sizeOf49 rfl rfl rfl z40) ?_
        rintro _ H38 e39
        replace h := h H38 e39
        refine HList.nil ?_
        refine nt ?_
        refine HW.seq ?_
        refine HW.region ?_
        refine HList.vals (v := (.int .i64 y17)) rfl (HVal.move' rfl) ?_
        refine HList.vals (v := (.int .i64 ((x6).n : Int))) rfl (HVal.move' rfl) ?_
        refine HList.vals (v := (.bool (decide (y17 < ((x6).n : Int))))) rfl (HVal.lss rfl rfl) ?_
        refine HList.nil ?_
        refine nt ?_
        obtain ⟨hT, hF⟩ := h
        refine HW.cond (decide (y17 < ((x6).n : Int))) rfl (fun hb41 => ?_) (fun hb41 => ?_)
        · have h := hT hb41
          clear hT hF
          refine HW.region ?_
          refine HList.vals (v := (Sl.v (Sl.mk (some ⟨H3.size, 0, none⟩) (IntKind.i64.wrap (((x6).n : Int) + 34)).toNat (IntKind.i64.wrap (((x6).n : Int) + 34)).toNat))) rfl (HVal.move' rfl) ?_
          refine HList.vals (v := (.int .i64 y17)) rfl (HVal.move' rfl) ?_
          refine HList.vals (v := (.pointer (some (Addr.add ⟨H.size, 0, none⟩ 2)))) rfl (HVal.fieldAddr' Try.runUnderlying32 rfl rfl Try.sizeOf30 rfl) ?_
          obtain ⟨x43, c42, h⟩ := h
          refine HList.vals (v := (Sl.v x43)) rfl (HVal.load1 Try.isAgg30 rfl c42) ?_
          refine HList.vals (v := (.int .i64 y17)) rfl (HVal.move' rfl) ?_
          obtain ⟨a44, e45, b46, b47, h⟩ := h
          refine HList.vals (v := (.pointer (some (Addr.add a44 (y17.toNat * 4))))) rfl (HVal.indexAddr Try.runUnderlying30 Try.sizeOf49 (Sl.v_some rfl e45) rfl b46 b47) ?_
          obtain ⟨x49, x50, x51, x52, c48, h⟩ := h
          refine HList.vals (v := (.agg #[(.int .i64 x49), (.int .i64 x50), (.string x51), (.bool x52)])) rfl (HVal.loadN [(.int .i64 x49), (.int .i64 x50), (.string x51), (.bool x52)] Try.isAgg49 Try.sizeOf49 rfl c48) ?_
          obtain ⟨a53, e54, b55, b56, h⟩ := h
          refine HList.vals (v := (.pointer (some (Addr.add a53 (y17.toNat * 4))))) rfl (HVal.indexAddr Try.runUnderlying30 Try.sizeOf49 (Sl.v_some rfl e54) rfl b55 b56) ?_
          obtain ⟨z59, h⟩ := h
          refine HList.opsn (HOp.storeN' (l := [(.int .i64 x49), (.int .i64 x50), (.string x51), (.bool x52)]) Try.sizeOf49 rfl rfl rfl z59) ?_
          rintro _ H57 e58
          replace h := h H57 e58
          refine HList.nil ?_
          refine nb ?_
          refine nt ?_
          exact ⟨⟨rfl, rfl, rfl, rfl, rfl, trivial⟩, h⟩
        · have h := hF hb41
          clear hT hF
          refine HW.skip ?_
          refine nb ?_
          refine nt ?_
          exact ⟨⟨rfl, rfl, rfl, rfl, rfl, trivial⟩, h⟩
      · rintro ρ H_3 ⟨hI, h⟩
        obtain ⟨ρ0, rfl⟩ : ∃ ρ0, ρ = (Env.set (Env.set (Env.set (Env.set (Env.set ρ0 6 (.int .i64 y17)) 5 (Sl.v (Sl.mk (some ⟨H3.size, 0, none⟩) (IntKind.i64.wrap (((x6).n : Int) + 34)).toNat (IntKind.i64.wrap (((x6).n : Int) + 34)).toNat))) 4 (.int .i64 ((x6).n : Int))) 2 (.pointer (some ⟨H1.size, 0, none⟩))) 1 (.pointer (some ⟨H.size, 0, none⟩))) := ⟨ρ, hI.eq⟩
        clear hI; unfold F9_3 at h
        refine HW.region ?_
        refine HList.vals (v := (.int .i64 y17)) rfl (HVal.move' rfl) ?_
        refine HList.vals (v := (.int .i64 (IntKind.i64.wrap (y17 + 1)))) rfl (HVal.add rfl rfl) ?_
        refine HList.vals (v := (.int .i64 (IntKind.i64.wrap (y17 + 1)))) rfl (HVal.assign' rfl) ?_
        refine HList.nil ?_
        refine nt ?_
        exact (hX2 _ _).1 h _ ⟨rfl, rfl, rfl, rfl, rfl, trivial⟩
    · have h := hF hb22
      clear hT hF
      refine HW.exit ?_
      refine te ?_
      refine te ?_
      refine be ?_
      refine nt ?_
      exact ⟨⟨rfl, rfl, rfl, rfl, trivial⟩, h⟩
  · rintro ρ H_1 ⟨hI, h⟩
    obtain ⟨ρ0, rfl⟩ : ∃ ρ0, ρ = (Env.set (Env.set (Env.set (Env.set ρ0 5 (Sl.v (Sl.mk (some ⟨H3.size, 0, none⟩) (IntKind.i64.wrap (((x6).n : Int) + 34)).toNat (IntKind.i64.wrap (((x6).n : Int) + 34)).toNat))) 4 (.int .i64 ((x6).n : Int))) 2 (.pointer (some ⟨H1.size, 0, none⟩))) 1 (.pointer (some ⟨H.size, 0, none⟩))) := ⟨ρ, hI.eq⟩
    clear hI; unfold F9_1 at h
    refine HW.seq ?_
    refine HW.region ?_
    refine HList.vals (v := (Sl.v (Sl.mk (some ⟨H3.size, 0, none⟩) (IntKind.i64.wrap (((x6).n : Int) + 34)).toNat (IntKind.i64.wrap (((x6).n : Int) + 34)).toNat))) rfl (HVal.move' rfl) ?_
    refine HList.vals (v := (.int .i64 ((x6).n : Int))) rfl (HVal.move' rfl) ?_
    obtain ⟨z60, z61, z62, z63, h⟩ := h
    refine HList.vals (v := (Sl.v (Sl.cut (Sl.mk (some ⟨H3.size, 0, none⟩) (IntKind.i64.wrap (((x6).n : Int) + 34)).toNat (IntKind.i64.wrap (((x6).n : Int) + 34)).toNat) 4 0 ((x6).n : Int).toNat (((Sl.mk (some ⟨H3.size, 0, none⟩) (IntKind.i64.wrap (((x6).n : Int) + 34)).toNat (IntKind.i64.wrap (((x6).n : Int) + 34)).toNat)).c)))) rfl (HVal.slice _ _ _ Try.runUnderlying30 Try.sizeOf49 rfl rfl ⟨_, _, rfl, z60, rfl⟩ rfl (by decide) z61 z62 z63) ?_
    refine HList.vals (v := (.pointer (some (Addr.add ⟨H.size, 0, none⟩ 2)))) rfl (HVal.fieldAddr' Try.runUnderlying32 rfl rfl Try.sizeOf30 rfl) ?_
    obtain ⟨z66, z67, h⟩ := h
    refine HList.opsn (HOp.store1 Try.sizeOf30 rfl rfl rfl z66 z67) ?_
    rintro _ H64 e65
    replace h := h H64 e65
    refine HList.nil ?_
    refine nt ?_
    refine HW.seq ?_
    refine HW.region ?_
    obtain ⟨x69, x70, x71, c68, h⟩ := h
    refine HList.vals (v := (.agg #[(.string x69), (.int .i64 x70), (Sl.v x71)])) rfl (HVal.loadN [(.string x69), (.int .i64 x70), (Sl.v x71)] Try.isAgg32 Try.sizeOf32 rfl c68) ?_
    refine HList.vals (v := (Sl.v (Sl.mk (some ⟨H3.size, 0, none⟩) (IntKind.i64.wrap (((x6).n : Int) + 34)).toNat (IntKind.i64.wrap (((x6).n : Int) + 34)).toNat))) rfl (HVal.move' rfl) ?_
    obtain ⟨z74, h⟩ := h
    refine HList.opsn (HOp.storeN' (l := [(.string x69), (.int .i64 x70), (Sl.v x71)]) Try.sizeOf32 rfl rfl rfl z74) ?_
    rintro _ H72 e73
    replace h := h H72 e73
    refine HList.vals (v := (Sl.v (Sl.mk (some ⟨H3.size, 0, none⟩) (IntKind.i64.wrap (((x6).n : Int) + 34)).toNat (IntKind.i64.wrap (((x6).n : Int) + 34)).toNat))) rfl (HVal.assign' rfl) ?_
    refine HList.nil ?_
    refine nt ?_
    refine HW.ret ?_
    obtain ⟨x75, x76, x77, c78, h⟩ := h
    exact ⟨_, resOf2 rfl (Res1.n [(.string x75), (.int .i64 x76), (Sl.v x77)] Try.isAgg32 Try.sizeOf32 rfl c78) Res1.t, ⟨x75, x76, x77, (Sl.mk (some ⟨H3.size, 0, none⟩) (IntKind.i64.wrap (((x6).n : Int) + 34)).toNat (IntKind.i64.wrap (((x6).n : Int) + 34)).toNat), rfl, h⟩⟩

def F10 (p0 : (Option Addr)) (p1_0 : Int) (p1_1 : Bool) (p1_2 : ByteArray) (p1_3 : Int) (p1_4 : Sl) (p1_5 : Int) (H : Hp) (Q : Sl → Hp → Prop) : Prop :=
∀ H1 : Hp, H1 = Array.push H (.cells #[(.int .i64 p1_0), (.bool p1_1), (.string p1_2), (.int .i64 p1_3), (Sl.v p1_4), (.int .i64 p1_5)] 34) → (
 ∃ x4 : Int, cell H1 ⟨H.size, 0, none⟩ = some (.int .i64 x4) ∧ (
 ((decide (x4 = 1)) = true → (∃ (x7 : ByteArray) (x8 : Int) (x9 : Sl), cells H1 (Addr.add ⟨H.size, 0, none⟩ 2) [(.string x7), (.int .i64 x8), (Sl.v x9)] 0 ∧ (
 F23 p0 x7 x8 x9 H1 (fun (r12 : Sl) (r13 : Int) (H10 : Hp) => 
 Q r12 H10)))) ∧
 ((decide (x4 = 1)) = false → (((decide (x4 = 2)) = true → (∃ x16 : Int, cell H1 (Addr.add ⟨H.size, 0, none⟩ 5) = some (.int .i64 x16) ∧ (
 F26 p0 x16 H1 (fun (r19 : Sl) (r20 : Int) (H17 : Hp) => 
 Q r19 H17)))) ∧
 ((decide (x4 = 2)) = false → (((decide (x4 = 3)) = true → (F20 p0 H1 (fun (r24 : Sl) (H22 : Hp) => 
 Q r24 H22))) ∧
 ((decide (x4 = 3)) = false → (((decide (x4 = 4)) = true → (F19 p0 H1 (fun (r28 : Sl) (H26 : Hp) => 
 Q r28 H26))) ∧
 ((decide (x4 = 4)) = false → (Q Sl.nil H1))))))))))
set_option maxRecDepth 100000 in
set_option maxHeartbeats 4000000 in
theorem walk10 {w0 : World} {p0 : (Option Addr)} {p1_0 : Int} {p1_1 : Bool} {p1_2 : ByteArray} {p1_3 : Int} {p1_4 : Sl} {p1_5 : Int} {H : Hp} {Q : Sl → Hp → Prop} (h : F10 p0 p1_0 p1_1 p1_2 p1_3 p1_4 p1_5 H Q) :
    Good Try.prog w0 10 #[(.pointer p0), (.agg #[(.int .i64 p1_0), (.bool p1_1), (.string p1_2), (.int .i64 p1_3), (Sl.v p1_4), (.int .i64 p1_5)])] H (fun v H => ∃ (r0 : Sl) , v = (Sl.v r0) ∧ Q r0 H) := by
  unfold F10 at h
  refine Good.enter' (fn := Try.f10) Try.func10 rfl rfl rfl ?_
  refine HW.seq ?_
  refine HW.region ?_
  refine HList.ops' rfl (HOp.box (v := (.agg #[(.int .i64 p1_0), (.bool p1_1), (.string p1_2), (.int .i64 p1_3), (Sl.v p1_4), (.int .i64 p1_5)])) rfl) ?_
  rintro _ H1 ⟨rfl, e2⟩
  replace h := h H1 e2
  refine HList.vals (v := (Sl.v Sl.nil)) rfl (HVal.assign' rfl) ?_
  refine HList.nil ?_
  refine nt ?_
  refine HW.seq ?_
  refine HW.seq ?_
  refine HW.region ?_
  refine HList.vals (v := (.pointer (some ⟨H.size, 0, none⟩))) rfl (HVal.fieldAddr0 Try.runUnderlying34 rfl rfl Try.sizeOf3 rfl) ?_
  obtain ⟨x4, c3, h⟩ := h
  refine HList.vals (v := (.int .i64 x4)) rfl (HVal.load1 Try.isAgg3 rfl c3) ?_
  refine HList.nil ?_
  refine nt ?_
  refine HW.block ?_
  refine HW.seq ?_
  refine HW.region ?_
  refine HList.vals (v := (.bool (decide (x4 = 1)))) rfl (HVal.eqlI rfl rfl) ?_
  refine HList.vals (v := (.bool (decide (x4 = 1)))) rfl (HVal.assign' rfl) ?_
  refine HList.nil ?_
  refine nt ?_
  obtain ⟨hT, hF⟩ := h
  refine HW.cond (decide (x4 = 1)) rfl (fun hb5 => ?_) (fun hb5 => ?_)
  · have h := hT hb5
    clear hT hF
    refine HW.seq ?_
    refine HW.region ?_
    refine HList.vals (v := (.pointer p0)) rfl (HVal.move' rfl) ?_
    refine HList.vals (v := (.pointer (some (Addr.add ⟨H.size, 0, none⟩ 2)))) rfl (HVal.fieldAddr' Try.runUnderlying34 rfl rfl Try.sizeOf32 rfl) ?_
    obtain ⟨x7, x8, x9, c6, h⟩ := h
    refine HList.vals (v := (.agg #[(.string x7), (.int .i64 x8), (Sl.v x9)])) rfl (HVal.loadN [(.string x7), (.int .i64 x8), (Sl.v x9)] Try.isAgg32 Try.sizeOf32 rfl c6) ?_
    refine HList.ops' rfl (HOp.call' 23 [(.pointer p0), (.agg #[(.string x7), (.int .i64 x8), (Sl.v x9)])] (cap := []) rfl rfl Try.call23 (walk23 h)) ?_
    rintro _ H10 ⟨r12, r13, rfl, h⟩
    refine HList.vals (v := (.tuple #[(Sl.v r12), (.int .i64 r13)])) rfl (HVal.move' rfl) ?_
    refine HList.vals (v := (Sl.v r12)) rfl (HVal.extract rfl rfl) ?_
    refine HList.vals (v := (.int .i64 r13)) rfl (HVal.extract rfl rfl) ?_
    refine HList.vals (v := (Sl.v r12)) rfl (HVal.assign' rfl) ?_
    refine HList.vals (v := (.int .i64 r13)) rfl (HVal.assign' rfl) ?_
    refine HList.nil ?_
    refine nt ?_
    refine HW.seq ?_
    refine HW.region ?_
    refine HList.vals (v := (Sl.v r12)) rfl (HVal.move' rfl) ?_
    refine HList.vals (v := (Sl.v r12)) rfl (HVal.assign' rfl) ?_
    refine HList.nil ?_
    refine nt ?_
    refine HW.ret ?_
    refine br ?_
    refine tr ?_
    exact ⟨_, resOf1 rfl Res1.t, ⟨r12, rfl, h⟩⟩
  · have h := hF hb5
    clear hT hF
    refine HW.seq ?_
    refine HW.region ?_
    refine HList.vals (v := (.bool (decide (x4 = 2)))) rfl (HVal.eqlI rfl rfl) ?_
    refine HList.vals (v := (.bool (decide (x4 = 2)))) rfl (HVal.assign' rfl) ?_
    refine HList.nil ?_
    refine nt ?_
    obtain ⟨hT, hF⟩ := h
    refine HW.cond (decide (x4 = 2)) rfl (fun hb14 => ?_) (fun hb14 => ?_)
    · have h := hT hb14
      clear hT hF
      refine HW.seq ?_
      refine HW.region ?_
      refine HList.vals (v := (.pointer p0)) rfl (HVal.move' rfl) ?_
      refine HList.vals (v := (.pointer (some (Addr.add ⟨H.size, 0, none⟩ 5)))) rfl (HVal.fieldAddr' Try.runUnderlying34 rfl rfl Try.sizeOf2 rfl) ?_
      obtain ⟨x16, c15, h⟩ := h
      refine HList.vals (v := (.int .i64 x16)) rfl (HVal.load1 Try.isAgg2 rfl c15) ?_
      refine HList.ops' rfl (HOp.call' 26 [(.pointer p0), (.int .i64 x16)] (cap := []) rfl rfl Try.call26 (walk26 h)) ?_
      rintro _ H17 ⟨r19, r20, rfl, h⟩
      refine HList.vals (v := (.tuple #[(Sl.v r19), (.int .i64 r20)])) rfl (HVal.move' rfl) ?_
      refine HList.vals (v := (Sl.v r19)) rfl (HVal.extract rfl rfl) ?_
      refine HList.vals (v := (.int .i64 r20)) rfl (HVal.extract rfl rfl) ?_
      refine HList.vals (v := (Sl.v r19)) rfl (HVal.assign' rfl) ?_
      refine HList.vals (v := (.int .i64 r20)) rfl (HVal.assign' rfl) ?_
      refine HList.nil ?_
      refine nt ?_
      refine HW.seq ?_
      refine HW.region ?_
      refine HList.vals (v := (Sl.v r19)) rfl (HVal.move' rfl) ?_
      refine HList.vals (v := (Sl.v r19)) rfl (HVal.assign' rfl) ?_
      refine HList.nil ?_
      refine nt ?_
      refine HW.ret ?_
      refine br ?_
      refine tr ?_
      exact ⟨_, resOf1 rfl Res1.t, ⟨r19, rfl, h⟩⟩
    · have h := hF hb14
      clear hT hF
      refine HW.seq ?_
      refine HW.region ?_
      refine HList.vals (v := (.bool (decide (x4 = 3)))) rfl (HVal.eqlI rfl rfl) ?_
      refine HList.vals (v := (.bool (decide (x4 = 3)))) rfl (HVal.assign' rfl) ?_
      refine HList.nil ?_
      refine nt ?_
      obtain ⟨hT, hF⟩ := h
      refine HW.cond (decide (x4 = 3)) rfl (fun hb21 => ?_) (fun hb21 => ?_)
      · have h := hT hb21
        clear hT hF
        refine HW.seq ?_
        refine HW.region ?_
        refine HList.vals (v := (.pointer p0)) rfl (HVal.move' rfl) ?_
        refine HList.ops' rfl (HOp.call' 20 [(.pointer p0)] (cap := []) rfl rfl Try.call20 (walk20 h)) ?_
        rintro _ H22 ⟨r24, rfl, h⟩
        refine HList.vals (v := (Sl.v r24)) rfl (HVal.assign' rfl) ?_
        refine HList.nil ?_
        refine nt ?_
        refine HW.ret ?_
        refine br ?_
        refine tr ?_
        exact ⟨_, resOf1 rfl Res1.t, ⟨r24, rfl, h⟩⟩
      · have h := hF hb21
        clear hT hF
        refine HW.seq ?_
        refine HW.region ?_
        refine HList.vals (v := (.bool (decide (x4 = 4)))) rfl (HVal.eqlI rfl rfl) ?_
        refine HList.vals (v := (.bool (decide (x4 = 4)))) rfl (HVal.assign' rfl) ?_
        refine HList.nil ?_
        refine nt ?_
        obtain ⟨hT, hF⟩ := h
        refine HW.cond (decide (x4 = 4)) rfl (fun hb25 => ?_) (fun hb25 => ?_)
        · have h := hT hb25
          clear hT hF
          refine HW.seq ?_
          refine HW.region ?_
          refine HList.vals (v := (.pointer p0)) rfl (HVal.move' rfl) ?_
          refine HList.ops' rfl (HOp.call' 19 [(.pointer p0)] (cap := []) rfl rfl Try.call19 (walk19 h)) ?_
          rintro _ H26 ⟨r28, rfl, h⟩
          refine HList.vals (v := (Sl.v r28)) rfl (HVal.assign' rfl) ?_
          refine HList.nil ?_
          refine nt ?_
          refine HW.ret ?_
          refine br ?_
          refine tr ?_
          exact ⟨_, resOf1 rfl Res1.t, ⟨r28, rfl, h⟩⟩
        · have h := hF hb25
          clear hT hF
          refine HW.skip ?_
          refine nb ?_
          refine nt ?_
          refine HW.seq ?_
          refine HW.region ?_
          refine HList.vals (v := (Sl.v Sl.nil)) rfl (HVal.assign' rfl) ?_
          refine HList.nil ?_
          refine nt ?_
          refine HW.ret ?_
          exact ⟨_, resOf1 rfl Res1.t, ⟨Sl.nil, rfl, h⟩⟩

def F38_1 (Q : Sl → Hp → Prop) (y23 : Sl) (H_1 : Hp) : Prop :=
Q y23 H_1
def F38_L2b (Q : Sl → Hp → Prop) (X2 : Sl → Int → Hp → Prop) (y3 : Sl) (y1 : Sl) (y2 : Int) (H_2 : Hp) : Prop :=
((decide (y2 < ((y3).n : Int))) = true → (∃ a5 : Addr, (y3).b = some a5 ∧ (0 : Int) ≤ y2 ∧ y2 < ((y3).n : Int) ∧ (
 ∃ (x10 : ByteArray) (x11 : Int) (x12 : Sl), cells H_2 (Addr.add a5 (y2.toNat * 3)) [(.string x10), (.int .i64 x11), (Sl.v x12)] 0 ∧ (
 F11 x10 x11 x12 H_2 (fun (r15 : ByteArray) (r16 : Int) (r17 : Sl) (H13 : Hp) => 
 ∀ H18 : Hp, H18 = Array.push H13 (.cells #[(.string r15), (.int .i64 r16), (Sl.v r17)] 32) → (
 AppendF H18 32 3 48 #[(.string (ByteArray.mk #[])), (.int .i64 0), (Sl.v Sl.nil)] y1 ((Sl.mk (some ⟨H13.size, 0, none⟩) 1 1)).b ((Sl.mk (some ⟨H13.size, 0, none⟩) 1 1)).n (fun (r22 : Sl) (H20 : Hp) => 
 X2 r22 (IntKind.i64.wrap (y2 + 1)) H20))))))) ∧
 ((decide (y2 < ((y3).n : Int))) = false → (F38_1 Q y1 H_2))
def F38_L2 (Q : Sl → Hp → Prop) (y3 : Sl) (y1 : Sl) (y2 : Int) (H_2 : Hp) : Prop :=
  ∀ X2 : Sl → Int → Hp → Prop, (∀ (y1 : Sl) (y2 : Int) (H_2 : Hp), F38_L2b Q X2 y3 y1 y2 H_2 → X2 y1 y2 H_2) → X2 y1 y2 H_2
def F38 (p0 : Sl) (H : Hp) (Q : Sl → Hp → Prop) : Prop :=
F38_L2 Q p0 Sl.nil 0 H
set_option maxRecDepth 100000 in
set_option maxHeartbeats 4000000 in
theorem walk38 {w0 : World} {p0 : Sl} {H : Hp} {Q : Sl → Hp → Prop} (h : F38 p0 H Q) :
    Good Try.prog w0 38 #[(Sl.v p0)] H (fun v H => ∃ (r0 : Sl) , v = (Sl.v r0) ∧ Q r0 H) := by
  unfold F38 at h
  refine Good.enter' (fn := Try.f38) Try.func38 rfl rfl rfl ?_
  refine HW.seq ?_
  refine HW.region ?_
  refine HList.vals (v := (Sl.v Sl.nil)) rfl (HVal.assign' rfl) ?_
  refine HList.nil ?_
  refine nt ?_
  refine HW.seq ?_
  refine HW.region ?_
  refine HList.vals (v := (Sl.v Sl.nil)) rfl (HVal.assign' rfl) ?_
  refine HList.nil ?_
  refine nt ?_
  refine HW.cut (fun ρ H_1 => ∃ (y23 : Sl), Env.Is ρ [(3, (Sl.v y23))] ∧ F38_1 Q y23 H_1) ?_ ?_
  · refine HW.seq ?_
    refine HW.region ?_
    refine HList.vals (v := (.int .i64 0)) rfl (HVal.assign' rfl) ?_
    refine HList.nil ?_
    refine nt ?_
    refine HW.block ?_
    refine HW.loop' (fun L2 hL2 => ?_)
    obtain ⟨X2, hX2⟩ : ∃ X2 : Sl → Int → Hp → Prop, ∀ (y1 : Sl) (y2 : Int) (H_2 : Hp), X2 y1 y2 H_2 ↔ ∀ ρ, Env.Is ρ [(0, (Sl.v p0)), (3, (Sl.v y1)), (4, (.int .i64 y2))] → L2 ρ H_2 := ⟨_, fun _ _ _ => Iff.rfl⟩
    refine (hX2 _ _ _).1 (h X2 ?_) _ ?_
    rotate_left
    · exact ⟨rfl, rfl, rfl, trivial⟩
    clear h
    intro y1 y2 H_2 h
    refine (hX2 _ _ _).2 fun ρ hI => ?_
    obtain ⟨ρ0, rfl⟩ : ∃ ρ0, ρ = (Env.set (Env.set (Env.set ρ0 4 (.int .i64 y2)) 3 (Sl.v y1)) 0 (Sl.v p0)) := ⟨ρ, hI.eq⟩
    clear hI; unfold F38_L2b at h; refine hL2 _ _ ?_
    refine HW.seq ?_
    refine HW.seq ?_
    refine HW.region ?_
    refine HList.vals (v := (.int .i64 y2)) rfl (HVal.move' rfl) ?_
    refine HList.vals (v := (Sl.v p0)) rfl (HVal.move' rfl) ?_
    refine HList.vals (v := (.int .i64 ((p0).n : Int))) rfl (HVal.len Try.runUnderlying50 rfl) ?_
    refine HList.vals (v := (.bool (decide (y2 < ((p0).n : Int))))) rfl (HVal.lss rfl rfl) ?_
    refine HList.nil ?_
    refine nt ?_
    obtain ⟨hT, hF⟩ := h
    refine HW.cond (decide (y2 < ((p0).n : Int))) rfl (fun hb4 => ?_) (fun hb4 => ?_)
    · have h := hT hb4
      clear hT hF
      refine HW.skip ?_
      refine nt ?_
      refine HW.seq ?_
      refine HW.block ?_
      refine HW.region ?_
      refine HList.vals (v := (Sl.v y1)) rfl (HVal.move' rfl) ?_
      refine HList.vals (v := (Sl.v p0)) rfl (HVal.move' rfl) ?_
      refine HList.vals (v := (.int .i64 y2)) rfl (HVal.move' rfl) ?_
      obtain ⟨a5, e6, b7, b8, h⟩ := h
      refine HList.vals (v := (.pointer (some (Addr.add a5 (y2.toNat * 3))))) rfl (HVal.indexAddr Try.runUnderlying50 Try.sizeOf32 (Sl.v_some rfl e6) rfl b7 b8) ?_
      obtain ⟨x10, x11, x12, c9, h⟩ := h
      refine HList.vals (v := (.agg #[(.string x10), (.int .i64 x11), (Sl.v x12)])) rfl (HVal.loadN [(.string x10), (.int .i64 x11), (Sl.v x12)] Try.isAgg32 Try.sizeOf32 rfl c9) ?_
      refine HList.ops' rfl (HOp.call' 11 [(.agg #[(.string x10), (.int .i64 x11), (Sl.v x12)])] (cap := []) rfl rfl Try.call11 (walk11 h)) ?_
      rintro _ H13 ⟨r15, r16, r17, rfl, h⟩
      refine HList.ops' rfl (HOp.buildSlice' (zs := [(.string (ByteArray.mk #[])), (.int .i64 0), (Sl.v Sl.nil)]) (cs := [(.string r15), (.int .i64 r16), (Sl.v r17)]) Try.runUnderlying50 Try.sizeOf32 Try.zeroValue32 (by decide) (by kernel_rfl) rfl (by decide)) ?_
      rintro _ H18 ⟨rfl, e19⟩
      replace h := h H18 e19
      refine HList.ops' rfl (HOp.append (k := 3) (b := 48) Try.runUnderlying50 Try.runUnderlying50 Try.typeInfo32 rfl rfl Try.zeroValue32 rfl rfl h) ?_
      rintro _ H20 ⟨r22, rfl, h⟩
      refine HList.vals (v := (Sl.v r22)) rfl (HVal.assign' rfl) ?_
      refine HList.nil ?_
      refine nb ?_
      refine nt ?_
      refine HW.region ?_
      refine HList.vals (v := (.int .i64 y2)) rfl (HVal.move' rfl) ?_
      refine HList.vals (v := (.int .i64 (IntKind.i64.wrap (y2 + 1)))) rfl (HVal.add rfl rfl) ?_
      refine HList.vals (v := (.int .i64 (IntKind.i64.wrap (y2 + 1)))) rfl (HVal.assign' rfl) ?_
      refine HList.nil ?_
      refine nt ?_
      exact (hX2 _ _ _).1 h _ ⟨rfl, rfl, rfl, trivial⟩
    · have h := hF hb4
      clear hT hF
      refine HW.exit ?_
      refine te ?_
      refine te ?_
      refine be ?_
      refine nt ?_
      exact ⟨y1, ⟨rfl, trivial⟩, h⟩
  · rintro ρ H_1 ⟨y23, hI, h⟩
    obtain ⟨ρ0, rfl⟩ : ∃ ρ0, ρ = (Env.set ρ0 3 (Sl.v y23)) := ⟨ρ, hI.eq⟩
    clear hI; unfold F38_1 at h
    refine HW.seq ?_
    refine HW.region ?_
    refine HList.vals (v := (Sl.v y23)) rfl (HVal.move' rfl) ?_
    refine HList.vals (v := (Sl.v y23)) rfl (HVal.assign' rfl) ?_
    refine HList.nil ?_
    refine nt ?_
    refine HW.ret ?_
    exact ⟨_, resOf1 rfl Res1.t, ⟨y23, rfl, h⟩⟩

def F32_6 (Q : Hp → Prop) (y82 : (Option Addr)) (y83 : Sl) (H_6 : Hp) : Prop :=
∃ a100 : Addr, y82 = some a100 ∧ (
 ∃ x103 : Int, cell H_6 (Addr.add a100 2) = some (.int .i64 x103) ∧ (
 ∃ a104 : Addr, y82 = some a104 ∧ (
 (cell H_6 (Addr.add a104 2)).isSome = true ∧ frz H_6 (Addr.add a104 2) = false ∧ ∀ H106 : Hp, H106 = setc H_6 (Addr.add a104 2) (.int .i64 (IntKind.i64.wrap ((IntKind.i64.wrap (x103 + 800)) + (IntKind.i64.wrap (100 * ((y83).n : Int)))))) → (
 ∃ a110 : Addr, y82 = some a110 ∧ (
 ∃ x113 : Int, cell H106 (Addr.add a110 2) = some (.int .i64 x113) ∧ (
 ((decide (x113 ≤ 33554432)) = true → (∃ a115 : Addr, y82 = some a115 ∧ (
 ∃ x118 : Sl, cell H106 (Addr.add a115 1) = some (Sl.v x118) ∧ (
 ∀ H119 : Hp, H119 = Array.push H106 (.cells #[(Sl.v y83), (Sl.v Sl.nil)] 50) → (
 AppendF H119 50 1 24 #[(Sl.v Sl.nil)] x118 ((Sl.mk (some ⟨H106.size, 0, none⟩) 2 2)).b ((Sl.mk (some ⟨H106.size, 0, none⟩) 2 2)).n (fun (r123 : Sl) (H121 : Hp) => 
 ∃ a124 : Addr, y82 = some a124 ∧ (
 (cell H121 (Addr.add a124 1)).isSome = true ∧ frz H121 (Addr.add a124 1) = false ∧ ∀ H126 : Hp, H126 = setc H121 (Addr.add a124 1) (Sl.v r123) → (
 Q H126)))))))) ∧
 ((decide (x113 ≤ 33554432)) = false → (Q H106))))))))
def F32_L7b (Q : Hp → Prop) (X7 : Int → Hp → Prop) (y85 : (Option Addr)) (y86 : Sl) (y87 : Addr) (y84 : Int) (H_7 : Hp) : Prop :=
((decide (y84 < ((y86).n : Int))) = true → (∃ (x90 : ByteArray) (x91 : Int) (x92 : Sl), cells H_7 y87 [(.string x90), (.int .i64 x91), (Sl.v x92)] 0 ∧ (
 ∃ a93 : Addr, (y86).b = some a93 ∧ (0 : Int) ≤ y84 ∧ y84 < ((y86).n : Int) ∧ (
 mayw H_7 (Addr.add a93 (y84.toNat * 3)) 3 0 ∧ ∀ H97 : Hp, H97 = sets H_7 (Addr.add a93 (y84.toNat * 3)) [(.string x90), (.int .i64 x91), (Sl.v x92)] 0 → (
 X7 (IntKind.i64.wrap (y84 + 1)) H97))))) ∧
 ((decide (y84 < ((y86).n : Int))) = false → (F32_6 Q y85 y86 H_7))
def F32_L7 (Q : Hp → Prop) (y85 : (Option Addr)) (y86 : Sl) (y87 : Addr) (y84 : Int) (H_7 : Hp) : Prop :=
  ∀ X7 : Int → Hp → Prop, (∀ (y84 : Int) (H_7 : Hp), F32_L7b Q X7 y85 y86 y87 y84 H_7 → X7 y84 H_7) → X7 y84 H_7
def F32_1 (Q : Hp → Prop) (y1 : (Option Addr)) (y2 : Sl) (H_1 : Hp) : Prop :=
∃ a73 : Addr, y1 = some a73 ∧ (
 ∃ x76 : Sl, cell H_1 (Addr.add a73 1) = some (Sl.v x76) ∧ (
 ∀ H77 : Hp, H77 = Array.push H_1 (.cells #[(.string (ByteArray.mk #[])), (.int .i64 0), (Sl.v Sl.nil)] 32) → (
 mayw H77 ⟨H_1.size, 0, none⟩ 3 0 ∧ ∀ H79 : Hp, H79 = sets H77 ⟨H_1.size, 0, none⟩ [(.string (ByteArray.mk #[])), (.int .i64 (IntKind.i64.wrap ((-1) - (IntKind.i64.wrap (Int.tdiv ((x76).n : Int) (2 : Int)))))), (Sl.v Sl.nil)] 0 → (
 F32_L7 Q y1 y2 ⟨H_1.size, 0, none⟩ 0 H79))))
def F32_3 (Q : Hp → Prop) (X2 : Int → Hp → Prop) (y7 : (Option Addr)) (y8 : Sl) (y9 : Int) (H_3 : Hp) : Prop :=
X2 (IntKind.i64.wrap (y9 + 1)) H_3
def F32_4 (Q : Hp → Prop) (X2 : Int → Hp → Prop) (y16 : (Option Addr)) (y17 : Sl) (y18 : Int) (y19 : Sl) (H_4 : Hp) : Prop :=
∃ a43 : Addr, y16 = some a43 ∧ (
 ∃ x46 : Int, cell H_4 (Addr.add a43 2) = some (.int .i64 x46) ∧ (
 ∃ a47 : Addr, y16 = some a47 ∧ (
 (cell H_4 (Addr.add a47 2)).isSome = true ∧ frz H_4 (Addr.add a47 2) = false ∧ ∀ H49 : Hp, H49 = setc H_4 (Addr.add a47 2) (.int .i64 (IntKind.i64.wrap ((IntKind.i64.wrap (x46 + 800)) + (IntKind.i64.wrap (90 * ((y19).n : Int)))))) → (
 ∃ a53 : Addr, y16 = some a53 ∧ (
 ∃ x56 : Int, cell H49 (Addr.add a53 2) = some (.int .i64 x56) ∧ (
 ((decide (x56 ≤ 33554432)) = true → (∃ a58 : Addr, y16 = some a58 ∧ (
 ∃ x61 : Sl, cell H49 a58 = some (Sl.v x61) ∧ (
 ∀ H62 : Hp, H62 = Array.push H49 (.cells #[(Sl.v y19), (Sl.v Sl.nil)] 30) → (
 AppendF H62 30 1 24 #[(Sl.v Sl.nil)] x61 ((Sl.mk (some ⟨H49.size, 0, none⟩) 2 2)).b ((Sl.mk (some ⟨H49.size, 0, none⟩) 2 2)).n (fun (r66 : Sl) (H64 : Hp) => 
 ∃ a67 : Addr, y16 = some a67 ∧ (
 (cell H64 a67).isSome = true ∧ frz H64 a67 = false ∧ ∀ H69 : Hp, H69 = setc H64 a67 (Sl.v r66) → (
 F32_3 Q X2 y16 y17 y18 H69)))))))) ∧
 ((decide (x56 ≤ 33554432)) = false → (F32_3 Q X2 y16 y17 y18 H49))))))))
def F32_L5b (Q : Hp → Prop) (X2 : Int → Hp → Prop) (X5 : Int → Hp → Prop) (y21 : (Option Addr)) (y22 : Sl) (y23 : Int) (y24 : Sl) (y20 : Int) (H_5 : Hp) : Prop :=
((decide (y20 < ((y24).n : Int))) = true → (∃ a26 : Addr, y21 = some a26 ∧ (
 ∃ x29 : Sl, cell H_5 a26 = some (Sl.v x29) ∧ (
 F15 (IntKind.i64.wrap (Int.tdiv ((x29).n : Int) (2 : Int))) H_5 (fun (r32 : Int) (r33 : Int) (r34 : ByteArray) (r35 : Bool) (H30 : Hp) => 
 ∃ a36 : Addr, (y24).b = some a36 ∧ (0 : Int) ≤ y20 ∧ y20 < ((y24).n : Int) ∧ (
 mayw H30 (Addr.add a36 (y20.toNat * 4)) 4 0 ∧ ∀ H40 : Hp, H40 = sets H30 (Addr.add a36 (y20.toNat * 4)) [(.int .i64 r32), (.int .i64 r33), (.string r34), (.bool r35)] 0 → (
 X5 (IntKind.i64.wrap (y20 + 1)) H40))))))) ∧
 ((decide (y20 < ((y24).n : Int))) = false → (F32_4 Q X2 y21 y22 y23 y24 H_5))
def F32_L5 (Q : Hp → Prop) (X2 : Int → Hp → Prop) (y21 : (Option Addr)) (y22 : Sl) (y23 : Int) (y24 : Sl) (y20 : Int) (H_5 : Hp) : Prop :=
  ∀ X5 : Int → Hp → Prop, (∀ (y20 : Int) (H_5 : Hp), F32_L5b Q X2 X5 y21 y22 y23 y24 y20 H_5 → X5 y20 H_5) → X5 y20 H_5
def F32_L2b (Q : Hp → Prop) (X2 : Int → Hp → Prop) (y4 : (Option Addr)) (y5 : Sl) (y3 : Int) (H_2 : Hp) : Prop :=
((decide (y3 < ((y5).n : Int))) = true → (∃ a10 : Addr, (y5).b = some a10 ∧ (0 : Int) ≤ y3 ∧ y3 < ((y5).n : Int) ∧ (
 ∃ x15 : Sl, cell H_2 (Addr.add (Addr.add a10 (y3.toNat * 3)) 2) = some (Sl.v x15) ∧ (
 F32_L5 Q X2 y4 y5 y3 x15 0 H_2)))) ∧
 ((decide (y3 < ((y5).n : Int))) = false → (F32_1 Q y4 y5 H_2))
def F32_L2 (Q : Hp → Prop) (y4 : (Option Addr)) (y5 : Sl) (y3 : Int) (H_2 : Hp) : Prop :=
  ∀ X2 : Int → Hp → Prop, (∀ (y3 : Int) (H_2 : Hp), F32_L2b Q X2 y4 y5 y3 H_2 → X2 y3 H_2) → X2 y3 H_2
def F32 (p0 : (Option Addr)) (p1 : Sl) (H : Hp) (Q : Hp → Prop) : Prop :=
F32_L2 Q p0 p1 0 H
set_option maxRecDepth 100000 in
set_option maxHeartbeats 4000000 in
theorem walk32 {w0 : World} {p0 : (Option Addr)} {p1 : Sl} {H : Hp} {Q : Hp → Prop} (h : F32 p0 p1 H Q) :
    Good Try.prog w0 32 #[(.pointer p0), (Sl.v p1)] H (fun v H => v = (.tuple #[]) ∧ Q H) := by
  unfold F32 at h
  refine Good.enter' (fn := Try.f32) Try.func32 rfl rfl rfl ?_
  refine HW.cut (fun ρ H_1 => Env.Is ρ [(0, (.pointer p0)), (1, (Sl.v p1))] ∧ F32_1 Q p0 p1 H_1) ?_ ?_
  · refine HW.seq ?_
    refine HW.region ?_
    refine HList.vals (v := (.int .i64 0)) rfl (HVal.assign' rfl) ?_
    refine HList.nil ?_
    refine nt ?_
    refine HW.block ?_
    refine HW.loop' (fun L2 hL2 => ?_)
    obtain ⟨X2, hX2⟩ : ∃ X2 : Int → Hp → Prop, ∀ (y3 : Int) (H_2 : Hp), X2 y3 H_2 ↔ ∀ ρ, Env.Is ρ [(0, (.pointer p0)), (1, (Sl.v p1)), (4, (.int .i64 y3))] → L2 ρ H_2 := ⟨_, fun _ _ => Iff.rfl⟩
    refine (hX2 _ _).1 (h X2 ?_) _ ?_
    rotate_left
    · exact ⟨rfl, rfl, rfl, trivial⟩
    clear h
    intro y3 H_2 h
    refine (hX2 _ _).2 fun ρ hI => ?_
    obtain ⟨ρ0, rfl⟩ : ∃ ρ0, ρ = (Env.set (Env.set (Env.set ρ0 4 (.int .i64 y3)) 1 (Sl.v p1)) 0 (.pointer p0)) := ⟨ρ, hI.eq⟩
    clear hI; unfold F32_L2b at h; refine hL2 _ _ ?_
    refine HW.seq ?_
    refine HW.seq ?_
    refine HW.region ?_
    refine HList.vals (v := (.int .i64 y3)) rfl (HVal.move' rfl) ?_
    refine HList.vals (v := (Sl.v p1)) rfl (HVal.move' rfl) ?_
    refine HList.vals (v := (.int .i64 ((p1).n : Int))) rfl (HVal.len Try.runUnderlying50 rfl) ?_
    refine HList.vals (v := (.bool (decide (y3 < ((p1).n : Int))))) rfl (HVal.lss rfl rfl) ?_
    refine HList.nil ?_
    refine nt ?_
    obtain ⟨hT, hF⟩ := h
    refine HW.cond (decide (y3 < ((p1).n : Int))) rfl (fun hb6 => ?_) (fun hb6 => ?_)
    · have h := hT hb6
      clear hT hF
      refine HW.skip ?_
      refine nt ?_
      refine HW.cut (fun ρ H_3 => Env.Is ρ [(0, (.pointer p0)), (1, (Sl.v p1)), (4, (.int .i64 y3))] ∧ F32_3 Q X2 p0 p1 y3 H_3) ?_ ?_
      · refine HW.block ?_
        refine HW.seq ?_
        refine HW.region ?_
        refine HList.vals (v := (Sl.v p1)) rfl (HVal.move' rfl) ?_
        refine HList.vals (v := (.int .i64 y3)) rfl (HVal.move' rfl) ?_
        obtain ⟨a10, e11, b12, b13, h⟩ := h
        refine HList.vals (v := (.pointer (some (Addr.add a10 (y3.toNat * 3))))) rfl (HVal.indexAddr Try.runUnderlying50 Try.sizeOf32 (Sl.v_some rfl e11) rfl b12 b13) ?_
        refine HList.vals (v := (.pointer (some (Addr.add (Addr.add a10 (y3.toNat * 3)) 2)))) rfl (HVal.fieldAddr' Try.runUnderlying32 rfl rfl Try.sizeOf30 rfl) ?_
        obtain ⟨x15, c14, h⟩ := h
        refine HList.vals (v := (Sl.v x15)) rfl (HVal.load1 Try.isAgg30 rfl c14) ?_
        refine HList.vals (v := (Sl.v x15)) rfl (HVal.assign' rfl) ?_
        refine HList.nil ?_
        refine nt ?_
        refine HW.cut (fun ρ H_4 => Env.Is ρ [(0, (.pointer p0)), (1, (Sl.v p1)), (4, (.int .i64 y3)), (5, (Sl.v x15))] ∧ F32_4 Q X2 p0 p1 y3 x15 H_4) ?_ ?_
        · refine HW.seq ?_
          refine HW.region ?_
          refine HList.vals (v := (.int .i64 0)) rfl (HVal.assign' rfl) ?_
          refine HList.nil ?_
          refine nt ?_
          refine HW.block ?_
          refine HW.loop' (fun L5 hL5 => ?_)
          obtain ⟨X5, hX5⟩ : ∃ X5 : Int → Hp → Prop, ∀ (y20 : Int) (H_5 : Hp), X5 y20 H_5 ↔ ∀ ρ, Env.Is ρ [(0, (.pointer p0)), (1, (Sl.v p1)), (4, (.int .i64 y3)), (5, (Sl.v x15)), (6, (.int .i64 y20))] → L5 ρ H_5 := ⟨_, fun _ _ => Iff.rfl⟩
          refine (hX5 _ _).1 (h X5 ?_) _ ?_
          rotate_left
          · exact ⟨rfl, rfl, rfl, rfl, rfl, trivial⟩
          clear h
          intro y20 H_5 h
          refine (hX5 _ _).2 fun ρ hI => ?_
          obtain ⟨ρ0, rfl⟩ : ∃ ρ0, ρ = (Env.set (Env.set (Env.set (Env.set (Env.set ρ0 6 (.int .i64 y20)) 5 (Sl.v x15)) 4 (.int .i64 y3)) 1 (Sl.v p1)) 0 (.pointer p0)) := ⟨ρ, hI.eq⟩
          clear hI; unfold F32_L5b at h; refine hL5 _ _ ?_
          refine HW.seq ?_
          refine HW.seq ?_
          refine HW.region ?_
          refine HList.vals (v := (.int .i64 y20)) rfl (HVal.move' rfl) ?_
          refine HList.vals (v := (Sl.v x15)) rfl (HVal.move' rfl) ?_
          refine HList.vals (v := (.int .i64 ((x15).n : Int))) rfl (HVal.len Try.runUnderlying30 rfl) ?_
          refine HList.vals (v := (.bool (decide (y20 < ((x15).n : Int))))) rfl (HVal.lss rfl rfl) ?_
          refine HList.nil ?_
          refine nt ?_
          obtain ⟨hT, hF⟩ := h
          refine HW.cond (decide (y20 < ((x15).n : Int))) rfl (fun hb25 => ?_) (fun hb25 => ?_)
          · have h := hT hb25
            clear hT hF
            refine HW.skip ?_
            refine nt ?_
            refine HW.seq ?_
            refine HW.block ?_
            refine HW.region ?_
            refine HList.vals (v := (Sl.v x15)) rfl (HVal.move' rfl) ?_
            refine HList.vals (v := (.int .i64 y20)) rfl (HVal.move' rfl) ?_
            refine HList.vals (v := (.pointer p0)) rfl (HVal.move' rfl) ?_
            obtain ⟨a26, e27, h⟩ := h
            refine HList.vals (v := (.pointer (some a26))) rfl (HVal.nilCheck (congrArg Value.pointer e27)) ?_
            refine HList.vals (v := (.pointer (some a26))) rfl (HVal.fieldAddr0 Try.runUnderlying45 rfl rfl Try.sizeOf41 rfl) ?_
            obtain ⟨x29, c28, h⟩ := h
            refine HList.vals (v := (Sl.v x29)) rfl (HVal.load1 Try.isAgg41 rfl c28) ?_
            refine HList.vals (v := (.int .i64 ((x29).n : Int))) rfl (HVal.len Try.runUnderlying41 rfl) ?_
            refine HList.vals (v := (.int .i64 (IntKind.i64.wrap (Int.tdiv ((x29).n : Int) (2 : Int))))) rfl (HVal.quo rfl rfl (by decide)) ?_
            refine HList.ops' rfl (HOp.call' 15 [(.int .i64 (IntKind.i64.wrap (Int.tdiv ((x29).n : Int) (2 : Int))))] (cap := []) rfl rfl Try.call15 (walk15 h)) ?_
            rintro _ H30 ⟨r32, r33, r34, r35, rfl, h⟩
            obtain ⟨a36, e37, b38, b39, h⟩ := h
            refine HList.vals (v := (.pointer (some (Addr.add a36 (y20.toNat * 4))))) rfl (HVal.indexAddr Try.runUnderlying30 Try.sizeOf49 (Sl.v_some rfl e37) rfl b38 b39) ?_
            obtain ⟨z42, h⟩ := h
            refine HList.opsn (HOp.storeN' (l := [(.int .i64 r32), (.int .i64 r33), (.string r34), (.bool r35)]) Try.sizeOf49 rfl rfl rfl z42) ?_
            rintro _ H40 e41
            replace h := h H40 e41
            refine HList.nil ?_
            refine nb ?_
            refine nt ?_
            refine HW.region ?_
            refine HList.vals (v := (.int .i64 y20)) rfl (HVal.move' rfl) ?_
            refine HList.vals (v := (.int .i64 (IntKind.i64.wrap (y20 + 1)))) rfl (HVal.add rfl rfl) ?_
            refine HList.vals (v := (.int .i64 (IntKind.i64.wrap (y20 + 1)))) rfl (HVal.assign' rfl) ?_
            refine HList.nil ?_
            refine nt ?_
            exact (hX5 _ _).1 h _ ⟨rfl, rfl, rfl, rfl, rfl, trivial⟩
          · have h := hF hb25
            clear hT hF
            refine HW.exit ?_
            refine te ?_
            refine te ?_
            refine be ?_
            refine nt ?_
            exact ⟨⟨rfl, rfl, rfl, rfl, trivial⟩, h⟩
        · rintro ρ H_4 ⟨hI, h⟩
          obtain ⟨ρ0, rfl⟩ : ∃ ρ0, ρ = (Env.set (Env.set (Env.set (Env.set ρ0 5 (Sl.v x15)) 4 (.int .i64 y3)) 1 (Sl.v p1)) 0 (.pointer p0)) := ⟨ρ, hI.eq⟩
          clear hI; unfold F32_4 at h
          refine HW.seq ?_
          refine HW.region ?_
          refine HList.vals (v := (.pointer p0)) rfl (HVal.move' rfl) ?_
          refine HList.vals (v := (.pointer p0)) rfl (HVal.move' rfl) ?_
          obtain ⟨a43, e44, h⟩ := h
          refine HList.vals (v := (.pointer (some a43))) rfl (HVal.nilCheck (congrArg Value.pointer e44)) ?_
          refine HList.vals (v := (.pointer (some (Addr.add a43 2)))) rfl (HVal.fieldAddr' Try.runUnderlying45 rfl rfl Try.sizeOf3 rfl) ?_
          obtain ⟨x46, c45, h⟩ := h
          refine HList.vals (v := (.int .i64 x46)) rfl (HVal.load1 Try.isAgg3 rfl c45) ?_
          refine HList.vals (v := (.int .i64 (IntKind.i64.wrap (x46 + 800)))) rfl (HVal.add rfl rfl) ?_
          refine HList.vals (v := (Sl.v x15)) rfl (HVal.move' rfl) ?_
          refine HList.vals (v := (.int .i64 ((x15).n : Int))) rfl (HVal.len Try.runUnderlying30 rfl) ?_
          refine HList.vals (v := (.int .i64 (IntKind.i64.wrap (90 * ((x15).n : Int))))) rfl (HVal.mul rfl rfl) ?_
          refine HList.vals (v := (.int .i64 (IntKind.i64.wrap ((IntKind.i64.wrap (x46 + 800)) + (IntKind.i64.wrap (90 * ((x15).n : Int))))))) rfl (HVal.add rfl rfl) ?_
          obtain ⟨a47, e48, h⟩ := h
          refine HList.vals (v := (.pointer (some a47))) rfl (HVal.nilCheck (congrArg Value.pointer e48)) ?_
          refine HList.vals (v := (.pointer (some (Addr.add a47 2)))) rfl (HVal.fieldAddr' Try.runUnderlying45 rfl rfl Try.sizeOf3 rfl) ?_
          obtain ⟨z51, z52, h⟩ := h
          refine HList.opsn (HOp.store1 Try.sizeOf3 rfl rfl rfl z51 z52) ?_
          rintro _ H49 e50
          replace h := h H49 e50
          refine HList.nil ?_
          refine nt ?_
          refine HW.seq ?_
          refine HW.region ?_
          refine HList.vals (v := (.pointer p0)) rfl (HVal.move' rfl) ?_
          obtain ⟨a53, e54, h⟩ := h
          refine HList.vals (v := (.pointer (some a53))) rfl (HVal.nilCheck (congrArg Value.pointer e54)) ?_
          refine HList.vals (v := (.pointer (some (Addr.add a53 2)))) rfl (HVal.fieldAddr' Try.runUnderlying45 rfl rfl Try.sizeOf3 rfl) ?_
          obtain ⟨x56, c55, h⟩ := h
          refine HList.vals (v := (.int .i64 x56)) rfl (HVal.load1 Try.isAgg3 rfl c55) ?_
          refine HList.vals (v := (.bool (decide (x56 ≤ 33554432)))) rfl (HVal.leq rfl rfl) ?_
          refine HList.nil ?_
          refine nt ?_
          obtain ⟨hT, hF⟩ := h
          refine HW.cond (decide (x56 ≤ 33554432)) rfl (fun hb57 => ?_) (fun hb57 => ?_)
          · have h := hT hb57
            clear hT hF
            refine HW.region ?_
            refine HList.vals (v := (.pointer p0)) rfl (HVal.move' rfl) ?_
            refine HList.vals (v := (.pointer p0)) rfl (HVal.move' rfl) ?_
            obtain ⟨a58, e59, h⟩ := h
            refine HList.vals (v := (.pointer (some a58))) rfl (HVal.nilCheck (congrArg Value.pointer e59)) ?_
            refine HList.vals (v := (.pointer (some a58))) rfl (HVal.fieldAddr0 Try.runUnderlying45 rfl rfl Try.sizeOf41 rfl) ?_
            obtain ⟨x61, c60, h⟩ := h
            refine HList.vals (v := (Sl.v x61)) rfl (HVal.load1 Try.isAgg41 rfl c60) ?_
            refine HList.vals (v := (Sl.v x15)) rfl (HVal.move' rfl) ?_
            refine HList.ops' rfl (HOp.buildSlice' (zs := [(Sl.v Sl.nil), (Sl.v Sl.nil)]) (cs := [(Sl.v x15), (Sl.v Sl.nil)]) Try.runUnderlying41 Try.sizeOf30 Try.zeroValue30 (by decide) (by kernel_rfl) rfl (by decide)) ?_
            rintro _ H62 ⟨rfl, e63⟩
            replace h := h H62 e63
            refine HList.ops' rfl (HOp.append (k := 1) (b := 24) Try.runUnderlying41 Try.runUnderlying41 Try.typeInfo30 rfl rfl Try.zeroValue30 rfl rfl h) ?_
            rintro _ H64 ⟨r66, rfl, h⟩
            obtain ⟨a67, e68, h⟩ := h
            refine HList.vals (v := (.pointer (some a67))) rfl (HVal.nilCheck (congrArg Value.pointer e68)) ?_
            refine HList.vals (v := (.pointer (some a67))) rfl (HVal.fieldAddr0 Try.runUnderlying45 rfl rfl Try.sizeOf41 rfl) ?_
            obtain ⟨z71, z72, h⟩ := h
            refine HList.opsn (HOp.store1 Try.sizeOf41 rfl rfl rfl z71 z72) ?_
            rintro _ H69 e70
            replace h := h H69 e70
            refine HList.nil ?_
            refine nb ?_
            refine nt ?_
            exact ⟨⟨rfl, rfl, rfl, trivial⟩, h⟩
          · have h := hF hb57
            clear hT hF
            refine HW.skip ?_
            refine nb ?_
            refine nt ?_
            exact ⟨⟨rfl, rfl, rfl, trivial⟩, h⟩
      · rintro ρ H_3 ⟨hI, h⟩
        obtain ⟨ρ0, rfl⟩ : ∃ ρ0, ρ = (Env.set (Env.set (Env.set ρ0 4 (.int .i64 y3)) 1 (Sl.v p1)) 0 (.pointer p0)) := ⟨ρ, hI.eq⟩
        clear hI; unfold F32_3 at h
        refine HW.region ?_
        refine HList.vals (v := (.int .i64 y3)) rfl (HVal.move' rfl) ?_
        refine HList.vals (v := (.int .i64 (IntKind.i64.wrap (y3 + 1)))) rfl (HVal.add rfl rfl) ?_
        refine HList.vals (v := (.int .i64 (IntKind.i64.wrap (y3 + 1)))) rfl (HVal.assign' rfl) ?_
        refine HList.nil ?_
        refine nt ?_
        exact (hX2 _ _).1 h _ ⟨rfl, rfl, rfl, trivial⟩
    · have h := hF hb6
      clear hT hF
      refine HW.exit ?_
      refine te ?_
      refine te ?_
      refine be ?_
      refine nt ?_
      exact ⟨⟨rfl, rfl, trivial⟩, h⟩
  · rintro ρ H_1 ⟨hI, h⟩
    obtain ⟨ρ0, rfl⟩ : ∃ ρ0, ρ = (Env.set (Env.set ρ0 1 (Sl.v p1)) 0 (.pointer p0)) := ⟨ρ, hI.eq⟩
    clear hI; unfold F32_1 at h
    refine HW.seq ?_
    refine HW.region ?_
    refine HList.vals (v := (.pointer p0)) rfl (HVal.move' rfl) ?_
    obtain ⟨a73, e74, h⟩ := h
    refine HList.vals (v := (.pointer (some a73))) rfl (HVal.nilCheck (congrArg Value.pointer e74)) ?_
    refine HList.vals (v := (.pointer (some (Addr.add a73 1)))) rfl (HVal.fieldAddr' Try.runUnderlying45 rfl rfl Try.sizeOf42 rfl) ?_
    obtain ⟨x76, c75, h⟩ := h
    refine HList.vals (v := (Sl.v x76)) rfl (HVal.load1 Try.isAgg42 rfl c75) ?_
    refine HList.vals (v := (.int .i64 ((x76).n : Int))) rfl (HVal.len Try.runUnderlying42 rfl) ?_
    refine HList.vals (v := (.int .i64 (IntKind.i64.wrap (Int.tdiv ((x76).n : Int) (2 : Int))))) rfl (HVal.quo rfl rfl (by decide)) ?_
    refine HList.vals (v := (.int .i64 (IntKind.i64.wrap ((-1) - (IntKind.i64.wrap (Int.tdiv ((x76).n : Int) (2 : Int))))))) rfl (HVal.sub rfl rfl) ?_
    refine HList.vals (v := (.agg #[(.string (ByteArray.mk #[])), (.int .i64 (IntKind.i64.wrap ((-1) - (IntKind.i64.wrap (Int.tdiv ((x76).n : Int) (2 : Int)))))), (Sl.v Sl.nil)])) rfl (HVal.build' (cs := [(.string (ByteArray.mk #[])), (.int .i64 (IntKind.i64.wrap ((-1) - (IntKind.i64.wrap (Int.tdiv ((x76).n : Int) (2 : Int)))))), (Sl.v Sl.nil)]) Try.runUnderlying32 Try.zeroValue32 places32 rfl) ?_
    refine HList.ops' rfl (HOp.alloc Try.zeroValue32) ?_
    rintro _ H77 ⟨rfl, e78⟩
    replace h := h H77 e78
    obtain ⟨z81, h⟩ := h
    refine HList.opsn (HOp.storeN' (l := [(.string (ByteArray.mk #[])), (.int .i64 (IntKind.i64.wrap ((-1) - (IntKind.i64.wrap (Int.tdiv ((x76).n : Int) (2 : Int)))))), (Sl.v Sl.nil)]) Try.sizeOf32 rfl rfl rfl z81) ?_
    rintro _ H79 e80
    replace h := h H79 e80
    refine HList.nil ?_
    refine nt ?_
    refine HW.cut (fun ρ H_6 => Env.Is ρ [(0, (.pointer p0)), (1, (Sl.v p1))] ∧ F32_6 Q p0 p1 H_6) ?_ ?_
    · refine HW.seq ?_
      refine HW.region ?_
      refine HList.vals (v := (.int .i64 0)) rfl (HVal.assign' rfl) ?_
      refine HList.nil ?_
      refine nt ?_
      refine HW.block ?_
      refine HW.loop' (fun L7 hL7 => ?_)
      obtain ⟨X7, hX7⟩ : ∃ X7 : Int → Hp → Prop, ∀ (y84 : Int) (H_7 : Hp), X7 y84 H_7 ↔ ∀ ρ, Env.Is ρ [(0, (.pointer p0)), (1, (Sl.v p1)), (7, (.pointer (some ⟨H_1.size, 0, none⟩))), (8, (.int .i64 y84))] → L7 ρ H_7 := ⟨_, fun _ _ => Iff.rfl⟩
      refine (hX7 _ _).1 (h X7 ?_) _ ?_
      rotate_left
      · exact ⟨rfl, rfl, rfl, rfl, trivial⟩
      clear h
      intro y84 H_7 h
      refine (hX7 _ _).2 fun ρ hI => ?_
      obtain ⟨ρ0, rfl⟩ : ∃ ρ0, ρ = (Env.set (Env.set (Env.set (Env.set ρ0 8 (.int .i64 y84)) 7 (.pointer (some ⟨H_1.size, 0, none⟩))) 1 (Sl.v p1)) 0 (.pointer p0)) := ⟨ρ, hI.eq⟩
      clear hI; unfold F32_L7b at h; refine hL7 _ _ ?_
      refine HW.seq ?_
      refine HW.seq ?_
      refine HW.region ?_
      refine HList.vals (v := (.int .i64 y84)) rfl (HVal.move' rfl) ?_
      refine HList.vals (v := (Sl.v p1)) rfl (HVal.move' rfl) ?_
      refine HList.vals (v := (.int .i64 ((p1).n : Int))) rfl (HVal.len Try.runUnderlying50 rfl) ?_
      refine HList.vals (v := (.bool (decide (y84 < ((p1).n : Int))))) rfl (HVal.lss rfl rfl) ?_
      refine HList.nil ?_
      refine nt ?_
      obtain ⟨hT, hF⟩ := h
      refine HW.cond (decide (y84 < ((p1).n : Int))) rfl (fun hb88 => ?_) (fun hb88 => ?_)
      · have h := hT hb88
        clear hT hF
        refine HW.skip ?_
        refine nt ?_
        refine HW.seq ?_
        refine HW.block ?_
        refine HW.region ?_
        refine HList.vals (v := (Sl.v p1)) rfl (HVal.move' rfl) ?_
        refine HList.vals (v := (.int .i64 y84)) rfl (HVal.move' rfl) ?_
        obtain ⟨x90, x91, x92, c89, h⟩ := h
        refine HList.vals (v := (.agg #[(.string x90), (.int .i64 x91), (Sl.v x92)])) rfl (HVal.loadN [(.string x90), (.int .i64 x91), (Sl.v x92)] Try.isAgg32 Try.sizeOf32 rfl c89) ?_
        obtain ⟨a93, e94, b95, b96, h⟩ := h
        refine HList.vals (v := (.pointer (some (Addr.add a93 (y84.toNat * 3))))) rfl (HVal.indexAddr Try.runUnderlying50 Try.sizeOf32 (Sl.v_some rfl e94) rfl b95 b96) ?_
        obtain ⟨z99, h⟩ := h
        refine HList.opsn (HOp.storeN' (l := [(.string x90), (.int .i64 x91), (Sl.v x92)]) Try.sizeOf32 rfl rfl rfl z99) ?_
        rintro _ H97 e98
        replace h := h H97 e98
        refine HList.nil ?_
        refine nb ?_
        refine nt ?_
        refine HW.region ?_
        refine HList.vals (v := (.int .i64 y84)) rfl (HVal.move' rfl) ?_
        refine HList.vals (v := (.int .i64 (IntKind.i64.wrap (y84 + 1)))) rfl (HVal.add rfl rfl) ?_
        refine HList.vals (v := (.int .i64 (IntKind.i64.wrap (y84 + 1)))) rfl (HVal.assign' rfl) ?_
        refine HList.nil ?_
        refine nt ?_
        exact (hX7 _ _).1 h _ ⟨rfl, rfl, rfl, rfl, trivial⟩
      · have h := hF hb88
        clear hT hF
        refine HW.exit ?_
        refine te ?_
        refine te ?_
        refine be ?_
        refine nt ?_
        exact ⟨⟨rfl, rfl, trivial⟩, h⟩
    · rintro ρ H_6 ⟨hI, h⟩
      obtain ⟨ρ0, rfl⟩ : ∃ ρ0, ρ = (Env.set (Env.set ρ0 1 (Sl.v p1)) 0 (.pointer p0)) := ⟨ρ, hI.eq⟩
      clear hI; unfold F32_6 at h
      refine HW.seq ?_
      refine HW.region ?_
      refine HList.vals (v := (.pointer p0)) rfl (HVal.move' rfl) ?_
      refine HList.vals (v := (.pointer p0)) rfl (HVal.move' rfl) ?_
      obtain ⟨a100, e101, h⟩ := h
      refine HList.vals (v := (.pointer (some a100))) rfl (HVal.nilCheck (congrArg Value.pointer e101)) ?_
      refine HList.vals (v := (.pointer (some (Addr.add a100 2)))) rfl (HVal.fieldAddr' Try.runUnderlying45 rfl rfl Try.sizeOf3 rfl) ?_
      obtain ⟨x103, c102, h⟩ := h
      refine HList.vals (v := (.int .i64 x103)) rfl (HVal.load1 Try.isAgg3 rfl c102) ?_
      refine HList.vals (v := (.int .i64 (IntKind.i64.wrap (x103 + 800)))) rfl (HVal.add rfl rfl) ?_
      refine HList.vals (v := (Sl.v p1)) rfl (HVal.move' rfl) ?_
      refine HList.vals (v := (.int .i64 ((p1).n : Int))) rfl (HVal.len Try.runUnderlying50 rfl) ?_
      refine HList.vals (v := (.int .i64 (IntKind.i64.wrap (100 * ((p1).n : Int))))) rfl (HVal.mul rfl rfl) ?_
      refine HList.vals (v := (.int .i64 (IntKind.i64.wrap ((IntKind.i64.wrap (x103 + 800)) + (IntKind.i64.wrap (100 * ((p1).n : Int))))))) rfl (HVal.add rfl rfl) ?_
      obtain ⟨a104, e105, h⟩ := h
      refine HList.vals (v := (.pointer (some a104))) rfl (HVal.nilCheck (congrArg Value.pointer e105)) ?_
      refine HList.vals (v := (.pointer (some (Addr.add a104 2)))) rfl (HVal.fieldAddr' Try.runUnderlying45 rfl rfl Try.sizeOf3 rfl) ?_
      obtain ⟨z108, z109, h⟩ := h
      refine HList.opsn (HOp.store1 Try.sizeOf3 rfl rfl rfl z108 z109) ?_
      rintro _ H106 e107
      replace h := h H106 e107
      refine HList.nil ?_
      refine nt ?_
      refine HW.seq ?_
      refine HW.region ?_
      refine HList.vals (v := (.pointer p0)) rfl (HVal.move' rfl) ?_
      obtain ⟨a110, e111, h⟩ := h
      refine HList.vals (v := (.pointer (some a110))) rfl (HVal.nilCheck (congrArg Value.pointer e111)) ?_
      refine HList.vals (v := (.pointer (some (Addr.add a110 2)))) rfl (HVal.fieldAddr' Try.runUnderlying45 rfl rfl Try.sizeOf3 rfl) ?_
      obtain ⟨x113, c112, h⟩ := h
      refine HList.vals (v := (.int .i64 x113)) rfl (HVal.load1 Try.isAgg3 rfl c112) ?_
      refine HList.vals (v := (.bool (decide (x113 ≤ 33554432)))) rfl (HVal.leq rfl rfl) ?_
      refine HList.nil ?_
      refine nt ?_
      obtain ⟨hT, hF⟩ := h
      refine HW.cond (decide (x113 ≤ 33554432)) rfl (fun hb114 => ?_) (fun hb114 => ?_)
      · have h := hT hb114
        clear hT hF
        refine HW.region ?_
        refine HList.vals (v := (.pointer p0)) rfl (HVal.move' rfl) ?_
        refine HList.vals (v := (.pointer p0)) rfl (HVal.move' rfl) ?_
        obtain ⟨a115, e116, h⟩ := h
        refine HList.vals (v := (.pointer (some a115))) rfl (HVal.nilCheck (congrArg Value.pointer e116)) ?_
        refine HList.vals (v := (.pointer (some (Addr.add a115 1)))) rfl (HVal.fieldAddr' Try.runUnderlying45 rfl rfl Try.sizeOf42 rfl) ?_
        obtain ⟨x118, c117, h⟩ := h
        refine HList.vals (v := (Sl.v x118)) rfl (HVal.load1 Try.isAgg42 rfl c117) ?_
        refine HList.vals (v := (Sl.v p1)) rfl (HVal.move' rfl) ?_
        refine HList.ops' rfl (HOp.buildSlice' (zs := [(Sl.v Sl.nil), (Sl.v Sl.nil)]) (cs := [(Sl.v p1), (Sl.v Sl.nil)]) Try.runUnderlying42 Try.sizeOf50 Try.zeroValue50 (by decide) (by kernel_rfl) rfl (by decide)) ?_
        rintro _ H119 ⟨rfl, e120⟩
        replace h := h H119 e120
        refine HList.ops' rfl (HOp.append (k := 1) (b := 24) Try.runUnderlying42 Try.runUnderlying42 Try.typeInfo50 rfl rfl Try.zeroValue50 rfl rfl h) ?_
        rintro _ H121 ⟨r123, rfl, h⟩
        obtain ⟨a124, e125, h⟩ := h
        refine HList.vals (v := (.pointer (some a124))) rfl (HVal.nilCheck (congrArg Value.pointer e125)) ?_
        refine HList.vals (v := (.pointer (some (Addr.add a124 1)))) rfl (HVal.fieldAddr' Try.runUnderlying45 rfl rfl Try.sizeOf42 rfl) ?_
        obtain ⟨z128, z129, h⟩ := h
        refine HList.opsn (HOp.store1 Try.sizeOf42 rfl rfl rfl z128 z129) ?_
        rintro _ H126 e127
        replace h := h H126 e127
        refine HList.nil ?_
        exact ⟨_, resOf0 rfl , ⟨rfl, h⟩⟩
      · have h := hF hb114
        clear hT hF
        refine HW.skip ?_
        exact ⟨_, resOf0 rfl , ⟨rfl, h⟩⟩

def F33_5 (Q : Hp → Prop) (y83 : (Option Addr)) (H_5 : Hp) : Prop :=
∃ a159 : Addr, y83 = some a159 ∧ (
 ∃ x162 : Sl, cell H_5 a159 = some (Sl.v x162) ∧ (
 ∃ a163 : Addr, y83 = some a163 ∧ (
 ∃ x166 : Sl, cell H_5 (Addr.add a163 1) = some (Sl.v x166) ∧ (
 ∃ a167 : Addr, y83 = some a167 ∧ (
 mayw H_5 (Addr.add a167 3) 2 0 ∧ ∀ H169 : Hp, H169 = sets H_5 (Addr.add a167 3) [(.int .i64 ((x162).n : Int)), (.int .i64 ((x166).n : Int))] 0 → (
 Q H169))))))
def F33_7 (Q : Hp → Prop) (X6 : Int → Hp → Prop) (y107 : (Option Addr)) (y108 : Int) (y146 : Sl) (H_7 : Hp) : Prop :=
∃ a147 : Addr, y107 = some a147 ∧ (
 ∃ x150 : Sl, cell H_7 (Addr.add a147 1) = some (Sl.v x150) ∧ (
 ∃ a151 : Addr, (x150).b = some a151 ∧ (0 : Int) ≤ (IntKind.i64.wrap (y108 + 1)) ∧ (IntKind.i64.wrap (y108 + 1)) < ((x150).n : Int) ∧ (
 (cell H_7 (Addr.add a151 ((IntKind.i64.wrap (y108 + 1)).toNat * 1))).isSome = true ∧ frz H_7 (Addr.add a151 ((IntKind.i64.wrap (y108 + 1)).toNat * 1)) = false ∧ ∀ H155 : Hp, H155 = setc H_7 (Addr.add a151 ((IntKind.i64.wrap (y108 + 1)).toNat * 1)) (Sl.v y146) → (
 X6 (IntKind.i64.wrap (y108 + 2)) H155))))
def F33_L8b (Q : Hp → Prop) (X6 : Int → Hp → Prop) (X8 : Sl → Int → Hp → Prop) (y111 : (Option Addr)) (y112 : Int) (y109 : Sl) (y110 : Int) (H_8 : Hp) : Prop :=
∃ a113 : Addr, y111 = some a113 ∧ (
 ∃ x116 : Sl, cell H_8 (Addr.add a113 1) = some (Sl.v x116) ∧ (
 ∃ a117 : Addr, (x116).b = some a117 ∧ (0 : Int) ≤ y112 ∧ y112 < ((x116).n : Int) ∧ (
 ∃ x122 : Sl, cell H_8 (Addr.add a117 (y112.toNat * 1)) = some (Sl.v x122) ∧ (
 ∃ a123 : Addr, y111 = some a123 ∧ (
 ∃ x126 : Sl, cell H_8 (Addr.add a123 1) = some (Sl.v x126) ∧ (
 ∃ a127 : Addr, (x126).b = some a127 ∧ (0 : Int) ≤ y112 ∧ y112 < ((x126).n : Int) ∧ (
 ∃ x132 : Sl, cell H_8 (Addr.add a127 (y112.toNat * 1)) = some (Sl.v x132) ∧ (
 F45 (IntKind.i64.wrap (((x122).c : Int) - ((x132).n : Int))) H_8 (fun (r135 : Int) (H133 : Hp) => 
 cell H133 (Addr.add a127 (y112.toNat * 1)) = some (Sl.v x132) ∧ cell H133 (Addr.add a123 1) = some (Sl.v x126) ∧ cell H133 (Addr.add a117 (y112.toNat * 1)) = some (Sl.v x122) ∧ cell H133 (Addr.add a113 1) = some (Sl.v x116) ∧ (
 ((decide (y110 < r135)) = true → (∀ H141 : Hp, H141 = Array.push H133 (.cells #[(.string (ByteArray.mk #[])), (.int .i64 (IntKind.i64.wrap ((-1) - (IntKind.i64.wrap (Int.tdiv y112 (2 : Int)))))), (Sl.v Sl.nil)] 32) → (
 AppendF H141 32 3 48 #[(.string (ByteArray.mk #[])), (.int .i64 0), (Sl.v Sl.nil)] y109 ((Sl.mk (some ⟨H133.size, 0, none⟩) 1 1)).b ((Sl.mk (some ⟨H133.size, 0, none⟩) 1 1)).n (fun (r145 : Sl) (H143 : Hp) => 
 X8 r145 (IntKind.i64.wrap (y110 + 1)) H143)))) ∧
 ((decide (y110 < r135)) = false → (F33_7 Q X6 y111 y112 y109 H133))))))))))))
def F33_L8 (Q : Hp → Prop) (X6 : Int → Hp → Prop) (y111 : (Option Addr)) (y112 : Int) (y109 : Sl) (y110 : Int) (H_8 : Hp) : Prop :=
  ∀ X8 : Sl → Int → Hp → Prop, (∀ (y109 : Sl) (y110 : Int) (H_8 : Hp), F33_L8b Q X6 X8 y111 y112 y109 y110 H_8 → X8 y109 y110 H_8) → X8 y109 y110 H_8
def F33_L6b (Q : Hp → Prop) (X6 : Int → Hp → Prop) (y91 : (Option Addr)) (y90 : Int) (H_6 : Hp) : Prop :=
∃ a92 : Addr, y91 = some a92 ∧ (
 ∃ x95 : Sl, cell H_6 (Addr.add a92 1) = some (Sl.v x95) ∧ (
 ((decide (y90 < ((x95).n : Int))) = true → (∃ a97 : Addr, y91 = some a97 ∧ (
 ∃ x100 : Sl, cell H_6 (Addr.add a97 1) = some (Sl.v x100) ∧ (
 ∃ a101 : Addr, (x100).b = some a101 ∧ (0 : Int) ≤ y90 ∧ y90 < ((x100).n : Int) ∧ (
 ∃ x106 : Sl, cell H_6 (Addr.add a101 (y90.toNat * 1)) = some (Sl.v x106) ∧ (
 F33_L8 Q X6 y91 y90 x106 0 H_6)))))) ∧
 ((decide (y90 < ((x95).n : Int))) = false → (F33_5 Q y91 H_6))))
def F33_L6 (Q : Hp → Prop) (y91 : (Option Addr)) (y90 : Int) (H_6 : Hp) : Prop :=
  ∀ X6 : Int → Hp → Prop, (∀ (y90 : Int) (H_6 : Hp), F33_L6b Q X6 y91 y90 H_6 → X6 y90 H_6) → X6 y90 H_6
def F33_1 (Q : Hp → Prop) (y1 : (Option Addr)) (H_1 : Hp) : Prop :=
∃ a84 : Addr, y1 = some a84 ∧ (
 (0 : Int) ≤ 1 ∧ (1 : Int) < ((2 : Nat) : Int) ∧ (
 ∃ x89 : Int, cell H_1 (Addr.add (Addr.add a84 3) ((1 : Int).toNat * 1)) = some (.int .i64 x89) ∧ (
 F33_L6 Q y1 x89 H_1)))
def F33_3 (Q : Hp → Prop) (X2 : Int → Hp → Prop) (y25 : (Option Addr)) (y26 : Int) (y70 : Sl) (H_3 : Hp) : Prop :=
∃ a71 : Addr, y25 = some a71 ∧ (
 ∃ x74 : Sl, cell H_3 a71 = some (Sl.v x74) ∧ (
 ∃ a75 : Addr, (x74).b = some a75 ∧ (0 : Int) ≤ (IntKind.i64.wrap (y26 + 1)) ∧ (IntKind.i64.wrap (y26 + 1)) < ((x74).n : Int) ∧ (
 (cell H_3 (Addr.add a75 ((IntKind.i64.wrap (y26 + 1)).toNat * 1))).isSome = true ∧ frz H_3 (Addr.add a75 ((IntKind.i64.wrap (y26 + 1)).toNat * 1)) = false ∧ ∀ H79 : Hp, H79 = setc H_3 (Addr.add a75 ((IntKind.i64.wrap (y26 + 1)).toNat * 1)) (Sl.v y70) → (
 X2 (IntKind.i64.wrap (y26 + 2)) H79))))
def F33_L4b (Q : Hp → Prop) (X2 : Int → Hp → Prop) (X4 : Sl → Int → Hp → Prop) (y29 : (Option Addr)) (y30 : Int) (y27 : Sl) (y28 : Int) (H_4 : Hp) : Prop :=
∃ a31 : Addr, y29 = some a31 ∧ (
 ∃ x34 : Sl, cell H_4 a31 = some (Sl.v x34) ∧ (
 ∃ a35 : Addr, (x34).b = some a35 ∧ (0 : Int) ≤ y30 ∧ y30 < ((x34).n : Int) ∧ (
 ∃ x40 : Sl, cell H_4 (Addr.add a35 (y30.toNat * 1)) = some (Sl.v x40) ∧ (
 ∃ a41 : Addr, y29 = some a41 ∧ (
 ∃ x44 : Sl, cell H_4 a41 = some (Sl.v x44) ∧ (
 ∃ a45 : Addr, (x44).b = some a45 ∧ (0 : Int) ≤ y30 ∧ y30 < ((x44).n : Int) ∧ (
 ∃ x50 : Sl, cell H_4 (Addr.add a45 (y30.toNat * 1)) = some (Sl.v x50) ∧ (
 F45 (IntKind.i64.wrap (((x40).c : Int) - ((x50).n : Int))) H_4 (fun (r53 : Int) (H51 : Hp) => 
 cell H51 (Addr.add a45 (y30.toNat * 1)) = some (Sl.v x50) ∧ cell H51 a41 = some (Sl.v x44) ∧ cell H51 (Addr.add a35 (y30.toNat * 1)) = some (Sl.v x40) ∧ cell H51 a31 = some (Sl.v x34) ∧ (
 ((decide (y28 < r53)) = true → (F15 (IntKind.i64.wrap (Int.tdiv y30 (2 : Int))) H51 (fun (r61 : Int) (r62 : Int) (r63 : ByteArray) (r64 : Bool) (H59 : Hp) => 
 ∀ H65 : Hp, H65 = Array.push H59 (.cells #[(.int .i64 r61), (.int .i64 r62), (.string r63), (.bool r64)] 49) → (
 AppendF H65 49 4 40 #[(.int .i64 0), (.int .i64 0), (.string (ByteArray.mk #[])), (.bool false)] y27 ((Sl.mk (some ⟨H59.size, 0, none⟩) 1 1)).b ((Sl.mk (some ⟨H59.size, 0, none⟩) 1 1)).n (fun (r69 : Sl) (H67 : Hp) => 
 X4 r69 (IntKind.i64.wrap (y28 + 1)) H67))))) ∧
 ((decide (y28 < r53)) = false → (F33_3 Q X2 y29 y30 y27 H51))))))))))))
def F33_L4 (Q : Hp → Prop) (X2 : Int → Hp → Prop) (y29 : (Option Addr)) (y30 : Int) (y27 : Sl) (y28 : Int) (H_4 : Hp) : Prop :=
  ∀ X4 : Sl → Int → Hp → Prop, (∀ (y27 : Sl) (y28 : Int) (H_4 : Hp), F33_L4b Q X2 X4 y29 y30 y27 y28 H_4 → X4 y27 y28 H_4) → X4 y27 y28 H_4
def F33_L2b (Q : Hp → Prop) (X2 : Int → Hp → Prop) (y9 : (Option Addr)) (y8 : Int) (H_2 : Hp) : Prop :=
∃ a10 : Addr, y9 = some a10 ∧ (
 ∃ x13 : Sl, cell H_2 a10 = some (Sl.v x13) ∧ (
 ((decide (y8 < ((x13).n : Int))) = true → (∃ a15 : Addr, y9 = some a15 ∧ (
 ∃ x18 : Sl, cell H_2 a15 = some (Sl.v x18) ∧ (
 ∃ a19 : Addr, (x18).b = some a19 ∧ (0 : Int) ≤ y8 ∧ y8 < ((x18).n : Int) ∧ (
 ∃ x24 : Sl, cell H_2 (Addr.add a19 (y8.toNat * 1)) = some (Sl.v x24) ∧ (
 F33_L4 Q X2 y9 y8 x24 0 H_2)))))) ∧
 ((decide (y8 < ((x13).n : Int))) = false → (F33_1 Q y9 H_2))))
def F33_L2 (Q : Hp → Prop) (y9 : (Option Addr)) (y8 : Int) (H_2 : Hp) : Prop :=
  ∀ X2 : Int → Hp → Prop, (∀ (y8 : Int) (H_2 : Hp), F33_L2b Q X2 y9 y8 H_2 → X2 y8 H_2) → X2 y8 H_2
def F33 (p0 : (Option Addr)) (H : Hp) (Q : Hp → Prop) : Prop :=
∃ a2 : Addr, p0 = some a2 ∧ (
 (0 : Int) ≤ 0 ∧ (0 : Int) < ((2 : Nat) : Int) ∧ (
 ∃ x7 : Int, cell H (Addr.add (Addr.add a2 3) ((0 : Int).toNat * 1)) = some (.int .i64 x7) ∧ (
 F33_L2 Q p0 x7 H)))
set_option maxRecDepth 100000 in
set_option maxHeartbeats 4000000 in
theorem walk33 {w0 : World} {p0 : (Option Addr)} {H : Hp} {Q : Hp → Prop} (h : F33 p0 H Q) :
    Good Try.prog w0 33 #[(.pointer p0)] H (fun v H => v = (.tuple #[]) ∧ Q H) := by
  unfold F33 at h
  refine Good.enter' (fn := Try.f33) Try.func33 rfl rfl rfl ?_
  refine HW.cut (fun ρ H_1 => Env.Is ρ [(0, (.pointer p0))] ∧ F33_1 Q p0 H_1) ?_ ?_
  · refine HW.seq ?_
    refine HW.region ?_
    refine HList.vals (v := (.pointer p0)) rfl (HVal.move' rfl) ?_
    obtain ⟨a2, e3, h⟩ := h
    refine HList.vals (v := (.pointer (some a2))) rfl (HVal.nilCheck (congrArg Value.pointer e3)) ?_
    refine HList.vals (v := (.pointer (some (Addr.add a2 3)))) rfl (HVal.fieldAddr' Try.runUnderlying45 rfl rfl Try.sizeOf43 rfl) ?_
    obtain ⟨b4, b5, h⟩ := h
    refine HList.vals (v := (.pointer (some (Addr.add (Addr.add a2 3) ((0 : Int).toNat * 1))))) rfl (HVal.indexAddrA Try.runUnderlying43 Try.sizeOf3 rfl rfl b4 b5) ?_
    obtain ⟨x7, c6, h⟩ := h
    refine HList.vals (v := (.int .i64 x7)) rfl (HVal.load1 Try.isAgg3 rfl c6) ?_
    refine HList.vals (v := (.int .i64 x7)) rfl (HVal.assign' rfl) ?_
    refine HList.nil ?_
    refine nt ?_
    refine HW.block ?_
    refine HW.loop' (fun L2 hL2 => ?_)
    obtain ⟨X2, hX2⟩ : ∃ X2 : Int → Hp → Prop, ∀ (y8 : Int) (H_2 : Hp), X2 y8 H_2 ↔ ∀ ρ, Env.Is ρ [(0, (.pointer p0)), (2, (.int .i64 y8))] → L2 ρ H_2 := ⟨_, fun _ _ => Iff.rfl⟩
    refine (hX2 _ _).1 (h X2 ?_) _ ?_
    rotate_left
    · exact ⟨rfl, rfl, trivial⟩
    clear h
    intro y8 H_2 h
    refine (hX2 _ _).2 fun ρ hI => ?_
    obtain ⟨ρ0, rfl⟩ : ∃ ρ0, ρ = (Env.set (Env.set ρ0 2 (.int .i64 y8)) 0 (.pointer p0)) := ⟨ρ, hI.eq⟩
    clear hI; unfold F33_L2b at h; refine hL2 _ _ ?_
    refine HW.seq ?_
    refine HW.seq ?_
    refine HW.region ?_
    refine HList.vals (v := (.int .i64 y8)) rfl (HVal.move' rfl) ?_
    refine HList.vals (v := (.pointer p0)) rfl (HVal.move' rfl) ?_
    obtain ⟨a10, e11, h⟩ := h
    refine HList.vals (v := (.pointer (some a10))) rfl (HVal.nilCheck (congrArg Value.pointer e11)) ?_
    refine HList.vals (v := (.pointer (some a10))) rfl (HVal.fieldAddr0 Try.runUnderlying45 rfl rfl Try.sizeOf41 rfl) ?_
    obtain ⟨x13, c12, h⟩ := h
    refine HList.vals (v := (Sl.v x13)) rfl (HVal.load1 Try.isAgg41 rfl c12) ?_
    refine HList.vals (v := (.int .i64 ((x13).n : Int))) rfl (HVal.len Try.runUnderlying41 rfl) ?_
    refine HList.vals (v := (.bool (decide (y8 < ((x13).n : Int))))) rfl (HVal.lss rfl rfl) ?_
    refine HList.nil ?_
    refine nt ?_
    obtain ⟨hT, hF⟩ := h
    refine HW.cond (decide (y8 < ((x13).n : Int))) rfl (fun hb14 => ?_) (fun hb14 => ?_)
    · have h := hT hb14
      clear hT hF
      refine HW.skip ?_
      refine nt ?_
      refine HW.seq ?_
      refine HW.block ?_
      refine HW.seq ?_
      refine HW.region ?_
      refine HList.vals (v := (.pointer p0)) rfl (HVal.move' rfl) ?_
      obtain ⟨a15, e16, h⟩ := h
      refine HList.vals (v := (.pointer (some a15))) rfl (HVal.nilCheck (congrArg Value.pointer e16)) ?_
      refine HList.vals (v := (.pointer (some a15))) rfl (HVal.fieldAddr0 Try.runUnderlying45 rfl rfl Try.sizeOf41 rfl) ?_
      obtain ⟨x18, c17, h⟩ := h
      refine HList.vals (v := (Sl.v x18)) rfl (HVal.load1 Try.isAgg41 rfl c17) ?_
      refine HList.vals (v := (.int .i64 y8)) rfl (HVal.move' rfl) ?_
      obtain ⟨a19, e20, b21, b22, h⟩ := h
      refine HList.vals (v := (.pointer (some (Addr.add a19 (y8.toNat * 1))))) rfl (HVal.indexAddr Try.runUnderlying41 Try.sizeOf30 (Sl.v_some rfl e20) rfl b21 b22) ?_
      obtain ⟨x24, c23, h⟩ := h
      refine HList.vals (v := (Sl.v x24)) rfl (HVal.load1 Try.isAgg30 rfl c23) ?_
      refine HList.vals (v := (Sl.v x24)) rfl (HVal.assign' rfl) ?_
      refine HList.nil ?_
      refine nt ?_
      refine HW.cut (fun ρ H_3 => ∃ (y70 : Sl), Env.Is ρ [(0, (.pointer p0)), (2, (.int .i64 y8)), (3, (Sl.v y70))] ∧ F33_3 Q X2 p0 y8 y70 H_3) ?_ ?_
      · refine HW.seq ?_
        refine HW.region ?_
        refine HList.vals (v := (.int .i64 0)) rfl (HVal.assign' rfl) ?_
        refine HList.nil ?_
        refine nt ?_
        refine HW.block ?_
        refine HW.loop' (fun L4 hL4 => ?_)
        obtain ⟨X4, hX4⟩ : ∃ X4 : Sl → Int → Hp → Prop, ∀ (y27 : Sl) (y28 : Int) (H_4 : Hp), X4 y27 y28 H_4 ↔ ∀ ρ, Env.Is ρ [(0, (.pointer p0)), (2, (.int .i64 y8)), (3, (Sl.v y27)), (4, (.int .i64 y28))] → L4 ρ H_4 := ⟨_, fun _ _ _ => Iff.rfl⟩
        refine (hX4 _ _ _).1 (h X4 ?_) _ ?_
        rotate_left
        · exact ⟨rfl, rfl, rfl, rfl, trivial⟩
        clear h
        intro y27 y28 H_4 h
        refine (hX4 _ _ _).2 fun ρ hI => ?_
        obtain ⟨ρ0, rfl⟩ : ∃ ρ0, ρ = (Env.set (Env.set (Env.set (Env.set ρ0 4 (.int .i64 y28)) 3 (Sl.v y27)) 2 (.int .i64 y8)) 0 (.pointer p0)) := ⟨ρ, hI.eq⟩
        clear hI; unfold F33_L4b at h; refine hL4 _ _ ?_
        refine HW.seq ?_
        refine HW.seq ?_
        refine HW.draw mixed [(0, some []), (1, some []), (2, some []), (3, some []), (4, some []), (5, some []), (6, some []), (7, some []), (8, some []), (9, some []), (10, some []), (11, some []), (12, some []), (13, some []), (14, some []), (15, some []), (16, some []), (17, some []), (18, none), (19, some [])] rfl (by kernel_rfl) (by kernel_rfl) ?_
        refine HPlan.takev (v := (.int .i64 y28)) rfl rfl (fun _ => HVal.move' rfl) ?_
        refine HPlan.takev (v := (.pointer p0)) rfl rfl (fun _ => HVal.move' rfl) ?_
        obtain ⟨a31, e32, h⟩ := h
        refine HPlan.takev (v := (.pointer (some a31))) rfl rfl (fun _ => HVal.nilCheck (congrArg Value.pointer e32)) ?_
        refine HPlan.takev (v := (.pointer (some a31))) rfl rfl (fun _ => HVal.fieldAddr0 Try.runUnderlying45 rfl rfl Try.sizeOf41 rfl) ?_
        obtain ⟨x34, c33, h⟩ := h
        refine HPlan.takel (v := (Sl.v x34)) (fun X => cell X a31 = some (Sl.v x34)) rfl rfl (fun _ hX => HVal.load1 Try.isAgg41 rfl hX) c33 ?_
        refine HPlan.takev (v := (.int .i64 y8)) rfl rfl (fun _ => HVal.move' rfl) ?_
        obtain ⟨a35, e36, b37, b38, h⟩ := h
        refine HPlan.takev (v := (.pointer (some (Addr.add a35 (y8.toNat * 1))))) rfl rfl (fun _ => HVal.indexAddr Try.runUnderlying41 Try.sizeOf30 (Sl.v_some rfl e36) rfl b37 b38) ?_
        obtain ⟨x40, c39, h⟩ := h
        refine HPlan.takel (v := (Sl.v x40)) (fun X => cell X (Addr.add a35 (y8.toNat * 1)) = some (Sl.v x40)) rfl rfl (fun _ hX => HVal.load1 Try.isAgg30 rfl hX) c39 ?_
        refine HPlan.takev (v := (.int .i64 ((x40).c : Int))) rfl rfl (fun _ => HVal.cap Try.runUnderlying30 rfl) ?_
        refine HPlan.takev (v := (.pointer p0)) rfl rfl (fun _ => HVal.move' rfl) ?_
        obtain ⟨a41, e42, h⟩ := h
        refine HPlan.takev (v := (.pointer (some a41))) rfl rfl (fun _ => HVal.nilCheck (congrArg Value.pointer e42)) ?_
        refine HPlan.takev (v := (.pointer (some a41))) rfl rfl (fun _ => HVal.fieldAddr0 Try.runUnderlying45 rfl rfl Try.sizeOf41 rfl) ?_
        obtain ⟨x44, c43, h⟩ := h
        refine HPlan.takel (v := (Sl.v x44)) (fun X => cell X a41 = some (Sl.v x44)) rfl rfl (fun _ hX => HVal.load1 Try.isAgg41 rfl hX) c43 ?_
        refine HPlan.takev (v := (.int .i64 y8)) rfl rfl (fun _ => HVal.move' rfl) ?_
        obtain ⟨a45, e46, b47, b48, h⟩ := h
        refine HPlan.takev (v := (.pointer (some (Addr.add a45 (y8.toNat * 1))))) rfl rfl (fun _ => HVal.indexAddr Try.runUnderlying41 Try.sizeOf30 (Sl.v_some rfl e46) rfl b47 b48) ?_
        obtain ⟨x50, c49, h⟩ := h
        refine HPlan.takel (v := (Sl.v x50)) (fun X => cell X (Addr.add a45 (y8.toNat * 1)) = some (Sl.v x50)) rfl rfl (fun _ hX => HVal.load1 Try.isAgg30 rfl hX) c49 ?_
        refine HPlan.takev (v := (.int .i64 ((x50).n : Int))) rfl rfl (fun _ => HVal.len Try.runUnderlying30 rfl) ?_
        refine HPlan.takev (v := (.int .i64 (IntKind.i64.wrap (((x40).c : Int) - ((x50).n : Int))))) rfl rfl (fun _ => HVal.sub rfl rfl) ?_
        refine HPlan.ops' rfl rfl (HOp.call' 45 [(.int .i64 (IntKind.i64.wrap (((x40).c : Int) - ((x50).n : Int))))] (cap := []) rfl rfl Try.call45 (walk45 h)) ?_
        rintro _ H51 ⟨r53, rfl, h⟩
        obtain ⟨s54, s55, s56, s57, h⟩ := h
        refine ⟨SC_of ⟨fun _ => s54, fun _ => s55, fun _ => s56, fun _ => s57, trivial⟩, ?_⟩
        refine HPlan.takev (v := (.bool (decide (y28 < r53)))) rfl rfl (fun _ => HVal.lss rfl rfl) ?_
        refine HPlan.done ?_
        refine nt ?_
        obtain ⟨hT, hF⟩ := h
        refine HW.cond (decide (y28 < r53)) rfl (fun hb58 => ?_) (fun hb58 => ?_)
        · have h := hT hb58
          clear hT hF
          refine HW.skip ?_
          refine nt ?_
          refine HW.seq ?_
          refine HW.block ?_
          refine HW.region ?_
          refine HList.vals (v := (Sl.v y27)) rfl (HVal.move' rfl) ?_
          refine HList.vals (v := (.int .i64 y8)) rfl (HVal.move' rfl) ?_
          refine HList.vals (v := (.int .i64 (IntKind.i64.wrap (Int.tdiv y8 (2 : Int))))) rfl (HVal.quo rfl rfl (by decide)) ?_
          refine HList.ops' rfl (HOp.call' 15 [(.int .i64 (IntKind.i64.wrap (Int.tdiv y8 (2 : Int))))] (cap := []) rfl rfl Try.call15 (walk15 h)) ?_
          rintro _ H59 ⟨r61, r62, r63, r64, rfl, h⟩
          refine HList.ops' rfl (HOp.buildSlice' (zs := [(.int .i64 0), (.int .i64 0), (.string (ByteArray.mk #[])), (.bool false)]) (cs := [(.int .i64 r61), (.int .i64 r62), (.string r63), (.bool r64)]) Try.runUnderlying30 Try.sizeOf49 Try.zeroValue49 (by decide) (by kernel_rfl) rfl (by decide)) ?_
          rintro _ H65 ⟨rfl, e66⟩
          replace h := h H65 e66
          refine HList.ops' rfl (HOp.append (k := 4) (b := 40) Try.runUnderlying30 Try.runUnderlying30 Try.typeInfo49 rfl rfl Try.zeroValue49 rfl rfl h) ?_
          rintro _ H67 ⟨r69, rfl, h⟩
          refine HList.vals (v := (Sl.v r69)) rfl (HVal.assign' rfl) ?_
          refine HList.nil ?_
          refine nb ?_
          refine nt ?_
          refine HW.region ?_
          refine HList.vals (v := (.int .i64 y28)) rfl (HVal.move' rfl) ?_
          refine HList.vals (v := (.int .i64 (IntKind.i64.wrap (y28 + 1)))) rfl (HVal.add rfl rfl) ?_
          refine HList.vals (v := (.int .i64 (IntKind.i64.wrap (y28 + 1)))) rfl (HVal.assign' rfl) ?_
          refine HList.nil ?_
          refine nt ?_
          exact (hX4 _ _ _).1 h _ ⟨rfl, rfl, rfl, rfl, trivial⟩
        · have h := hF hb58
          clear hT hF
          refine HW.exit ?_
          refine te ?_
          refine te ?_
          refine be ?_
          refine nt ?_
          exact ⟨y27, ⟨rfl, rfl, rfl, trivial⟩, h⟩
      · rintro ρ H_3 ⟨y70, hI, h⟩
        obtain ⟨ρ0, rfl⟩ : ∃ ρ0, ρ = (Env.set (Env.set (Env.set ρ0 3 (Sl.v y70)) 2 (.int .i64 y8)) 0 (.pointer p0)) := ⟨ρ, hI.eq⟩
        clear hI; unfold F33_3 at h
        refine HW.region ?_
        refine HList.vals (v := (.pointer p0)) rfl (HVal.move' rfl) ?_
        obtain ⟨a71, e72, h⟩ := h
        refine HList.vals (v := (.pointer (some a71))) rfl (HVal.nilCheck (congrArg Value.pointer e72)) ?_
        refine HList.vals (v := (.pointer (some a71))) rfl (HVal.fieldAddr0 Try.runUnderlying45 rfl rfl Try.sizeOf41 rfl) ?_
        obtain ⟨x74, c73, h⟩ := h
        refine HList.vals (v := (Sl.v x74)) rfl (HVal.load1 Try.isAgg41 rfl c73) ?_
        refine HList.vals (v := (.int .i64 y8)) rfl (HVal.move' rfl) ?_
        refine HList.vals (v := (.int .i64 (IntKind.i64.wrap (y8 + 1)))) rfl (HVal.add rfl rfl) ?_
        refine HList.vals (v := (Sl.v y70)) rfl (HVal.move' rfl) ?_
        obtain ⟨a75, e76, b77, b78, h⟩ := h
        refine HList.vals (v := (.pointer (some (Addr.add a75 ((IntKind.i64.wrap (y8 + 1)).toNat * 1))))) rfl (HVal.indexAddr Try.runUnderlying41 Try.sizeOf30 (Sl.v_some rfl e76) rfl b77 b78) ?_
        obtain ⟨z81, z82, h⟩ := h
        refine HList.opsn (HOp.store1 Try.sizeOf30 rfl rfl rfl z81 z82) ?_
        rintro _ H79 e80
        replace h := h H79 e80
        refine HList.nil ?_
        refine nb ?_
        refine nt ?_
        refine HW.region ?_
        refine HList.vals (v := (.int .i64 y8)) rfl (HVal.move' rfl) ?_
        refine HList.vals (v := (.int .i64 (IntKind.i64.wrap (y8 + 2)))) rfl (HVal.add rfl rfl) ?_
        refine HList.vals (v := (.int .i64 (IntKind.i64.wrap (y8 + 2)))) rfl (HVal.assign' rfl) ?_
        refine HList.nil ?_
        refine nt ?_
        exact (hX2 _ _).1 h _ ⟨rfl, rfl, trivial⟩
    · have h := hF hb14
      clear hT hF
      refine HW.exit ?_
      refine te ?_
      refine te ?_
      refine be ?_
      refine nt ?_
      exact ⟨⟨rfl, trivial⟩, h⟩
  · rintro ρ H_1 ⟨hI, h⟩
    obtain ⟨ρ0, rfl⟩ : ∃ ρ0, ρ = (Env.set ρ0 0 (.pointer p0)) := ⟨ρ, hI.eq⟩
    clear hI; unfold F33_1 at h
    refine HW.cut (fun ρ H_5 => Env.Is ρ [(0, (.pointer p0))] ∧ F33_5 Q p0 H_5) ?_ ?_
    · refine HW.seq ?_
      refine HW.region ?_
      refine HList.vals (v := (.pointer p0)) rfl (HVal.move' rfl) ?_
      obtain ⟨a84, e85, h⟩ := h
      refine HList.vals (v := (.pointer (some a84))) rfl (HVal.nilCheck (congrArg Value.pointer e85)) ?_
      refine HList.vals (v := (.pointer (some (Addr.add a84 3)))) rfl (HVal.fieldAddr' Try.runUnderlying45 rfl rfl Try.sizeOf43 rfl) ?_
      obtain ⟨b86, b87, h⟩ := h
      refine HList.vals (v := (.pointer (some (Addr.add (Addr.add a84 3) ((1 : Int).toNat * 1))))) rfl (HVal.indexAddrA Try.runUnderlying43 Try.sizeOf3 rfl rfl b86 b87) ?_
      obtain ⟨x89, c88, h⟩ := h
      refine HList.vals (v := (.int .i64 x89)) rfl (HVal.load1 Try.isAgg3 rfl c88) ?_
      refine HList.vals (v := (.int .i64 x89)) rfl (HVal.assign' rfl) ?_
      refine HList.nil ?_
      refine nt ?_
      refine HW.block ?_
      refine HW.loop' (fun L6 hL6 => ?_)
      obtain ⟨X6, hX6⟩ : ∃ X6 : Int → Hp → Prop, ∀ (y90 : Int) (H_6 : Hp), X6 y90 H_6 ↔ ∀ ρ, Env.Is ρ [(0, (.pointer p0)), (5, (.int .i64 y90))] → L6 ρ H_6 := ⟨_, fun _ _ => Iff.rfl⟩
      refine (hX6 _ _).1 (h X6 ?_) _ ?_
      rotate_left
      · exact ⟨rfl, rfl, trivial⟩
      clear h
      intro y90 H_6 h
      refine (hX6 _ _).2 fun ρ hI => ?_
      obtain ⟨ρ0, rfl⟩ : ∃ ρ0, ρ = (Env.set (Env.set ρ0 5 (.int .i64 y90)) 0 (.pointer p0)) := ⟨ρ, hI.eq⟩
      clear hI; unfold F33_L6b at h; refine hL6 _ _ ?_
      refine HW.seq ?_
      refine HW.seq ?_
      refine HW.region ?_
      refine HList.vals (v := (.int .i64 y90)) rfl (HVal.move' rfl) ?_
      refine HList.vals (v := (.pointer p0)) rfl (HVal.move' rfl) ?_
      obtain ⟨a92, e93, h⟩ := h
      refine HList.vals (v := (.pointer (some a92))) rfl (HVal.nilCheck (congrArg Value.pointer e93)) ?_
      refine HList.vals (v := (.pointer (some (Addr.add a92 1)))) rfl (HVal.fieldAddr' Try.runUnderlying45 rfl rfl Try.sizeOf42 rfl) ?_
      obtain ⟨x95, c94, h⟩ := h
      refine HList.vals (v := (Sl.v x95)) rfl (HVal.load1 Try.isAgg42 rfl c94) ?_
      refine HList.vals (v := (.int .i64 ((x95).n : Int))) rfl (HVal.len Try.runUnderlying42 rfl) ?_
      refine HList.vals (v := (.bool (decide (y90 < ((x95).n : Int))))) rfl (HVal.lss rfl rfl) ?_
      refine HList.nil ?_
      refine nt ?_
      obtain ⟨hT, hF⟩ := h
      refine HW.cond (decide (y90 < ((x95).n : Int))) rfl (fun hb96 => ?_) (fun hb96 => ?_)
      · have h := hT hb96
        clear hT hF
        refine HW.skip ?_
        refine nt ?_
        refine HW.seq ?_
        refine HW.block ?_
        refine HW.seq ?_
        refine HW.region ?_
        refine HList.vals (v := (.pointer p0)) rfl (HVal.move' rfl) ?_
        obtain ⟨a97, e98, h⟩ := h
        refine HList.vals (v := (.pointer (some a97))) rfl (HVal.nilCheck (congrArg Value.pointer e98)) ?_
        refine HList.vals (v := (.pointer (some (Addr.add a97 1)))) rfl (HVal.fieldAddr' Try.runUnderlying45 rfl rfl Try.sizeOf42 rfl) ?_
        obtain ⟨x100, c99, h⟩ := h
        refine HList.vals (v := (Sl.v x100)) rfl (HVal.load1 Try.isAgg42 rfl c99) ?_
        refine HList.vals (v := (.int .i64 y90)) rfl (HVal.move' rfl) ?_
        obtain ⟨a101, e102, b103, b104, h⟩ := h
        refine HList.vals (v := (.pointer (some (Addr.add a101 (y90.toNat * 1))))) rfl (HVal.indexAddr Try.runUnderlying42 Try.sizeOf50 (Sl.v_some rfl e102) rfl b103 b104) ?_
        obtain ⟨x106, c105, h⟩ := h
        refine HList.vals (v := (Sl.v x106)) rfl (HVal.load1 Try.isAgg50 rfl c105) ?_
        refine HList.vals (v := (Sl.v x106)) rfl (HVal.assign' rfl) ?_
        refine HList.nil ?_
        refine nt ?_
        refine HW.cut (fun ρ H_7 => ∃ (y146 : Sl), Env.Is ρ [(0, (.pointer p0)), (5, (.int .i64 y90)), (6, (Sl.v y146))] ∧ F33_7 Q X6 p0 y90 y146 H_7) ?_ ?_
        · refine HW.seq ?_
          refine HW.region ?_
          refine HList.vals (v := (.int .i64 0)) rfl (HVal.assign' rfl) ?_
          refine HList.nil ?_
          refine nt ?_
          refine HW.block ?_
          refine HW.loop' (fun L8 hL8 => ?_)
          obtain ⟨X8, hX8⟩ : ∃ X8 : Sl → Int → Hp → Prop, ∀ (y109 : Sl) (y110 : Int) (H_8 : Hp), X8 y109 y110 H_8 ↔ ∀ ρ, Env.Is ρ [(0, (.pointer p0)), (5, (.int .i64 y90)), (6, (Sl.v y109)), (7, (.int .i64 y110))] → L8 ρ H_8 := ⟨_, fun _ _ _ => Iff.rfl⟩
          refine (hX8 _ _ _).1 (h X8 ?_) _ ?_
          rotate_left
          · exact ⟨rfl, rfl, rfl, rfl, trivial⟩
          clear h
          intro y109 y110 H_8 h
          refine (hX8 _ _ _).2 fun ρ hI => ?_
          obtain ⟨ρ0, rfl⟩ : ∃ ρ0, ρ = (Env.set (Env.set (Env.set (Env.set ρ0 7 (.int .i64 y110)) 6 (Sl.v y109)) 5 (.int .i64 y90)) 0 (.pointer p0)) := ⟨ρ, hI.eq⟩
          clear hI; unfold F33_L8b at h; refine hL8 _ _ ?_
          refine HW.seq ?_
          refine HW.seq ?_
          refine HW.draw mixed [(0, some []), (1, some []), (2, some []), (3, some []), (4, some []), (5, some []), (6, some []), (7, some []), (8, some []), (9, some []), (10, some []), (11, some []), (12, some []), (13, some []), (14, some []), (15, some []), (16, some []), (17, some []), (18, none), (19, some [])] rfl (by kernel_rfl) (by kernel_rfl) ?_
          refine HPlan.takev (v := (.int .i64 y110)) rfl rfl (fun _ => HVal.move' rfl) ?_
          refine HPlan.takev (v := (.pointer p0)) rfl rfl (fun _ => HVal.move' rfl) ?_
          obtain ⟨a113, e114, h⟩ := h
          refine HPlan.takev (v := (.pointer (some a113))) rfl rfl (fun _ => HVal.nilCheck (congrArg Value.pointer e114)) ?_
          refine HPlan.takev (v := (.pointer (some (Addr.add a113 1)))) rfl rfl (fun _ => HVal.fieldAddr' Try.runUnderlying45 rfl rfl Try.sizeOf42 rfl) ?_
          obtain ⟨x116, c115, h⟩ := h
          refine HPlan.takel (v := (Sl.v x116)) (fun X => cell X (Addr.add a113 1) = some (Sl.v x116)) rfl rfl (fun _ hX => HVal.load1 Try.isAgg42 rfl hX) c115 ?_
          refine HPlan.takev (v := (.int .i64 y90)) rfl rfl (fun _ => HVal.move' rfl) ?_
          obtain ⟨a117, e118, b119, b120, h⟩ := h
          refine HPlan.takev (v := (.pointer (some (Addr.add a117 (y90.toNat * 1))))) rfl rfl (fun _ => HVal.indexAddr Try.runUnderlying42 Try.sizeOf50 (Sl.v_some rfl e118) rfl b119 b120) ?_
          obtain ⟨x122, c121, h⟩ := h
          refine HPlan.takel (v := (Sl.v x122)) (fun X => cell X (Addr.add a117 (y90.toNat * 1)) = some (Sl.v x122)) rfl rfl (fun _ hX => HVal.load1 Try.isAgg50 rfl hX) c121 ?_
          refine HPlan.takev (v := (.int .i64 ((x122).c : Int))) rfl rfl (fun _ => HVal.cap Try.runUnderlying50 rfl) ?_
          refine HPlan.takev (v := (.pointer p0)) rfl rfl (fun _ => HVal.move' rfl) ?_
          obtain ⟨a123, e124, h⟩ := h
          refine HPlan.takev (v := (.pointer (some a123))) rfl rfl (fun _ => HVal.nilCheck (congrArg Value.pointer e124)) ?_
          refine HPlan.takev (v := (.pointer (some (Addr.add a123 1)))) rfl rfl (fun _ => HVal.fieldAddr' Try.runUnderlying45 rfl rfl Try.sizeOf42 rfl) ?_
          obtain ⟨x126, c125, h⟩ := h
          refine HPlan.takel (v := (Sl.v x126)) (fun X => cell X (Addr.add a123 1) = some (Sl.v x126)) rfl rfl (fun _ hX => HVal.load1 Try.isAgg42 rfl hX) c125 ?_
          refine HPlan.takev (v := (.int .i64 y90)) rfl rfl (fun _ => HVal.move' rfl) ?_
          obtain ⟨a127, e128, b129, b130, h⟩ := h
          refine HPlan.takev (v := (.pointer (some (Addr.add a127 (y90.toNat * 1))))) rfl rfl (fun _ => HVal.indexAddr Try.runUnderlying42 Try.sizeOf50 (Sl.v_some rfl e128) rfl b129 b130) ?_
          obtain ⟨x132, c131, h⟩ := h
          refine HPlan.takel (v := (Sl.v x132)) (fun X => cell X (Addr.add a127 (y90.toNat * 1)) = some (Sl.v x132)) rfl rfl (fun _ hX => HVal.load1 Try.isAgg50 rfl hX) c131 ?_
          refine HPlan.takev (v := (.int .i64 ((x132).n : Int))) rfl rfl (fun _ => HVal.len Try.runUnderlying50 rfl) ?_
          refine HPlan.takev (v := (.int .i64 (IntKind.i64.wrap (((x122).c : Int) - ((x132).n : Int))))) rfl rfl (fun _ => HVal.sub rfl rfl) ?_
          refine HPlan.ops' rfl rfl (HOp.call' 45 [(.int .i64 (IntKind.i64.wrap (((x122).c : Int) - ((x132).n : Int))))] (cap := []) rfl rfl Try.call45 (walk45 h)) ?_
          rintro _ H133 ⟨r135, rfl, h⟩
          obtain ⟨s136, s137, s138, s139, h⟩ := h
          refine ⟨SC_of ⟨fun _ => s136, fun _ => s137, fun _ => s138, fun _ => s139, trivial⟩, ?_⟩
          refine HPlan.takev (v := (.bool (decide (y110 < r135)))) rfl rfl (fun _ => HVal.lss rfl rfl) ?_
          refine HPlan.done ?_
          refine nt ?_
          obtain ⟨hT, hF⟩ := h
          refine HW.cond (decide (y110 < r135)) rfl (fun hb140 => ?_) (fun hb140 => ?_)
          · have h := hT hb140
            clear hT hF
            refine HW.skip ?_
            refine nt ?_
            refine HW.seq ?_
            refine HW.block ?_
            refine HW.region ?_
            refine HList.vals (v := (Sl.v y109)) rfl (HVal.move' rfl) ?_
            refine HList.vals (v := (.int .i64 y90)) rfl (HVal.move' rfl) ?_
            refine HList.vals (v := (.int .i64 (IntKind.i64.wrap (Int.tdiv y90 (2 : Int))))) rfl (HVal.quo rfl rfl (by decide)) ?_
            refine HList.vals (v := (.int .i64 (IntKind.i64.wrap ((-1) - (IntKind.i64.wrap (Int.tdiv y90 (2 : Int))))))) rfl (HVal.sub rfl rfl) ?_
            refine HList.vals (v := (.agg #[(.string (ByteArray.mk #[])), (.int .i64 (IntKind.i64.wrap ((-1) - (IntKind.i64.wrap (Int.tdiv y90 (2 : Int)))))), (Sl.v Sl.nil)])) rfl (HVal.build' (cs := [(.string (ByteArray.mk #[])), (.int .i64 (IntKind.i64.wrap ((-1) - (IntKind.i64.wrap (Int.tdiv y90 (2 : Int)))))), (Sl.v Sl.nil)]) Try.runUnderlying32 Try.zeroValue32 places32 rfl) ?_
            refine HList.ops' rfl (HOp.buildSlice' (zs := [(.string (ByteArray.mk #[])), (.int .i64 0), (Sl.v Sl.nil)]) (cs := [(.string (ByteArray.mk #[])), (.int .i64 (IntKind.i64.wrap ((-1) - (IntKind.i64.wrap (Int.tdiv y90 (2 : Int)))))), (Sl.v Sl.nil)]) Try.runUnderlying50 Try.sizeOf32 Try.zeroValue32 (by decide) (by kernel_rfl) rfl (by decide)) ?_
            rintro _ H141 ⟨rfl, e142⟩
            replace h := h H141 e142
            refine HList.ops' rfl (HOp.append (k := 3) (b := 48) Try.runUnderlying50 Try.runUnderlying50 Try.typeInfo32 rfl rfl Try.zeroValue32 rfl rfl h) ?_
            rintro _ H143 ⟨r145, rfl, h⟩
            refine HList.vals (v := (Sl.v r145)) rfl (HVal.assign' rfl) ?_
            refine HList.nil ?_
            refine nb ?_
            refine nt ?_
            refine HW.region ?_
            refine HList.vals (v := (.int .i64 y110)) rfl (HVal.move' rfl) ?_
            refine HList.vals (v := (.int .i64 (IntKind.i64.wrap (y110 + 1)))) rfl (HVal.add rfl rfl) ?_
            refine HList.vals (v := (.int .i64 (IntKind.i64.wrap (y110 + 1)))) rfl (HVal.assign' rfl) ?_
            refine HList.nil ?_
            refine nt ?_
            exact (hX8 _ _ _).1 h _ ⟨rfl, rfl, rfl, rfl, trivial⟩
          · have h := hF hb140
            clear hT hF
            refine HW.exit ?_
            refine te ?_
            refine te ?_
            refine be ?_
            refine nt ?_
            exact ⟨y109, ⟨rfl, rfl, rfl, trivial⟩, h⟩
        · rintro ρ H_7 ⟨y146, hI, h⟩
          obtain ⟨ρ0, rfl⟩ : ∃ ρ0, ρ = (Env.set (Env.set (Env.set ρ0 6 (Sl.v y146)) 5 (.int .i64 y90)) 0 (.pointer p0)) := ⟨ρ, hI.eq⟩
          clear hI; unfold F33_7 at h
          refine HW.region ?_
          refine HList.vals (v := (.pointer p0)) rfl (HVal.move' rfl) ?_
          obtain ⟨a147, e148, h⟩ := h
          refine HList.vals (v := (.pointer (some a147))) rfl (HVal.nilCheck (congrArg Value.pointer e148)) ?_
          refine HList.vals (v := (.pointer (some (Addr.add a147 1)))) rfl (HVal.fieldAddr' Try.runUnderlying45 rfl rfl Try.sizeOf42 rfl) ?_
          obtain ⟨x150, c149, h⟩ := h
          refine HList.vals (v := (Sl.v x150)) rfl (HVal.load1 Try.isAgg42 rfl c149) ?_
          refine HList.vals (v := (.int .i64 y90)) rfl (HVal.move' rfl) ?_
          refine HList.vals (v := (.int .i64 (IntKind.i64.wrap (y90 + 1)))) rfl (HVal.add rfl rfl) ?_
          refine HList.vals (v := (Sl.v y146)) rfl (HVal.move' rfl) ?_
          obtain ⟨a151, e152, b153, b154, h⟩ := h
          refine HList.vals (v := (.pointer (some (Addr.add a151 ((IntKind.i64.wrap (y90 + 1)).toNat * 1))))) rfl (HVal.indexAddr Try.runUnderlying42 Try.sizeOf50 (Sl.v_some rfl e152) rfl b153 b154) ?_
          obtain ⟨z157, z158, h⟩ := h
          refine HList.opsn (HOp.store1 Try.sizeOf50 rfl rfl rfl z157 z158) ?_
          rintro _ H155 e156
          replace h := h H155 e156
          refine HList.nil ?_
          refine nb ?_
          refine nt ?_
          refine HW.region ?_
          refine HList.vals (v := (.int .i64 y90)) rfl (HVal.move' rfl) ?_
          refine HList.vals (v := (.int .i64 (IntKind.i64.wrap (y90 + 2)))) rfl (HVal.add rfl rfl) ?_
          refine HList.vals (v := (.int .i64 (IntKind.i64.wrap (y90 + 2)))) rfl (HVal.assign' rfl) ?_
          refine HList.nil ?_
          refine nt ?_
          exact (hX6 _ _).1 h _ ⟨rfl, rfl, trivial⟩
      · have h := hF hb96
        clear hT hF
        refine HW.exit ?_
        refine te ?_
        refine te ?_
        refine be ?_
        refine nt ?_
        exact ⟨⟨rfl, trivial⟩, h⟩
    · rintro ρ H_5 ⟨hI, h⟩
      obtain ⟨ρ0, rfl⟩ : ∃ ρ0, ρ = (Env.set ρ0 0 (.pointer p0)) := ⟨ρ, hI.eq⟩
      clear hI; unfold F33_5 at h
      refine HW.draw mixed [(0, some []), (1, some []), (2, some []), (3, some []), (4, some [14]), (5, some []), (6, some []), (7, some []), (8, some []), (9, some [14]), (10, some []), (11, some []), (12, some []), (13, some []), (14, none)] rfl (by kernel_rfl) (by kernel_rfl) ?_
      refine HPlan.takev (v := (.pointer p0)) rfl rfl (fun _ => HVal.move' rfl) ?_
      refine HPlan.takev (v := (.pointer p0)) rfl rfl (fun _ => HVal.move' rfl) ?_
      obtain ⟨a159, e160, h⟩ := h
      refine HPlan.takev (v := (.pointer (some a159))) rfl rfl (fun _ => HVal.nilCheck (congrArg Value.pointer e160)) ?_
      refine HPlan.takev (v := (.pointer (some a159))) rfl rfl (fun _ => HVal.fieldAddr0 Try.runUnderlying45 rfl rfl Try.sizeOf41 rfl) ?_
      obtain ⟨x162, c161, h⟩ := h
      refine HPlan.takel (v := (Sl.v x162)) (fun X => cell X a159 = some (Sl.v x162)) rfl rfl (fun _ hX => HVal.load1 Try.isAgg41 rfl hX) c161 ?_
      refine HPlan.takev (v := (.int .i64 ((x162).n : Int))) rfl rfl (fun _ => HVal.len Try.runUnderlying41 rfl) ?_
      refine HPlan.takev (v := (.pointer p0)) rfl rfl (fun _ => HVal.move' rfl) ?_
      obtain ⟨a163, e164, h⟩ := h
      refine HPlan.takev (v := (.pointer (some a163))) rfl rfl (fun _ => HVal.nilCheck (congrArg Value.pointer e164)) ?_
      refine HPlan.takev (v := (.pointer (some (Addr.add a163 1)))) rfl rfl (fun _ => HVal.fieldAddr' Try.runUnderlying45 rfl rfl Try.sizeOf42 rfl) ?_
      obtain ⟨x166, c165, h⟩ := h
      refine HPlan.takel (v := (Sl.v x166)) (fun X => cell X (Addr.add a163 1) = some (Sl.v x166)) rfl rfl (fun _ hX => HVal.load1 Try.isAgg42 rfl hX) c165 ?_
      refine HPlan.takev (v := (.int .i64 ((x166).n : Int))) rfl rfl (fun _ => HVal.len Try.runUnderlying42 rfl) ?_
      refine HPlan.takev (v := (.agg #[(.int .i64 ((x162).n : Int)), (.int .i64 ((x166).n : Int))])) rfl rfl (fun _ => HVal.buildA' (cs := [(.int .i64 ((x162).n : Int)), (.int .i64 ((x166).n : Int))]) Try.runUnderlying43 Try.zeroValue43 Try.sizeOf3 rfl) ?_
      obtain ⟨a167, e168, h⟩ := h
      refine HPlan.takev (v := (.pointer (some a167))) rfl rfl (fun _ => HVal.nilCheck (congrArg Value.pointer e168)) ?_
      refine HPlan.takev (v := (.pointer (some (Addr.add a167 3)))) rfl rfl (fun _ => HVal.fieldAddr' Try.runUnderlying45 rfl rfl Try.sizeOf43 rfl) ?_
      obtain ⟨z171, h⟩ := h
      refine HPlan.opsn rfl (HOp.storeN' (l := [(.int .i64 ((x162).n : Int)), (.int .i64 ((x166).n : Int))]) Try.sizeOf43 rfl rfl rfl z171) ?_
      rintro _ H169 e170
      replace h := h H169 e170
      refine ⟨SC_of ⟨fun e => absurd e (by decide), fun e => absurd e (by decide), trivial⟩, ?_⟩
      refine HPlan.done ?_
      exact ⟨_, resOf0 rfl , ⟨rfl, h⟩⟩

def F16 (p0 : (Option Addr)) (p1 : Sl) (H : Hp) (Q : Hp → Prop) : Prop :=
F32 p0 p1 H (fun (H1 : Hp) => 
 F33 p0 H1 (fun (H3 : Hp) => 
 Q H3))
set_option maxRecDepth 100000 in
set_option maxHeartbeats 4000000 in
theorem walk16 {w0 : World} {p0 : (Option Addr)} {p1 : Sl} {H : Hp} {Q : Hp → Prop} (h : F16 p0 p1 H Q) :
    Good Try.prog w0 16 #[(.pointer p0), (Sl.v p1)] H (fun v H => v = (.tuple #[]) ∧ Q H) := by
  unfold F16 at h
  refine Good.enter' (fn := Try.f16) Try.func16 rfl rfl rfl ?_
  refine HW.seq ?_
  refine HW.region ?_
  refine HList.vals (v := (.pointer p0)) rfl (HVal.move' rfl) ?_
  refine HList.vals (v := (Sl.v p1)) rfl (HVal.move' rfl) ?_
  refine HList.ops' rfl (HOp.call' 32 [(.pointer p0), (Sl.v p1)] (cap := []) rfl rfl Try.call32 (walk32 h)) ?_
  rintro _ H1 ⟨rfl, h⟩
  refine HList.nil ?_
  refine nt ?_
  refine HW.region ?_
  refine HList.vals (v := (.pointer p0)) rfl (HVal.move' rfl) ?_
  refine HList.ops' rfl (HOp.call' 33 [(.pointer p0)] (cap := []) rfl rfl Try.call33 (walk33 h)) ?_
  rintro _ H3 ⟨rfl, h⟩
  refine HList.nil ?_
  exact ⟨_, resOf0 rfl , ⟨rfl, h⟩⟩

def F17_6 (Q : Bool → Hp → Prop) (X5 : Int → Hp → Prop) (y61 : (Option Addr)) (y62 : Int) (H_6 : Hp) : Prop :=
X5 (IntKind.i64.wrap (y62 + 1)) H_6
def F17_8 (Q : Bool → Hp → Prop) (X5 : Int → Hp → Prop) (X7 : Int → Hp → Prop) (y100 : (Option Addr)) (y101 : Int) (y102 : Int) (y107 : Bool) (H_8 : Hp) : Prop :=
(y107 = true → (Q false H_8)) ∧
 (y107 = false → (X7 (IntKind.i64.wrap (y102 + 1)) H_8))
def F17_L7b (Q : Bool → Hp → Prop) (X5 : Int → Hp → Prop) (X7 : Int → Hp → Prop) (y64 : (Option Addr)) (y65 : Int) (y63 : Int) (H_7 : Hp) : Prop :=
∃ a66 : Addr, y64 = some a66 ∧ (
 ∃ x69 : Sl, cell H_7 (Addr.add a66 1) = some (Sl.v x69) ∧ (
 ∃ a70 : Addr, (x69).b = some a70 ∧ (0 : Int) ≤ y65 ∧ y65 < ((x69).n : Int) ∧ (
 ∃ x75 : Sl, cell H_7 (Addr.add a70 (y65.toNat * 1)) = some (Sl.v x75) ∧ (
 ((decide (y63 < ((x75).n : Int))) = true → (∃ a77 : Addr, y64 = some a77 ∧ (
 ∃ x80 : Sl, cell H_7 (Addr.add a77 1) = some (Sl.v x80) ∧ (
 ∃ a81 : Addr, (x80).b = some a81 ∧ (0 : Int) ≤ y65 ∧ y65 < ((x80).n : Int) ∧ (
 ∃ x86 : Sl, cell H_7 (Addr.add a81 (y65.toNat * 1)) = some (Sl.v x86) ∧ (
 ∃ a87 : Addr, (x86).b = some a87 ∧ (0 : Int) ≤ y63 ∧ y63 < ((x86).n : Int) ∧ (
 ∃ (x92 : ByteArray) (x93 : Int) (x94 : Sl), cells H_7 (Addr.add a87 (y63.toNat * 3)) [(.string x92), (.int .i64 x93), (Sl.v x94)] 0 ∧ (
 ∀ H95 : Hp, H95 = Array.push H_7 (.cells #[(.string (ByteArray.mk #[])), (.int .i64 0), (Sl.v Sl.nil)] 32) → (
 mayw H95 ⟨H_7.size, 0, none⟩ 3 0 ∧ ∀ H97 : Hp, H97 = sets H95 ⟨H_7.size, 0, none⟩ [(.string x92), (.int .i64 x93), (Sl.v x94)] 0 → (
 ∃ x104 : ByteArray, cell H97 ⟨H_7.size, 0, none⟩ = some (.string x104) ∧ (
 ((!(seq x104 (ByteArray.mk #[]))) = true → (F17_8 Q X5 X7 y64 y65 y63 true H97)) ∧
 ((!(seq x104 (ByteArray.mk #[]))) = false → (∃ x109 : Int, cell H97 (Addr.add ⟨H_7.size, 0, none⟩ 1) = some (.int .i64 x109) ∧ (
 ((decide (x109 ≠ (IntKind.i64.wrap ((-1) - (IntKind.i64.wrap (Int.tdiv y65 (2 : Int))))))) = true → (F17_8 Q X5 X7 y64 y65 y63 true H97)) ∧
 ((decide (x109 ≠ (IntKind.i64.wrap ((-1) - (IntKind.i64.wrap (Int.tdiv y65 (2 : Int))))))) = false → (∃ x113 : Sl, cell H97 (Addr.add ⟨H_7.size, 0, none⟩ 2) = some (Sl.v x113) ∧ (
 F17_8 Q X5 X7 y64 y65 y63 (decide (((x113).n : Int) ≠ 0)) H97))))))))))))))))) ∧
 ((decide (y63 < ((x75).n : Int))) = false → (F17_6 Q X5 y64 y65 H_7))))))
def F17_L7 (Q : Bool → Hp → Prop) (X5 : Int → Hp → Prop) (y64 : (Option Addr)) (y65 : Int) (y63 : Int) (H_7 : Hp) : Prop :=
  ∀ X7 : Int → Hp → Prop, (∀ (y63 : Int) (H_7 : Hp), F17_L7b Q X5 X7 y64 y65 y63 H_7 → X7 y63 H_7) → X7 y63 H_7
def F17_L5b (Q : Bool → Hp → Prop) (X5 : Int → Hp → Prop) (y55 : (Option Addr)) (y54 : Int) (H_5 : Hp) : Prop :=
∃ a56 : Addr, y55 = some a56 ∧ (
 ∃ x59 : Sl, cell H_5 (Addr.add a56 1) = some (Sl.v x59) ∧ (
 ((decide (y54 < ((x59).n : Int))) = true → (F17_L7 Q X5 y55 y54 0 H_5)) ∧
 ((decide (y54 < ((x59).n : Int))) = false → (Q true H_5))))
def F17_L5 (Q : Bool → Hp → Prop) (y55 : (Option Addr)) (y54 : Int) (H_5 : Hp) : Prop :=
  ∀ X5 : Int → Hp → Prop, (∀ (y54 : Int) (H_5 : Hp), F17_L5b Q X5 y55 y54 H_5 → X5 y54 H_5) → X5 y54 H_5
def F17_1 (Q : Bool → Hp → Prop) (y1 : (Option Addr)) (H_1 : Hp) : Prop :=
F17_L5 Q y1 0 H_1
def F17_3 (Q : Bool → Hp → Prop) (X2 : Int → Hp → Prop) (y9 : (Option Addr)) (y10 : Int) (H_3 : Hp) : Prop :=
X2 (IntKind.i64.wrap (y10 + 1)) H_3
def F17_L4b (Q : Bool → Hp → Prop) (X2 : Int → Hp → Prop) (X4 : Int → Hp → Prop) (y12 : (Option Addr)) (y13 : Int) (y11 : Int) (H_4 : Hp) : Prop :=
∃ a14 : Addr, y12 = some a14 ∧ (
 ∃ x17 : Sl, cell H_4 a14 = some (Sl.v x17) ∧ (
 ∃ a18 : Addr, (x17).b = some a18 ∧ (0 : Int) ≤ y13 ∧ y13 < ((x17).n : Int) ∧ (
 ∃ x23 : Sl, cell H_4 (Addr.add a18 (y13.toNat * 1)) = some (Sl.v x23) ∧ (
 ((decide (y11 < ((x23).n : Int))) = true → (∃ a25 : Addr, y12 = some a25 ∧ (
 ∃ x28 : Sl, cell H_4 a25 = some (Sl.v x28) ∧ (
 ∃ a29 : Addr, (x28).b = some a29 ∧ (0 : Int) ≤ y13 ∧ y13 < ((x28).n : Int) ∧ (
 ∃ x34 : Sl, cell H_4 (Addr.add a29 (y13.toNat * 1)) = some (Sl.v x34) ∧ (
 ∃ a35 : Addr, (x34).b = some a35 ∧ (0 : Int) ≤ y11 ∧ y11 < ((x34).n : Int) ∧ (
 ∃ (x40 : Int) (x41 : Int) (x42 : ByteArray) (x43 : Bool), cells H_4 (Addr.add a35 (y11.toNat * 4)) [(.int .i64 x40), (.int .i64 x41), (.string x42), (.bool x43)] 0 ∧ (
 F15 (IntKind.i64.wrap (Int.tdiv y13 (2 : Int))) H_4 (fun (r46 : Int) (r47 : Int) (r48 : ByteArray) (r49 : Bool) (H44 : Hp) => 
 cells H44 (Addr.add a35 (y11.toNat * 4)) [(.int .i64 x40), (.int .i64 x41), (.string x42), (.bool x43)] 0 ∧ cell H44 (Addr.add a29 (y13.toNat * 1)) = some (Sl.v x34) ∧ cell H44 a25 = some (Sl.v x28) ∧ (
 ((!(decide (x40 = r46) && (decide (x41 = r47) && (seq x42 r48 && (x43 == r49))))) = true → (Q false H44)) ∧
 ((!(decide (x40 = r46) && (decide (x41 = r47) && (seq x42 r48 && (x43 == r49))))) = false → (X4 (IntKind.i64.wrap (y11 + 1)) H44)))))))))))) ∧
 ((decide (y11 < ((x23).n : Int))) = false → (F17_3 Q X2 y12 y13 H_4))))))
def F17_L4 (Q : Bool → Hp → Prop) (X2 : Int → Hp → Prop) (y12 : (Option Addr)) (y13 : Int) (y11 : Int) (H_4 : Hp) : Prop :=
  ∀ X4 : Int → Hp → Prop, (∀ (y11 : Int) (H_4 : Hp), F17_L4b Q X2 X4 y12 y13 y11 H_4 → X4 y11 H_4) → X4 y11 H_4
def F17_L2b (Q : Bool → Hp → Prop) (X2 : Int → Hp → Prop) (y3 : (Option Addr)) (y2 : Int) (H_2 : Hp) : Prop :=
∃ a4 : Addr, y3 = some a4 ∧ (
 ∃ x7 : Sl, cell H_2 a4 = some (Sl.v x7) ∧ (
 ((decide (y2 < ((x7).n : Int))) = true → (F17_L4 Q X2 y3 y2 0 H_2)) ∧
 ((decide (y2 < ((x7).n : Int))) = false → (F17_1 Q y3 H_2))))
def F17_L2 (Q : Bool → Hp → Prop) (y3 : (Option Addr)) (y2 : Int) (H_2 : Hp) : Prop :=
  ∀ X2 : Int → Hp → Prop, (∀ (y2 : Int) (H_2 : Hp), F17_L2b Q X2 y3 y2 H_2 → X2 y2 H_2) → X2 y2 H_2
def F17 (p0 : (Option Addr)) (H : Hp) (Q : Bool → Hp → Prop) : Prop :=
F17_L2 Q p0 0 H
set_option maxRecDepth 100000 in
set_option maxHeartbeats 4000000 in
theorem walk17 {w0 : World} {p0 : (Option Addr)} {H : Hp} {Q : Bool → Hp → Prop} (h : F17 p0 H Q) :
    Good Try.prog w0 17 #[(.pointer p0)] H (fun v H => ∃ (r0 : Bool) , v = (.bool r0) ∧ Q r0 H) := by
  unfold F17 at h
  refine Good.enter' (fn := Try.f17) Try.func17 rfl rfl rfl ?_
  refine HW.seq ?_
  refine HW.region ?_
  refine HList.vals (v := (.bool false)) rfl (HVal.assign' rfl) ?_
  refine HList.nil ?_
  refine nt ?_
  refine HW.cut (fun ρ H_1 => Env.Is ρ [(0, (.pointer p0))] ∧ F17_1 Q p0 H_1) ?_ ?_
  · refine HW.seq ?_
    refine HW.region ?_
    refine HList.vals (v := (.int .i64 0)) rfl (HVal.assign' rfl) ?_
    refine HList.nil ?_
    refine nt ?_
    refine HW.block ?_
    refine HW.loop' (fun L2 hL2 => ?_)
    obtain ⟨X2, hX2⟩ : ∃ X2 : Int → Hp → Prop, ∀ (y2 : Int) (H_2 : Hp), X2 y2 H_2 ↔ ∀ ρ, Env.Is ρ [(0, (.pointer p0)), (3, (.int .i64 y2))] → L2 ρ H_2 := ⟨_, fun _ _ => Iff.rfl⟩
    refine (hX2 _ _).1 (h X2 ?_) _ ?_
    rotate_left
    · exact ⟨rfl, rfl, trivial⟩
    clear h
    intro y2 H_2 h
    refine (hX2 _ _).2 fun ρ hI => ?_
    obtain ⟨ρ0, rfl⟩ : ∃ ρ0, ρ = (Env.set (Env.set ρ0 3 (.int .i64 y2)) 0 (.pointer p0)) := ⟨ρ, hI.eq⟩
    clear hI; unfold F17_L2b at h; refine hL2 _ _ ?_
    refine HW.seq ?_
    refine HW.seq ?_
    refine HW.region ?_
    refine HList.vals (v := (.int .i64 y2)) rfl (HVal.move' rfl) ?_
    refine HList.vals (v := (.pointer p0)) rfl (HVal.move' rfl) ?_
    obtain ⟨a4, e5, h⟩ := h
    refine HList.vals (v := (.pointer (some a4))) rfl (HVal.nilCheck (congrArg Value.pointer e5)) ?_
    refine HList.vals (v := (.pointer (some a4))) rfl (HVal.fieldAddr0 Try.runUnderlying45 rfl rfl Try.sizeOf41 rfl) ?_
    obtain ⟨x7, c6, h⟩ := h
    refine HList.vals (v := (Sl.v x7)) rfl (HVal.load1 Try.isAgg41 rfl c6) ?_
    refine HList.vals (v := (.int .i64 ((x7).n : Int))) rfl (HVal.len Try.runUnderlying41 rfl) ?_
    refine HList.vals (v := (.bool (decide (y2 < ((x7).n : Int))))) rfl (HVal.lss rfl rfl) ?_
    refine HList.nil ?_
    refine nt ?_
    obtain ⟨hT, hF⟩ := h
    refine HW.cond (decide (y2 < ((x7).n : Int))) rfl (fun hb8 => ?_) (fun hb8 => ?_)
    · have h := hT hb8
      clear hT hF
      refine HW.skip ?_
      refine nt ?_
      refine HW.cut (fun ρ H_3 => Env.Is ρ [(0, (.pointer p0)), (3, (.int .i64 y2))] ∧ F17_3 Q X2 p0 y2 H_3) ?_ ?_
      · refine HW.block ?_
        refine HW.seq ?_
        refine HW.region ?_
        refine HList.vals (v := (.int .i64 0)) rfl (HVal.assign' rfl) ?_
        refine HList.nil ?_
        refine nt ?_
        refine HW.block ?_
        refine HW.loop' (fun L4 hL4 => ?_)
        obtain ⟨X4, hX4⟩ : ∃ X4 : Int → Hp → Prop, ∀ (y11 : Int) (H_4 : Hp), X4 y11 H_4 ↔ ∀ ρ, Env.Is ρ [(0, (.pointer p0)), (3, (.int .i64 y2)), (4, (.int .i64 y11))] → L4 ρ H_4 := ⟨_, fun _ _ => Iff.rfl⟩
        refine (hX4 _ _).1 (h X4 ?_) _ ?_
        rotate_left
        · exact ⟨rfl, rfl, rfl, trivial⟩
        clear h
        intro y11 H_4 h
        refine (hX4 _ _).2 fun ρ hI => ?_
        obtain ⟨ρ0, rfl⟩ : ∃ ρ0, ρ = (Env.set (Env.set (Env.set ρ0 4 (.int .i64 y11)) 3 (.int .i64 y2)) 0 (.pointer p0)) := ⟨ρ, hI.eq⟩
        clear hI; unfold F17_L4b at h; refine hL4 _ _ ?_
        refine HW.seq ?_
        refine HW.seq ?_
        refine HW.region ?_
        refine HList.vals (v := (.int .i64 y11)) rfl (HVal.move' rfl) ?_
        refine HList.vals (v := (.pointer p0)) rfl (HVal.move' rfl) ?_
        obtain ⟨a14, e15, h⟩ := h
        refine HList.vals (v := (.pointer (some a14))) rfl (HVal.nilCheck (congrArg Value.pointer e15)) ?_
        refine HList.vals (v := (.pointer (some a14))) rfl (HVal.fieldAddr0 Try.runUnderlying45 rfl rfl Try.sizeOf41 rfl) ?_
        obtain ⟨x17, c16, h⟩ := h
        refine HList.vals (v := (Sl.v x17)) rfl (HVal.load1 Try.isAgg41 rfl c16) ?_
        refine HList.vals (v := (.int .i64 y2)) rfl (HVal.move' rfl) ?_
        obtain ⟨a18, e19, b20, b21, h⟩ := h
        refine HList.vals (v := (.pointer (some (Addr.add a18 (y2.toNat * 1))))) rfl (HVal.indexAddr Try.runUnderlying41 Try.sizeOf30 (Sl.v_some rfl e19) rfl b20 b21) ?_
        obtain ⟨x23, c22, h⟩ := h
        refine HList.vals (v := (Sl.v x23)) rfl (HVal.load1 Try.isAgg30 rfl c22) ?_
        refine HList.vals (v := (.int .i64 ((x23).n : Int))) rfl (HVal.len Try.runUnderlying30 rfl) ?_
        refine HList.vals (v := (.bool (decide (y11 < ((x23).n : Int))))) rfl (HVal.lss rfl rfl) ?_
        refine HList.nil ?_
        refine nt ?_
        obtain ⟨hT, hF⟩ := h
        refine HW.cond (decide (y11 < ((x23).n : Int))) rfl (fun hb24 => ?_) (fun hb24 => ?_)
        · have h := hT hb24
          clear hT hF
          refine HW.skip ?_
          refine nt ?_
          refine HW.seq ?_
          refine HW.block ?_
          refine HW.seq ?_
          refine HW.draw mixed [(0, some []), (1, some []), (2, some []), (3, some []), (4, some []), (5, some []), (6, some []), (7, some []), (8, some []), (9, some []), (10, some []), (11, some []), (12, none), (13, some [])] rfl (by kernel_rfl) (by kernel_rfl) ?_
          refine HPlan.takev (v := (.pointer p0)) rfl rfl (fun _ => HVal.move' rfl) ?_
          obtain ⟨a25, e26, h⟩ := h
          refine HPlan.takev (v := (.pointer (some a25))) rfl rfl (fun _ => HVal.nilCheck (congrArg Value.pointer e26)) ?_
          refine HPlan.takev (v := (.pointer (some a25))) rfl rfl (fun _ => HVal.fieldAddr0 Try.runUnderlying45 rfl rfl Try.sizeOf41 rfl) ?_
          obtain ⟨x28, c27, h⟩ := h
          refine HPlan.takel (v := (Sl.v x28)) (fun X => cell X a25 = some (Sl.v x28)) rfl rfl (fun _ hX => HVal.load1 Try.isAgg41 rfl hX) c27 ?_
          refine HPlan.takev (v := (.int .i64 y2)) rfl rfl (fun _ => HVal.move' rfl) ?_
          obtain ⟨a29, e30, b31, b32, h⟩ := h
          refine HPlan.takev (v := (.pointer (some (Addr.add a29 (y2.toNat * 1))))) rfl rfl (fun _ => HVal.indexAddr Try.runUnderlying41 Try.sizeOf30 (Sl.v_some rfl e30) rfl b31 b32) ?_
          obtain ⟨x34, c33, h⟩ := h
          refine HPlan.takel (v := (Sl.v x34)) (fun X => cell X (Addr.add a29 (y2.toNat * 1)) = some (Sl.v x34)) rfl rfl (fun _ hX => HVal.load1 Try.isAgg30 rfl hX) c33 ?_
          refine HPlan.takev (v := (.int .i64 y11)) rfl rfl (fun _ => HVal.move' rfl) ?_
          obtain ⟨a35, e36, b37, b38, h⟩ := h
          refine HPlan.takev (v := (.pointer (some (Addr.add a35 (y11.toNat * 4))))) rfl rfl (fun _ => HVal.indexAddr Try.runUnderlying30 Try.sizeOf49 (Sl.v_some rfl e36) rfl b37 b38) ?_
          obtain ⟨x40, x41, x42, x43, c39, h⟩ := h
          refine HPlan.takel (v := (.agg #[(.int .i64 x40), (.int .i64 x41), (.string x42), (.bool x43)])) (fun X => cells X (Addr.add a35 (y11.toNat * 4)) [(.int .i64 x40), (.int .i64 x41), (.string x42), (.bool x43)] 0) rfl rfl (fun _ hX => HVal.loadN [(.int .i64 x40), (.int .i64 x41), (.string x42), (.bool x43)] Try.isAgg49 Try.sizeOf49 rfl hX) c39 ?_
          refine HPlan.takev (v := (.int .i64 y2)) rfl rfl (fun _ => HVal.move' rfl) ?_
          refine HPlan.takev (v := (.int .i64 (IntKind.i64.wrap (Int.tdiv y2 (2 : Int))))) rfl rfl (fun _ => HVal.quo rfl rfl (by decide)) ?_
          refine HPlan.ops' rfl rfl (HOp.call' 15 [(.int .i64 (IntKind.i64.wrap (Int.tdiv y2 (2 : Int))))] (cap := []) rfl rfl Try.call15 (walk15 h)) ?_
          rintro _ H44 ⟨r46, r47, r48, r49, rfl, h⟩
          obtain ⟨s50, s51, s52, h⟩ := h
          refine ⟨SC_of ⟨fun _ => s50, fun _ => s51, fun _ => s52, trivial⟩, ?_⟩
          refine HPlan.takev (v := (.bool (!(decide (x40 = r46) && (decide (x41 = r47) && (seq x42 r48 && (x43 == r49))))))) rfl rfl (fun _ => eqs49_neq rfl rfl) ?_
          refine HPlan.done ?_
          refine nt ?_
          obtain ⟨hT, hF⟩ := h
          refine HW.cond (!(decide (x40 = r46) && (decide (x41 = r47) && (seq x42 r48 && (x43 == r49))))) rfl (fun hb53 => ?_) (fun hb53 => ?_)
          · have h := hT hb53
            clear hT hF
            refine HW.seq ?_
            refine HW.region ?_
            refine HList.vals (v := (.bool false)) rfl (HVal.assign' rfl) ?_
            refine HList.nil ?_
            refine nt ?_
            refine HW.ret ?_
            refine br ?_
            refine tr ?_
            refine tr ?_
            refine br ?_
            refine br ?_
            refine tr ?_
            refine tr ?_
            refine br ?_
            refine tr ?_
            exact ⟨_, resOf1 rfl Res1.t, ⟨false, rfl, h⟩⟩
          · have h := hF hb53
            clear hT hF
            refine HW.skip ?_
            refine nb ?_
            refine nt ?_
            refine HW.region ?_
            refine HList.vals (v := (.int .i64 y11)) rfl (HVal.move' rfl) ?_
            refine HList.vals (v := (.int .i64 (IntKind.i64.wrap (y11 + 1)))) rfl (HVal.add rfl rfl) ?_
            refine HList.vals (v := (.int .i64 (IntKind.i64.wrap (y11 + 1)))) rfl (HVal.assign' rfl) ?_
            refine HList.nil ?_
            refine nt ?_
            exact (hX4 _ _).1 h _ ⟨rfl, rfl, rfl, trivial⟩
        · have h := hF hb24
          clear hT hF
          refine HW.exit ?_
          refine te ?_
          refine te ?_
          refine be ?_
          refine nb ?_
          refine nt ?_
          exact ⟨⟨rfl, rfl, trivial⟩, h⟩
      · rintro ρ H_3 ⟨hI, h⟩
        obtain ⟨ρ0, rfl⟩ : ∃ ρ0, ρ = (Env.set (Env.set ρ0 3 (.int .i64 y2)) 0 (.pointer p0)) := ⟨ρ, hI.eq⟩
        clear hI; unfold F17_3 at h
        refine HW.region ?_
        refine HList.vals (v := (.int .i64 y2)) rfl (HVal.move' rfl) ?_
        refine HList.vals (v := (.int .i64 (IntKind.i64.wrap (y2 + 1)))) rfl (HVal.add rfl rfl) ?_
        refine HList.vals (v := (.int .i64 (IntKind.i64.wrap (y2 + 1)))) rfl (HVal.assign' rfl) ?_
        refine HList.nil ?_
        refine nt ?_
        exact (hX2 _ _).1 h _ ⟨rfl, rfl, trivial⟩
    · have h := hF hb8
      clear hT hF
      refine HW.exit ?_
      refine te ?_
      refine te ?_
      refine be ?_
      refine nt ?_
      exact ⟨⟨rfl, trivial⟩, h⟩
  · rintro ρ H_1 ⟨hI, h⟩
    obtain ⟨ρ0, rfl⟩ : ∃ ρ0, ρ = (Env.set ρ0 0 (.pointer p0)) := ⟨ρ, hI.eq⟩
    clear hI; unfold F17_1 at h
    refine HW.seq ?_
    refine HW.seq ?_
    refine HW.region ?_
    refine HList.vals (v := (.int .i64 0)) rfl (HVal.assign' rfl) ?_
    refine HList.nil ?_
    refine nt ?_
    refine HW.block ?_
    refine HW.loop' (fun L5 hL5 => ?_)
    obtain ⟨X5, hX5⟩ : ∃ X5 : Int → Hp → Prop, ∀ (y54 : Int) (H_5 : Hp), X5 y54 H_5 ↔ ∀ ρ, Env.Is ρ [(0, (.pointer p0)), (5, (.int .i64 y54))] → L5 ρ H_5 := ⟨_, fun _ _ => Iff.rfl⟩
    refine (hX5 _ _).1 (h X5 ?_) _ ?_
    rotate_left
    · exact ⟨rfl, rfl, trivial⟩
    clear h
    intro y54 H_5 h
    refine (hX5 _ _).2 fun ρ hI => ?_
    obtain ⟨ρ0, rfl⟩ : ∃ ρ0, ρ = (Env.set (Env.set ρ0 5 (.int .i64 y54)) 0 (.pointer p0)) := ⟨ρ, hI.eq⟩
    clear hI; unfold F17_L5b at h; refine hL5 _ _ ?_
    refine HW.seq ?_
    refine HW.seq ?_
    refine HW.region ?_
    refine HList.vals (v := (.int .i64 y54)) rfl (HVal.move' rfl) ?_
    refine HList.vals (v := (.pointer p0)) rfl (HVal.move' rfl) ?_
    obtain ⟨a56, e57, h⟩ := h
    refine HList.vals (v := (.pointer (some a56))) rfl (HVal.nilCheck (congrArg Value.pointer e57)) ?_
    refine HList.vals (v := (.pointer (some (Addr.add a56 1)))) rfl (HVal.fieldAddr' Try.runUnderlying45 rfl rfl Try.sizeOf42 rfl) ?_
    obtain ⟨x59, c58, h⟩ := h
    refine HList.vals (v := (Sl.v x59)) rfl (HVal.load1 Try.isAgg42 rfl c58) ?_
    refine HList.vals (v := (.int .i64 ((x59).n : Int))) rfl (HVal.len Try.runUnderlying42 rfl) ?_
    refine HList.vals (v := (.bool (decide (y54 < ((x59).n : Int))))) rfl (HVal.lss rfl rfl) ?_
    refine HList.nil ?_
    refine nt ?_
    obtain ⟨hT, hF⟩ := h
    refine HW.cond (decide (y54 < ((x59).n : Int))) rfl (fun hb60 => ?_) (fun hb60 => ?_)
    · have h := hT hb60
      clear hT hF
      refine HW.skip ?_
      refine nt ?_
      refine HW.cut (fun ρ H_6 => Env.Is ρ [(0, (.pointer p0)), (5, (.int .i64 y54))] ∧ F17_6 Q X5 p0 y54 H_6) ?_ ?_
      · refine HW.block ?_
        refine HW.seq ?_
        refine HW.region ?_
        refine HList.vals (v := (.int .i64 0)) rfl (HVal.assign' rfl) ?_
        refine HList.nil ?_
        refine nt ?_
        refine HW.block ?_
        refine HW.loop' (fun L7 hL7 => ?_)
        obtain ⟨X7, hX7⟩ : ∃ X7 : Int → Hp → Prop, ∀ (y63 : Int) (H_7 : Hp), X7 y63 H_7 ↔ ∀ ρ, Env.Is ρ [(0, (.pointer p0)), (5, (.int .i64 y54)), (6, (.int .i64 y63))] → L7 ρ H_7 := ⟨_, fun _ _ => Iff.rfl⟩
        refine (hX7 _ _).1 (h X7 ?_) _ ?_
        rotate_left
        · exact ⟨rfl, rfl, rfl, trivial⟩
        clear h
        intro y63 H_7 h
        refine (hX7 _ _).2 fun ρ hI => ?_
        obtain ⟨ρ0, rfl⟩ : ∃ ρ0, ρ = (Env.set (Env.set (Env.set ρ0 6 (.int .i64 y63)) 5 (.int .i64 y54)) 0 (.pointer p0)) := ⟨ρ, hI.eq⟩
        clear hI; unfold F17_L7b at h; refine hL7 _ _ ?_
        refine HW.seq ?_
        refine HW.seq ?_
        refine HW.region ?_
        refine HList.vals (v := (.int .i64 y63)) rfl (HVal.move' rfl) ?_
        refine HList.vals (v := (.pointer p0)) rfl (HVal.move' rfl) ?_
        obtain ⟨a66, e67, h⟩ := h
        refine HList.vals (v := (.pointer (some a66))) rfl (HVal.nilCheck (congrArg Value.pointer e67)) ?_
        refine HList.vals (v := (.pointer (some (Addr.add a66 1)))) rfl (HVal.fieldAddr' Try.runUnderlying45 rfl rfl Try.sizeOf42 rfl) ?_
        obtain ⟨x69, c68, h⟩ := h
        refine HList.vals (v := (Sl.v x69)) rfl (HVal.load1 Try.isAgg42 rfl c68) ?_
        refine HList.vals (v := (.int .i64 y54)) rfl (HVal.move' rfl) ?_
        obtain ⟨a70, e71, b72, b73, h⟩ := h
        refine HList.vals (v := (.pointer (some (Addr.add a70 (y54.toNat * 1))))) rfl (HVal.indexAddr Try.runUnderlying42 Try.sizeOf50 (Sl.v_some rfl e71) rfl b72 b73) ?_
        obtain ⟨x75, c74, h⟩ := h
        refine HList.vals (v := (Sl.v x75)) rfl (HVal.load1 Try.isAgg50 rfl c74) ?_
        refine HList.vals (v := (.int .i64 ((x75).n : Int))) rfl (HVal.len Try.runUnderlying50 rfl) ?_
        refine HList.vals (v := (.bool (decide (y63 < ((x75).n : Int))))) rfl (HVal.lss rfl rfl) ?_
        refine HList.nil ?_
        refine nt ?_
        obtain ⟨hT, hF⟩ := h
        refine HW.cond (decide (y63 < ((x75).n : Int))) rfl (fun hb76 => ?_) (fun hb76 => ?_)
        · have h := hT hb76
          clear hT hF
          refine HW.skip ?_
          refine nt ?_
          refine HW.seq ?_
          refine HW.block ?_
          refine HW.seq ?_
          refine HW.region ?_
          refine HList.vals (v := (.pointer p0)) rfl (HVal.move' rfl) ?_
          obtain ⟨a77, e78, h⟩ := h
          refine HList.vals (v := (.pointer (some a77))) rfl (HVal.nilCheck (congrArg Value.pointer e78)) ?_
          refine HList.vals (v := (.pointer (some (Addr.add a77 1)))) rfl (HVal.fieldAddr' Try.runUnderlying45 rfl rfl Try.sizeOf42 rfl) ?_
          obtain ⟨x80, c79, h⟩ := h
          refine HList.vals (v := (Sl.v x80)) rfl (HVal.load1 Try.isAgg42 rfl c79) ?_
          refine HList.vals (v := (.int .i64 y54)) rfl (HVal.move' rfl) ?_
          obtain ⟨a81, e82, b83, b84, h⟩ := h
          refine HList.vals (v := (.pointer (some (Addr.add a81 (y54.toNat * 1))))) rfl (HVal.indexAddr Try.runUnderlying42 Try.sizeOf50 (Sl.v_some rfl e82) rfl b83 b84) ?_
          obtain ⟨x86, c85, h⟩ := h
          refine HList.vals (v := (Sl.v x86)) rfl (HVal.load1 Try.isAgg50 rfl c85) ?_
          refine HList.vals (v := (.int .i64 y63)) rfl (HVal.move' rfl) ?_
          obtain ⟨a87, e88, b89, b90, h⟩ := h
          refine HList.vals (v := (.pointer (some (Addr.add a87 (y63.toNat * 3))))) rfl (HVal.indexAddr Try.runUnderlying50 Try.sizeOf32 (Sl.v_some rfl e88) rfl b89 b90) ?_
          obtain ⟨x92, x93, x94, c91, h⟩ := h
          refine HList.vals (v := (.agg #[(.string x92), (.int .i64 x93), (Sl.v x94)])) rfl (HVal.loadN [(.string x92), (.int .i64 x93), (Sl.v x94)] Try.isAgg32 Try.sizeOf32 rfl c91) ?_
          refine HList.ops' rfl (HOp.alloc Try.zeroValue32) ?_
          rintro _ H95 ⟨rfl, e96⟩
          replace h := h H95 e96
          obtain ⟨z99, h⟩ := h
          refine HList.opsn (HOp.storeN' (l := [(.string x92), (.int .i64 x93), (Sl.v x94)]) Try.sizeOf32 rfl rfl rfl z99) ?_
          rintro _ H97 e98
          replace h := h H97 e98
          refine HList.nil ?_
          refine nt ?_
          refine HW.cut (fun ρ H_8 => ∃ (y107 : Bool), Env.Is ρ [(0, (.pointer p0)), (5, (.int .i64 y54)), (6, (.int .i64 y63)), (90, (.bool y107))] ∧ F17_8 Q X5 X7 p0 y54 y63 y107 H_8) ?_ ?_
          · refine HW.region ?_
            refine HList.vals (v := (.pointer (some ⟨H_7.size, 0, none⟩))) rfl (HVal.fieldAddr0 Try.runUnderlying32 rfl rfl Try.sizeOf9 rfl) ?_
            obtain ⟨x104, c103, h⟩ := h
            refine HList.vals (v := (.string x104)) rfl (HVal.load1 Try.isAgg9 rfl c103) ?_
            refine HList.vals (v := (.bool (!(seq x104 (ByteArray.mk #[]))))) rfl (HVal.neqS rfl rfl) ?_
            refine HList.vals (v := (.bool (!(seq x104 (ByteArray.mk #[]))))) rfl (HVal.move' rfl) ?_
            obtain ⟨hT, hF⟩ := h
            rcases Bool.eq_false_or_eq_true (!(seq x104 (ByteArray.mk #[]))) with hb105 | hb106
            · have h := hT hb105
              clear hT hF
              refine HList.gskips rfl rfl rfl rfl (congrArg Value.bool hb105) ?_
              refine HList.gskips rfl rfl rfl rfl (congrArg Value.bool hb105) ?_
              refine HList.gskips rfl rfl rfl rfl (congrArg Value.bool hb105) ?_
              refine HList.gskips rfl rfl rfl rfl (congrArg Value.bool hb105) ?_
              refine HList.gskips rfl rfl rfl rfl (congrArg Value.bool hb105) ?_
              refine HList.gskips rfl rfl rfl rfl (congrArg Value.bool hb105) ?_
              refine HList.vals (v := (.bool true)) rfl (HVal.pickT rfl hb105 rfl) ?_
              refine HList.vals (v := (.bool true)) rfl (HVal.move' rfl) ?_
              refine HList.gskips rfl rfl rfl rfl rfl ?_
              refine HList.gskips rfl rfl rfl rfl rfl ?_
              refine HList.gskips rfl rfl rfl rfl rfl ?_
              refine HList.gskips rfl rfl rfl rfl rfl ?_
              refine HList.vals (v := (.bool true)) rfl (HVal.pickT rfl rfl rfl) ?_
              refine HList.nil ?_
              refine nt ?_
              exact ⟨true, ⟨rfl, rfl, rfl, rfl, trivial⟩, h⟩
            · have h := hF hb106
              clear hT hF
              refine HList.gvals (v := (.pointer (some (Addr.add ⟨H_7.size, 0, none⟩ 1)))) rfl rfl rfl rfl (congrArg Value.bool hb106) (HVal.fieldAddr' Try.runUnderlying32 rfl rfl Try.sizeOf2 rfl) ?_
              obtain ⟨x109, c108, h⟩ := h
              refine HList.gvals (v := (.int .i64 x109)) rfl rfl rfl rfl (congrArg Value.bool hb106) (HVal.load1 Try.isAgg2 rfl c108) ?_
              refine HList.gvals (v := (.int .i64 y54)) rfl rfl rfl rfl (congrArg Value.bool hb106) (HVal.move' rfl) ?_
              refine HList.gvals (v := (.int .i64 (IntKind.i64.wrap (Int.tdiv y54 (2 : Int))))) rfl rfl rfl rfl (congrArg Value.bool hb106) (HVal.quo rfl rfl (by decide)) ?_
              refine HList.gvals (v := (.int .i64 (IntKind.i64.wrap ((-1) - (IntKind.i64.wrap (Int.tdiv y54 (2 : Int))))))) rfl rfl rfl rfl (congrArg Value.bool hb106) (HVal.sub rfl rfl) ?_
              refine HList.gvals (v := (.bool (decide (x109 ≠ (IntKind.i64.wrap ((-1) - (IntKind.i64.wrap (Int.tdiv y54 (2 : Int))))))))) rfl rfl rfl rfl (congrArg Value.bool hb106) (HVal.neqI rfl rfl) ?_
              refine HList.vals (v := (.bool (decide (x109 ≠ (IntKind.i64.wrap ((-1) - (IntKind.i64.wrap (Int.tdiv y54 (2 : Int))))))))) rfl (HVal.pickF rfl hb106 rfl) ?_
              refine HList.vals (v := (.bool (decide (x109 ≠ (IntKind.i64.wrap ((-1) - (IntKind.i64.wrap (Int.tdiv y54 (2 : Int))))))))) rfl (HVal.move' rfl) ?_
              obtain ⟨hT, hF⟩ := h
              rcases Bool.eq_false_or_eq_true (decide (x109 ≠ (IntKind.i64.wrap ((-1) - (IntKind.i64.wrap (Int.tdiv y54 (2 : Int))))))) with hb110 | hb111
              · have h := hT hb110
                clear hT hF
                refine HList.gskips rfl rfl rfl rfl (congrArg Value.bool hb110) ?_
                refine HList.gskips rfl rfl rfl rfl (congrArg Value.bool hb110) ?_
                refine HList.gskips rfl rfl rfl rfl (congrArg Value.bool hb110) ?_
                refine HList.gskips rfl rfl rfl rfl (congrArg Value.bool hb110) ?_
                refine HList.vals (v := (.bool true)) rfl (HVal.pickT rfl hb110 rfl) ?_
                refine HList.nil ?_
                refine nt ?_
                exact ⟨true, ⟨rfl, rfl, rfl, rfl, trivial⟩, h⟩
              · have h := hF hb111
                clear hT hF
                refine HList.gvals (v := (.pointer (some (Addr.add ⟨H_7.size, 0, none⟩ 2)))) rfl rfl rfl rfl (congrArg Value.bool hb111) (HVal.fieldAddr' Try.runUnderlying32 rfl rfl Try.sizeOf30 rfl) ?_
                obtain ⟨x113, c112, h⟩ := h
                refine HList.gvals (v := (Sl.v x113)) rfl rfl rfl rfl (congrArg Value.bool hb111) (HVal.load1 Try.isAgg30 rfl c112) ?_
                refine HList.gvals (v := (.int .i64 ((x113).n : Int))) rfl rfl rfl rfl (congrArg Value.bool hb111) (HVal.len Try.runUnderlying30 rfl) ?_
                refine HList.gvals (v := (.bool (decide (((x113).n : Int) ≠ 0)))) rfl rfl rfl rfl (congrArg Value.bool hb111) (HVal.neqI rfl rfl) ?_
                refine HList.vals (v := (.bool (decide (((x113).n : Int) ≠ 0)))) rfl (HVal.pickF rfl hb111 rfl) ?_
                refine HList.nil ?_
                refine nt ?_
                exact ⟨(decide (((x113).n : Int) ≠ 0)), ⟨rfl, rfl, rfl, rfl, trivial⟩, h⟩
          · rintro ρ H_8 ⟨y107, hI, h⟩
            obtain ⟨ρ0, rfl⟩ : ∃ ρ0, ρ = (Env.set (Env.set (Env.set (Env.set ρ0 90 (.bool y107)) 6 (.int .i64 y63)) 5 (.int .i64 y54)) 0 (.pointer p0)) := ⟨ρ, hI.eq⟩
            clear hI; unfold F17_8 at h
            obtain ⟨hT, hF⟩ := h
            refine HW.cond y107 rfl (fun hb114 => ?_) (fun hb114 => ?_)
            · have h := hT hb114
              clear hT hF
              refine HW.seq ?_
              refine HW.region ?_
              refine HList.vals (v := (.bool false)) rfl (HVal.assign' rfl) ?_
              refine HList.nil ?_
              refine nt ?_
              refine HW.ret ?_
              refine br ?_
              refine tr ?_
              refine tr ?_
              refine br ?_
              refine br ?_
              refine tr ?_
              refine tr ?_
              refine br ?_
              refine tr ?_
              exact ⟨_, resOf1 rfl Res1.t, ⟨false, rfl, h⟩⟩
            · have h := hF hb114
              clear hT hF
              refine HW.skip ?_
              refine nb ?_
              refine nt ?_
              refine HW.region ?_
              refine HList.vals (v := (.int .i64 y63)) rfl (HVal.move' rfl) ?_
              refine HList.vals (v := (.int .i64 (IntKind.i64.wrap (y63 + 1)))) rfl (HVal.add rfl rfl) ?_
              refine HList.vals (v := (.int .i64 (IntKind.i64.wrap (y63 + 1)))) rfl (HVal.assign' rfl) ?_
              refine HList.nil ?_
              refine nt ?_
              exact (hX7 _ _).1 h _ ⟨rfl, rfl, rfl, trivial⟩
        · have h := hF hb76
          clear hT hF
          refine HW.exit ?_
          refine te ?_
          refine te ?_
          refine be ?_
          refine nb ?_
          refine nt ?_
          exact ⟨⟨rfl, rfl, trivial⟩, h⟩
      · rintro ρ H_6 ⟨hI, h⟩
        obtain ⟨ρ0, rfl⟩ : ∃ ρ0, ρ = (Env.set (Env.set ρ0 5 (.int .i64 y54)) 0 (.pointer p0)) := ⟨ρ, hI.eq⟩
        clear hI; unfold F17_6 at h
        refine HW.region ?_
        refine HList.vals (v := (.int .i64 y54)) rfl (HVal.move' rfl) ?_
        refine HList.vals (v := (.int .i64 (IntKind.i64.wrap (y54 + 1)))) rfl (HVal.add rfl rfl) ?_
        refine HList.vals (v := (.int .i64 (IntKind.i64.wrap (y54 + 1)))) rfl (HVal.assign' rfl) ?_
        refine HList.nil ?_
        refine nt ?_
        exact (hX5 _ _).1 h _ ⟨rfl, rfl, trivial⟩
    · have h := hF hb60
      clear hT hF
      refine HW.exit ?_
      refine te ?_
      refine te ?_
      refine be ?_
      refine nt ?_
      refine HW.seq ?_
      refine HW.region ?_
      refine HList.vals (v := (.bool true)) rfl (HVal.assign' rfl) ?_
      refine HList.nil ?_
      refine nt ?_
      refine HW.ret ?_
      exact ⟨_, resOf1 rfl Res1.t, ⟨true, rfl, h⟩⟩

def F21_6 (Q : Bool → Hp → Prop) (y143 : (Option Addr)) (y144 : Addr) (y145 : Sl) (H_6 : Hp) : Prop :=
F33 (some y144) H_6 (fun (H160 : Hp) => 
 F17 (some y144) H160 (fun (r164 : Bool) (H162 : Hp) => 
 (r164 = true → (F19 y143 H162 (fun (r169 : Sl) (H167 : Hp) => 
 F12 r169 y145 H167 (fun (r172 : Bool) (H170 : Hp) => 
 Q r172 H170)))) ∧
 (r164 = false → (Q false H162))))
def F21_L7b (Q : Bool → Hp → Prop) (X7 : Int → Hp → Prop) (y147 : (Option Addr)) (y148 : Sl) (y149 : Addr) (y150 : Sl) (y146 : Int) (H_7 : Hp) : Prop :=
((decide (y146 < ((y148).n : Int))) = true → (∃ a152 : Addr, (y148).b = some a152 ∧ (0 : Int) ≤ y146 ∧ y146 < ((y148).n : Int) ∧ (
 ∃ x157 : Sl, cell H_7 (Addr.add a152 (y146.toNat * 1)) = some (Sl.v x157) ∧ (
 F32 (some y149) x157 H_7 (fun (H158 : Hp) => 
 X7 (IntKind.i64.wrap (y146 + 1)) H158))))) ∧
 ((decide (y146 < ((y148).n : Int))) = false → (F21_6 Q y147 y149 y150 H_7))
def F21_L7 (Q : Bool → Hp → Prop) (y147 : (Option Addr)) (y148 : Sl) (y149 : Addr) (y150 : Sl) (y146 : Int) (H_7 : Hp) : Prop :=
  ∀ X7 : Int → Hp → Prop, (∀ (y146 : Int) (H_7 : Hp), F21_L7b Q X7 y147 y148 y149 y150 y146 H_7 → X7 y146 H_7) → X7 y146 H_7
def F21_4 (Q : Bool → Hp → Prop) (y112 : (Option Addr)) (y113 : Sl) (y114 : Addr) (H_4 : Hp) : Prop :=
F19 y112 H_4 (fun (r139 : Sl) (H137 : Hp) => 
 F38 r139 H137 (fun (r142 : Sl) (H140 : Hp) => 
 F21_L7 Q y112 y113 y114 r142 0 H140))
def F21_L5b (Q : Bool → Hp → Prop) (X5 : Int → Hp → Prop) (y116 : (Option Addr)) (y117 : Sl) (y118 : Sl) (y119 : Addr) (y115 : Int) (H_5 : Hp) : Prop :=
((decide (y115 < ((y117).n : Int))) = true → (∃ a121 : Addr, (y117).b = some a121 ∧ (0 : Int) ≤ y115 ∧ y115 < ((y117).n : Int) ∧ (
 ∃ x126 : Sl, cell H_5 (Addr.add a121 (y115.toNat * 1)) = some (Sl.v x126) ∧ (
 ∃ a127 : Addr, (y118).b = some a127 ∧ (0 : Int) ≤ y115 ∧ y115 < ((y118).n : Int) ∧ (
 ∃ x132 : Sl, cell H_5 (Addr.add a127 (y115.toNat * 1)) = some (Sl.v x132) ∧ (
 F12 x126 x132 H_5 (fun (r135 : Bool) (H133 : Hp) => 
 ((!r135) = true → (Q false H133)) ∧
 ((!r135) = false → (X5 (IntKind.i64.wrap (y115 + 1)) H133))))))))) ∧
 ((decide (y115 < ((y117).n : Int))) = false → (F21_4 Q y116 y117 y119 H_5))
def F21_L5 (Q : Bool → Hp → Prop) (y116 : (Option Addr)) (y117 : Sl) (y118 : Sl) (y119 : Addr) (y115 : Int) (H_5 : Hp) : Prop :=
  ∀ X5 : Int → Hp → Prop, (∀ (y115 : Int) (H_5 : Hp), F21_L5b Q X5 y116 y117 y118 y119 y115 H_5 → X5 y115 H_5) → X5 y115 H_5
def F21_1 (Q : Bool → Hp → Prop) (y6 : (Option Addr)) (y108 : Sl) (y109 : Sl) (H_1 : Hp) : Prop :=
∀ H110 : Hp, H110 = Array.push H_1 (.cells #[(Sl.v Sl.nil), (Sl.v Sl.nil), (.int .i64 0), (.int .i64 0), (.int .i64 0)] 45) → (
 F21_L5 Q y6 y108 y109 ⟨H_1.size, 0, none⟩ 0 H110)
def F21_3 (Q : Bool → Hp → Prop) (X2 : Sl → Sl → Int → Int → Hp → Prop) (y14 : Sl) (y15 : (Option Addr)) (y16 : Int) (y79 : Sl) (y80 : Sl) (y81 : Int) (H_3 : Hp) : Prop :=
X2 y79 y80 y81 (IntKind.i64.wrap (y16 + 1)) H_3
def F21_L2b (Q : Bool → Hp → Prop) (X2 : Sl → Sl → Int → Int → Hp → Prop) (y11 : Sl) (y12 : (Option Addr)) (y7 : Sl) (y8 : Sl) (y9 : Int) (y10 : Int) (H_2 : Hp) : Prop :=
((decide (y10 < ((y11).n : Int))) = true → (∃ a17 : Addr, (y11).b = some a17 ∧ (0 : Int) ≤ y10 ∧ y10 < ((y11).n : Int) ∧ (
 ∃ (x22 : Int) (x23 : Bool) (x24 : ByteArray) (x25 : Int) (x26 : Sl) (x27 : Int), cells H_2 (Addr.add a17 (y10.toNat * 6)) [(.int .i64 x22), (.bool x23), (.string x24), (.int .i64 x25), (Sl.v x26), (.int .i64 x27)] 0 ∧ (
 ∀ H28 : Hp, H28 = Array.push H_2 (.cells #[(.int .i64 0), (.bool false), (.string (ByteArray.mk #[])), (.int .i64 0), (Sl.v Sl.nil), (.int .i64 0)] 34) → (
 mayw H28 ⟨H_2.size, 0, none⟩ 6 0 ∧ ∀ H30 : Hp, H30 = sets H28 ⟨H_2.size, 0, none⟩ [(.int .i64 x22), (.bool x23), (.string x24), (.int .i64 x25), (Sl.v x26), (.int .i64 x27)] 0 → (
 ∃ (x34 : ByteArray) (x35 : Int) (x36 : Sl), cells H30 (Addr.add ⟨H_2.size, 0, none⟩ 2) [(.string x34), (.int .i64 x35), (Sl.v x36)] 0 ∧ (
 F9 x34 x35 x36 H30 (fun (r39 : ByteArray) (r40 : Int) (r41 : Sl) (r42 : Sl) (H37 : Hp) => 
 ∀ H43 : Hp, H43 = Array.push H37 (.cells #[(.string (ByteArray.mk #[])), (.int .i64 0), (Sl.v Sl.nil)] 32) → (
 mayw H43 ⟨H37.size, 0, none⟩ 3 0 ∧ ∀ H45 : Hp, H45 = sets H43 ⟨H37.size, 0, none⟩ [(.string r39), (.int .i64 r40), (Sl.v r41)] 0 → (
 ∃ (x49 : ByteArray) (x50 : Int) (x51 : Sl), cells H45 ⟨H37.size, 0, none⟩ [(.string x49), (.int .i64 x50), (Sl.v x51)] 0 ∧ (
 mayw H45 (Addr.add ⟨H_2.size, 0, none⟩ 2) 3 0 ∧ ∀ H52 : Hp, H52 = sets H45 (Addr.add ⟨H_2.size, 0, none⟩ 2) [(.string x49), (.int .i64 x50), (Sl.v x51)] 0 → (
 ∃ (x56 : Int) (x57 : Bool) (x58 : ByteArray) (x59 : Int) (x60 : Sl) (x61 : Int), cells H52 ⟨H_2.size, 0, none⟩ [(.int .i64 x56), (.bool x57), (.string x58), (.int .i64 x59), (Sl.v x60), (.int .i64 x61)] 0 ∧ (
 F10 y12 x56 x57 x58 x59 x60 x61 H52 (fun (r64 : Sl) (H62 : Hp) => 
 ∃ a65 : Addr, (y11).b = some a65 ∧ (0 : Int) ≤ y10 ∧ y10 < ((y11).n : Int) ∧ (
 ∃ (x70 : ByteArray) (x71 : Int) (x72 : Sl), cells H62 (Addr.add (Addr.add a65 (y10.toNat * 6)) 2) [(.string x70), (.int .i64 x71), (Sl.v x72)] 0 ∧ (
 F13 r42 x70 x71 x72 H62 (fun (r75 : Bool) (H73 : Hp) => 
 ((!r75) = true → (Q false H73)) ∧
 ((!r75) = false → (((decide ((10000 : Int) < y9)) = true → (F21_3 Q X2 y11 y12 y10 y7 y8 y9 H73)) ∧
 ((decide ((10000 : Int) < y9)) = false → (((decide ((10000 : Int) < y10)) = true → (F21_3 Q X2 y11 y12 y10 y7 y8 y9 H73)) ∧
 ((decide ((10000 : Int) < y10)) = false → (F19 y12 H73 (fun (r85 : Sl) (H83 : Hp) => 
 F19 y12 H83 (fun (r88 : Sl) (H86 : Hp) => 
 ∀ H89 : Hp, H89 = Array.push H86 (.cells #[(Sl.v r64), (Sl.v r85), (Sl.v r88)] 50) → (
 AppendF H89 50 1 24 #[(Sl.v Sl.nil)] y7 ((Sl.mk (some ⟨H86.size, 0, none⟩) 3 3)).b ((Sl.mk (some ⟨H86.size, 0, none⟩) 3 3)).n (fun (r93 : Sl) (H91 : Hp) => 
 F38 r64 H91 (fun (r96 : Sl) (H94 : Hp) => 
 F38 r85 H94 (fun (r99 : Sl) (H97 : Hp) => 
 F38 r88 H97 (fun (r102 : Sl) (H100 : Hp) => 
 ∀ H103 : Hp, H103 = Array.push H100 (.cells #[(Sl.v r96), (Sl.v r99), (Sl.v r102)] 50) → (
 AppendF H103 50 1 24 #[(Sl.v Sl.nil)] y8 ((Sl.mk (some ⟨H100.size, 0, none⟩) 3 3)).b ((Sl.mk (some ⟨H100.size, 0, none⟩) 3 3)).n (fun (r107 : Sl) (H105 : Hp) => 
 F21_3 Q X2 y11 y12 y10 r93 r107 (IntKind.i64.wrap ((IntKind.i64.wrap ((IntKind.i64.wrap (y9 + ((r64).n : Int))) + ((r85).n : Int))) + ((r88).n : Int))) H105)))))))))))))))))))))))))))))))) ∧
 ((decide (y10 < ((y11).n : Int))) = false → (F21_1 Q y12 y7 y8 H_2))
def F21_L2 (Q : Bool → Hp → Prop) (y11 : Sl) (y12 : (Option Addr)) (y7 : Sl) (y8 : Sl) (y9 : Int) (y10 : Int) (H_2 : Hp) : Prop :=
  ∀ X2 : Sl → Sl → Int → Int → Hp → Prop, (∀ (y7 : Sl) (y8 : Sl) (y9 : Int) (y10 : Int) (H_2 : Hp), F21_L2b Q X2 y11 y12 y7 y8 y9 y10 H_2 → X2 y7 y8 y9 y10 H_2) → X2 y7 y8 y9 y10 H_2
def F21 (p0 : Int) (p1 : Int) (p2 : Sl) (H : Hp) (Q : Bool → Hp → Prop) : Prop :=
F8 p0 p1 H (fun (r3 : (Option Addr)) (r4 : Int) (H1 : Hp) => 
 ((r3.isNone) = true → (Q false H1)) ∧
 ((r3.isNone) = false → (F21_L2 Q p2 r3 Sl.nil Sl.nil 0 0 H1)))
set_option maxRecDepth 100000 in
set_option maxHeartbeats 4000000 in
theorem walk21 {w0 : World} {p0 : Int} {p1 : Int} {p2 : Sl} {H : Hp} {Q : Bool → Hp → Prop} (h : F21 p0 p1 p2 H Q) :
    Good Try.prog w0 21 #[(.int .i64 p0), (.int .i64 p1), (Sl.v p2)] H (fun v H => ∃ (r0 : Bool) , v = (.bool r0) ∧ Q r0 H) := by
  unfold F21 at h
  refine Good.enter' (fn := Try.f21) Try.func21 rfl rfl rfl ?_
  refine HW.seq ?_
  refine HW.region ?_
  refine HList.vals (v := (.bool false)) rfl (HVal.assign' rfl) ?_
  refine HList.nil ?_
  refine nt ?_
  refine HW.seq ?_
  refine HW.region ?_
  refine HList.vals (v := (.int .i64 p0)) rfl (HVal.move' rfl) ?_
  refine HList.vals (v := (.int .i64 p1)) rfl (HVal.move' rfl) ?_
  refine HList.ops' rfl (HOp.call' 8 [(.int .i64 p0), (.int .i64 p1)] (cap := []) rfl rfl Try.call8 (walk8 h)) ?_
  rintro _ H1 ⟨r3, r4, rfl, h⟩
  refine HList.vals (v := (.tuple #[(.pointer r3), (.int .i64 r4)])) rfl (HVal.move' rfl) ?_
  refine HList.vals (v := (.pointer r3)) rfl (HVal.extract rfl rfl) ?_
  refine HList.vals (v := (.int .i64 r4)) rfl (HVal.extract rfl rfl) ?_
  refine HList.vals (v := (.pointer r3)) rfl (HVal.assign' rfl) ?_
  refine HList.vals (v := (.int .i64 r4)) rfl (HVal.assign' rfl) ?_
  refine HList.nil ?_
  refine nt ?_
  refine HW.seq ?_
  refine HW.seq ?_
  refine HW.region ?_
  refine HList.vals (v := (.pointer r3)) rfl (HVal.move' rfl) ?_
  refine HList.vals (v := (.bool (r3.isNone))) rfl (HVal.eqlPN Try.underlying23 rfl rfl) ?_
  refine HList.nil ?_
  refine nt ?_
  obtain ⟨hT, hF⟩ := h
  refine HW.cond (r3.isNone) rfl (fun hb5 => ?_) (fun hb5 => ?_)
  · have h := hT hb5
    clear hT hF
    refine HW.seq ?_
    refine HW.region ?_
    refine HList.vals (v := (.bool false)) rfl (HVal.assign' rfl) ?_
    refine HList.nil ?_
    refine nt ?_
    refine HW.ret ?_
    refine tr ?_
    exact ⟨_, resOf1 rfl Res1.t, ⟨false, rfl, h⟩⟩
  · have h := hF hb5
    clear hT hF
    refine HW.skip ?_
    refine nt ?_
    refine HW.seq ?_
    refine HW.region ?_
    refine HList.vals (v := (Sl.v Sl.nil)) rfl (HVal.assign' rfl) ?_
    refine HList.vals (v := (Sl.v Sl.nil)) rfl (HVal.assign' rfl) ?_
    refine HList.nil ?_
    refine nt ?_
    refine HW.seq ?_
    refine HW.region ?_
    refine HList.vals (v := (.int .i64 0)) rfl (HVal.assign' rfl) ?_
    refine HList.nil ?_
    refine nt ?_
    refine HW.cut (fun ρ H_1 => ∃ (y108 : Sl) (y109 : Sl), Env.Is ρ [(7, (.pointer r3)), (9, (Sl.v y108)), (10, (Sl.v y109))] ∧ F21_1 Q r3 y108 y109 H_1) ?_ ?_
    · refine HW.seq ?_
      refine HW.region ?_
      refine HList.vals (v := (.int .i64 0)) rfl (HVal.assign' rfl) ?_
      refine HList.nil ?_
      refine nt ?_
      refine HW.block ?_
      refine HW.loop' (fun L2 hL2 => ?_)
      obtain ⟨X2, hX2⟩ : ∃ X2 : Sl → Sl → Int → Int → Hp → Prop, ∀ (y7 : Sl) (y8 : Sl) (y9 : Int) (y10 : Int) (H_2 : Hp), X2 y7 y8 y9 y10 H_2 ↔ ∀ ρ, Env.Is ρ [(2, (Sl.v p2)), (7, (.pointer r3)), (9, (Sl.v y7)), (10, (Sl.v y8)), (11, (.int .i64 y9)), (12, (.int .i64 y10))] → L2 ρ H_2 := ⟨_, fun _ _ _ _ _ => Iff.rfl⟩
      refine (hX2 _ _ _ _ _).1 (h X2 ?_) _ ?_
      rotate_left
      · exact ⟨rfl, rfl, rfl, rfl, rfl, rfl, trivial⟩
      clear h
      intro y7 y8 y9 y10 H_2 h
      refine (hX2 _ _ _ _ _).2 fun ρ hI => ?_
      obtain ⟨ρ0, rfl⟩ : ∃ ρ0, ρ = (Env.set (Env.set (Env.set (Env.set (Env.set (Env.set ρ0 12 (.int .i64 y10)) 11 (.int .i64 y9)) 10 (Sl.v y8)) 9 (Sl.v y7)) 7 (.pointer r3)) 2 (Sl.v p2)) := ⟨ρ, hI.eq⟩
      clear hI; unfold F21_L2b at h; refine hL2 _ _ ?_
      refine HW.seq ?_
      refine HW.seq ?_
      refine HW.region ?_
      refine HList.vals (v := (.int .i64 y10)) rfl (HVal.move' rfl) ?_
      refine HList.vals (v := (Sl.v p2)) rfl (HVal.move' rfl) ?_
      refine HList.vals (v := (.int .i64 ((p2).n : Int))) rfl (HVal.len Try.runUnderlying22 rfl) ?_
      refine HList.vals (v := (.bool (decide (y10 < ((p2).n : Int))))) rfl (HVal.lss rfl rfl) ?_
      refine HList.nil ?_
      refine nt ?_
      obtain ⟨hT, hF⟩ := h
      refine HW.cond (decide (y10 < ((p2).n : Int))) rfl (fun hb13 => ?_) (fun hb13 => ?_)
      · have h := hT hb13
        clear hT hF
        refine HW.skip ?_
        refine nt ?_
        refine HW.cut (fun ρ H_3 => ∃ (y79 : Sl) (y80 : Sl) (y81 : Int), Env.Is ρ [(2, (Sl.v p2)), (7, (.pointer r3)), (12, (.int .i64 y10)), (9, (Sl.v y79)), (10, (Sl.v y80)), (11, (.int .i64 y81))] ∧ F21_3 Q X2 p2 r3 y10 y79 y80 y81 H_3) ?_ ?_
        · refine HW.block ?_
          refine HW.seq ?_
          refine HW.region ?_
          refine HList.vals (v := (Sl.v p2)) rfl (HVal.move' rfl) ?_
          refine HList.vals (v := (.int .i64 y10)) rfl (HVal.move' rfl) ?_
          obtain ⟨a17, e18, b19, b20, h⟩ := h
          refine HList.vals (v := (.pointer (some (Addr.add a17 (y10.toNat * 6))))) rfl (HVal.indexAddr Try.runUnderlying22 Try.sizeOf34 (Sl.v_some rfl e18) rfl b19 b20) ?_
          obtain ⟨x22, x23, x24, x25, x26, x27, c21, h⟩ := h
          refine HList.vals (v := (.agg #[(.int .i64 x22), (.bool x23), (.string x24), (.int .i64 x25), (Sl.v x26), (.int .i64 x27)])) rfl (HVal.loadN [(.int .i64 x22), (.bool x23), (.string x24), (.int .i64 x25), (Sl.v x26), (.int .i64 x27)] Try.isAgg34 Try.sizeOf34 rfl c21) ?_
          refine HList.ops' rfl (HOp.alloc Try.zeroValue34) ?_
          rintro _ H28 ⟨rfl, e29⟩
          replace h := h H28 e29
          obtain ⟨z32, h⟩ := h
          refine HList.opsn (HOp.storeN' (l := [(.int .i64 x22), (.bool x23), (.string x24), (.int .i64 x25), (Sl.v x26), (.int .i64 x27)]) Try.sizeOf34 rfl rfl rfl z32) ?_
          rintro _ H30 e31
          replace h := h H30 e31
          refine HList.nil ?_
          refine nt ?_
          refine HW.seq ?_
          refine HW.region ?_
          refine HList.vals (v := (.pointer (some (Addr.add ⟨H_2.size, 0, none⟩ 2)))) rfl (HVal.fieldAddr' Try.runUnderlying34 rfl rfl Try.sizeOf32 rfl) ?_
          obtain ⟨x34, x35, x36, c33, h⟩ := h
          refine HList.vals (v := (.agg #[(.string x34), (.int .i64 x35), (Sl.v x36)])) rfl (HVal.loadN [(.string x34), (.int .i64 x35), (Sl.v x36)] Try.isAgg32 Try.sizeOf32 rfl c33) ?_
          refine HList.ops' rfl (HOp.call' 9 [(.agg #[(.string x34), (.int .i64 x35), (Sl.v x36)])] (cap := []) rfl rfl Try.call9 (walk9 h)) ?_
          rintro _ H37 ⟨r39, r40, r41, r42, rfl, h⟩
          refine HList.vals (v := (.tuple #[(.agg #[(.string r39), (.int .i64 r40), (Sl.v r41)]), (Sl.v r42)])) rfl (HVal.move' rfl) ?_
          refine HList.vals (v := (.agg #[(.string r39), (.int .i64 r40), (Sl.v r41)])) rfl (HVal.extract rfl rfl) ?_
          refine HList.vals (v := (Sl.v r42)) rfl (HVal.extract rfl rfl) ?_
          refine HList.ops' rfl (HOp.alloc Try.zeroValue32) ?_
          rintro _ H43 ⟨rfl, e44⟩
          replace h := h H43 e44
          obtain ⟨z47, h⟩ := h
          refine HList.opsn (HOp.storeN' (l := [(.string r39), (.int .i64 r40), (Sl.v r41)]) Try.sizeOf32 rfl rfl rfl z47) ?_
          rintro _ H45 e46
          replace h := h H45 e46
          refine HList.vals (v := (Sl.v r42)) rfl (HVal.assign' rfl) ?_
          refine HList.nil ?_
          refine nt ?_
          refine HW.seq ?_
          refine HW.region ?_
          obtain ⟨x49, x50, x51, c48, h⟩ := h
          refine HList.vals (v := (.agg #[(.string x49), (.int .i64 x50), (Sl.v x51)])) rfl (HVal.loadN [(.string x49), (.int .i64 x50), (Sl.v x51)] Try.isAgg32 Try.sizeOf32 rfl c48) ?_
          refine HList.vals (v := (.pointer (some (Addr.add ⟨H_2.size, 0, none⟩ 2)))) rfl (HVal.fieldAddr' Try.runUnderlying34 rfl rfl Try.sizeOf32 rfl) ?_
          obtain ⟨z54, h⟩ := h
          refine HList.opsn (HOp.storeN' (l := [(.string x49), (.int .i64 x50), (Sl.v x51)]) Try.sizeOf32 rfl rfl rfl z54) ?_
          rintro _ H52 e53
          replace h := h H52 e53
          refine HList.nil ?_
          refine nt ?_
          refine HW.seq ?_
          refine HW.region ?_
          refine HList.vals (v := (.pointer r3)) rfl (HVal.move' rfl) ?_
          obtain ⟨x56, x57, x58, x59, x60, x61, c55, h⟩ := h
          refine HList.vals (v := (.agg #[(.int .i64 x56), (.bool x57), (.string x58), (.int .i64 x59), (Sl.v x60), (.int .i64 x61)])) rfl (HVal.loadN [(.int .i64 x56), (.bool x57), (.string x58), (.int .i64 x59), (Sl.v x60), (.int .i64 x61)] Try.isAgg34 Try.sizeOf34 rfl c55) ?_
          refine HList.ops' rfl (HOp.call' 10 [(.pointer r3), (.agg #[(.int .i64 x56), (.bool x57), (.string x58), (.int .i64 x59), (Sl.v x60), (.int .i64 x61)])] (cap := []) rfl rfl Try.call10 (walk10 h)) ?_
          rintro _ H62 ⟨r64, rfl, h⟩
          refine HList.vals (v := (Sl.v r64)) rfl (HVal.assign' rfl) ?_
          refine HList.nil ?_
          refine nt ?_
          refine HW.seq ?_
          refine HW.seq ?_
          refine HW.region ?_
          refine HList.vals (v := (Sl.v r42)) rfl (HVal.move' rfl) ?_
          refine HList.vals (v := (Sl.v p2)) rfl (HVal.move' rfl) ?_
          refine HList.vals (v := (.int .i64 y10)) rfl (HVal.move' rfl) ?_
          obtain ⟨a65, e66, b67, b68, h⟩ := h
          refine HList.vals (v := (.pointer (some (Addr.add a65 (y10.toNat * 6))))) rfl (HVal.indexAddr Try.runUnderlying22 Try.sizeOf34 (Sl.v_some rfl e66) rfl b67 b68) ?_
          refine HList.vals (v := (.pointer (some (Addr.add (Addr.add a65 (y10.toNat * 6)) 2)))) rfl (HVal.fieldAddr' Try.runUnderlying34 rfl rfl Try.sizeOf32 rfl) ?_
          obtain ⟨x70, x71, x72, c69, h⟩ := h
          refine HList.vals (v := (.agg #[(.string x70), (.int .i64 x71), (Sl.v x72)])) rfl (HVal.loadN [(.string x70), (.int .i64 x71), (Sl.v x72)] Try.isAgg32 Try.sizeOf32 rfl c69) ?_
          refine HList.ops' rfl (HOp.call' 13 [(Sl.v r42), (.agg #[(.string x70), (.int .i64 x71), (Sl.v x72)])] (cap := []) rfl rfl Try.call13 (walk13 h)) ?_
          rintro _ H73 ⟨r75, rfl, h⟩
          refine HList.vals (v := (.bool (!r75))) rfl (HVal.not rfl) ?_
          refine HList.nil ?_
          refine nt ?_
          obtain ⟨hT, hF⟩ := h
          refine HW.cond (!r75) rfl (fun hb76 => ?_) (fun hb76 => ?_)
          · have h := hT hb76
            clear hT hF
            refine HW.seq ?_
            refine HW.region ?_
            refine HList.vals (v := (.bool false)) rfl (HVal.assign' rfl) ?_
            refine HList.nil ?_
            refine nt ?_
            refine HW.ret ?_
            refine tr ?_
            refine br ?_
            refine tr ?_
            refine tr ?_
            refine br ?_
            refine tr ?_
            exact ⟨_, resOf1 rfl Res1.t, ⟨false, rfl, h⟩⟩
          · have h := hF hb76
            clear hT hF
            refine HW.skip ?_
            refine nt ?_
            refine HW.seq ?_
            refine HW.seq ?_
            refine HW.region ?_
            refine HList.vals (v := (.int .i64 y9)) rfl (HVal.move' rfl) ?_
            refine HList.vals (v := (.bool (decide ((10000 : Int) < y9)))) rfl (HVal.gtr rfl rfl) ?_
            refine HList.vals (v := (.bool (decide ((10000 : Int) < y9)))) rfl (HVal.move' rfl) ?_
            obtain ⟨hT, hF⟩ := h
            rcases Bool.eq_false_or_eq_true (decide ((10000 : Int) < y9)) with hb77 | hb78
            · have h := hT hb77
              clear hT hF
              refine HList.gskips rfl rfl rfl rfl (congrArg Value.bool hb77) ?_
              refine HList.gskips rfl rfl rfl rfl (congrArg Value.bool hb77) ?_
              refine HList.vals (v := (.bool true)) rfl (HVal.pickT rfl hb77 rfl) ?_
              refine HList.nil ?_
              refine nt ?_
              refine HW.condT true rfl rfl ?_
              refine HW.exit ?_
              refine te ?_
              refine be ?_
              refine nt ?_
              exact ⟨y7, y8, y9, ⟨rfl, rfl, rfl, rfl, rfl, rfl, trivial⟩, h⟩
            · have h := hF hb78
              clear hT hF
              refine HList.gvals (v := (.int .i64 y10)) rfl rfl rfl rfl (congrArg Value.bool hb78) (HVal.move' rfl) ?_
              refine HList.gvals (v := (.bool (decide ((10000 : Int) < y10)))) rfl rfl rfl rfl (congrArg Value.bool hb78) (HVal.gtr rfl rfl) ?_
              refine HList.vals (v := (.bool (decide ((10000 : Int) < y10)))) rfl (HVal.pickF rfl hb78 rfl) ?_
              refine HList.nil ?_
              refine nt ?_
              obtain ⟨hT, hF⟩ := h
              refine HW.cond (decide ((10000 : Int) < y10)) rfl (fun hb82 => ?_) (fun hb82 => ?_)
              · have h := hT hb82
                clear hT hF
                refine HW.exit ?_
                refine te ?_
                refine be ?_
                refine nt ?_
                exact ⟨y7, y8, y9, ⟨rfl, rfl, rfl, rfl, rfl, rfl, trivial⟩, h⟩
              · have h := hF hb82
                clear hT hF
                refine HW.skip ?_
                refine nt ?_
                refine HW.seq ?_
                refine HW.region ?_
                refine HList.vals (v := (.pointer r3)) rfl (HVal.move' rfl) ?_
                refine HList.ops' rfl (HOp.call' 19 [(.pointer r3)] (cap := []) rfl rfl Try.call19 (walk19 h)) ?_
                rintro _ H83 ⟨r85, rfl, h⟩
                refine HList.vals (v := (Sl.v r85)) rfl (HVal.assign' rfl) ?_
                refine HList.nil ?_
                refine nt ?_
                refine HW.seq ?_
                refine HW.region ?_
                refine HList.vals (v := (.pointer r3)) rfl (HVal.move' rfl) ?_
                refine HList.ops' rfl (HOp.call' 19 [(.pointer r3)] (cap := []) rfl rfl Try.call19 (walk19 h)) ?_
                rintro _ H86 ⟨r88, rfl, h⟩
                refine HList.vals (v := (Sl.v r88)) rfl (HVal.assign' rfl) ?_
                refine HList.nil ?_
                refine nt ?_
                refine HW.seq ?_
                refine HW.region ?_
                refine HList.vals (v := (Sl.v y7)) rfl (HVal.move' rfl) ?_
                refine HList.vals (v := (Sl.v r64)) rfl (HVal.move' rfl) ?_
                refine HList.vals (v := (Sl.v r85)) rfl (HVal.move' rfl) ?_
                refine HList.vals (v := (Sl.v r88)) rfl (HVal.move' rfl) ?_
                refine HList.ops' rfl (HOp.buildSlice' (zs := [(Sl.v Sl.nil), (Sl.v Sl.nil), (Sl.v Sl.nil)]) (cs := [(Sl.v r64), (Sl.v r85), (Sl.v r88)]) Try.runUnderlying42 Try.sizeOf50 Try.zeroValue50 (by decide) (by kernel_rfl) rfl (by decide)) ?_
                rintro _ H89 ⟨rfl, e90⟩
                replace h := h H89 e90
                refine HList.ops' rfl (HOp.append (k := 1) (b := 24) Try.runUnderlying42 Try.runUnderlying42 Try.typeInfo50 rfl rfl Try.zeroValue50 rfl rfl h) ?_
                rintro _ H91 ⟨r93, rfl, h⟩
                refine HList.vals (v := (Sl.v r93)) rfl (HVal.assign' rfl) ?_
                refine HList.nil ?_
                refine nt ?_
                refine HW.seq ?_
                refine HW.region ?_
                refine HList.vals (v := (Sl.v y8)) rfl (HVal.move' rfl) ?_
                refine HList.vals (v := (Sl.v r64)) rfl (HVal.move' rfl) ?_
                refine HList.ops' rfl (HOp.call' 38 [(Sl.v r64)] (cap := []) rfl rfl Try.call38 (walk38 h)) ?_
                rintro _ H94 ⟨r96, rfl, h⟩
                refine HList.vals (v := (Sl.v r85)) rfl (HVal.move' rfl) ?_
                refine HList.ops' rfl (HOp.call' 38 [(Sl.v r85)] (cap := []) rfl rfl Try.call38 (walk38 h)) ?_
                rintro _ H97 ⟨r99, rfl, h⟩
                refine HList.vals (v := (Sl.v r88)) rfl (HVal.move' rfl) ?_
                refine HList.ops' rfl (HOp.call' 38 [(Sl.v r88)] (cap := []) rfl rfl Try.call38 (walk38 h)) ?_
                rintro _ H100 ⟨r102, rfl, h⟩
                refine HList.ops' rfl (HOp.buildSlice' (zs := [(Sl.v Sl.nil), (Sl.v Sl.nil), (Sl.v Sl.nil)]) (cs := [(Sl.v r96), (Sl.v r99), (Sl.v r102)]) Try.runUnderlying42 Try.sizeOf50 Try.zeroValue50 (by decide) (by kernel_rfl) rfl (by decide)) ?_
                rintro _ H103 ⟨rfl, e104⟩
                replace h := h H103 e104
                refine HList.ops' rfl (HOp.append (k := 1) (b := 24) Try.runUnderlying42 Try.runUnderlying42 Try.typeInfo50 rfl rfl Try.zeroValue50 rfl rfl h) ?_
                rintro _ H105 ⟨r107, rfl, h⟩
                refine HList.vals (v := (Sl.v r107)) rfl (HVal.assign' rfl) ?_
                refine HList.nil ?_
                refine nt ?_
                refine HW.region ?_
                refine HList.vals (v := (.int .i64 y9)) rfl (HVal.move' rfl) ?_
                refine HList.vals (v := (Sl.v r64)) rfl (HVal.move' rfl) ?_
                refine HList.vals (v := (.int .i64 ((r64).n : Int))) rfl (HVal.len Try.runUnderlying50 rfl) ?_
                refine HList.vals (v := (.int .i64 (IntKind.i64.wrap (y9 + ((r64).n : Int))))) rfl (HVal.add rfl rfl) ?_
                refine HList.vals (v := (Sl.v r85)) rfl (HVal.move' rfl) ?_
                refine HList.vals (v := (.int .i64 ((r85).n : Int))) rfl (HVal.len Try.runUnderlying50 rfl) ?_
                refine HList.vals (v := (.int .i64 (IntKind.i64.wrap ((IntKind.i64.wrap (y9 + ((r64).n : Int))) + ((r85).n : Int))))) rfl (HVal.add rfl rfl) ?_
                refine HList.vals (v := (Sl.v r88)) rfl (HVal.move' rfl) ?_
                refine HList.vals (v := (.int .i64 ((r88).n : Int))) rfl (HVal.len Try.runUnderlying50 rfl) ?_
                refine HList.vals (v := (.int .i64 (IntKind.i64.wrap ((IntKind.i64.wrap ((IntKind.i64.wrap (y9 + ((r64).n : Int))) + ((r85).n : Int))) + ((r88).n : Int))))) rfl (HVal.add rfl rfl) ?_
                refine HList.vals (v := (.int .i64 (IntKind.i64.wrap ((IntKind.i64.wrap ((IntKind.i64.wrap (y9 + ((r64).n : Int))) + ((r85).n : Int))) + ((r88).n : Int))))) rfl (HVal.assign' rfl) ?_
                refine HList.nil ?_
                refine nb ?_
                refine nt ?_
                exact ⟨r93, r107, (IntKind.i64.wrap ((IntKind.i64.wrap ((IntKind.i64.wrap (y9 + ((r64).n : Int))) + ((r85).n : Int))) + ((r88).n : Int))), ⟨rfl, rfl, rfl, rfl, rfl, rfl, trivial⟩, h⟩
        · rintro ρ H_3 ⟨y79, y80, y81, hI, h⟩
          obtain ⟨ρ0, rfl⟩ : ∃ ρ0, ρ = (Env.set (Env.set (Env.set (Env.set (Env.set (Env.set ρ0 11 (.int .i64 y81)) 10 (Sl.v y80)) 9 (Sl.v y79)) 12 (.int .i64 y10)) 7 (.pointer r3)) 2 (Sl.v p2)) := ⟨ρ, hI.eq⟩
          clear hI; unfold F21_3 at h
          refine HW.region ?_
          refine HList.vals (v := (.int .i64 y10)) rfl (HVal.move' rfl) ?_
          refine HList.vals (v := (.int .i64 (IntKind.i64.wrap (y10 + 1)))) rfl (HVal.add rfl rfl) ?_
          refine HList.vals (v := (.int .i64 (IntKind.i64.wrap (y10 + 1)))) rfl (HVal.assign' rfl) ?_
          refine HList.nil ?_
          refine nt ?_
          exact (hX2 _ _ _ _ _).1 h _ ⟨rfl, rfl, rfl, rfl, rfl, rfl, trivial⟩
      · have h := hF hb13
        clear hT hF
        refine HW.exit ?_
        refine te ?_
        refine te ?_
        refine be ?_
        refine nt ?_
        exact ⟨y7, y8, ⟨rfl, rfl, rfl, trivial⟩, h⟩
    · rintro ρ H_1 ⟨y108, y109, hI, h⟩
      obtain ⟨ρ0, rfl⟩ : ∃ ρ0, ρ = (Env.set (Env.set (Env.set ρ0 10 (Sl.v y109)) 9 (Sl.v y108)) 7 (.pointer r3)) := ⟨ρ, hI.eq⟩
      clear hI; unfold F21_1 at h
      refine HW.seq ?_
      refine HW.region ?_
      refine HList.vals (v := (.agg #[(Sl.v Sl.nil), (Sl.v Sl.nil), (.int .i64 0), (.int .i64 0), (.int .i64 0)])) rfl (HVal.build' (cs := [(Sl.v Sl.nil), (Sl.v Sl.nil), (.int .i64 0), (.int .i64 0), (.int .i64 0)]) Try.runUnderlying45 Try.zeroValue45 places45 rfl) ?_
      refine HList.ops' rfl (HOp.box (v := (.agg #[(Sl.v Sl.nil), (Sl.v Sl.nil), (.int .i64 0), (.int .i64 0), (.int .i64 0)])) rfl) ?_
      rintro _ H110 ⟨rfl, e111⟩
      replace h := h H110 e111
      refine HList.vals (v := (.pointer (some ⟨H_1.size, 0, none⟩))) rfl (HVal.assign' rfl) ?_
      refine HList.nil ?_
      refine nt ?_
      refine HW.cut (fun ρ H_4 => Env.Is ρ [(7, (.pointer r3)), (9, (Sl.v y108)), (19, (.pointer (some ⟨H_1.size, 0, none⟩)))] ∧ F21_4 Q r3 y108 ⟨H_1.size, 0, none⟩ H_4) ?_ ?_
      · refine HW.seq ?_
        refine HW.region ?_
        refine HList.vals (v := (.int .i64 0)) rfl (HVal.assign' rfl) ?_
        refine HList.nil ?_
        refine nt ?_
        refine HW.block ?_
        refine HW.loop' (fun L5 hL5 => ?_)
        obtain ⟨X5, hX5⟩ : ∃ X5 : Int → Hp → Prop, ∀ (y115 : Int) (H_5 : Hp), X5 y115 H_5 ↔ ∀ ρ, Env.Is ρ [(7, (.pointer r3)), (9, (Sl.v y108)), (10, (Sl.v y109)), (19, (.pointer (some ⟨H_1.size, 0, none⟩))), (20, (.int .i64 y115))] → L5 ρ H_5 := ⟨_, fun _ _ => Iff.rfl⟩
        refine (hX5 _ _).1 (h X5 ?_) _ ?_
        rotate_left
        · exact ⟨rfl, rfl, rfl, rfl, rfl, trivial⟩
        clear h
        intro y115 H_5 h
        refine (hX5 _ _).2 fun ρ hI => ?_
        obtain ⟨ρ0, rfl⟩ : ∃ ρ0, ρ = (Env.set (Env.set (Env.set (Env.set (Env.set ρ0 20 (.int .i64 y115)) 19 (.pointer (some ⟨H_1.size, 0, none⟩))) 10 (Sl.v y109)) 9 (Sl.v y108)) 7 (.pointer r3)) := ⟨ρ, hI.eq⟩
        clear hI; unfold F21_L5b at h; refine hL5 _ _ ?_
        refine HW.seq ?_
        refine HW.seq ?_
        refine HW.region ?_
        refine HList.vals (v := (.int .i64 y115)) rfl (HVal.move' rfl) ?_
        refine HList.vals (v := (Sl.v y108)) rfl (HVal.move' rfl) ?_
        refine HList.vals (v := (.int .i64 ((y108).n : Int))) rfl (HVal.len Try.runUnderlying42 rfl) ?_
        refine HList.vals (v := (.bool (decide (y115 < ((y108).n : Int))))) rfl (HVal.lss rfl rfl) ?_
        refine HList.nil ?_
        refine nt ?_
        obtain ⟨hT, hF⟩ := h
        refine HW.cond (decide (y115 < ((y108).n : Int))) rfl (fun hb120 => ?_) (fun hb120 => ?_)
        · have h := hT hb120
          clear hT hF
          refine HW.skip ?_
          refine nt ?_
          refine HW.seq ?_
          refine HW.block ?_
          refine HW.seq ?_
          refine HW.draw mixed [(0, some []), (1, some []), (2, some []), (3, some [8]), (4, some []), (5, some []), (6, some []), (7, some [8]), (8, none), (9, some [])] rfl (by kernel_rfl) (by kernel_rfl) ?_
          refine HPlan.takev (v := (Sl.v y108)) rfl rfl (fun _ => HVal.move' rfl) ?_
          refine HPlan.takev (v := (.int .i64 y115)) rfl rfl (fun _ => HVal.move' rfl) ?_
          obtain ⟨a121, e122, b123, b124, h⟩ := h
          refine HPlan.takev (v := (.pointer (some (Addr.add a121 (y115.toNat * 1))))) rfl rfl (fun _ => HVal.indexAddr Try.runUnderlying42 Try.sizeOf50 (Sl.v_some rfl e122) rfl b123 b124) ?_
          obtain ⟨x126, c125, h⟩ := h
          refine HPlan.takel (v := (Sl.v x126)) (fun X => cell X (Addr.add a121 (y115.toNat * 1)) = some (Sl.v x126)) rfl rfl (fun _ hX => HVal.load1 Try.isAgg50 rfl hX) c125 ?_
          refine HPlan.takev (v := (Sl.v y109)) rfl rfl (fun _ => HVal.move' rfl) ?_
          refine HPlan.takev (v := (.int .i64 y115)) rfl rfl (fun _ => HVal.move' rfl) ?_
          obtain ⟨a127, e128, b129, b130, h⟩ := h
          refine HPlan.takev (v := (.pointer (some (Addr.add a127 (y115.toNat * 1))))) rfl rfl (fun _ => HVal.indexAddr Try.runUnderlying42 Try.sizeOf50 (Sl.v_some rfl e128) rfl b129 b130) ?_
          obtain ⟨x132, c131, h⟩ := h
          refine HPlan.takel (v := (Sl.v x132)) (fun X => cell X (Addr.add a127 (y115.toNat * 1)) = some (Sl.v x132)) rfl rfl (fun _ hX => HVal.load1 Try.isAgg50 rfl hX) c131 ?_
          refine HPlan.ops' rfl rfl (HOp.call' 12 [(Sl.v x126), (Sl.v x132)] (cap := []) rfl rfl Try.call12 (walk12 h)) ?_
          rintro _ H133 ⟨r135, rfl, h⟩
          refine ⟨SC_of ⟨fun e => absurd e (by decide), fun e => absurd e (by decide), trivial⟩, ?_⟩
          refine HPlan.takev (v := (.bool (!r135))) rfl rfl (fun _ => HVal.not rfl) ?_
          refine HPlan.done ?_
          refine nt ?_
          obtain ⟨hT, hF⟩ := h
          refine HW.cond (!r135) rfl (fun hb136 => ?_) (fun hb136 => ?_)
          · have h := hT hb136
            clear hT hF
            refine HW.seq ?_
            refine HW.region ?_
            refine HList.vals (v := (.bool false)) rfl (HVal.assign' rfl) ?_
            refine HList.nil ?_
            refine nt ?_
            refine HW.ret ?_
            refine br ?_
            refine tr ?_
            refine tr ?_
            refine br ?_
            refine tr ?_
            exact ⟨_, resOf1 rfl Res1.t, ⟨false, rfl, h⟩⟩
          · have h := hF hb136
            clear hT hF
            refine HW.skip ?_
            refine nb ?_
            refine nt ?_
            refine HW.region ?_
            refine HList.vals (v := (.int .i64 y115)) rfl (HVal.move' rfl) ?_
            refine HList.vals (v := (.int .i64 (IntKind.i64.wrap (y115 + 1)))) rfl (HVal.add rfl rfl) ?_
            refine HList.vals (v := (.int .i64 (IntKind.i64.wrap (y115 + 1)))) rfl (HVal.assign' rfl) ?_
            refine HList.nil ?_
            refine nt ?_
            exact (hX5 _ _).1 h _ ⟨rfl, rfl, rfl, rfl, rfl, trivial⟩
        · have h := hF hb120
          clear hT hF
          refine HW.exit ?_
          refine te ?_
          refine te ?_
          refine be ?_
          refine nt ?_
          exact ⟨⟨rfl, rfl, rfl, trivial⟩, h⟩
      · rintro ρ H_4 ⟨hI, h⟩
        obtain ⟨ρ0, rfl⟩ : ∃ ρ0, ρ = (Env.set (Env.set (Env.set ρ0 19 (.pointer (some ⟨H_1.size, 0, none⟩))) 9 (Sl.v y108)) 7 (.pointer r3)) := ⟨ρ, hI.eq⟩
        clear hI; unfold F21_4 at h
        refine HW.seq ?_
        refine HW.region ?_
        refine HList.vals (v := (.pointer r3)) rfl (HVal.move' rfl) ?_
        refine HList.ops' rfl (HOp.call' 19 [(.pointer r3)] (cap := []) rfl rfl Try.call19 (walk19 h)) ?_
        rintro _ H137 ⟨r139, rfl, h⟩
        refine HList.ops' rfl (HOp.call' 38 [(Sl.v r139)] (cap := []) rfl rfl Try.call38 (walk38 h)) ?_
        rintro _ H140 ⟨r142, rfl, h⟩
        refine HList.vals (v := (Sl.v r142)) rfl (HVal.assign' rfl) ?_
        refine HList.nil ?_
        refine nt ?_
        refine HW.cut (fun ρ H_6 => Env.Is ρ [(7, (.pointer r3)), (19, (.pointer (some ⟨H_1.size, 0, none⟩))), (21, (Sl.v r142))] ∧ F21_6 Q r3 ⟨H_1.size, 0, none⟩ r142 H_6) ?_ ?_
        · refine HW.seq ?_
          refine HW.region ?_
          refine HList.vals (v := (.int .i64 0)) rfl (HVal.assign' rfl) ?_
          refine HList.nil ?_
          refine nt ?_
          refine HW.block ?_
          refine HW.loop' (fun L7 hL7 => ?_)
          obtain ⟨X7, hX7⟩ : ∃ X7 : Int → Hp → Prop, ∀ (y146 : Int) (H_7 : Hp), X7 y146 H_7 ↔ ∀ ρ, Env.Is ρ [(7, (.pointer r3)), (9, (Sl.v y108)), (19, (.pointer (some ⟨H_1.size, 0, none⟩))), (21, (Sl.v r142)), (22, (.int .i64 y146))] → L7 ρ H_7 := ⟨_, fun _ _ => Iff.rfl⟩
          refine (hX7 _ _).1 (h X7 ?_) _ ?_
          rotate_left
          · exact ⟨rfl, rfl, rfl, rfl, rfl, trivial⟩
          clear h
          intro y146 H_7 h
          refine (hX7 _ _).2 fun ρ hI => ?_
          obtain ⟨ρ0, rfl⟩ : ∃ ρ0, ρ = (Env.set (Env.set (Env.set (Env.set (Env.set ρ0 22 (.int .i64 y146)) 21 (Sl.v r142)) 19 (.pointer (some ⟨H_1.size, 0, none⟩))) 9 (Sl.v y108)) 7 (.pointer r3)) := ⟨ρ, hI.eq⟩
          clear hI; unfold F21_L7b at h; refine hL7 _ _ ?_
          refine HW.seq ?_
          refine HW.seq ?_
          refine HW.region ?_
          refine HList.vals (v := (.int .i64 y146)) rfl (HVal.move' rfl) ?_
          refine HList.vals (v := (Sl.v y108)) rfl (HVal.move' rfl) ?_
          refine HList.vals (v := (.int .i64 ((y108).n : Int))) rfl (HVal.len Try.runUnderlying42 rfl) ?_
          refine HList.vals (v := (.bool (decide (y146 < ((y108).n : Int))))) rfl (HVal.lss rfl rfl) ?_
          refine HList.nil ?_
          refine nt ?_
          obtain ⟨hT, hF⟩ := h
          refine HW.cond (decide (y146 < ((y108).n : Int))) rfl (fun hb151 => ?_) (fun hb151 => ?_)
          · have h := hT hb151
            clear hT hF
            refine HW.skip ?_
            refine nt ?_
            refine HW.seq ?_
            refine HW.block ?_
            refine HW.region ?_
            refine HList.vals (v := (.pointer (some ⟨H_1.size, 0, none⟩))) rfl (HVal.move' rfl) ?_
            refine HList.vals (v := (Sl.v y108)) rfl (HVal.move' rfl) ?_
            refine HList.vals (v := (.int .i64 y146)) rfl (HVal.move' rfl) ?_
            obtain ⟨a152, e153, b154, b155, h⟩ := h
            refine HList.vals (v := (.pointer (some (Addr.add a152 (y146.toNat * 1))))) rfl (HVal.indexAddr Try.runUnderlying42 Try.sizeOf50 (Sl.v_some rfl e153) rfl b154 b155) ?_
            obtain ⟨x157, c156, h⟩ := h
            refine HList.vals (v := (Sl.v x157)) rfl (HVal.load1 Try.isAgg50 rfl c156) ?_
            refine HList.ops' rfl (HOp.call' 32 [(.pointer (some ⟨H_1.size, 0, none⟩)), (Sl.v x157)] (cap := []) rfl rfl Try.call32 (walk32 h)) ?_
            rintro _ H158 ⟨rfl, h⟩
            refine HList.nil ?_
            refine nb ?_
            refine nt ?_
            refine HW.region ?_
            refine HList.vals (v := (.int .i64 y146)) rfl (HVal.move' rfl) ?_
            refine HList.vals (v := (.int .i64 (IntKind.i64.wrap (y146 + 1)))) rfl (HVal.add rfl rfl) ?_
            refine HList.vals (v := (.int .i64 (IntKind.i64.wrap (y146 + 1)))) rfl (HVal.assign' rfl) ?_
            refine HList.nil ?_
            refine nt ?_
            exact (hX7 _ _).1 h _ ⟨rfl, rfl, rfl, rfl, rfl, trivial⟩
          · have h := hF hb151
            clear hT hF
            refine HW.exit ?_
            refine te ?_
            refine te ?_
            refine be ?_
            refine nt ?_
            exact ⟨⟨rfl, rfl, rfl, trivial⟩, h⟩
        · rintro ρ H_6 ⟨hI, h⟩
          obtain ⟨ρ0, rfl⟩ : ∃ ρ0, ρ = (Env.set (Env.set (Env.set ρ0 21 (Sl.v r142)) 19 (.pointer (some ⟨H_1.size, 0, none⟩))) 7 (.pointer r3)) := ⟨ρ, hI.eq⟩
          clear hI; unfold F21_6 at h
          refine HW.seq ?_
          refine HW.region ?_
          refine HList.vals (v := (.pointer (some ⟨H_1.size, 0, none⟩))) rfl (HVal.move' rfl) ?_
          refine HList.ops' rfl (HOp.call' 33 [(.pointer (some ⟨H_1.size, 0, none⟩))] (cap := []) rfl rfl Try.call33 (walk33 h)) ?_
          rintro _ H160 ⟨rfl, h⟩
          refine HList.nil ?_
          refine nt ?_
          refine HW.seq ?_
          refine HW.region ?_
          refine HList.vals (v := (.pointer (some ⟨H_1.size, 0, none⟩))) rfl (HVal.move' rfl) ?_
          refine HList.ops' rfl (HOp.call' 17 [(.pointer (some ⟨H_1.size, 0, none⟩))] (cap := []) rfl rfl Try.call17 (walk17 h)) ?_
          rintro _ H162 ⟨r164, rfl, h⟩
          refine HList.vals (v := (.bool r164)) rfl (HVal.move' rfl) ?_
          obtain ⟨hT, hF⟩ := h
          rcases Bool.eq_false_or_eq_true r164 with hb165 | hb166
          · have h := hT hb165
            clear hT hF
            refine HList.gvals (v := (.pointer r3)) rfl rfl rfl rfl (congrArg Value.bool hb165) (HVal.move' rfl) ?_
            refine HList.gops rfl rfl rfl rfl (congrArg Value.bool hb165) (HOp.call' 19 [(.pointer r3)] (cap := []) rfl rfl Try.call19 (walk19 h)) ?_
            rintro _ H167 ⟨r169, rfl, h⟩
            refine HList.gvals (v := (Sl.v r142)) rfl rfl rfl rfl (congrArg Value.bool hb165) (HVal.move' rfl) ?_
            refine HList.gops rfl rfl rfl rfl (congrArg Value.bool hb165) (HOp.call' 12 [(Sl.v r169), (Sl.v r142)] (cap := []) rfl rfl Try.call12 (walk12 h)) ?_
            rintro _ H170 ⟨r172, rfl, h⟩
            refine HList.vals (v := (.bool r172)) rfl (HVal.pickT rfl hb165 rfl) ?_
            refine HList.vals (v := (.bool r172)) rfl (HVal.assign' rfl) ?_
            refine HList.nil ?_
            refine nt ?_
            refine HW.ret ?_
            exact ⟨_, resOf1 rfl Res1.t, ⟨r172, rfl, h⟩⟩
          · have h := hF hb166
            clear hT hF
            refine HList.gskips rfl rfl rfl rfl (congrArg Value.bool hb166) ?_
            refine HList.gskips rfl rfl rfl rfl (congrArg Value.bool hb166) ?_
            refine HList.gskips rfl rfl rfl rfl (congrArg Value.bool hb166) ?_
            refine HList.gskips rfl rfl rfl rfl (congrArg Value.bool hb166) ?_
            refine HList.vals (v := (.bool false)) rfl (HVal.pickF rfl hb166 rfl) ?_
            refine HList.vals (v := (.bool false)) rfl (HVal.assign' rfl) ?_
            refine HList.nil ?_
            refine nt ?_
            refine HW.ret ?_
            exact ⟨_, resOf1 rfl Res1.t, ⟨false, rfl, h⟩⟩

end Go.Hw
