/- The walks of this seat, printed by a program of this session (wip/tools/gen.py): of each function what it does to the heap, and that it does so. -/
import Derived.Test.YtjeponambmjhcaaDoorHwG
import Derived.Test.YtjeponambmjhcaaDoorProg
import Derived.Test.YtjeponambmjhcaaDoorWAux
import Derived.Test.YtjeponambmjhcaaDoorWLib
set_option linter.unusedVariables false
set_option linter.unusedSimpArgs false
namespace Go.Hw
open Go Go.Proofs
def F19 (p0_0 : Int) (p0_1 : ByteArray) (p0_2 : Int) (p0_3 : Sl) (p1_0 : Int) (p1_1 : ByteArray) (p1_2 : Int) (p1_3 : Sl) (H : Hp) (Q : Bool → Hp → Prop) : Prop :=
∀ H1 : Hp, H1 = Array.push H (.cells #[(.int .i64 p0_0), (.string p0_1), (.int .i64 p0_2), (Sl.v p0_3)] 56) → (
 ∀ H3 : Hp, H3 = Array.push H1 (.cells #[(.int .i64 p1_0), (.string p1_1), (.int .i64 p1_2), (Sl.v p1_3)] 56) → (
 ∃ x6 : Int, cell H3 (Addr.add (Addr.add ⟨H.size, 0, none⟩ 1) 1) = some (.int .i64 x6) ∧ (
 ∃ x8 : Int, cell H3 (Addr.add (Addr.add ⟨H1.size, 0, none⟩ 1) 1) = some (.int .i64 x8) ∧ (
 ((decide (x6 < x8)) = true → (Q true H3)) ∧
 ((decide (x6 < x8)) = false → (∃ x12 : Int, cell H3 (Addr.add (Addr.add ⟨H.size, 0, none⟩ 1) 1) = some (.int .i64 x12) ∧ (
 ∃ x14 : Int, cell H3 (Addr.add (Addr.add ⟨H1.size, 0, none⟩ 1) 1) = some (.int .i64 x14) ∧ (
 ((decide (x12 = x14)) = true → (∃ x18 : Int, cell H3 ⟨H.size, 0, none⟩ = some (.int .i64 x18) ∧ (
 ∃ x20 : Int, cell H3 ⟨H1.size, 0, none⟩ = some (.int .i64 x20) ∧ (
 Q (decide (x18 < x20)) H3)))) ∧
 ((decide (x12 = x14)) = false → (Q false H3))))))))))
set_option maxRecDepth 100000 in
set_option maxHeartbeats 4000000 in
theorem walk19 {w0 : World} {p0_0 : Int} {p0_1 : ByteArray} {p0_2 : Int} {p0_3 : Sl} {p1_0 : Int} {p1_1 : ByteArray} {p1_2 : Int} {p1_3 : Sl} {H : Hp} {Q : Bool → Hp → Prop} (h : F19 p0_0 p0_1 p0_2 p0_3 p1_0 p1_1 p1_2 p1_3 H Q) :
    Good Tryd.prog w0 19 #[(.agg #[(.int .i64 p0_0), (.string p0_1), (.int .i64 p0_2), (Sl.v p0_3)]), (.agg #[(.int .i64 p1_0), (.string p1_1), (.int .i64 p1_2), (Sl.v p1_3)])] H (fun v H => ∃ (r0 : Bool) , v = (.bool r0) ∧ Q r0 H) := by
  unfold F19 at h
  refine Good.enter' (fn := Tryd.f19) Tryd.func19 rfl rfl rfl ?_
  refine HW.seq ?_
  refine HW.region ?_
  refine HList.ops' rfl (HOp.box (v := (.agg #[(.int .i64 p0_0), (.string p0_1), (.int .i64 p0_2), (Sl.v p0_3)])) rfl) ?_
  rintro _ H1 ⟨rfl, e2⟩
  replace h := h H1 e2
  refine HList.ops' rfl (HOp.box (v := (.agg #[(.int .i64 p1_0), (.string p1_1), (.int .i64 p1_2), (Sl.v p1_3)])) rfl) ?_
  rintro _ H3 ⟨rfl, e4⟩
  replace h := h H3 e4
  refine HList.vals (v := (.bool false)) rfl (HVal.assign' rfl) ?_
  refine HList.nil ?_
  refine nt ?_
  refine HW.seq ?_
  refine HW.region ?_
  refine HList.vals (v := (.pointer (some (Addr.add ⟨H.size, 0, none⟩ 1)))) rfl (HVal.fieldAddr' Tryd.runUnderlying56 rfl rfl Tryd.sizeOf33 rfl) ?_
  refine HList.vals (v := (.pointer (some (Addr.add (Addr.add ⟨H.size, 0, none⟩ 1) 1)))) rfl (HVal.fieldAddr' Tryd.runUnderlying33 rfl rfl Tryd.sizeOf2 rfl) ?_
  obtain ⟨x6, c5, h⟩ := h
  refine HList.vals (v := (.int .i64 x6)) rfl (HVal.load1 Tryd.isAgg2 rfl c5) ?_
  refine HList.vals (v := (.pointer (some (Addr.add ⟨H1.size, 0, none⟩ 1)))) rfl (HVal.fieldAddr' Tryd.runUnderlying56 rfl rfl Tryd.sizeOf33 rfl) ?_
  refine HList.vals (v := (.pointer (some (Addr.add (Addr.add ⟨H1.size, 0, none⟩ 1) 1)))) rfl (HVal.fieldAddr' Tryd.runUnderlying33 rfl rfl Tryd.sizeOf2 rfl) ?_
  obtain ⟨x8, c7, h⟩ := h
  refine HList.vals (v := (.int .i64 x8)) rfl (HVal.load1 Tryd.isAgg2 rfl c7) ?_
  refine HList.vals (v := (.bool (decide (x6 < x8)))) rfl (HVal.lss rfl rfl) ?_
  refine HList.vals (v := (.bool (decide (x6 < x8)))) rfl (HVal.move' rfl) ?_
  obtain ⟨hT, hF⟩ := h
  rcases Bool.eq_false_or_eq_true (decide (x6 < x8)) with hb9 | hb10
  · have h := hT hb9
    clear hT hF
    refine HList.gskips rfl rfl rfl rfl (congrArg Value.bool hb9) ?_
    refine HList.gskips rfl rfl rfl rfl (congrArg Value.bool hb9) ?_
    refine HList.gskips rfl rfl rfl rfl (congrArg Value.bool hb9) ?_
    refine HList.gskips rfl rfl rfl rfl (congrArg Value.bool hb9) ?_
    refine HList.gskips rfl rfl rfl rfl (congrArg Value.bool hb9) ?_
    refine HList.gskips rfl rfl rfl rfl (congrArg Value.bool hb9) ?_
    refine HList.gskips rfl rfl rfl rfl (congrArg Value.bool hb9) ?_
    refine HList.gskips rfl rfl rfl rfl (congrArg Value.bool hb9) ?_
    refine HList.uskips rfl rfl rfl rfl rfl ?_
    refine HList.uskips rfl rfl rfl rfl rfl ?_
    refine HList.uskips rfl rfl rfl rfl rfl ?_
    refine HList.uskips rfl rfl rfl rfl rfl ?_
    refine HList.uskips rfl rfl rfl rfl rfl ?_
    refine HList.gskips rfl rfl rfl rfl (congrArg Value.bool hb9) ?_
    refine HList.vals (v := (.bool true)) rfl (HVal.pickT rfl hb9 rfl) ?_
    refine HList.vals (v := (.bool true)) rfl (HVal.assign' rfl) ?_
    refine HList.nil ?_
    refine nt ?_
    refine HW.ret ?_
    exact ⟨_, resOf1 rfl Res1.t, ⟨true, rfl, h⟩⟩
  · have h := hF hb10
    clear hT hF
    refine HList.gvals (v := (.pointer (some (Addr.add ⟨H.size, 0, none⟩ 1)))) rfl rfl rfl rfl (congrArg Value.bool hb10) (HVal.fieldAddr' Tryd.runUnderlying56 rfl rfl Tryd.sizeOf33 rfl) ?_
    refine HList.gvals (v := (.pointer (some (Addr.add (Addr.add ⟨H.size, 0, none⟩ 1) 1)))) rfl rfl rfl rfl (congrArg Value.bool hb10) (HVal.fieldAddr' Tryd.runUnderlying33 rfl rfl Tryd.sizeOf2 rfl) ?_
    obtain ⟨x12, c11, h⟩ := h
    refine HList.gvals (v := (.int .i64 x12)) rfl rfl rfl rfl (congrArg Value.bool hb10) (HVal.load1 Tryd.isAgg2 rfl c11) ?_
    refine HList.gvals (v := (.pointer (some (Addr.add ⟨H1.size, 0, none⟩ 1)))) rfl rfl rfl rfl (congrArg Value.bool hb10) (HVal.fieldAddr' Tryd.runUnderlying56 rfl rfl Tryd.sizeOf33 rfl) ?_
    refine HList.gvals (v := (.pointer (some (Addr.add (Addr.add ⟨H1.size, 0, none⟩ 1) 1)))) rfl rfl rfl rfl (congrArg Value.bool hb10) (HVal.fieldAddr' Tryd.runUnderlying33 rfl rfl Tryd.sizeOf2 rfl) ?_
    obtain ⟨x14, c13, h⟩ := h
    refine HList.gvals (v := (.int .i64 x14)) rfl rfl rfl rfl (congrArg Value.bool hb10) (HVal.load1 Tryd.isAgg2 rfl c13) ?_
    refine HList.gvals (v := (.bool (decide (x12 = x14)))) rfl rfl rfl rfl (congrArg Value.bool hb10) (HVal.eqlI rfl rfl) ?_
    refine HList.gvals (v := (.bool (decide (x12 = x14)))) rfl rfl rfl rfl (congrArg Value.bool hb10) (HVal.move' rfl) ?_
    obtain ⟨hT, hF⟩ := h
    rcases Bool.eq_false_or_eq_true (decide (x12 = x14)) with hb15 | hb16
    · have h := hT hb15
      clear hT hF
      refine HList.gvals (v := (.pointer (some ⟨H.size, 0, none⟩))) rfl rfl rfl rfl (congrArg Value.bool hb15) (HVal.fieldAddr0 Tryd.runUnderlying56 rfl rfl Tryd.sizeOf2 rfl) ?_
      obtain ⟨x18, c17, h⟩ := h
      refine HList.gvals (v := (.int .i64 x18)) rfl rfl rfl rfl (congrArg Value.bool hb15) (HVal.load1 Tryd.isAgg2 rfl c17) ?_
      refine HList.gvals (v := (.pointer (some ⟨H1.size, 0, none⟩))) rfl rfl rfl rfl (congrArg Value.bool hb15) (HVal.fieldAddr0 Tryd.runUnderlying56 rfl rfl Tryd.sizeOf2 rfl) ?_
      obtain ⟨x20, c19, h⟩ := h
      refine HList.gvals (v := (.int .i64 x20)) rfl rfl rfl rfl (congrArg Value.bool hb15) (HVal.load1 Tryd.isAgg2 rfl c19) ?_
      refine HList.gvals (v := (.bool (decide (x18 < x20)))) rfl rfl rfl rfl (congrArg Value.bool hb15) (HVal.lss rfl rfl) ?_
      refine HList.gvals (v := (.bool (decide (x18 < x20)))) rfl rfl rfl rfl (congrArg Value.bool hb10) (HVal.pickT rfl hb15 rfl) ?_
      refine HList.vals (v := (.bool (decide (x18 < x20)))) rfl (HVal.pickF rfl hb10 rfl) ?_
      refine HList.vals (v := (.bool (decide (x18 < x20)))) rfl (HVal.assign' rfl) ?_
      refine HList.nil ?_
      refine nt ?_
      refine HW.ret ?_
      exact ⟨_, resOf1 rfl Res1.t, ⟨(decide (x18 < x20)), rfl, h⟩⟩
    · have h := hF hb16
      clear hT hF
      refine HList.gskips rfl rfl rfl rfl (congrArg Value.bool hb16) ?_
      refine HList.gskips rfl rfl rfl rfl (congrArg Value.bool hb16) ?_
      refine HList.gskips rfl rfl rfl rfl (congrArg Value.bool hb16) ?_
      refine HList.gskips rfl rfl rfl rfl (congrArg Value.bool hb16) ?_
      refine HList.gskips rfl rfl rfl rfl (congrArg Value.bool hb16) ?_
      refine HList.gvals (v := (.bool false)) rfl rfl rfl rfl (congrArg Value.bool hb10) (HVal.pickF rfl hb16 rfl) ?_
      refine HList.vals (v := (.bool false)) rfl (HVal.pickF rfl hb10 rfl) ?_
      refine HList.vals (v := (.bool false)) rfl (HVal.assign' rfl) ?_
      refine HList.nil ?_
      refine nt ?_
      refine HW.ret ?_
      exact ⟨_, resOf1 rfl Res1.t, ⟨false, rfl, h⟩⟩

def F6_1 (Q : (Option Addr) → Int → Hp → Prop) (y1 : Int) (y2 : Int) (y5 : Bool) (H_1 : Hp) : Prop :=
(y5 = true → (Q none 1 H_1)) ∧
 (y5 = false → (∀ H11 : Hp, H11 = Array.push H_1 (.cells #[(Sl.v Sl.nil), (.func (.func 19) #[] #[])] 61) → (
 ∀ H13 : Hp, H13 = Array.push H11 (.cells #[(.int .i64 y1), (.int .i64 y2), (.int .i64 0), (.int .i64 0), (.int .i64 0), (.pointer (some ⟨H_1.size, 0, none⟩))] 63) → (
 Q (some ⟨H11.size, 0, none⟩) 0 H13))))
def F6 (p0 : Int) (p1 : Int) (H : Hp) (Q : (Option Addr) → Int → Hp → Prop) : Prop :=
((decide (p0 < 0)) = true → (F6_1 Q p0 p1 true H)) ∧
 ((decide (p0 < 0)) = false → (((decide ((4611686018427387904 : Int) < p0)) = true → (F6_1 Q p0 p1 true H)) ∧
 ((decide ((4611686018427387904 : Int) < p0)) = false → (((decide (p1 < 1)) = true → (F6_1 Q p0 p1 true H)) ∧
 ((decide (p1 < 1)) = false → (F6_1 Q p0 p1 (decide ((4096 : Int) < p1)) H))))))
set_option maxRecDepth 100000 in
set_option maxHeartbeats 4000000 in
theorem walk6 {w0 : World} {p0 : Int} {p1 : Int} {H : Hp} {Q : (Option Addr) → Int → Hp → Prop} (h : F6 p0 p1 H Q) :
    Good Tryd.prog w0 6 #[(.int .i64 p0), (.int .i64 p1)] H (fun v H => ∃ (r0 : (Option Addr)) (r1 : Int) , v = (.tuple #[(.pointer r0), (.int .i64 r1)]) ∧ Q r0 r1 H) := by
  unfold F6 at h
  refine Good.enter' (fn := Tryd.f6) Tryd.func6 rfl rfl rfl ?_
  refine HW.seq ?_
  refine HW.region ?_
  refine HList.vals (v := (.pointer none)) rfl (HVal.assign' rfl) ?_
  refine HList.vals (v := (.int .i64 0)) rfl (HVal.assign' rfl) ?_
  refine HList.nil ?_
  refine nt ?_
  refine HW.seq ?_
  refine HW.cut (fun ρ H_1 => ∃ (y5 : Bool), Env.Is ρ [(0, (.int .i64 p0)), (1, (.int .i64 p1)), (20, (.bool y5))] ∧ F6_1 Q p0 p1 y5 H_1) ?_ ?_
  · refine HW.region ?_
    refine HList.vals (v := (.int .i64 p0)) rfl (HVal.move' rfl) ?_
    refine HList.vals (v := (.bool (decide (p0 < 0)))) rfl (HVal.lss rfl rfl) ?_
    refine HList.vals (v := (.bool (decide (p0 < 0)))) rfl (HVal.move' rfl) ?_
    obtain ⟨hT, hF⟩ := h
    rcases Bool.eq_false_or_eq_true (decide (p0 < 0)) with hb3 | hb4
    · have h := hT hb3
      clear hT hF
      refine HList.gskips rfl rfl rfl rfl (congrArg Value.bool hb3) ?_
      refine HList.gskips rfl rfl rfl rfl (congrArg Value.bool hb3) ?_
      refine HList.vals (v := (.bool true)) rfl (HVal.pickT rfl hb3 rfl) ?_
      refine HList.vals (v := (.bool true)) rfl (HVal.move' rfl) ?_
      refine HList.gskips rfl rfl rfl rfl rfl ?_
      refine HList.gskips rfl rfl rfl rfl rfl ?_
      refine HList.vals (v := (.bool true)) rfl (HVal.pickT rfl rfl rfl) ?_
      refine HList.vals (v := (.bool true)) rfl (HVal.move' rfl) ?_
      refine HList.gskips rfl rfl rfl rfl rfl ?_
      refine HList.gskips rfl rfl rfl rfl rfl ?_
      refine HList.vals (v := (.bool true)) rfl (HVal.pickT rfl rfl rfl) ?_
      refine HList.nil ?_
      refine nt ?_
      exact ⟨true, ⟨rfl, rfl, rfl, trivial⟩, h⟩
    · have h := hF hb4
      clear hT hF
      refine HList.gvals (v := (.int .i64 p0)) rfl rfl rfl rfl (congrArg Value.bool hb4) (HVal.move' rfl) ?_
      refine HList.gvals (v := (.bool (decide ((4611686018427387904 : Int) < p0)))) rfl rfl rfl rfl (congrArg Value.bool hb4) (HVal.gtr rfl rfl) ?_
      refine HList.vals (v := (.bool (decide ((4611686018427387904 : Int) < p0)))) rfl (HVal.pickF rfl hb4 rfl) ?_
      refine HList.vals (v := (.bool (decide ((4611686018427387904 : Int) < p0)))) rfl (HVal.move' rfl) ?_
      obtain ⟨hT, hF⟩ := h
      rcases Bool.eq_false_or_eq_true (decide ((4611686018427387904 : Int) < p0)) with hb6 | hb7
      · have h := hT hb6
        clear hT hF
        refine HList.gskips rfl rfl rfl rfl (congrArg Value.bool hb6) ?_
        refine HList.gskips rfl rfl rfl rfl (congrArg Value.bool hb6) ?_
        refine HList.vals (v := (.bool true)) rfl (HVal.pickT rfl hb6 rfl) ?_
        refine HList.vals (v := (.bool true)) rfl (HVal.move' rfl) ?_
        refine HList.gskips rfl rfl rfl rfl rfl ?_
        refine HList.gskips rfl rfl rfl rfl rfl ?_
        refine HList.vals (v := (.bool true)) rfl (HVal.pickT rfl rfl rfl) ?_
        refine HList.nil ?_
        refine nt ?_
        exact ⟨true, ⟨rfl, rfl, rfl, trivial⟩, h⟩
      · have h := hF hb7
        clear hT hF
        refine HList.gvals (v := (.int .i64 p1)) rfl rfl rfl rfl (congrArg Value.bool hb7) (HVal.move' rfl) ?_
        refine HList.gvals (v := (.bool (decide (p1 < 1)))) rfl rfl rfl rfl (congrArg Value.bool hb7) (HVal.lss rfl rfl) ?_
        refine HList.vals (v := (.bool (decide (p1 < 1)))) rfl (HVal.pickF rfl hb7 rfl) ?_
        refine HList.vals (v := (.bool (decide (p1 < 1)))) rfl (HVal.move' rfl) ?_
        obtain ⟨hT, hF⟩ := h
        rcases Bool.eq_false_or_eq_true (decide (p1 < 1)) with hb8 | hb9
        · have h := hT hb8
          clear hT hF
          refine HList.gskips rfl rfl rfl rfl (congrArg Value.bool hb8) ?_
          refine HList.gskips rfl rfl rfl rfl (congrArg Value.bool hb8) ?_
          refine HList.vals (v := (.bool true)) rfl (HVal.pickT rfl hb8 rfl) ?_
          refine HList.nil ?_
          refine nt ?_
          exact ⟨true, ⟨rfl, rfl, rfl, trivial⟩, h⟩
        · have h := hF hb9
          clear hT hF
          refine HList.gvals (v := (.int .i64 p1)) rfl rfl rfl rfl (congrArg Value.bool hb9) (HVal.move' rfl) ?_
          refine HList.gvals (v := (.bool (decide ((4096 : Int) < p1)))) rfl rfl rfl rfl (congrArg Value.bool hb9) (HVal.gtr rfl rfl) ?_
          refine HList.vals (v := (.bool (decide ((4096 : Int) < p1)))) rfl (HVal.pickF rfl hb9 rfl) ?_
          refine HList.nil ?_
          refine nt ?_
          exact ⟨(decide ((4096 : Int) < p1)), ⟨rfl, rfl, rfl, trivial⟩, h⟩
  · rintro ρ H_1 ⟨y5, hI, h⟩
    obtain ⟨ρ0, rfl⟩ : ∃ ρ0, ρ = (Env.set (Env.set (Env.set ρ0 20 (.bool y5)) 1 (.int .i64 p1)) 0 (.int .i64 p0)) := ⟨ρ, hI.eq⟩
    clear hI; unfold F6_1 at h
    obtain ⟨hT, hF⟩ := h
    refine HW.cond y5 rfl (fun hb10 => ?_) (fun hb10 => ?_)
    · have h := hT hb10
      clear hT hF
      refine HW.seq ?_
      refine HW.region ?_
      refine HList.vals (v := (.pointer none)) rfl (HVal.assign' rfl) ?_
      refine HList.vals (v := (.int .i64 1)) rfl (HVal.assign' rfl) ?_
      refine HList.nil ?_
      refine nt ?_
      refine HW.ret ?_
      refine tr ?_
      exact ⟨_, resOf2 rfl Res1.t Res1.t, ⟨none, 1, rfl, h⟩⟩
    · have h := hF hb10
      clear hT hF
      refine HW.skip ?_
      refine nt ?_
      refine HW.seq ?_
      refine HW.region ?_
      refine HList.vals (v := (.func (.func 19) #[] #[])) rfl (HVal.assign' rfl) ?_
      refine HList.nil ?_
      refine nt ?_
      refine HW.seq ?_
      refine HW.region ?_
      refine HList.vals (v := (.int .i64 p0)) rfl (HVal.move' rfl) ?_
      refine HList.vals (v := (.int .i64 p1)) rfl (HVal.move' rfl) ?_
      refine HList.vals (v := (.func (.func 19) #[] #[])) rfl (HVal.move' rfl) ?_
      refine HList.vals (v := (.agg #[(Sl.v Sl.nil), (.func (.func 19) #[] #[])])) rfl (HVal.build' (cs := [(Sl.v Sl.nil), (.func (.func 19) #[] #[])]) Tryd.runUnderlying61 Tryd.zeroValue61 places61 rfl) ?_
      refine HList.ops' rfl (HOp.box (v := (.agg #[(Sl.v Sl.nil), (.func (.func 19) #[] #[])])) rfl) ?_
      rintro _ H11 ⟨rfl, e12⟩
      replace h := h H11 e12
      refine HList.vals (v := (.agg #[(.int .i64 p0), (.int .i64 p1), (.int .i64 0), (.int .i64 0), (.int .i64 0), (.pointer (some ⟨H_1.size, 0, none⟩))])) rfl (HVal.build' (cs := [(.int .i64 p0), (.int .i64 p1), (.int .i64 0), (.int .i64 0), (.int .i64 0), (.pointer (some ⟨H_1.size, 0, none⟩))]) Tryd.runUnderlying63 Tryd.zeroValue63 places63 rfl) ?_
      refine HList.ops' rfl (HOp.box (v := (.agg #[(.int .i64 p0), (.int .i64 p1), (.int .i64 0), (.int .i64 0), (.int .i64 0), (.pointer (some ⟨H_1.size, 0, none⟩))])) rfl) ?_
      rintro _ H13 ⟨rfl, e14⟩
      replace h := h H13 e14
      refine HList.vals (v := (.pointer (some ⟨H11.size, 0, none⟩))) rfl (HVal.assign' rfl) ?_
      refine HList.vals (v := (.int .i64 0)) rfl (HVal.assign' rfl) ?_
      refine HList.nil ?_
      refine nt ?_
      refine HW.ret ?_
      exact ⟨_, resOf2 rfl Res1.t Res1.t, ⟨(some ⟨H11.size, 0, none⟩), 0, rfl, h⟩⟩

def F20 (p0 : (Option Addr)) (p1 : Int) (H : Hp) (Q : Int → Int → Hp → Prop) : Prop :=
∃ a1 : Addr, p0 = some a1 ∧ (
 ∃ x4 : Int, cell H (Addr.add a1 3) = some (.int .i64 x4) ∧ (
 ∃ a5 : Addr, p0 = some a5 ∧ (
 ∃ x8 : Int, cell H (Addr.add a5 4) = some (.int .i64 x8) ∧ (
 ∃ a9 : Addr, p0 = some a9 ∧ (
 ∃ x12 : Int, cell H a9 = some (.int .i64 x12) ∧ (
 Q (if x4 < p1 then p1 else x4) (if x8 < (IntKind.i64.wrap ((if x4 < p1 then p1 else x4) - x12)) then (IntKind.i64.wrap ((if x4 < p1 then p1 else x4) - x12)) else x8) H))))))
set_option maxRecDepth 100000 in
set_option maxHeartbeats 4000000 in
theorem walk20 {w0 : World} {p0 : (Option Addr)} {p1 : Int} {H : Hp} {Q : Int → Int → Hp → Prop} (h : F20 p0 p1 H Q) :
    Good Tryd.prog w0 20 #[(.pointer p0), (.int .i64 p1)] H (fun v H => ∃ (r0 : Int) (r1 : Int) , v = (.tuple #[(.int .i64 r0), (.int .i64 r1)]) ∧ Q r0 r1 H) := by
  unfold F20 at h
  refine Good.enter' (fn := Tryd.f20) Tryd.func20 rfl rfl rfl ?_
  refine HW.seq ?_
  refine HW.region ?_
  refine HList.vals (v := (.int .i64 0)) rfl (HVal.assign' rfl) ?_
  refine HList.vals (v := (.int .i64 0)) rfl (HVal.assign' rfl) ?_
  refine HList.nil ?_
  refine nt ?_
  refine HW.seq ?_
  refine HW.region ?_
  refine HList.vals (v := (.pointer p0)) rfl (HVal.move' rfl) ?_
  obtain ⟨a1, e2, h⟩ := h
  refine HList.vals (v := (.pointer (some a1))) rfl (HVal.nilCheck (congrArg Value.pointer e2)) ?_
  refine HList.vals (v := (.pointer (some (Addr.add a1 3)))) rfl (HVal.fieldAddr' Tryd.runUnderlying63 rfl rfl Tryd.sizeOf2 rfl) ?_
  obtain ⟨x4, c3, h⟩ := h
  refine HList.vals (v := (.int .i64 x4)) rfl (HVal.load1 Tryd.isAgg2 rfl c3) ?_
  refine HList.vals (v := (.int .i64 p1)) rfl (HVal.move' rfl) ?_
  refine HList.vals (v := (.int .i64 (if x4 < p1 then p1 else x4))) rfl (HVal.max rfl rfl) ?_
  refine HList.vals (v := (.int .i64 (if x4 < p1 then p1 else x4))) rfl (HVal.assign' rfl) ?_
  refine HList.nil ?_
  refine nt ?_
  refine HW.seq ?_
  refine HW.draw mixed [(0, some []), (1, some []), (2, some []), (3, some []), (4, some []), (5, some []), (6, some []), (7, some []), (8, some []), (9, some []), (10, some []), (11, some []), (12, some []), (13, some [])] rfl (by kernel_rfl) (by kernel_rfl) ?_
  refine HPlan.takev (v := (.int .i64 (if x4 < p1 then p1 else x4))) rfl rfl (fun _ => HVal.move' rfl) ?_
  refine HPlan.takev (v := (.pointer p0)) rfl rfl (fun _ => HVal.move' rfl) ?_
  obtain ⟨a5, e6, h⟩ := h
  refine HPlan.takev (v := (.pointer (some a5))) rfl rfl (fun _ => HVal.nilCheck (congrArg Value.pointer e6)) ?_
  refine HPlan.takev (v := (.pointer (some (Addr.add a5 4)))) rfl rfl (fun _ => HVal.fieldAddr' Tryd.runUnderlying63 rfl rfl Tryd.sizeOf2 rfl) ?_
  obtain ⟨x8, c7, h⟩ := h
  refine HPlan.takel (v := (.int .i64 x8)) (fun X => cell X (Addr.add a5 4) = some (.int .i64 x8)) rfl rfl (fun _ hX => HVal.load1 Tryd.isAgg2 rfl hX) c7 ?_
  refine HPlan.takev (v := (.int .i64 (if x4 < p1 then p1 else x4))) rfl rfl (fun _ => HVal.move' rfl) ?_
  refine HPlan.takev (v := (.pointer p0)) rfl rfl (fun _ => HVal.move' rfl) ?_
  obtain ⟨a9, e10, h⟩ := h
  refine HPlan.takev (v := (.pointer (some a9))) rfl rfl (fun _ => HVal.nilCheck (congrArg Value.pointer e10)) ?_
  refine HPlan.takev (v := (.pointer (some a9))) rfl rfl (fun _ => HVal.fieldAddr0 Tryd.runUnderlying63 rfl rfl Tryd.sizeOf2 rfl) ?_
  obtain ⟨x12, c11, h⟩ := h
  refine HPlan.takel (v := (.int .i64 x12)) (fun X => cell X a9 = some (.int .i64 x12)) rfl rfl (fun _ hX => HVal.load1 Tryd.isAgg2 rfl hX) c11 ?_
  refine HPlan.takev (v := (.int .i64 (IntKind.i64.wrap ((if x4 < p1 then p1 else x4) - x12)))) rfl rfl (fun _ => HVal.sub rfl rfl) ?_
  refine HPlan.takev (v := (.int .i64 (if x8 < (IntKind.i64.wrap ((if x4 < p1 then p1 else x4) - x12)) then (IntKind.i64.wrap ((if x4 < p1 then p1 else x4) - x12)) else x8))) rfl rfl (fun _ => HVal.max rfl rfl) ?_
  refine HPlan.takev (v := (.int .i64 (if x4 < p1 then p1 else x4))) rfl rfl (fun _ => HVal.assign' rfl) ?_
  refine HPlan.takev (v := (.int .i64 (if x8 < (IntKind.i64.wrap ((if x4 < p1 then p1 else x4) - x12)) then (IntKind.i64.wrap ((if x4 < p1 then p1 else x4) - x12)) else x8))) rfl rfl (fun _ => HVal.assign' rfl) ?_
  refine HPlan.done ?_
  refine nt ?_
  refine HW.ret ?_
  exact ⟨_, resOf2 rfl Res1.t Res1.t, ⟨(if x4 < p1 then p1 else x4), (if x8 < (IntKind.i64.wrap ((if x4 < p1 then p1 else x4) - x12)) then (IntKind.i64.wrap ((if x4 < p1 then p1 else x4) - x12)) else x8), rfl, h⟩⟩

def F21_1 (Q : Int → Hp → Prop) (y37 : Int) (H_1 : Hp) : Prop :=
Q y37 H_1
def F21_3 (Q : Int → Hp → Prop) (X2 : Int → Int → Hp → Prop) (y15 : Int) (y16 : Sl) (y17 : Int) (y18 : Int) (y36 : Int) (H_3 : Hp) : Prop :=
X2 y36 (IntKind.i64.wrap (y18 + 1)) H_3
def F21_L2b (Q : Int → Hp → Prop) (X2 : Int → Int → Hp → Prop) (y11 : Int) (y12 : Sl) (y13 : Int) (y9 : Int) (y10 : Int) (H_2 : Hp) : Prop :=
((decide (y10 < y13)) = true → (∃ a19 : Addr, (y12).b = some a19 ∧ (0 : Int) ≤ y10 ∧ y10 < ((y12).n : Int) ∧ (
 ∃ (x24 : Int) (x25 : ByteArray) (x26 : Int) (x27 : Sl), cells H_2 (Addr.add a19 (y10.toNat * 4)) [(.int .i64 x24), (.string x25), (.int .i64 x26), (Sl.v x27)] 0 ∧ (
 ∀ H28 : Hp, H28 = Array.push H_2 (.cells #[(.int .i64 0), (.string (ByteArray.mk #[])), (.int .i64 0), (Sl.v Sl.nil)] 56) → (
 mayw H28 ⟨H_2.size, 0, none⟩ 4 0 ∧ ∀ H30 : Hp, H30 = sets H28 ⟨H_2.size, 0, none⟩ [(.int .i64 x24), (.string x25), (.int .i64 x26), (Sl.v x27)] 0 → (
 ∃ x34 : Int, cell H30 (Addr.add (Addr.add ⟨H_2.size, 0, none⟩ 1) 1) = some (.int .i64 x34) ∧ (
 ((decide (y11 < x34)) = true → (F21_3 Q X2 y11 y12 y13 y10 (IntKind.i64.wrap (y9 + 1)) H30)) ∧
 ((decide (y11 < x34)) = false → (F21_3 Q X2 y11 y12 y13 y10 y9 H30))))))))) ∧
 ((decide (y10 < y13)) = false → (F21_1 Q y9 H_2))
def F21_L2 (Q : Int → Hp → Prop) (y11 : Int) (y12 : Sl) (y13 : Int) (y9 : Int) (y10 : Int) (H_2 : Hp) : Prop :=
  ∀ X2 : Int → Int → Hp → Prop, (∀ (y9 : Int) (y10 : Int) (H_2 : Hp), F21_L2b Q X2 y11 y12 y13 y9 y10 H_2 → X2 y9 y10 H_2) → X2 y9 y10 H_2
def F21 (p0 : (Option Addr)) (p1 : Int) (H : Hp) (Q : Int → Hp → Prop) : Prop :=
∃ a1 : Addr, p0 = some a1 ∧ (
 ∃ x4 : (Option Addr), cell H (Addr.add a1 5) = some (.pointer x4) ∧ (
 ∃ a5 : Addr, x4 = some a5 ∧ (
 ∃ x8 : Sl, cell H a5 = some (Sl.v x8) ∧ (
 F21_L2 Q p1 x8 ((x8).n : Int) 0 0 H))))
set_option maxRecDepth 100000 in
set_option maxHeartbeats 4000000 in
theorem walk21 {w0 : World} {p0 : (Option Addr)} {p1 : Int} {H : Hp} {Q : Int → Hp → Prop} (h : F21 p0 p1 H Q) :
    Good Tryd.prog w0 21 #[(.pointer p0), (.int .i64 p1)] H (fun v H => ∃ (r0 : Int) , v = (.int .i64 r0) ∧ Q r0 H) := by
  unfold F21 at h
  refine Good.enter' (fn := Tryd.f21) Tryd.func21 rfl rfl rfl ?_
  refine HW.seq ?_
  refine HW.region ?_
  refine HList.vals (v := (.int .i64 0)) rfl (HVal.assign' rfl) ?_
  refine HList.nil ?_
  refine nt ?_
  refine HW.seq ?_
  refine HW.region ?_
  refine HList.vals (v := (.int .i64 0)) rfl (HVal.assign' rfl) ?_
  refine HList.nil ?_
  refine nt ?_
  refine HW.cut (fun ρ H_1 => ∃ (y37 : Int), Env.Is ρ [(5, (.int .i64 y37))] ∧ F21_1 Q y37 H_1) ?_ ?_
  · refine HW.seq ?_
    refine HW.region ?_
    refine HList.vals (v := (.pointer p0)) rfl (HVal.move' rfl) ?_
    obtain ⟨a1, e2, h⟩ := h
    refine HList.vals (v := (.pointer (some a1))) rfl (HVal.nilCheck (congrArg Value.pointer e2)) ?_
    refine HList.vals (v := (.pointer (some (Addr.add a1 5)))) rfl (HVal.fieldAddr' Tryd.runUnderlying63 rfl rfl Tryd.sizeOf58 rfl) ?_
    obtain ⟨x4, c3, h⟩ := h
    refine HList.vals (v := (.pointer x4)) rfl (HVal.load1 Tryd.isAgg58 rfl c3) ?_
    obtain ⟨a5, e6, h⟩ := h
    refine HList.vals (v := (.pointer (some a5))) rfl (HVal.nilCheck (congrArg Value.pointer e6)) ?_
    refine HList.vals (v := (.pointer (some a5))) rfl (HVal.fieldAddr0 Tryd.runUnderlying61 rfl rfl Tryd.sizeOf59 rfl) ?_
    obtain ⟨x8, c7, h⟩ := h
    refine HList.vals (v := (Sl.v x8)) rfl (HVal.load1 Tryd.isAgg59 rfl c7) ?_
    refine HList.vals (v := (.int .i64 ((x8).n : Int))) rfl (HVal.len Tryd.runUnderlying59 rfl) ?_
    refine HList.vals (v := (.int .i64 0)) rfl (HVal.move' rfl) ?_
    refine HList.nil ?_
    refine nt ?_
    refine HW.block ?_
    refine HW.loop' (fun L2 hL2 => ?_)
    obtain ⟨X2, hX2⟩ : ∃ X2 : Int → Int → Hp → Prop, ∀ (y9 : Int) (y10 : Int) (H_2 : Hp), X2 y9 y10 H_2 ↔ ∀ ρ, Env.Is ρ [(1, (.int .i64 p1)), (14, (Sl.v x8)), (15, (.int .i64 ((x8).n : Int))), (5, (.int .i64 y9)), (16, (.int .i64 y10))] → L2 ρ H_2 := ⟨_, fun _ _ _ => Iff.rfl⟩
    refine (hX2 _ _ _).1 (h X2 ?_) _ ?_
    rotate_left
    · exact ⟨rfl, rfl, rfl, rfl, rfl, trivial⟩
    clear h
    intro y9 y10 H_2 h
    refine (hX2 _ _ _).2 fun ρ hI => ?_
    obtain ⟨ρ0, rfl⟩ : ∃ ρ0, ρ = (Env.set (Env.set (Env.set (Env.set (Env.set ρ0 16 (.int .i64 y10)) 5 (.int .i64 y9)) 15 (.int .i64 ((x8).n : Int))) 14 (Sl.v x8)) 1 (.int .i64 p1)) := ⟨ρ, hI.eq⟩
    clear hI; unfold F21_L2b at h; refine hL2 _ _ ?_
    refine HW.seq ?_
    refine HW.region ?_
    refine HList.vals (v := (.bool (decide (y10 < ((x8).n : Int))))) rfl (HVal.lss rfl rfl) ?_
    refine HList.nil ?_
    refine nt ?_
    refine HW.seq ?_
    obtain ⟨hT, hF⟩ := h
    refine HW.cond (decide (y10 < ((x8).n : Int))) rfl (fun hb14 => ?_) (fun hb14 => ?_)
    · have h := hT hb14
      clear hT hF
      refine HW.skip ?_
      refine nt ?_
      refine HW.cut (fun ρ H_3 => ∃ (y36 : Int), Env.Is ρ [(1, (.int .i64 p1)), (14, (Sl.v x8)), (15, (.int .i64 ((x8).n : Int))), (16, (.int .i64 y10)), (5, (.int .i64 y36))] ∧ F21_3 Q X2 p1 x8 ((x8).n : Int) y10 y36 H_3) ?_ ?_
      · refine HW.block ?_
        refine HW.seq ?_
        refine HW.region ?_
        obtain ⟨a19, e20, b21, b22, h⟩ := h
        refine HList.vals (v := (.pointer (some (Addr.add a19 (y10.toNat * 4))))) rfl (HVal.indexAddr Tryd.runUnderlying59 Tryd.sizeOf56 (Sl.v_some rfl e20) rfl b21 b22) ?_
        obtain ⟨x24, x25, x26, x27, c23, h⟩ := h
        refine HList.vals (v := (.agg #[(.int .i64 x24), (.string x25), (.int .i64 x26), (Sl.v x27)])) rfl (HVal.loadN [(.int .i64 x24), (.string x25), (.int .i64 x26), (Sl.v x27)] Tryd.isAgg56 Tryd.sizeOf56 rfl c23) ?_
        refine HList.ops' rfl (HOp.alloc Tryd.zeroValue56) ?_
        rintro _ H28 ⟨rfl, e29⟩
        replace h := h H28 e29
        obtain ⟨z32, h⟩ := h
        refine HList.opsn (HOp.storeN' (l := [(.int .i64 x24), (.string x25), (.int .i64 x26), (Sl.v x27)]) Tryd.sizeOf56 rfl rfl rfl z32) ?_
        rintro _ H30 e31
        replace h := h H30 e31
        refine HList.nil ?_
        refine nt ?_
        refine HW.seq ?_
        refine HW.region ?_
        refine HList.vals (v := (.pointer (some (Addr.add ⟨H_2.size, 0, none⟩ 1)))) rfl (HVal.fieldAddr' Tryd.runUnderlying56 rfl rfl Tryd.sizeOf33 rfl) ?_
        refine HList.vals (v := (.pointer (some (Addr.add (Addr.add ⟨H_2.size, 0, none⟩ 1) 1)))) rfl (HVal.fieldAddr' Tryd.runUnderlying33 rfl rfl Tryd.sizeOf2 rfl) ?_
        obtain ⟨x34, c33, h⟩ := h
        refine HList.vals (v := (.int .i64 x34)) rfl (HVal.load1 Tryd.isAgg2 rfl c33) ?_
        refine HList.vals (v := (.int .i64 p1)) rfl (HVal.move' rfl) ?_
        refine HList.vals (v := (.bool (decide (p1 < x34)))) rfl (HVal.gtr rfl rfl) ?_
        refine HList.nil ?_
        refine nt ?_
        obtain ⟨hT, hF⟩ := h
        refine HW.cond (decide (p1 < x34)) rfl (fun hb35 => ?_) (fun hb35 => ?_)
        · have h := hT hb35
          clear hT hF
          refine HW.region ?_
          refine HList.vals (v := (.int .i64 y9)) rfl (HVal.move' rfl) ?_
          refine HList.vals (v := (.int .i64 (IntKind.i64.wrap (y9 + 1)))) rfl (HVal.add rfl rfl) ?_
          refine HList.vals (v := (.int .i64 (IntKind.i64.wrap (y9 + 1)))) rfl (HVal.assign' rfl) ?_
          refine HList.nil ?_
          refine nb ?_
          refine nt ?_
          exact ⟨(IntKind.i64.wrap (y9 + 1)), ⟨rfl, rfl, rfl, rfl, rfl, trivial⟩, h⟩
        · have h := hF hb35
          clear hT hF
          refine HW.skip ?_
          refine nb ?_
          refine nt ?_
          exact ⟨y9, ⟨rfl, rfl, rfl, rfl, rfl, trivial⟩, h⟩
      · rintro ρ H_3 ⟨y36, hI, h⟩
        obtain ⟨ρ0, rfl⟩ : ∃ ρ0, ρ = (Env.set (Env.set (Env.set (Env.set (Env.set ρ0 5 (.int .i64 y36)) 16 (.int .i64 y10)) 15 (.int .i64 ((x8).n : Int))) 14 (Sl.v x8)) 1 (.int .i64 p1)) := ⟨ρ, hI.eq⟩
        clear hI; unfold F21_3 at h
        refine HW.region ?_
        refine HList.vals (v := (.int .i64 (IntKind.i64.wrap (y10 + 1)))) rfl (HVal.add rfl rfl) ?_
        refine HList.vals (v := (.int .i64 (IntKind.i64.wrap (y10 + 1)))) rfl (HVal.move' rfl) ?_
        refine HList.nil ?_
        refine nt ?_
        exact (hX2 _ _ _).1 h _ ⟨rfl, rfl, rfl, rfl, rfl, trivial⟩
    · have h := hF hb14
      clear hT hF
      refine HW.exit ?_
      refine te ?_
      refine te ?_
      refine be ?_
      refine nt ?_
      exact ⟨y9, ⟨rfl, trivial⟩, h⟩
  · rintro ρ H_1 ⟨y37, hI, h⟩
    obtain ⟨ρ0, rfl⟩ : ∃ ρ0, ρ = (Env.set ρ0 5 (.int .i64 y37)) := ⟨ρ, hI.eq⟩
    clear hI; unfold F21_1 at h
    refine HW.seq ?_
    refine HW.region ?_
    refine HList.vals (v := (.int .i64 y37)) rfl (HVal.move' rfl) ?_
    refine HList.vals (v := (.int .i64 y37)) rfl (HVal.assign' rfl) ?_
    refine HList.nil ?_
    refine nt ?_
    refine HW.ret ?_
    exact ⟨_, resOf1 rfl Res1.t, ⟨y37, rfl, h⟩⟩

def F30 (p0 : (Option Addr)) (p1 : Int) (p2 : Int) (H : Hp) (Q : Hp → Prop) : Prop :=
∃ a1 : Addr, p0 = some a1 ∧ (
 ∃ x4 : Sl, cell H a1 = some (Sl.v x4) ∧ (
 ∃ a5 : Addr, p0 = some a5 ∧ (
 ∃ x8 : Sl, cell H a5 = some (Sl.v x8) ∧ (
 ∃ a9 : Addr, p0 = some a9 ∧ (
 ∃ x12 : Sl, cell H a9 = some (Sl.v x12) ∧ (
 ∃ a13 : Addr, (x12).b = some a13 ∧ (0 : Int) ≤ p2 ∧ p2 < ((x12).n : Int) ∧ (
 ∃ (x18 : Int) (x19 : ByteArray) (x20 : Int) (x21 : Sl), cells H (Addr.add a13 (p2.toNat * 4)) [(.int .i64 x18), (.string x19), (.int .i64 x20), (Sl.v x21)] 0 ∧ (
 ∃ a22 : Addr, p0 = some a22 ∧ (
 ∃ x25 : Sl, cell H a22 = some (Sl.v x25) ∧ (
 ∃ a26 : Addr, (x25).b = some a26 ∧ (0 : Int) ≤ p1 ∧ p1 < ((x25).n : Int) ∧ (
 ∃ (x31 : Int) (x32 : ByteArray) (x33 : Int) (x34 : Sl), cells H (Addr.add a26 (p1.toNat * 4)) [(.int .i64 x31), (.string x32), (.int .i64 x33), (Sl.v x34)] 0 ∧ (
 ∃ a35 : Addr, (x4).b = some a35 ∧ (0 : Int) ≤ p1 ∧ p1 < ((x4).n : Int) ∧ (
 mayw H (Addr.add a35 (p1.toNat * 4)) 4 0 ∧ ∀ H39 : Hp, H39 = sets H (Addr.add a35 (p1.toNat * 4)) [(.int .i64 x18), (.string x19), (.int .i64 x20), (Sl.v x21)] 0 → (
 ∃ a42 : Addr, (x8).b = some a42 ∧ (0 : Int) ≤ p2 ∧ p2 < ((x8).n : Int) ∧ (
 mayw H39 (Addr.add a42 (p2.toNat * 4)) 4 0 ∧ ∀ H46 : Hp, H46 = sets H39 (Addr.add a42 (p2.toNat * 4)) [(.int .i64 x31), (.string x32), (.int .i64 x33), (Sl.v x34)] 0 → (
 Q H46))))))))))))))))
set_option maxRecDepth 100000 in
set_option maxHeartbeats 4000000 in
theorem walk30 {w0 : World} {p0 : (Option Addr)} {p1 : Int} {p2 : Int} {H : Hp} {Q : Hp → Prop} (h : F30 p0 p1 p2 H Q) :
    Good Tryd.prog w0 30 #[(.pointer p0), (.int .i64 p1), (.int .i64 p2)] H (fun v H => v = (.tuple #[]) ∧ Q H) := by
  unfold F30 at h
  refine Good.enter' (fn := Tryd.f30) Tryd.func30 rfl rfl rfl ?_
  refine HW.draw mixed [(0, some []), (1, some []), (2, some []), (3, some [25, 27]), (4, some []), (5, some []), (6, some []), (7, some []), (8, some [25, 27]), (9, some []), (10, some []), (11, some []), (12, some []), (13, some [25, 27]), (14, some []), (15, some []), (16, some [25, 27]), (17, some []), (18, some []), (19, some []), (20, some [25, 27]), (21, some []), (22, some []), (23, some [25, 27]), (24, some []), (25, none), (26, some []), (27, none)] rfl (by kernel_rfl) (by kernel_rfl) ?_
  refine HPlan.takev (v := (.pointer p0)) rfl rfl (fun _ => HVal.move' rfl) ?_
  obtain ⟨a1, e2, h⟩ := h
  refine HPlan.takev (v := (.pointer (some a1))) rfl rfl (fun _ => HVal.nilCheck (congrArg Value.pointer e2)) ?_
  refine HPlan.takev (v := (.pointer (some a1))) rfl rfl (fun _ => HVal.fieldAddr0 Tryd.runUnderlying61 rfl rfl Tryd.sizeOf59 rfl) ?_
  obtain ⟨x4, c3, h⟩ := h
  refine HPlan.takel (v := (Sl.v x4)) (fun X => cell X a1 = some (Sl.v x4)) rfl rfl (fun _ hX => HVal.load1 Tryd.isAgg59 rfl hX) c3 ?_
  refine HPlan.takev (v := (.int .i64 p1)) rfl rfl (fun _ => HVal.move' rfl) ?_
  refine HPlan.takev (v := (.pointer p0)) rfl rfl (fun _ => HVal.move' rfl) ?_
  obtain ⟨a5, e6, h⟩ := h
  refine HPlan.takev (v := (.pointer (some a5))) rfl rfl (fun _ => HVal.nilCheck (congrArg Value.pointer e6)) ?_
  refine HPlan.takev (v := (.pointer (some a5))) rfl rfl (fun _ => HVal.fieldAddr0 Tryd.runUnderlying61 rfl rfl Tryd.sizeOf59 rfl) ?_
  obtain ⟨x8, c7, h⟩ := h
  refine HPlan.takel (v := (Sl.v x8)) (fun X => cell X a5 = some (Sl.v x8)) rfl rfl (fun _ hX => HVal.load1 Tryd.isAgg59 rfl hX) c7 ?_
  refine HPlan.takev (v := (.int .i64 p2)) rfl rfl (fun _ => HVal.move' rfl) ?_
  refine HPlan.takev (v := (.pointer p0)) rfl rfl (fun _ => HVal.move' rfl) ?_
  obtain ⟨a9, e10, h⟩ := h
  refine HPlan.takev (v := (.pointer (some a9))) rfl rfl (fun _ => HVal.nilCheck (congrArg Value.pointer e10)) ?_
  refine HPlan.takev (v := (.pointer (some a9))) rfl rfl (fun _ => HVal.fieldAddr0 Tryd.runUnderlying61 rfl rfl Tryd.sizeOf59 rfl) ?_
  obtain ⟨x12, c11, h⟩ := h
  refine HPlan.takel (v := (Sl.v x12)) (fun X => cell X a9 = some (Sl.v x12)) rfl rfl (fun _ hX => HVal.load1 Tryd.isAgg59 rfl hX) c11 ?_
  refine HPlan.takev (v := (.int .i64 p2)) rfl rfl (fun _ => HVal.move' rfl) ?_
  obtain ⟨a13, e14, b15, b16, h⟩ := h
  refine HPlan.takev (v := (.pointer (some (Addr.add a13 (p2.toNat * 4))))) rfl rfl (fun _ => HVal.indexAddr Tryd.runUnderlying59 Tryd.sizeOf56 (Sl.v_some rfl e14) rfl b15 b16) ?_
  obtain ⟨x18, x19, x20, x21, c17, h⟩ := h
  refine HPlan.takel (v := (.agg #[(.int .i64 x18), (.string x19), (.int .i64 x20), (Sl.v x21)])) (fun X => cells X (Addr.add a13 (p2.toNat * 4)) [(.int .i64 x18), (.string x19), (.int .i64 x20), (Sl.v x21)] 0) rfl rfl (fun _ hX => HVal.loadN [(.int .i64 x18), (.string x19), (.int .i64 x20), (Sl.v x21)] Tryd.isAgg56 Tryd.sizeOf56 rfl hX) c17 ?_
  refine HPlan.takev (v := (.pointer p0)) rfl rfl (fun _ => HVal.move' rfl) ?_
  obtain ⟨a22, e23, h⟩ := h
  refine HPlan.takev (v := (.pointer (some a22))) rfl rfl (fun _ => HVal.nilCheck (congrArg Value.pointer e23)) ?_
  refine HPlan.takev (v := (.pointer (some a22))) rfl rfl (fun _ => HVal.fieldAddr0 Tryd.runUnderlying61 rfl rfl Tryd.sizeOf59 rfl) ?_
  obtain ⟨x25, c24, h⟩ := h
  refine HPlan.takel (v := (Sl.v x25)) (fun X => cell X a22 = some (Sl.v x25)) rfl rfl (fun _ hX => HVal.load1 Tryd.isAgg59 rfl hX) c24 ?_
  refine HPlan.takev (v := (.int .i64 p1)) rfl rfl (fun _ => HVal.move' rfl) ?_
  obtain ⟨a26, e27, b28, b29, h⟩ := h
  refine HPlan.takev (v := (.pointer (some (Addr.add a26 (p1.toNat * 4))))) rfl rfl (fun _ => HVal.indexAddr Tryd.runUnderlying59 Tryd.sizeOf56 (Sl.v_some rfl e27) rfl b28 b29) ?_
  obtain ⟨x31, x32, x33, x34, c30, h⟩ := h
  refine HPlan.takel (v := (.agg #[(.int .i64 x31), (.string x32), (.int .i64 x33), (Sl.v x34)])) (fun X => cells X (Addr.add a26 (p1.toNat * 4)) [(.int .i64 x31), (.string x32), (.int .i64 x33), (Sl.v x34)] 0) rfl rfl (fun _ hX => HVal.loadN [(.int .i64 x31), (.string x32), (.int .i64 x33), (Sl.v x34)] Tryd.isAgg56 Tryd.sizeOf56 rfl hX) c30 ?_
  obtain ⟨a35, e36, b37, b38, h⟩ := h
  refine HPlan.takev (v := (.pointer (some (Addr.add a35 (p1.toNat * 4))))) rfl rfl (fun _ => HVal.indexAddr Tryd.runUnderlying59 Tryd.sizeOf56 (Sl.v_some rfl e36) rfl b37 b38) ?_
  obtain ⟨z41, h⟩ := h
  refine HPlan.opsn rfl (HOp.storeN' (l := [(.int .i64 x18), (.string x19), (.int .i64 x20), (Sl.v x21)]) Tryd.sizeOf56 rfl rfl rfl z41) ?_
  rintro _ H39 e40
  replace h := h H39 e40
  refine ⟨SC_of ⟨fun e => absurd e (by decide), fun e => absurd e (by decide), fun e => absurd e (by decide), fun e => absurd e (by decide), fun e => absurd e (by decide), fun e => absurd e (by decide), trivial⟩, ?_⟩
  obtain ⟨a42, e43, b44, b45, h⟩ := h
  refine HPlan.takev (v := (.pointer (some (Addr.add a42 (p2.toNat * 4))))) rfl rfl (fun _ => HVal.indexAddr Tryd.runUnderlying59 Tryd.sizeOf56 (Sl.v_some rfl e43) rfl b44 b45) ?_
  obtain ⟨z48, h⟩ := h
  refine HPlan.opsn rfl (HOp.storeN' (l := [(.int .i64 x31), (.string x32), (.int .i64 x33), (Sl.v x34)]) Tryd.sizeOf56 rfl rfl rfl z48) ?_
  rintro _ H46 e47
  replace h := h H46 e47
  refine ⟨SC_of ⟨fun e => absurd e (by decide), fun e => absurd e (by decide), fun e => absurd e (by decide), fun e => absurd e (by decide), fun e => absurd e (by decide), fun e => absurd e (by decide), trivial⟩, ?_⟩
  refine HPlan.done ?_
  exact ⟨_, resOf0 rfl , ⟨rfl, h⟩⟩

def F22_L1b (Q : Hp → Prop) (X1 : Int → Hp → Prop) (y29 : (Option Addr)) (y28 : Int) (H_1 : Hp) : Prop :=
((decide ((0 : Int) < y28)) = true → (∃ a32 : Addr, y29 = some a32 ∧ (
 cell H_1 (Addr.add a32 1) = some (.func (.func 19) #[] #[]) ∧ (
 ∃ a35 : Addr, y29 = some a35 ∧ (
 ∃ x38 : Sl, cell H_1 a35 = some (Sl.v x38) ∧ (
 ∃ a39 : Addr, (x38).b = some a39 ∧ (0 : Int) ≤ y28 ∧ y28 < ((x38).n : Int) ∧ (
 ∃ (x44 : Int) (x45 : ByteArray) (x46 : Int) (x47 : Sl), cells H_1 (Addr.add a39 (y28.toNat * 4)) [(.int .i64 x44), (.string x45), (.int .i64 x46), (Sl.v x47)] 0 ∧ (
 ∃ a48 : Addr, y29 = some a48 ∧ (
 ∃ x51 : Sl, cell H_1 a48 = some (Sl.v x51) ∧ (
 ∃ a52 : Addr, (x51).b = some a52 ∧ (0 : Int) ≤ (IntKind.i64.wrap (Int.tdiv (IntKind.i64.wrap (y28 - 1)) (2 : Int))) ∧ (IntKind.i64.wrap (Int.tdiv (IntKind.i64.wrap (y28 - 1)) (2 : Int))) < ((x51).n : Int) ∧ (
 ∃ (x57 : Int) (x58 : ByteArray) (x59 : Int) (x60 : Sl), cells H_1 (Addr.add a52 ((IntKind.i64.wrap (Int.tdiv (IntKind.i64.wrap (y28 - 1)) (2 : Int))).toNat * 4)) [(.int .i64 x57), (.string x58), (.int .i64 x59), (Sl.v x60)] 0 ∧ (
 F19 x44 x45 x46 x47 x57 x58 x59 x60 H_1 (fun (r63 : Bool) (H61 : Hp) => 
 cell H61 a48 = some (Sl.v x51) ∧ cell H61 a35 = some (Sl.v x38) ∧ (
 (r63 = true → (F30 y29 y28 (IntKind.i64.wrap (Int.tdiv (IntKind.i64.wrap (y28 - 1)) (2 : Int))) H61 (fun (H67 : Hp) => 
 X1 (IntKind.i64.wrap (Int.tdiv (IntKind.i64.wrap (y28 - 1)) (2 : Int))) H67))) ∧
 (r63 = false → (Q H61)))))))))))))))) ∧
 ((decide ((0 : Int) < y28)) = false → (Q H_1))
def F22_L1 (Q : Hp → Prop) (y29 : (Option Addr)) (y28 : Int) (H_1 : Hp) : Prop :=
  ∀ X1 : Int → Hp → Prop, (∀ (y28 : Int) (H_1 : Hp), F22_L1b Q X1 y29 y28 H_1 → X1 y28 H_1) → X1 y28 H_1
def F22 (p0 : (Option Addr)) (p1_0 : Int) (p1_1 : ByteArray) (p1_2 : Int) (p1_3 : Sl) (H : Hp) (Q : Hp → Prop) : Prop :=
∀ H1 : Hp, H1 = Array.push H (.cells #[(.int .i64 p1_0), (.string p1_1), (.int .i64 p1_2), (Sl.v p1_3)] 56) → (
 ∃ a3 : Addr, p0 = some a3 ∧ (
 ∃ x6 : Sl, cell H1 a3 = some (Sl.v x6) ∧ (
 ∃ (x8 : Int) (x9 : ByteArray) (x10 : Int) (x11 : Sl), cells H1 ⟨H.size, 0, none⟩ [(.int .i64 x8), (.string x9), (.int .i64 x10), (Sl.v x11)] 0 ∧ (
 ∀ H12 : Hp, H12 = Array.push H1 (.cells #[(.int .i64 x8), (.string x9), (.int .i64 x10), (Sl.v x11)] 56) → (
 cell H12 a3 = some (Sl.v x6) ∧ (
 AppendF H12 56 4 56 #[(.int .i64 0), (.string (ByteArray.mk #[])), (.int .i64 0), (Sl.v Sl.nil)] x6 ((Sl.mk (some ⟨H1.size, 0, none⟩) 1 1)).b ((Sl.mk (some ⟨H1.size, 0, none⟩) 1 1)).n (fun (r17 : Sl) (H15 : Hp) => 
 ∃ a18 : Addr, p0 = some a18 ∧ (
 (cell H15 a18).isSome = true ∧ frz H15 a18 = false ∧ ∀ H20 : Hp, H20 = setc H15 a18 (Sl.v r17) → (
 ∃ a24 : Addr, p0 = some a24 ∧ (
 ∃ x27 : Sl, cell H20 a24 = some (Sl.v x27) ∧ (
 F22_L1 Q p0 (IntKind.i64.wrap (((x27).n : Int) - 1)) H20)))))))))))
set_option maxRecDepth 100000 in
set_option maxHeartbeats 4000000 in
theorem walk22 {w0 : World} {p0 : (Option Addr)} {p1_0 : Int} {p1_1 : ByteArray} {p1_2 : Int} {p1_3 : Sl} {H : Hp} {Q : Hp → Prop} (h : F22 p0 p1_0 p1_1 p1_2 p1_3 H Q) :
    Good Tryd.prog w0 22 #[(.pointer p0), (.agg #[(.int .i64 p1_0), (.string p1_1), (.int .i64 p1_2), (Sl.v p1_3)])] H (fun v H => v = (.tuple #[]) ∧ Q H) := by
  unfold F22 at h
  refine Good.enter' (fn := Tryd.f22) Tryd.func22 rfl rfl rfl ?_
  refine HW.seq ?_
  refine HW.region ?_
  refine HList.ops' rfl (HOp.box (v := (.agg #[(.int .i64 p1_0), (.string p1_1), (.int .i64 p1_2), (Sl.v p1_3)])) rfl) ?_
  rintro _ H1 ⟨rfl, e2⟩
  replace h := h H1 e2
  refine HList.nil ?_
  refine nt ?_
  refine HW.seq ?_
  refine HW.draw mixed [(0, some []), (1, some []), (2, some []), (3, some []), (4, some [7, 10]), (5, some [6, 10]), (6, none), (7, none), (8, some []), (9, some []), (10, none)] rfl (by kernel_rfl) (by kernel_rfl) ?_
  refine HPlan.takev (v := (.pointer p0)) rfl rfl (fun _ => HVal.move' rfl) ?_
  refine HPlan.takev (v := (.pointer p0)) rfl rfl (fun _ => HVal.move' rfl) ?_
  obtain ⟨a3, e4, h⟩ := h
  refine HPlan.takev (v := (.pointer (some a3))) rfl rfl (fun _ => HVal.nilCheck (congrArg Value.pointer e4)) ?_
  refine HPlan.takev (v := (.pointer (some a3))) rfl rfl (fun _ => HVal.fieldAddr0 Tryd.runUnderlying61 rfl rfl Tryd.sizeOf59 rfl) ?_
  obtain ⟨x6, c5, h⟩ := h
  refine HPlan.takel (v := (Sl.v x6)) (fun X => cell X a3 = some (Sl.v x6)) rfl rfl (fun _ hX => HVal.load1 Tryd.isAgg59 rfl hX) c5 ?_
  obtain ⟨x8, x9, x10, x11, c7, h⟩ := h
  refine HPlan.takel (v := (.agg #[(.int .i64 x8), (.string x9), (.int .i64 x10), (Sl.v x11)])) (fun X => cells X ⟨H.size, 0, none⟩ [(.int .i64 x8), (.string x9), (.int .i64 x10), (Sl.v x11)] 0) rfl rfl (fun _ hX => HVal.loadN [(.int .i64 x8), (.string x9), (.int .i64 x10), (Sl.v x11)] Tryd.isAgg56 Tryd.sizeOf56 rfl hX) c7 ?_
  refine HPlan.ops' rfl rfl (HOp.buildSlice' (zs := [(.int .i64 0), (.string (ByteArray.mk #[])), (.int .i64 0), (Sl.v Sl.nil)]) (cs := [(.int .i64 x8), (.string x9), (.int .i64 x10), (Sl.v x11)]) Tryd.runUnderlying59 Tryd.sizeOf56 Tryd.zeroValue56 (by decide) (by kernel_rfl) rfl (by decide)) ?_
  rintro _ H12 ⟨rfl, e13⟩
  replace h := h H12 e13
  obtain ⟨s14, h⟩ := h
  refine ⟨SC_of ⟨fun e => absurd e (by decide), fun _ => s14, trivial⟩, ?_⟩
  refine HPlan.ops' rfl rfl (HOp.append (k := 4) (b := 56) Tryd.runUnderlying59 Tryd.runUnderlying59 Tryd.typeInfo56 rfl rfl Tryd.zeroValue56 rfl rfl h) ?_
  rintro _ H15 ⟨r17, rfl, h⟩
  refine ⟨SC_of ⟨fun e => absurd e (by decide), fun e => absurd e (by decide), trivial⟩, ?_⟩
  obtain ⟨a18, e19, h⟩ := h
  refine HPlan.takev (v := (.pointer (some a18))) rfl rfl (fun _ => HVal.nilCheck (congrArg Value.pointer e19)) ?_
  refine HPlan.takev (v := (.pointer (some a18))) rfl rfl (fun _ => HVal.fieldAddr0 Tryd.runUnderlying61 rfl rfl Tryd.sizeOf59 rfl) ?_
  obtain ⟨z22, z23, h⟩ := h
  refine HPlan.opsn rfl (HOp.store1 Tryd.sizeOf59 rfl rfl rfl z22 z23) ?_
  rintro _ H20 e21
  replace h := h H20 e21
  refine ⟨SC_of ⟨fun e => absurd e (by decide), fun e => absurd e (by decide), trivial⟩, ?_⟩
  refine HPlan.done ?_
  refine nt ?_
  refine HW.seq ?_
  refine HW.region ?_
  refine HList.vals (v := (.pointer p0)) rfl (HVal.move' rfl) ?_
  obtain ⟨a24, e25, h⟩ := h
  refine HList.vals (v := (.pointer (some a24))) rfl (HVal.nilCheck (congrArg Value.pointer e25)) ?_
  refine HList.vals (v := (.pointer (some a24))) rfl (HVal.fieldAddr0 Tryd.runUnderlying61 rfl rfl Tryd.sizeOf59 rfl) ?_
  obtain ⟨x27, c26, h⟩ := h
  refine HList.vals (v := (Sl.v x27)) rfl (HVal.load1 Tryd.isAgg59 rfl c26) ?_
  refine HList.vals (v := (.int .i64 ((x27).n : Int))) rfl (HVal.len Tryd.runUnderlying59 rfl) ?_
  refine HList.vals (v := (.int .i64 (IntKind.i64.wrap (((x27).n : Int) - 1)))) rfl (HVal.sub rfl rfl) ?_
  refine HList.vals (v := (.int .i64 (IntKind.i64.wrap (((x27).n : Int) - 1)))) rfl (HVal.assign' rfl) ?_
  refine HList.nil ?_
  refine nt ?_
  refine HW.block ?_
  refine HW.loop' (fun L1 hL1 => ?_)
  obtain ⟨X1, hX1⟩ : ∃ X1 : Int → Hp → Prop, ∀ (y28 : Int) (H_1 : Hp), X1 y28 H_1 ↔ ∀ ρ, Env.Is ρ [(0, (.pointer p0)), (4, (.int .i64 y28))] → L1 ρ H_1 := ⟨_, fun _ _ => Iff.rfl⟩
  refine (hX1 _ _).1 (h X1 ?_) _ ?_
  rotate_left
  · exact ⟨rfl, rfl, trivial⟩
  clear h
  intro y28 H_1 h
  refine (hX1 _ _).2 fun ρ hI => ?_
  obtain ⟨ρ0, rfl⟩ : ∃ ρ0, ρ = (Env.set (Env.set ρ0 4 (.int .i64 y28)) 0 (.pointer p0)) := ⟨ρ, hI.eq⟩
  clear hI; unfold F22_L1b at h; refine hL1 _ _ ?_
  refine HW.seq ?_
  refine HW.seq ?_
  refine HW.draw mixed [(0, some []), (1, some []), (2, some []), (3, some []), (4, some []), (5, some []), (6, some [23]), (7, some []), (8, some []), (9, some []), (10, some []), (11, some []), (12, some []), (13, some [23]), (14, some []), (15, some []), (16, some []), (17, some []), (18, some []), (19, some []), (20, some []), (21, some []), (22, some [23]), (23, none), (24, some [])] rfl (by kernel_rfl) (by kernel_rfl) ?_
  refine HPlan.takev (v := (.int .i64 y28)) rfl rfl (fun _ => HVal.move' rfl) ?_
  refine HPlan.takev (v := (.bool (decide ((0 : Int) < y28)))) rfl rfl (fun _ => HVal.gtr rfl rfl) ?_
  refine HPlan.takev (v := (.bool (decide ((0 : Int) < y28)))) rfl rfl (fun _ => HVal.move' rfl) ?_
  obtain ⟨hT, hF⟩ := h
  rcases Bool.eq_false_or_eq_true (decide ((0 : Int) < y28)) with hb30 | hb31
  · have h := hT hb30
    clear hT hF
    refine HPlan.gtakev (v := (.pointer p0)) rfl rfl rfl rfl rfl (congrArg Value.bool hb30) (fun _ => HVal.move' rfl) ?_
    obtain ⟨a32, e33, h⟩ := h
    refine HPlan.gtakev (v := (.pointer (some a32))) rfl rfl rfl rfl rfl (congrArg Value.bool hb30) (fun _ => HVal.nilCheck (congrArg Value.pointer e33)) ?_
    refine HPlan.gtakev (v := (.pointer (some (Addr.add a32 1)))) rfl rfl rfl rfl rfl (congrArg Value.bool hb30) (fun _ => HVal.fieldAddr' Tryd.runUnderlying61 rfl rfl Tryd.sizeOf57 rfl) ?_
    obtain ⟨c34, h⟩ := h
    refine HPlan.gtakel (v := (.func (.func 19) #[] #[])) (fun X => cell X (Addr.add a32 1) = some (.func (.func 19) #[] #[])) rfl rfl rfl rfl rfl (congrArg Value.bool hb30) (fun _ hX => HVal.load1 Tryd.isAgg57 rfl hX) c34 ?_
    refine HPlan.gtakev (v := (.pointer p0)) rfl rfl rfl rfl rfl (congrArg Value.bool hb30) (fun _ => HVal.move' rfl) ?_
    obtain ⟨a35, e36, h⟩ := h
    refine HPlan.gtakev (v := (.pointer (some a35))) rfl rfl rfl rfl rfl (congrArg Value.bool hb30) (fun _ => HVal.nilCheck (congrArg Value.pointer e36)) ?_
    refine HPlan.gtakev (v := (.pointer (some a35))) rfl rfl rfl rfl rfl (congrArg Value.bool hb30) (fun _ => HVal.fieldAddr0 Tryd.runUnderlying61 rfl rfl Tryd.sizeOf59 rfl) ?_
    obtain ⟨x38, c37, h⟩ := h
    refine HPlan.gtakel (v := (Sl.v x38)) (fun X => cell X a35 = some (Sl.v x38)) rfl rfl rfl rfl rfl (congrArg Value.bool hb30) (fun _ hX => HVal.load1 Tryd.isAgg59 rfl hX) c37 ?_
    refine HPlan.gtakev (v := (.int .i64 y28)) rfl rfl rfl rfl rfl (congrArg Value.bool hb30) (fun _ => HVal.move' rfl) ?_
    obtain ⟨a39, e40, b41, b42, h⟩ := h
    refine HPlan.gtakev (v := (.pointer (some (Addr.add a39 (y28.toNat * 4))))) rfl rfl rfl rfl rfl (congrArg Value.bool hb30) (fun _ => HVal.indexAddr Tryd.runUnderlying59 Tryd.sizeOf56 (Sl.v_some rfl e40) rfl b41 b42) ?_
    obtain ⟨x44, x45, x46, x47, c43, h⟩ := h
    refine HPlan.gtakel (v := (.agg #[(.int .i64 x44), (.string x45), (.int .i64 x46), (Sl.v x47)])) (fun X => cells X (Addr.add a39 (y28.toNat * 4)) [(.int .i64 x44), (.string x45), (.int .i64 x46), (Sl.v x47)] 0) rfl rfl rfl rfl rfl (congrArg Value.bool hb30) (fun _ hX => HVal.loadN [(.int .i64 x44), (.string x45), (.int .i64 x46), (Sl.v x47)] Tryd.isAgg56 Tryd.sizeOf56 rfl hX) c43 ?_
    refine HPlan.gtakev (v := (.pointer p0)) rfl rfl rfl rfl rfl (congrArg Value.bool hb30) (fun _ => HVal.move' rfl) ?_
    obtain ⟨a48, e49, h⟩ := h
    refine HPlan.gtakev (v := (.pointer (some a48))) rfl rfl rfl rfl rfl (congrArg Value.bool hb30) (fun _ => HVal.nilCheck (congrArg Value.pointer e49)) ?_
    refine HPlan.gtakev (v := (.pointer (some a48))) rfl rfl rfl rfl rfl (congrArg Value.bool hb30) (fun _ => HVal.fieldAddr0 Tryd.runUnderlying61 rfl rfl Tryd.sizeOf59 rfl) ?_
    obtain ⟨x51, c50, h⟩ := h
    refine HPlan.gtakel (v := (Sl.v x51)) (fun X => cell X a48 = some (Sl.v x51)) rfl rfl rfl rfl rfl (congrArg Value.bool hb30) (fun _ hX => HVal.load1 Tryd.isAgg59 rfl hX) c50 ?_
    refine HPlan.gtakev (v := (.int .i64 y28)) rfl rfl rfl rfl rfl (congrArg Value.bool hb30) (fun _ => HVal.move' rfl) ?_
    refine HPlan.gtakev (v := (.int .i64 (IntKind.i64.wrap (y28 - 1)))) rfl rfl rfl rfl rfl (congrArg Value.bool hb30) (fun _ => HVal.sub rfl rfl) ?_
    refine HPlan.gtakev (v := (.int .i64 (IntKind.i64.wrap (Int.tdiv (IntKind.i64.wrap (y28 - 1)) (2 : Int))))) rfl rfl rfl rfl rfl (congrArg Value.bool hb30) (fun _ => HVal.quo rfl rfl (by decide)) ?_
    obtain ⟨a52, e53, b54, b55, h⟩ := h
    refine HPlan.gtakev (v := (.pointer (some (Addr.add a52 ((IntKind.i64.wrap (Int.tdiv (IntKind.i64.wrap (y28 - 1)) (2 : Int))).toNat * 4))))) rfl rfl rfl rfl rfl (congrArg Value.bool hb30) (fun _ => HVal.indexAddr Tryd.runUnderlying59 Tryd.sizeOf56 (Sl.v_some rfl e53) rfl b54 b55) ?_
    obtain ⟨x57, x58, x59, x60, c56, h⟩ := h
    refine HPlan.gtakel (v := (.agg #[(.int .i64 x57), (.string x58), (.int .i64 x59), (Sl.v x60)])) (fun X => cells X (Addr.add a52 ((IntKind.i64.wrap (Int.tdiv (IntKind.i64.wrap (y28 - 1)) (2 : Int))).toNat * 4)) [(.int .i64 x57), (.string x58), (.int .i64 x59), (Sl.v x60)] 0) rfl rfl rfl rfl rfl (congrArg Value.bool hb30) (fun _ hX => HVal.loadN [(.int .i64 x57), (.string x58), (.int .i64 x59), (Sl.v x60)] Tryd.isAgg56 Tryd.sizeOf56 rfl hX) c56 ?_
    refine HPlan.gops rfl rfl rfl rfl rfl (congrArg Value.bool hb30) (HOp.call' 19 [(.agg #[(.int .i64 x44), (.string x45), (.int .i64 x46), (Sl.v x47)]), (.agg #[(.int .i64 x57), (.string x58), (.int .i64 x59), (Sl.v x60)])] (cap := []) rfl rfl Tryd.call19 (walk19 h)) ?_
    rintro _ H61 ⟨r63, rfl, h⟩
    obtain ⟨s64, s65, h⟩ := h
    refine ⟨SC_of ⟨fun e => absurd e (by decide), fun _ => s64, fun e => absurd e (by decide), fun _ => s65, fun e => absurd e (by decide), trivial⟩, ?_⟩
    refine HPlan.takev (v := (.bool r63)) rfl rfl (fun _ => HVal.pickT rfl hb30 rfl) ?_
    refine HPlan.done ?_
    refine nt ?_
    obtain ⟨hT, hF⟩ := h
    refine HW.cond r63 rfl (fun hb66 => ?_) (fun hb66 => ?_)
    · have h := hT hb66
      clear hT hF
      refine HW.skip ?_
      refine nt ?_
      refine HW.seq ?_
      refine HW.block ?_
      refine HW.region ?_
      refine HList.vals (v := (.pointer p0)) rfl (HVal.move' rfl) ?_
      refine HList.vals (v := (.int .i64 y28)) rfl (HVal.move' rfl) ?_
      refine HList.vals (v := (.int .i64 y28)) rfl (HVal.move' rfl) ?_
      refine HList.vals (v := (.int .i64 (IntKind.i64.wrap (y28 - 1)))) rfl (HVal.sub rfl rfl) ?_
      refine HList.vals (v := (.int .i64 (IntKind.i64.wrap (Int.tdiv (IntKind.i64.wrap (y28 - 1)) (2 : Int))))) rfl (HVal.quo rfl rfl (by decide)) ?_
      refine HList.ops' rfl (HOp.call' 30 [(.pointer p0), (.int .i64 y28), (.int .i64 (IntKind.i64.wrap (Int.tdiv (IntKind.i64.wrap (y28 - 1)) (2 : Int))))] (cap := []) rfl rfl Tryd.call30 (walk30 h)) ?_
      rintro _ H67 ⟨rfl, h⟩
      refine HList.nil ?_
      refine nb ?_
      refine nt ?_
      refine HW.region ?_
      refine HList.vals (v := (.int .i64 y28)) rfl (HVal.move' rfl) ?_
      refine HList.vals (v := (.int .i64 (IntKind.i64.wrap (y28 - 1)))) rfl (HVal.sub rfl rfl) ?_
      refine HList.vals (v := (.int .i64 (IntKind.i64.wrap (Int.tdiv (IntKind.i64.wrap (y28 - 1)) (2 : Int))))) rfl (HVal.quo rfl rfl (by decide)) ?_
      refine HList.vals (v := (.int .i64 (IntKind.i64.wrap (Int.tdiv (IntKind.i64.wrap (y28 - 1)) (2 : Int))))) rfl (HVal.assign' rfl) ?_
      refine HList.nil ?_
      refine nt ?_
      exact (hX1 _ _).1 h _ ⟨rfl, rfl, trivial⟩
    · have h := hF hb66
      clear hT hF
      refine HW.exit ?_
      refine te ?_
      refine te ?_
      refine be ?_
      exact ⟨_, resOf0 rfl , ⟨rfl, h⟩⟩
  · have h := hF hb31
    clear hT hF
    refine HPlan.takegskip rfl rfl rfl rfl (congrArg Value.bool hb31) ?_
    refine HPlan.takegskip rfl rfl rfl rfl (congrArg Value.bool hb31) ?_
    refine HPlan.takegskip rfl rfl rfl rfl (congrArg Value.bool hb31) ?_
    refine HPlan.takegskip rfl rfl rfl rfl (congrArg Value.bool hb31) ?_
    refine HPlan.takegskip rfl rfl rfl rfl (congrArg Value.bool hb31) ?_
    refine HPlan.takegskip rfl rfl rfl rfl (congrArg Value.bool hb31) ?_
    refine HPlan.takegskip rfl rfl rfl rfl (congrArg Value.bool hb31) ?_
    refine HPlan.takegskip rfl rfl rfl rfl (congrArg Value.bool hb31) ?_
    refine HPlan.takegskip rfl rfl rfl rfl (congrArg Value.bool hb31) ?_
    refine HPlan.takegskip rfl rfl rfl rfl (congrArg Value.bool hb31) ?_
    refine HPlan.takegskip rfl rfl rfl rfl (congrArg Value.bool hb31) ?_
    refine HPlan.takegskip rfl rfl rfl rfl (congrArg Value.bool hb31) ?_
    refine HPlan.takegskip rfl rfl rfl rfl (congrArg Value.bool hb31) ?_
    refine HPlan.takegskip rfl rfl rfl rfl (congrArg Value.bool hb31) ?_
    refine HPlan.takegskip rfl rfl rfl rfl (congrArg Value.bool hb31) ?_
    refine HPlan.takegskip rfl rfl rfl rfl (congrArg Value.bool hb31) ?_
    refine HPlan.takegskip rfl rfl rfl rfl (congrArg Value.bool hb31) ?_
    refine HPlan.takegskip rfl rfl rfl rfl (congrArg Value.bool hb31) ?_
    refine HPlan.takegskip rfl rfl rfl rfl (congrArg Value.bool hb31) ?_
    refine HPlan.takegskip rfl rfl rfl rfl (congrArg Value.bool hb31) ?_
    refine HPlan.opgskip rfl rfl rfl rfl (congrArg Value.bool hb31) ?_
    refine HPlan.takev (v := (.bool false)) rfl rfl (fun _ => HVal.pickF rfl hb31 rfl) ?_
    refine HPlan.done ?_
    refine nt ?_
    refine HW.condF false rfl rfl ?_
    refine HW.exit ?_
    refine te ?_
    refine te ?_
    refine be ?_
    exact ⟨_, resOf0 rfl , ⟨rfl, h⟩⟩

def F31 (p0 : Sl) (H : Hp) (Q : Sl → Hp → Prop) : Prop :=
(((p0).b.isNone) = true → (Q Sl.nil H)) ∧
 (((p0).b.isNone) = false → (∀ H2 : Hp, H2 = Array.push H (.cells #[] 76) → (
 AppendF H2 76 4 40 #[(.int .i64 0), (.int .i64 0), (.string (ByteArray.mk #[])), (.bool false)] (Sl.mk (some ⟨H.size, 0, none⟩) 0 0) (p0).b (p0).n (fun (r6 : Sl) (H4 : Hp) => 
 Q r6 H4))))
set_option maxRecDepth 100000 in
set_option maxHeartbeats 4000000 in
theorem walk31 {w0 : World} {p0 : Sl} {H : Hp} {Q : Sl → Hp → Prop} (h : F31 p0 H Q) :
    Good Tryd.prog w0 31 #[(Sl.v p0)] H (fun v H => ∃ (r0 : Sl) , v = (Sl.v r0) ∧ Q r0 H) := by
  unfold F31 at h
  refine Good.enter' (fn := Tryd.f31) Tryd.func31 rfl rfl rfl ?_
  refine HW.seq ?_
  refine HW.region ?_
  refine HList.vals (v := (Sl.v Sl.nil)) rfl (HVal.assign' rfl) ?_
  refine HList.nil ?_
  refine nt ?_
  refine HW.seq ?_
  refine HW.seq ?_
  refine HW.region ?_
  refine HList.vals (v := (Sl.v p0)) rfl (HVal.move' rfl) ?_
  refine HList.vals (v := (.bool ((p0).b.isNone))) rfl (HVal.eqlSN Tryd.underlying31 rfl rfl) ?_
  refine HList.nil ?_
  refine nt ?_
  obtain ⟨hT, hF⟩ := h
  refine HW.cond ((p0).b.isNone) rfl (fun hb1 => ?_) (fun hb1 => ?_)
  · have h := hT hb1
    clear hT hF
    refine HW.seq ?_
    refine HW.region ?_
    refine HList.vals (v := (Sl.v Sl.nil)) rfl (HVal.assign' rfl) ?_
    refine HList.nil ?_
    refine nt ?_
    refine HW.ret ?_
    refine tr ?_
    exact ⟨_, resOf1 rfl Res1.t, ⟨Sl.nil, rfl, h⟩⟩
  · have h := hF hb1
    clear hT hF
    refine HW.skip ?_
    refine nt ?_
    refine HW.seq ?_
    refine HW.region ?_
    refine HList.ops' rfl (HOp.buildSlice0 (cs := []) Tryd.runUnderlying31 Tryd.sizeOf76 (by decide) rfl) ?_
    rintro _ H2 ⟨rfl, e3⟩
    replace h := h H2 e3
    refine HList.vals (v := (Sl.v p0)) rfl (HVal.move' rfl) ?_
    refine HList.ops' rfl (HOp.append (k := 4) (b := 40) Tryd.runUnderlying31 Tryd.runUnderlying31 Tryd.typeInfo76 rfl rfl Tryd.zeroValue76 rfl rfl h) ?_
    rintro _ H4 ⟨r6, rfl, h⟩
    refine HList.vals (v := (Sl.v r6)) rfl (HVal.assign' rfl) ?_
    refine HList.nil ?_
    refine nt ?_
    refine HW.ret ?_
    exact ⟨_, resOf1 rfl Res1.t, ⟨r6, rfl, h⟩⟩

def F23 (p0_0 : ByteArray) (p0_1 : Int) (p0_2 : Sl) (H : Hp) (Q : ByteArray → Int → Sl → Hp → Prop) : Prop :=
∀ H1 : Hp, H1 = Array.push H (.cells #[(.string p0_0), (.int .i64 p0_1), (Sl.v p0_2)] 33) → (
 ∀ H3 : Hp, H3 = Array.push H1 (.cells #[(.string (ByteArray.mk #[])), (.int .i64 0), (Sl.v Sl.nil)] 33) → (
 ∃ x6 : Sl, cell H3 (Addr.add ⟨H.size, 0, none⟩ 2) = some (Sl.v x6) ∧ (
 F31 x6 H3 (fun (r9 : Sl) (H7 : Hp) => 
 (cell H7 (Addr.add ⟨H.size, 0, none⟩ 2)).isSome = true ∧ frz H7 (Addr.add ⟨H.size, 0, none⟩ 2) = false ∧ ∀ H10 : Hp, H10 = setc H7 (Addr.add ⟨H.size, 0, none⟩ 2) (Sl.v r9) → (
 ∃ (x15 : ByteArray) (x16 : Int) (x17 : Sl), cells H10 ⟨H.size, 0, none⟩ [(.string x15), (.int .i64 x16), (Sl.v x17)] 0 ∧ (
 mayw H10 ⟨H1.size, 0, none⟩ 3 0 ∧ ∀ H18 : Hp, H18 = sets H10 ⟨H1.size, 0, none⟩ [(.string x15), (.int .i64 x16), (Sl.v x17)] 0 → (
 ∃ (x21 : ByteArray) (x22 : Int) (x23 : Sl), cells H18 ⟨H1.size, 0, none⟩ [(.string x21), (.int .i64 x22), (Sl.v x23)] 0 ∧ (
 Q x21 x22 x23 H18))))))))
set_option maxRecDepth 100000 in
set_option maxHeartbeats 4000000 in
theorem walk23 {w0 : World} {p0_0 : ByteArray} {p0_1 : Int} {p0_2 : Sl} {H : Hp} {Q : ByteArray → Int → Sl → Hp → Prop} (h : F23 p0_0 p0_1 p0_2 H Q) :
    Good Tryd.prog w0 23 #[(.agg #[(.string p0_0), (.int .i64 p0_1), (Sl.v p0_2)])] H (fun v H => ∃ (r0 : ByteArray) (r1 : Int) (r2 : Sl) , v = (.agg #[(.string r0), (.int .i64 r1), (Sl.v r2)]) ∧ Q r0 r1 r2 H) := by
  unfold F23 at h
  refine Good.enter' (fn := Tryd.f23) Tryd.func23 rfl rfl rfl ?_
  refine HW.seq ?_
  refine HW.region ?_
  refine HList.ops' rfl (HOp.box (v := (.agg #[(.string p0_0), (.int .i64 p0_1), (Sl.v p0_2)])) rfl) ?_
  rintro _ H1 ⟨rfl, e2⟩
  replace h := h H1 e2
  refine HList.ops' rfl (HOp.alloc Tryd.zeroValue33) ?_
  rintro _ H3 ⟨rfl, e4⟩
  replace h := h H3 e4
  refine HList.nil ?_
  refine nt ?_
  refine HW.seq ?_
  refine HW.region ?_
  refine HList.vals (v := (.pointer (some (Addr.add ⟨H.size, 0, none⟩ 2)))) rfl (HVal.fieldAddr' Tryd.runUnderlying33 rfl rfl Tryd.sizeOf31 rfl) ?_
  obtain ⟨x6, c5, h⟩ := h
  refine HList.vals (v := (Sl.v x6)) rfl (HVal.load1 Tryd.isAgg31 rfl c5) ?_
  refine HList.ops' rfl (HOp.call' 31 [(Sl.v x6)] (cap := []) rfl rfl Tryd.call31 (walk31 h)) ?_
  rintro _ H7 ⟨r9, rfl, h⟩
  refine HList.vals (v := (.pointer (some (Addr.add ⟨H.size, 0, none⟩ 2)))) rfl (HVal.fieldAddr' Tryd.runUnderlying33 rfl rfl Tryd.sizeOf31 rfl) ?_
  obtain ⟨z12, z13, h⟩ := h
  refine HList.opsn (HOp.store1 Tryd.sizeOf31 rfl rfl rfl z12 z13) ?_
  rintro _ H10 e11
  replace h := h H10 e11
  refine HList.nil ?_
  refine nt ?_
  refine HW.seq ?_
  refine HW.region ?_
  obtain ⟨x15, x16, x17, c14, h⟩ := h
  refine HList.vals (v := (.agg #[(.string x15), (.int .i64 x16), (Sl.v x17)])) rfl (HVal.loadN [(.string x15), (.int .i64 x16), (Sl.v x17)] Tryd.isAgg33 Tryd.sizeOf33 rfl c14) ?_
  obtain ⟨z20, h⟩ := h
  refine HList.opsn (HOp.storeN' (l := [(.string x15), (.int .i64 x16), (Sl.v x17)]) Tryd.sizeOf33 rfl rfl rfl z20) ?_
  rintro _ H18 e19
  replace h := h H18 e19
  refine HList.nil ?_
  refine nt ?_
  refine HW.ret ?_
  obtain ⟨x21, x22, x23, c24, h⟩ := h
  exact ⟨_, resOf1 rfl (Res1.n [(.string x21), (.int .i64 x22), (Sl.v x23)] Tryd.isAgg33 Tryd.sizeOf33 rfl c24), ⟨x21, x22, x23, rfl, h⟩⟩

def F27_4 (Q : Int → ByteArray → Int → Sl → Hp → Prop) (X1 : Int → Hp → Prop) (y141 : (Option Addr)) (y142 : Addr) (y143 : Addr) (y144 : Int) (y145 : Int) (y146 : Int) (y149 : Bool) (H_4 : Hp) : Prop :=
(y149 = true → (∃ (x186 : Int) (x187 : ByteArray) (x188 : Int) (x189 : Sl), cells H_4 y143 [(.int .i64 x186), (.string x187), (.int .i64 x188), (Sl.v x189)] 0 ∧ (
 mayw H_4 y142 4 0 ∧ ∀ H190 : Hp, H190 = sets H_4 y142 [(.int .i64 x186), (.string x187), (.int .i64 x188), (Sl.v x189)] 0 → (
 ∃ (x193 : Int) (x194 : ByteArray) (x195 : Int) (x196 : Sl), cells H190 y142 [(.int .i64 x193), (.string x194), (.int .i64 x195), (Sl.v x196)] 0 ∧ (
 Q x193 x194 x195 x196 H190))))) ∧
 (y149 = false → (F30 y141 y145 y146 H_4 (fun (H198 : Hp) => 
 X1 y146 H198)))
def F27_2 (Q : Int → ByteArray → Int → Sl → Hp → Prop) (X1 : Int → Hp → Prop) (y91 : (Option Addr)) (y92 : Addr) (y93 : Addr) (y94 : Int) (y95 : Int) (y140 : Int) (H_2 : Hp) : Prop :=
((decide (y94 ≤ y140)) = true → (F27_4 Q X1 y91 y92 y93 y94 y95 y140 true H_2)) ∧
 ((decide (y94 ≤ y140)) = false → (∃ a150 : Addr, y91 = some a150 ∧ (
 cell H_2 (Addr.add a150 1) = some (.func (.func 19) #[] #[]) ∧ (
 ∃ a153 : Addr, y91 = some a153 ∧ (
 ∃ x156 : Sl, cell H_2 a153 = some (Sl.v x156) ∧ (
 ∃ a157 : Addr, (x156).b = some a157 ∧ (0 : Int) ≤ y140 ∧ y140 < ((x156).n : Int) ∧ (
 ∃ (x162 : Int) (x163 : ByteArray) (x164 : Int) (x165 : Sl), cells H_2 (Addr.add a157 (y140.toNat * 4)) [(.int .i64 x162), (.string x163), (.int .i64 x164), (Sl.v x165)] 0 ∧ (
 ∃ a166 : Addr, y91 = some a166 ∧ (
 ∃ x169 : Sl, cell H_2 a166 = some (Sl.v x169) ∧ (
 ∃ a170 : Addr, (x169).b = some a170 ∧ (0 : Int) ≤ y95 ∧ y95 < ((x169).n : Int) ∧ (
 ∃ (x175 : Int) (x176 : ByteArray) (x177 : Int) (x178 : Sl), cells H_2 (Addr.add a170 (y95.toNat * 4)) [(.int .i64 x175), (.string x176), (.int .i64 x177), (Sl.v x178)] 0 ∧ (
 F19 x162 x163 x164 x165 x175 x176 x177 x178 H_2 (fun (r181 : Bool) (H179 : Hp) => 
 cell H179 a166 = some (Sl.v x169) ∧ cell H179 a153 = some (Sl.v x156) ∧ (
 F27_4 Q X1 y91 y92 y93 y94 y95 y140 (!r181) H179))))))))))))))
def F27_3 (Q : Int → ByteArray → Int → Sl → Hp → Prop) (X1 : Int → Hp → Prop) (y96 : (Option Addr)) (y97 : Addr) (y98 : Addr) (y99 : Int) (y100 : Int) (y101 : Int) (y138 : Bool) (H_3 : Hp) : Prop :=
(y138 = true → (F27_2 Q X1 y96 y97 y98 y99 y100 (IntKind.i64.wrap (y101 + 1)) H_3)) ∧
 (y138 = false → (F27_2 Q X1 y96 y97 y98 y99 y100 y101 H_3))
def F27_L1b (Q : Int → ByteArray → Int → Sl → Hp → Prop) (X1 : Int → Hp → Prop) (y87 : (Option Addr)) (y88 : Addr) (y89 : Addr) (y90 : Int) (y86 : Int) (H_1 : Hp) : Prop :=
((decide ((IntKind.i64.wrap ((IntKind.i64.wrap ((IntKind.i64.wrap (2 * y86)) + 1)) + 1)) < y90)) = true → (∃ a104 : Addr, y87 = some a104 ∧ (
 cell H_1 (Addr.add a104 1) = some (.func (.func 19) #[] #[]) ∧ (
 ∃ a107 : Addr, y87 = some a107 ∧ (
 ∃ x110 : Sl, cell H_1 a107 = some (Sl.v x110) ∧ (
 ∃ a111 : Addr, (x110).b = some a111 ∧ (0 : Int) ≤ (IntKind.i64.wrap ((IntKind.i64.wrap ((IntKind.i64.wrap (2 * y86)) + 1)) + 1)) ∧ (IntKind.i64.wrap ((IntKind.i64.wrap ((IntKind.i64.wrap (2 * y86)) + 1)) + 1)) < ((x110).n : Int) ∧ (
 ∃ (x116 : Int) (x117 : ByteArray) (x118 : Int) (x119 : Sl), cells H_1 (Addr.add a111 ((IntKind.i64.wrap ((IntKind.i64.wrap ((IntKind.i64.wrap (2 * y86)) + 1)) + 1)).toNat * 4)) [(.int .i64 x116), (.string x117), (.int .i64 x118), (Sl.v x119)] 0 ∧ (
 ∃ a120 : Addr, y87 = some a120 ∧ (
 ∃ x123 : Sl, cell H_1 a120 = some (Sl.v x123) ∧ (
 ∃ a124 : Addr, (x123).b = some a124 ∧ (0 : Int) ≤ (IntKind.i64.wrap ((IntKind.i64.wrap (2 * y86)) + 1)) ∧ (IntKind.i64.wrap ((IntKind.i64.wrap (2 * y86)) + 1)) < ((x123).n : Int) ∧ (
 ∃ (x129 : Int) (x130 : ByteArray) (x131 : Int) (x132 : Sl), cells H_1 (Addr.add a124 ((IntKind.i64.wrap ((IntKind.i64.wrap (2 * y86)) + 1)).toNat * 4)) [(.int .i64 x129), (.string x130), (.int .i64 x131), (Sl.v x132)] 0 ∧ (
 F19 x116 x117 x118 x119 x129 x130 x131 x132 H_1 (fun (r135 : Bool) (H133 : Hp) => 
 cell H133 a120 = some (Sl.v x123) ∧ cell H133 a107 = some (Sl.v x110) ∧ (
 F27_3 Q X1 y87 y88 y89 y90 y86 (IntKind.i64.wrap ((IntKind.i64.wrap (2 * y86)) + 1)) r135 H133)))))))))))))) ∧
 ((decide ((IntKind.i64.wrap ((IntKind.i64.wrap ((IntKind.i64.wrap (2 * y86)) + 1)) + 1)) < y90)) = false → (F27_3 Q X1 y87 y88 y89 y90 y86 (IntKind.i64.wrap ((IntKind.i64.wrap (2 * y86)) + 1)) false H_1))
def F27_L1 (Q : Int → ByteArray → Int → Sl → Hp → Prop) (y87 : (Option Addr)) (y88 : Addr) (y89 : Addr) (y90 : Int) (y86 : Int) (H_1 : Hp) : Prop :=
  ∀ X1 : Int → Hp → Prop, (∀ (y86 : Int) (H_1 : Hp), F27_L1b Q X1 y87 y88 y89 y90 y86 H_1 → X1 y86 H_1) → X1 y86 H_1
def F27 (p0 : (Option Addr)) (H : Hp) (Q : Int → ByteArray → Int → Sl → Hp → Prop) : Prop :=
∀ H1 : Hp, H1 = Array.push H (.cells #[(.int .i64 0), (.string (ByteArray.mk #[])), (.int .i64 0), (Sl.v Sl.nil)] 56) → (
 ∃ a3 : Addr, p0 = some a3 ∧ (
 ∃ x6 : Sl, cell H1 a3 = some (Sl.v x6) ∧ (
 ∃ a7 : Addr, (x6).b = some a7 ∧ (0 : Int) ≤ 0 ∧ (0 : Int) < ((x6).n : Int) ∧ (
 ∃ (x12 : Int) (x13 : ByteArray) (x14 : Int) (x15 : Sl), cells H1 (Addr.add a7 ((0 : Int).toNat * 4)) [(.int .i64 x12), (.string x13), (.int .i64 x14), (Sl.v x15)] 0 ∧ (
 ∃ a16 : Addr, p0 = some a16 ∧ (
 ∃ x19 : Sl, cell H1 a16 = some (Sl.v x19) ∧ (
 ∀ H20 : Hp, H20 = Array.push H1 (.cells #[(.int .i64 0), (.string (ByteArray.mk #[])), (.int .i64 0), (Sl.v Sl.nil)] 56) → (
 cell H20 a16 = some (Sl.v x19) ∧ cells H20 (Addr.add a7 ((0 : Int).toNat * 4)) [(.int .i64 x12), (.string x13), (.int .i64 x14), (Sl.v x15)] 0 ∧ cell H20 a3 = some (Sl.v x6) ∧ (
 mayw H20 ⟨H1.size, 0, none⟩ 4 0 ∧ ∀ H25 : Hp, H25 = sets H20 ⟨H1.size, 0, none⟩ [(.int .i64 x12), (.string x13), (.int .i64 x14), (Sl.v x15)] 0 → (
 cell H25 a16 = some (Sl.v x19) ∧ (
 ∀ H29 : Hp, H29 = Array.push H25 (.cells #[(.int .i64 0), (.string (ByteArray.mk #[])), (.int .i64 0), (Sl.v Sl.nil)] 56) → (
 ∃ a31 : Addr, p0 = some a31 ∧ (
 ∃ x34 : Sl, cell H29 a31 = some (Sl.v x34) ∧ (
 ∃ a35 : Addr, p0 = some a35 ∧ (
 ∃ x38 : Sl, cell H29 a35 = some (Sl.v x38) ∧ (
 ∃ a39 : Addr, p0 = some a39 ∧ (
 ∃ x42 : Sl, cell H29 a39 = some (Sl.v x42) ∧ (
 ∃ a43 : Addr, (x42).b = some a43 ∧ (0 : Int) ≤ (IntKind.i64.wrap (((x19).n : Int) - 1)) ∧ (IntKind.i64.wrap (((x19).n : Int) - 1)) < ((x42).n : Int) ∧ (
 ∃ (x48 : Int) (x49 : ByteArray) (x50 : Int) (x51 : Sl), cells H29 (Addr.add a43 ((IntKind.i64.wrap (((x19).n : Int) - 1)).toNat * 4)) [(.int .i64 x48), (.string x49), (.int .i64 x50), (Sl.v x51)] 0 ∧ (
 ∃ (x53 : Int) (x54 : ByteArray) (x55 : Int) (x56 : Sl), cells H29 ⟨H25.size, 0, none⟩ [(.int .i64 x53), (.string x54), (.int .i64 x55), (Sl.v x56)] 0 ∧ (
 ∃ a57 : Addr, (x34).b = some a57 ∧ (0 : Int) ≤ 0 ∧ (0 : Int) < ((x34).n : Int) ∧ (
 mayw H29 (Addr.add a57 ((0 : Int).toNat * 4)) 4 0 ∧ ∀ H61 : Hp, H61 = sets H29 (Addr.add a57 ((0 : Int).toNat * 4)) [(.int .i64 x48), (.string x49), (.int .i64 x50), (Sl.v x51)] 0 → (
 cells H61 ⟨H25.size, 0, none⟩ [(.int .i64 x53), (.string x54), (.int .i64 x55), (Sl.v x56)] 0 ∧ (
 ∃ a65 : Addr, (x38).b = some a65 ∧ (0 : Int) ≤ (IntKind.i64.wrap (((x19).n : Int) - 1)) ∧ (IntKind.i64.wrap (((x19).n : Int) - 1)) < ((x38).n : Int) ∧ (
 mayw H61 (Addr.add a65 ((IntKind.i64.wrap (((x19).n : Int) - 1)).toNat * 4)) 4 0 ∧ ∀ H69 : Hp, H69 = sets H61 (Addr.add a65 ((IntKind.i64.wrap (((x19).n : Int) - 1)).toNat * 4)) [(.int .i64 x53), (.string x54), (.int .i64 x55), (Sl.v x56)] 0 → (
 ∃ a72 : Addr, p0 = some a72 ∧ (
 ∃ x75 : Sl, cell H69 a72 = some (Sl.v x75) ∧ (
 (0 : Int) ≤ (IntKind.i64.wrap (((x19).n : Int) - 1)) ∧ 0 ≤ (IntKind.i64.wrap (((x19).n : Int) - 1)).toNat ∧ (IntKind.i64.wrap (((x19).n : Int) - 1)).toNat ≤ (x75).c ∧ (x75).c ≤ (x75).c ∧ (
 ∃ a80 : Addr, p0 = some a80 ∧ (
 (cell H69 a80).isSome = true ∧ frz H69 a80 = false ∧ ∀ H82 : Hp, H82 = setc H69 a80 (Sl.v (Sl.cut x75 4 0 ((IntKind.i64.wrap (((x19).n : Int) - 1)).toNat) ((x75).c))) → (
 F27_L1 Q p0 ⟨H.size, 0, none⟩ ⟨H1.size, 0, none⟩ (IntKind.i64.wrap (((x19).n : Int) - 1)) 0 H82)))))))))))))))))))))))))))))))
set_option maxRecDepth 100000 in
set_option maxHeartbeats 4000000 in
theorem walk27 {w0 : World} {p0 : (Option Addr)} {H : Hp} {Q : Int → ByteArray → Int → Sl → Hp → Prop} (h : F27 p0 H Q) :
    Good Tryd.prog w0 27 #[(.pointer p0)] H (fun v H => ∃ (r0 : Int) (r1 : ByteArray) (r2 : Int) (r3 : Sl) , v = (.agg #[(.int .i64 r0), (.string r1), (.int .i64 r2), (Sl.v r3)]) ∧ Q r0 r1 r2 r3 H) := by
  unfold F27 at h
  refine Good.enter' (fn := Tryd.f27) Tryd.func27 rfl rfl rfl ?_
  refine HW.seq ?_
  refine HW.region ?_
  refine HList.ops' rfl (HOp.alloc Tryd.zeroValue56) ?_
  rintro _ H1 ⟨rfl, e2⟩
  replace h := h H1 e2
  refine HList.nil ?_
  refine nt ?_
  refine HW.seq ?_
  refine HW.draw mixed [(0, some []), (1, some []), (2, some []), (3, some [13]), (4, some []), (5, some [13]), (6, some []), (7, some []), (8, some []), (9, some []), (10, some []), (11, some []), (12, none), (13, none), (14, some [])] rfl (by kernel_rfl) (by kernel_rfl) ?_
  refine HPlan.takev (v := (.pointer p0)) rfl rfl (fun _ => HVal.move' rfl) ?_
  obtain ⟨a3, e4, h⟩ := h
  refine HPlan.takev (v := (.pointer (some a3))) rfl rfl (fun _ => HVal.nilCheck (congrArg Value.pointer e4)) ?_
  refine HPlan.takev (v := (.pointer (some a3))) rfl rfl (fun _ => HVal.fieldAddr0 Tryd.runUnderlying61 rfl rfl Tryd.sizeOf59 rfl) ?_
  obtain ⟨x6, c5, h⟩ := h
  refine HPlan.takel (v := (Sl.v x6)) (fun X => cell X a3 = some (Sl.v x6)) rfl rfl (fun _ hX => HVal.load1 Tryd.isAgg59 rfl hX) c5 ?_
  obtain ⟨a7, e8, b9, b10, h⟩ := h
  refine HPlan.takev (v := (.pointer (some (Addr.add a7 ((0 : Int).toNat * 4))))) rfl rfl (fun _ => HVal.indexAddr Tryd.runUnderlying59 Tryd.sizeOf56 (Sl.v_some rfl e8) rfl b9 b10) ?_
  obtain ⟨x12, x13, x14, x15, c11, h⟩ := h
  refine HPlan.takel (v := (.agg #[(.int .i64 x12), (.string x13), (.int .i64 x14), (Sl.v x15)])) (fun X => cells X (Addr.add a7 ((0 : Int).toNat * 4)) [(.int .i64 x12), (.string x13), (.int .i64 x14), (Sl.v x15)] 0) rfl rfl (fun _ hX => HVal.loadN [(.int .i64 x12), (.string x13), (.int .i64 x14), (Sl.v x15)] Tryd.isAgg56 Tryd.sizeOf56 rfl hX) c11 ?_
  refine HPlan.takev (v := (.pointer p0)) rfl rfl (fun _ => HVal.move' rfl) ?_
  obtain ⟨a16, e17, h⟩ := h
  refine HPlan.takev (v := (.pointer (some a16))) rfl rfl (fun _ => HVal.nilCheck (congrArg Value.pointer e17)) ?_
  refine HPlan.takev (v := (.pointer (some a16))) rfl rfl (fun _ => HVal.fieldAddr0 Tryd.runUnderlying61 rfl rfl Tryd.sizeOf59 rfl) ?_
  obtain ⟨x19, c18, h⟩ := h
  refine HPlan.takel (v := (Sl.v x19)) (fun X => cell X a16 = some (Sl.v x19)) rfl rfl (fun _ hX => HVal.load1 Tryd.isAgg59 rfl hX) c18 ?_
  refine HPlan.takev (v := (.int .i64 ((x19).n : Int))) rfl rfl (fun _ => HVal.len Tryd.runUnderlying59 rfl) ?_
  refine HPlan.takev (v := (.int .i64 (IntKind.i64.wrap (((x19).n : Int) - 1)))) rfl rfl (fun _ => HVal.sub rfl rfl) ?_
  refine HPlan.ops' rfl rfl (HOp.alloc Tryd.zeroValue56) ?_
  rintro _ H20 ⟨rfl, e21⟩
  replace h := h H20 e21
  obtain ⟨s22, s23, s24, h⟩ := h
  refine ⟨SC_of ⟨fun _ => s22, fun _ => s23, fun _ => s24, trivial⟩, ?_⟩
  obtain ⟨z27, h⟩ := h
  refine HPlan.opsn rfl (HOp.storeN' (l := [(.int .i64 x12), (.string x13), (.int .i64 x14), (Sl.v x15)]) Tryd.sizeOf56 rfl rfl rfl z27) ?_
  rintro _ H25 e26
  replace h := h H25 e26
  obtain ⟨s28, h⟩ := h
  refine ⟨SC_of ⟨fun _ => s28, fun e => absurd e (by decide), fun e => absurd e (by decide), trivial⟩, ?_⟩
  refine HPlan.takev (v := (.int .i64 (IntKind.i64.wrap (((x19).n : Int) - 1)))) rfl rfl (fun _ => HVal.assign' rfl) ?_
  refine HPlan.done ?_
  refine nt ?_
  refine HW.seq ?_
  refine HW.region ?_
  refine HList.ops' rfl (HOp.alloc Tryd.zeroValue56) ?_
  rintro _ H29 ⟨rfl, e30⟩
  replace h := h H29 e30
  refine HList.nil ?_
  refine nt ?_
  refine HW.seq ?_
  refine HW.draw mixed [(0, some []), (1, some []), (2, some []), (3, some [18, 20]), (4, some []), (5, some []), (6, some []), (7, some [18, 20]), (8, some []), (9, some []), (10, some []), (11, some []), (12, some [18, 20]), (13, some []), (14, some []), (15, some [18, 20]), (16, some [20]), (17, some []), (18, none), (19, some []), (20, none)] rfl (by kernel_rfl) (by kernel_rfl) ?_
  refine HPlan.takev (v := (.pointer p0)) rfl rfl (fun _ => HVal.move' rfl) ?_
  obtain ⟨a31, e32, h⟩ := h
  refine HPlan.takev (v := (.pointer (some a31))) rfl rfl (fun _ => HVal.nilCheck (congrArg Value.pointer e32)) ?_
  refine HPlan.takev (v := (.pointer (some a31))) rfl rfl (fun _ => HVal.fieldAddr0 Tryd.runUnderlying61 rfl rfl Tryd.sizeOf59 rfl) ?_
  obtain ⟨x34, c33, h⟩ := h
  refine HPlan.takel (v := (Sl.v x34)) (fun X => cell X a31 = some (Sl.v x34)) rfl rfl (fun _ hX => HVal.load1 Tryd.isAgg59 rfl hX) c33 ?_
  refine HPlan.takev (v := (.pointer p0)) rfl rfl (fun _ => HVal.move' rfl) ?_
  obtain ⟨a35, e36, h⟩ := h
  refine HPlan.takev (v := (.pointer (some a35))) rfl rfl (fun _ => HVal.nilCheck (congrArg Value.pointer e36)) ?_
  refine HPlan.takev (v := (.pointer (some a35))) rfl rfl (fun _ => HVal.fieldAddr0 Tryd.runUnderlying61 rfl rfl Tryd.sizeOf59 rfl) ?_
  obtain ⟨x38, c37, h⟩ := h
  refine HPlan.takel (v := (Sl.v x38)) (fun X => cell X a35 = some (Sl.v x38)) rfl rfl (fun _ hX => HVal.load1 Tryd.isAgg59 rfl hX) c37 ?_
  refine HPlan.takev (v := (.int .i64 (IntKind.i64.wrap (((x19).n : Int) - 1)))) rfl rfl (fun _ => HVal.move' rfl) ?_
  refine HPlan.takev (v := (.pointer p0)) rfl rfl (fun _ => HVal.move' rfl) ?_
  obtain ⟨a39, e40, h⟩ := h
  refine HPlan.takev (v := (.pointer (some a39))) rfl rfl (fun _ => HVal.nilCheck (congrArg Value.pointer e40)) ?_
  refine HPlan.takev (v := (.pointer (some a39))) rfl rfl (fun _ => HVal.fieldAddr0 Tryd.runUnderlying61 rfl rfl Tryd.sizeOf59 rfl) ?_
  obtain ⟨x42, c41, h⟩ := h
  refine HPlan.takel (v := (Sl.v x42)) (fun X => cell X a39 = some (Sl.v x42)) rfl rfl (fun _ hX => HVal.load1 Tryd.isAgg59 rfl hX) c41 ?_
  refine HPlan.takev (v := (.int .i64 (IntKind.i64.wrap (((x19).n : Int) - 1)))) rfl rfl (fun _ => HVal.move' rfl) ?_
  obtain ⟨a43, e44, b45, b46, h⟩ := h
  refine HPlan.takev (v := (.pointer (some (Addr.add a43 ((IntKind.i64.wrap (((x19).n : Int) - 1)).toNat * 4))))) rfl rfl (fun _ => HVal.indexAddr Tryd.runUnderlying59 Tryd.sizeOf56 (Sl.v_some rfl e44) rfl b45 b46) ?_
  obtain ⟨x48, x49, x50, x51, c47, h⟩ := h
  refine HPlan.takel (v := (.agg #[(.int .i64 x48), (.string x49), (.int .i64 x50), (Sl.v x51)])) (fun X => cells X (Addr.add a43 ((IntKind.i64.wrap (((x19).n : Int) - 1)).toNat * 4)) [(.int .i64 x48), (.string x49), (.int .i64 x50), (Sl.v x51)] 0) rfl rfl (fun _ hX => HVal.loadN [(.int .i64 x48), (.string x49), (.int .i64 x50), (Sl.v x51)] Tryd.isAgg56 Tryd.sizeOf56 rfl hX) c47 ?_
  obtain ⟨x53, x54, x55, x56, c52, h⟩ := h
  refine HPlan.takel (v := (.agg #[(.int .i64 x53), (.string x54), (.int .i64 x55), (Sl.v x56)])) (fun X => cells X ⟨H25.size, 0, none⟩ [(.int .i64 x53), (.string x54), (.int .i64 x55), (Sl.v x56)] 0) rfl rfl (fun _ hX => HVal.loadN [(.int .i64 x53), (.string x54), (.int .i64 x55), (Sl.v x56)] Tryd.isAgg56 Tryd.sizeOf56 rfl hX) c52 ?_
  obtain ⟨a57, e58, b59, b60, h⟩ := h
  refine HPlan.takev (v := (.pointer (some (Addr.add a57 ((0 : Int).toNat * 4))))) rfl rfl (fun _ => HVal.indexAddr Tryd.runUnderlying59 Tryd.sizeOf56 (Sl.v_some rfl e58) rfl b59 b60) ?_
  obtain ⟨z63, h⟩ := h
  refine HPlan.opsn rfl (HOp.storeN' (l := [(.int .i64 x48), (.string x49), (.int .i64 x50), (Sl.v x51)]) Tryd.sizeOf56 rfl rfl rfl z63) ?_
  rintro _ H61 e62
  replace h := h H61 e62
  obtain ⟨s64, h⟩ := h
  refine ⟨SC_of ⟨fun _ => s64, fun e => absurd e (by decide), fun e => absurd e (by decide), fun e => absurd e (by decide), fun e => absurd e (by decide), trivial⟩, ?_⟩
  obtain ⟨a65, e66, b67, b68, h⟩ := h
  refine HPlan.takev (v := (.pointer (some (Addr.add a65 ((IntKind.i64.wrap (((x19).n : Int) - 1)).toNat * 4))))) rfl rfl (fun _ => HVal.indexAddr Tryd.runUnderlying59 Tryd.sizeOf56 (Sl.v_some rfl e66) rfl b67 b68) ?_
  obtain ⟨z71, h⟩ := h
  refine HPlan.opsn rfl (HOp.storeN' (l := [(.int .i64 x53), (.string x54), (.int .i64 x55), (Sl.v x56)]) Tryd.sizeOf56 rfl rfl rfl z71) ?_
  rintro _ H69 e70
  replace h := h H69 e70
  refine ⟨SC_of ⟨fun e => absurd e (by decide), fun e => absurd e (by decide), fun e => absurd e (by decide), fun e => absurd e (by decide), fun e => absurd e (by decide), trivial⟩, ?_⟩
  refine HPlan.done ?_
  refine nt ?_
  refine HW.seq ?_
  refine HW.region ?_
  refine HList.vals (v := (.pointer p0)) rfl (HVal.move' rfl) ?_
  refine HList.vals (v := (.pointer p0)) rfl (HVal.move' rfl) ?_
  obtain ⟨a72, e73, h⟩ := h
  refine HList.vals (v := (.pointer (some a72))) rfl (HVal.nilCheck (congrArg Value.pointer e73)) ?_
  refine HList.vals (v := (.pointer (some a72))) rfl (HVal.fieldAddr0 Tryd.runUnderlying61 rfl rfl Tryd.sizeOf59 rfl) ?_
  obtain ⟨x75, c74, h⟩ := h
  refine HList.vals (v := (Sl.v x75)) rfl (HVal.load1 Tryd.isAgg59 rfl c74) ?_
  refine HList.vals (v := (.int .i64 (IntKind.i64.wrap (((x19).n : Int) - 1)))) rfl (HVal.move' rfl) ?_
  obtain ⟨z76, z77, z78, z79, h⟩ := h
  refine HList.vals (v := (Sl.v (Sl.cut x75 4 0 ((IntKind.i64.wrap (((x19).n : Int) - 1)).toNat) ((x75).c)))) rfl (HVal.slice _ _ _ Tryd.runUnderlying59 Tryd.sizeOf56 rfl rfl ⟨_, _, rfl, z76, rfl⟩ rfl (by decide) z77 z78 z79) ?_
  obtain ⟨a80, e81, h⟩ := h
  refine HList.vals (v := (.pointer (some a80))) rfl (HVal.nilCheck (congrArg Value.pointer e81)) ?_
  refine HList.vals (v := (.pointer (some a80))) rfl (HVal.fieldAddr0 Tryd.runUnderlying61 rfl rfl Tryd.sizeOf59 rfl) ?_
  obtain ⟨z84, z85, h⟩ := h
  refine HList.opsn (HOp.store1 Tryd.sizeOf59 rfl rfl rfl z84 z85) ?_
  rintro _ H82 e83
  replace h := h H82 e83
  refine HList.nil ?_
  refine nt ?_
  refine HW.seq ?_
  refine HW.region ?_
  refine HList.vals (v := (.int .i64 0)) rfl (HVal.assign' rfl) ?_
  refine HList.nil ?_
  refine nt ?_
  refine HW.block ?_
  refine HW.loop' (fun L1 hL1 => ?_)
  obtain ⟨X1, hX1⟩ : ∃ X1 : Int → Hp → Prop, ∀ (y86 : Int) (H_1 : Hp), X1 y86 H_1 ↔ ∀ ρ, Env.Is ρ [(0, (.pointer p0)), (2, (.pointer (some ⟨H.size, 0, none⟩))), (3, (.pointer (some ⟨H1.size, 0, none⟩))), (4, (.int .i64 (IntKind.i64.wrap (((x19).n : Int) - 1)))), (6, (.int .i64 y86))] → L1 ρ H_1 := ⟨_, fun _ _ => Iff.rfl⟩
  refine (hX1 _ _).1 (h X1 ?_) _ ?_
  rotate_left
  · exact ⟨rfl, rfl, rfl, rfl, rfl, trivial⟩
  clear h
  intro y86 H_1 h
  refine (hX1 _ _).2 fun ρ hI => ?_
  obtain ⟨ρ0, rfl⟩ : ∃ ρ0, ρ = (Env.set (Env.set (Env.set (Env.set (Env.set ρ0 6 (.int .i64 y86)) 4 (.int .i64 (IntKind.i64.wrap (((x19).n : Int) - 1)))) 3 (.pointer (some ⟨H1.size, 0, none⟩))) 2 (.pointer (some ⟨H.size, 0, none⟩))) 0 (.pointer p0)) := ⟨ρ, hI.eq⟩
  clear hI; unfold F27_L1b at h; refine hL1 _ _ ?_
  refine HW.block ?_
  refine HW.seq ?_
  refine HW.region ?_
  refine HList.vals (v := (.int .i64 y86)) rfl (HVal.move' rfl) ?_
  refine HList.vals (v := (.int .i64 (IntKind.i64.wrap (2 * y86)))) rfl (HVal.mul rfl rfl) ?_
  refine HList.vals (v := (.int .i64 (IntKind.i64.wrap ((IntKind.i64.wrap (2 * y86)) + 1)))) rfl (HVal.add rfl rfl) ?_
  refine HList.vals (v := (.int .i64 (IntKind.i64.wrap ((IntKind.i64.wrap (2 * y86)) + 1)))) rfl (HVal.assign' rfl) ?_
  refine HList.nil ?_
  refine nt ?_
  refine HW.cut (fun ρ H_2 => ∃ (y140 : Int), Env.Is ρ [(0, (.pointer p0)), (2, (.pointer (some ⟨H.size, 0, none⟩))), (3, (.pointer (some ⟨H1.size, 0, none⟩))), (4, (.int .i64 (IntKind.i64.wrap (((x19).n : Int) - 1)))), (6, (.int .i64 y86)), (7, (.int .i64 y140))] ∧ F27_2 Q X1 p0 ⟨H.size, 0, none⟩ ⟨H1.size, 0, none⟩ (IntKind.i64.wrap (((x19).n : Int) - 1)) y86 y140 H_2) ?_ ?_
  · refine HW.cut (fun ρ H_3 => ∃ (y138 : Bool), Env.Is ρ [(0, (.pointer p0)), (2, (.pointer (some ⟨H.size, 0, none⟩))), (3, (.pointer (some ⟨H1.size, 0, none⟩))), (4, (.int .i64 (IntKind.i64.wrap (((x19).n : Int) - 1)))), (6, (.int .i64 y86)), (7, (.int .i64 (IntKind.i64.wrap ((IntKind.i64.wrap (2 * y86)) + 1)))), (76, (.bool y138))] ∧ F27_3 Q X1 p0 ⟨H.size, 0, none⟩ ⟨H1.size, 0, none⟩ (IntKind.i64.wrap (((x19).n : Int) - 1)) y86 (IntKind.i64.wrap ((IntKind.i64.wrap (2 * y86)) + 1)) y138 H_3) ?_ ?_
    · refine HW.draw mixed [(0, some []), (1, some []), (2, some []), (3, some []), (4, some []), (5, some []), (6, some []), (7, some []), (8, some [24]), (9, some []), (10, some []), (11, some []), (12, some []), (13, some []), (14, some []), (15, some []), (16, some [24]), (17, some []), (18, some []), (19, some []), (20, some []), (21, some []), (22, some []), (23, some [24]), (24, none), (25, some [])] rfl (by kernel_rfl) (by kernel_rfl) ?_
      refine HPlan.takev (v := (.int .i64 (IntKind.i64.wrap ((IntKind.i64.wrap (2 * y86)) + 1)))) rfl rfl (fun _ => HVal.move' rfl) ?_
      refine HPlan.takev (v := (.int .i64 (IntKind.i64.wrap ((IntKind.i64.wrap ((IntKind.i64.wrap (2 * y86)) + 1)) + 1)))) rfl rfl (fun _ => HVal.add rfl rfl) ?_
      refine HPlan.takev (v := (.int .i64 (IntKind.i64.wrap (((x19).n : Int) - 1)))) rfl rfl (fun _ => HVal.move' rfl) ?_
      refine HPlan.takev (v := (.bool (decide ((IntKind.i64.wrap ((IntKind.i64.wrap ((IntKind.i64.wrap (2 * y86)) + 1)) + 1)) < (IntKind.i64.wrap (((x19).n : Int) - 1)))))) rfl rfl (fun _ => HVal.lss rfl rfl) ?_
      refine HPlan.takev (v := (.bool (decide ((IntKind.i64.wrap ((IntKind.i64.wrap ((IntKind.i64.wrap (2 * y86)) + 1)) + 1)) < (IntKind.i64.wrap (((x19).n : Int) - 1)))))) rfl rfl (fun _ => HVal.move' rfl) ?_
      obtain ⟨hT, hF⟩ := h
      rcases Bool.eq_false_or_eq_true (decide ((IntKind.i64.wrap ((IntKind.i64.wrap ((IntKind.i64.wrap (2 * y86)) + 1)) + 1)) < (IntKind.i64.wrap (((x19).n : Int) - 1)))) with hb102 | hb103
      · have h := hT hb102
        clear hT hF
        refine HPlan.gtakev (v := (.pointer p0)) rfl rfl rfl rfl rfl (congrArg Value.bool hb102) (fun _ => HVal.move' rfl) ?_
        obtain ⟨a104, e105, h⟩ := h
        refine HPlan.gtakev (v := (.pointer (some a104))) rfl rfl rfl rfl rfl (congrArg Value.bool hb102) (fun _ => HVal.nilCheck (congrArg Value.pointer e105)) ?_
        refine HPlan.gtakev (v := (.pointer (some (Addr.add a104 1)))) rfl rfl rfl rfl rfl (congrArg Value.bool hb102) (fun _ => HVal.fieldAddr' Tryd.runUnderlying61 rfl rfl Tryd.sizeOf57 rfl) ?_
        obtain ⟨c106, h⟩ := h
        refine HPlan.gtakel (v := (.func (.func 19) #[] #[])) (fun X => cell X (Addr.add a104 1) = some (.func (.func 19) #[] #[])) rfl rfl rfl rfl rfl (congrArg Value.bool hb102) (fun _ hX => HVal.load1 Tryd.isAgg57 rfl hX) c106 ?_
        refine HPlan.gtakev (v := (.pointer p0)) rfl rfl rfl rfl rfl (congrArg Value.bool hb102) (fun _ => HVal.move' rfl) ?_
        obtain ⟨a107, e108, h⟩ := h
        refine HPlan.gtakev (v := (.pointer (some a107))) rfl rfl rfl rfl rfl (congrArg Value.bool hb102) (fun _ => HVal.nilCheck (congrArg Value.pointer e108)) ?_
        refine HPlan.gtakev (v := (.pointer (some a107))) rfl rfl rfl rfl rfl (congrArg Value.bool hb102) (fun _ => HVal.fieldAddr0 Tryd.runUnderlying61 rfl rfl Tryd.sizeOf59 rfl) ?_
        obtain ⟨x110, c109, h⟩ := h
        refine HPlan.gtakel (v := (Sl.v x110)) (fun X => cell X a107 = some (Sl.v x110)) rfl rfl rfl rfl rfl (congrArg Value.bool hb102) (fun _ hX => HVal.load1 Tryd.isAgg59 rfl hX) c109 ?_
        refine HPlan.gtakev (v := (.int .i64 (IntKind.i64.wrap ((IntKind.i64.wrap (2 * y86)) + 1)))) rfl rfl rfl rfl rfl (congrArg Value.bool hb102) (fun _ => HVal.move' rfl) ?_
        refine HPlan.gtakev (v := (.int .i64 (IntKind.i64.wrap ((IntKind.i64.wrap ((IntKind.i64.wrap (2 * y86)) + 1)) + 1)))) rfl rfl rfl rfl rfl (congrArg Value.bool hb102) (fun _ => HVal.add rfl rfl) ?_
        obtain ⟨a111, e112, b113, b114, h⟩ := h
        refine HPlan.gtakev (v := (.pointer (some (Addr.add a111 ((IntKind.i64.wrap ((IntKind.i64.wrap ((IntKind.i64.wrap (2 * y86)) + 1)) + 1)).toNat * 4))))) rfl rfl rfl rfl rfl (congrArg Value.bool hb102) (fun _ => HVal.indexAddr Tryd.runUnderlying59 Tryd.sizeOf56 (Sl.v_some rfl e112) rfl b113 b114) ?_
        obtain ⟨x116, x117, x118, x119, c115, h⟩ := h
        refine HPlan.gtakel (v := (.agg #[(.int .i64 x116), (.string x117), (.int .i64 x118), (Sl.v x119)])) (fun X => cells X (Addr.add a111 ((IntKind.i64.wrap ((IntKind.i64.wrap ((IntKind.i64.wrap (2 * y86)) + 1)) + 1)).toNat * 4)) [(.int .i64 x116), (.string x117), (.int .i64 x118), (Sl.v x119)] 0) rfl rfl rfl rfl rfl (congrArg Value.bool hb102) (fun _ hX => HVal.loadN [(.int .i64 x116), (.string x117), (.int .i64 x118), (Sl.v x119)] Tryd.isAgg56 Tryd.sizeOf56 rfl hX) c115 ?_
        refine HPlan.gtakev (v := (.pointer p0)) rfl rfl rfl rfl rfl (congrArg Value.bool hb102) (fun _ => HVal.move' rfl) ?_
        obtain ⟨a120, e121, h⟩ := h
        refine HPlan.gtakev (v := (.pointer (some a120))) rfl rfl rfl rfl rfl (congrArg Value.bool hb102) (fun _ => HVal.nilCheck (congrArg Value.pointer e121)) ?_
        refine HPlan.gtakev (v := (.pointer (some a120))) rfl rfl rfl rfl rfl (congrArg Value.bool hb102) (fun _ => HVal.fieldAddr0 Tryd.runUnderlying61 rfl rfl Tryd.sizeOf59 rfl) ?_
        obtain ⟨x123, c122, h⟩ := h
        refine HPlan.gtakel (v := (Sl.v x123)) (fun X => cell X a120 = some (Sl.v x123)) rfl rfl rfl rfl rfl (congrArg Value.bool hb102) (fun _ hX => HVal.load1 Tryd.isAgg59 rfl hX) c122 ?_
        refine HPlan.gtakev (v := (.int .i64 (IntKind.i64.wrap ((IntKind.i64.wrap (2 * y86)) + 1)))) rfl rfl rfl rfl rfl (congrArg Value.bool hb102) (fun _ => HVal.move' rfl) ?_
        obtain ⟨a124, e125, b126, b127, h⟩ := h
        refine HPlan.gtakev (v := (.pointer (some (Addr.add a124 ((IntKind.i64.wrap ((IntKind.i64.wrap (2 * y86)) + 1)).toNat * 4))))) rfl rfl rfl rfl rfl (congrArg Value.bool hb102) (fun _ => HVal.indexAddr Tryd.runUnderlying59 Tryd.sizeOf56 (Sl.v_some rfl e125) rfl b126 b127) ?_
        obtain ⟨x129, x130, x131, x132, c128, h⟩ := h
        refine HPlan.gtakel (v := (.agg #[(.int .i64 x129), (.string x130), (.int .i64 x131), (Sl.v x132)])) (fun X => cells X (Addr.add a124 ((IntKind.i64.wrap ((IntKind.i64.wrap (2 * y86)) + 1)).toNat * 4)) [(.int .i64 x129), (.string x130), (.int .i64 x131), (Sl.v x132)] 0) rfl rfl rfl rfl rfl (congrArg Value.bool hb102) (fun _ hX => HVal.loadN [(.int .i64 x129), (.string x130), (.int .i64 x131), (Sl.v x132)] Tryd.isAgg56 Tryd.sizeOf56 rfl hX) c128 ?_
        refine HPlan.gops rfl rfl rfl rfl rfl (congrArg Value.bool hb102) (HOp.call' 19 [(.agg #[(.int .i64 x116), (.string x117), (.int .i64 x118), (Sl.v x119)]), (.agg #[(.int .i64 x129), (.string x130), (.int .i64 x131), (Sl.v x132)])] (cap := []) rfl rfl Tryd.call19 (walk19 h)) ?_
        rintro _ H133 ⟨r135, rfl, h⟩
        obtain ⟨s136, s137, h⟩ := h
        refine ⟨SC_of ⟨fun e => absurd e (by decide), fun _ => s136, fun e => absurd e (by decide), fun _ => s137, fun e => absurd e (by decide), trivial⟩, ?_⟩
        refine HPlan.takev (v := (.bool r135)) rfl rfl (fun _ => HVal.pickT rfl hb102 rfl) ?_
        refine HPlan.done ?_
        refine nt ?_
        exact ⟨r135, ⟨rfl, rfl, rfl, rfl, rfl, rfl, rfl, trivial⟩, h⟩
      · have h := hF hb103
        clear hT hF
        refine HPlan.takegskip rfl rfl rfl rfl (congrArg Value.bool hb103) ?_
        refine HPlan.takegskip rfl rfl rfl rfl (congrArg Value.bool hb103) ?_
        refine HPlan.takegskip rfl rfl rfl rfl (congrArg Value.bool hb103) ?_
        refine HPlan.takegskip rfl rfl rfl rfl (congrArg Value.bool hb103) ?_
        refine HPlan.takegskip rfl rfl rfl rfl (congrArg Value.bool hb103) ?_
        refine HPlan.takegskip rfl rfl rfl rfl (congrArg Value.bool hb103) ?_
        refine HPlan.takegskip rfl rfl rfl rfl (congrArg Value.bool hb103) ?_
        refine HPlan.takegskip rfl rfl rfl rfl (congrArg Value.bool hb103) ?_
        refine HPlan.takegskip rfl rfl rfl rfl (congrArg Value.bool hb103) ?_
        refine HPlan.takegskip rfl rfl rfl rfl (congrArg Value.bool hb103) ?_
        refine HPlan.takegskip rfl rfl rfl rfl (congrArg Value.bool hb103) ?_
        refine HPlan.takegskip rfl rfl rfl rfl (congrArg Value.bool hb103) ?_
        refine HPlan.takegskip rfl rfl rfl rfl (congrArg Value.bool hb103) ?_
        refine HPlan.takegskip rfl rfl rfl rfl (congrArg Value.bool hb103) ?_
        refine HPlan.takegskip rfl rfl rfl rfl (congrArg Value.bool hb103) ?_
        refine HPlan.takegskip rfl rfl rfl rfl (congrArg Value.bool hb103) ?_
        refine HPlan.takegskip rfl rfl rfl rfl (congrArg Value.bool hb103) ?_
        refine HPlan.takegskip rfl rfl rfl rfl (congrArg Value.bool hb103) ?_
        refine HPlan.takegskip rfl rfl rfl rfl (congrArg Value.bool hb103) ?_
        refine HPlan.opgskip rfl rfl rfl rfl (congrArg Value.bool hb103) ?_
        refine HPlan.takev (v := (.bool false)) rfl rfl (fun _ => HVal.pickF rfl hb103 rfl) ?_
        refine HPlan.done ?_
        refine nt ?_
        exact ⟨false, ⟨rfl, rfl, rfl, rfl, rfl, rfl, rfl, trivial⟩, h⟩
    · rintro ρ H_3 ⟨y138, hI, h⟩
      obtain ⟨ρ0, rfl⟩ : ∃ ρ0, ρ = (Env.set (Env.set (Env.set (Env.set (Env.set (Env.set (Env.set ρ0 76 (.bool y138)) 7 (.int .i64 (IntKind.i64.wrap ((IntKind.i64.wrap (2 * y86)) + 1)))) 6 (.int .i64 y86)) 4 (.int .i64 (IntKind.i64.wrap (((x19).n : Int) - 1)))) 3 (.pointer (some ⟨H1.size, 0, none⟩))) 2 (.pointer (some ⟨H.size, 0, none⟩))) 0 (.pointer p0)) := ⟨ρ, hI.eq⟩
      clear hI; unfold F27_3 at h
      obtain ⟨hT, hF⟩ := h
      refine HW.cond y138 rfl (fun hb139 => ?_) (fun hb139 => ?_)
      · have h := hT hb139
        clear hT hF
        refine HW.region ?_
        refine HList.vals (v := (.int .i64 (IntKind.i64.wrap ((IntKind.i64.wrap (2 * y86)) + 1)))) rfl (HVal.move' rfl) ?_
        refine HList.vals (v := (.int .i64 (IntKind.i64.wrap ((IntKind.i64.wrap ((IntKind.i64.wrap (2 * y86)) + 1)) + 1)))) rfl (HVal.add rfl rfl) ?_
        refine HList.vals (v := (.int .i64 (IntKind.i64.wrap ((IntKind.i64.wrap ((IntKind.i64.wrap (2 * y86)) + 1)) + 1)))) rfl (HVal.assign' rfl) ?_
        refine HList.nil ?_
        refine nt ?_
        exact ⟨(IntKind.i64.wrap ((IntKind.i64.wrap ((IntKind.i64.wrap (2 * y86)) + 1)) + 1)), ⟨rfl, rfl, rfl, rfl, rfl, rfl, trivial⟩, h⟩
      · have h := hF hb139
        clear hT hF
        refine HW.skip ?_
        refine nt ?_
        exact ⟨(IntKind.i64.wrap ((IntKind.i64.wrap (2 * y86)) + 1)), ⟨rfl, rfl, rfl, rfl, rfl, rfl, trivial⟩, h⟩
  · rintro ρ H_2 ⟨y140, hI, h⟩
    obtain ⟨ρ0, rfl⟩ : ∃ ρ0, ρ = (Env.set (Env.set (Env.set (Env.set (Env.set (Env.set ρ0 7 (.int .i64 y140)) 6 (.int .i64 y86)) 4 (.int .i64 (IntKind.i64.wrap (((x19).n : Int) - 1)))) 3 (.pointer (some ⟨H1.size, 0, none⟩))) 2 (.pointer (some ⟨H.size, 0, none⟩))) 0 (.pointer p0)) := ⟨ρ, hI.eq⟩
    clear hI; unfold F27_2 at h
    refine HW.seq ?_
    refine HW.cut (fun ρ H_4 => ∃ (y149 : Bool), Env.Is ρ [(0, (.pointer p0)), (2, (.pointer (some ⟨H.size, 0, none⟩))), (3, (.pointer (some ⟨H1.size, 0, none⟩))), (4, (.int .i64 (IntKind.i64.wrap (((x19).n : Int) - 1)))), (6, (.int .i64 y86)), (7, (.int .i64 y140)), (103, (.bool y149))] ∧ F27_4 Q X1 p0 ⟨H.size, 0, none⟩ ⟨H1.size, 0, none⟩ (IntKind.i64.wrap (((x19).n : Int) - 1)) y86 y140 y149 H_4) ?_ ?_
    · refine HW.draw mixed [(0, some []), (1, some []), (2, some []), (3, some []), (4, some []), (5, some []), (6, some []), (7, some [22]), (8, some []), (9, some []), (10, some []), (11, some []), (12, some []), (13, some []), (14, some [22]), (15, some []), (16, some []), (17, some []), (18, some []), (19, some []), (20, some []), (21, some [22]), (22, none), (23, some []), (24, some [])] rfl (by kernel_rfl) (by kernel_rfl) ?_
      refine HPlan.takev (v := (.int .i64 y140)) rfl rfl (fun _ => HVal.move' rfl) ?_
      refine HPlan.takev (v := (.int .i64 (IntKind.i64.wrap (((x19).n : Int) - 1)))) rfl rfl (fun _ => HVal.move' rfl) ?_
      refine HPlan.takev (v := (.bool (decide ((IntKind.i64.wrap (((x19).n : Int) - 1)) ≤ y140)))) rfl rfl (fun _ => HVal.geq rfl rfl) ?_
      refine HPlan.takev (v := (.bool (decide ((IntKind.i64.wrap (((x19).n : Int) - 1)) ≤ y140)))) rfl rfl (fun _ => HVal.move' rfl) ?_
      obtain ⟨hT, hF⟩ := h
      rcases Bool.eq_false_or_eq_true (decide ((IntKind.i64.wrap (((x19).n : Int) - 1)) ≤ y140)) with hb147 | hb148
      · have h := hT hb147
        clear hT hF
        refine HPlan.takegskip rfl rfl rfl rfl (congrArg Value.bool hb147) ?_
        refine HPlan.takegskip rfl rfl rfl rfl (congrArg Value.bool hb147) ?_
        refine HPlan.takegskip rfl rfl rfl rfl (congrArg Value.bool hb147) ?_
        refine HPlan.takegskip rfl rfl rfl rfl (congrArg Value.bool hb147) ?_
        refine HPlan.takegskip rfl rfl rfl rfl (congrArg Value.bool hb147) ?_
        refine HPlan.takegskip rfl rfl rfl rfl (congrArg Value.bool hb147) ?_
        refine HPlan.takegskip rfl rfl rfl rfl (congrArg Value.bool hb147) ?_
        refine HPlan.takegskip rfl rfl rfl rfl (congrArg Value.bool hb147) ?_
        refine HPlan.takegskip rfl rfl rfl rfl (congrArg Value.bool hb147) ?_
        refine HPlan.takegskip rfl rfl rfl rfl (congrArg Value.bool hb147) ?_
        refine HPlan.takegskip rfl rfl rfl rfl (congrArg Value.bool hb147) ?_
        refine HPlan.takegskip rfl rfl rfl rfl (congrArg Value.bool hb147) ?_
        refine HPlan.takegskip rfl rfl rfl rfl (congrArg Value.bool hb147) ?_
        refine HPlan.takegskip rfl rfl rfl rfl (congrArg Value.bool hb147) ?_
        refine HPlan.takegskip rfl rfl rfl rfl (congrArg Value.bool hb147) ?_
        refine HPlan.takegskip rfl rfl rfl rfl (congrArg Value.bool hb147) ?_
        refine HPlan.takegskip rfl rfl rfl rfl (congrArg Value.bool hb147) ?_
        refine HPlan.takegskip rfl rfl rfl rfl (congrArg Value.bool hb147) ?_
        refine HPlan.opgskip rfl rfl rfl rfl (congrArg Value.bool hb147) ?_
        refine HPlan.takegskip rfl rfl rfl rfl (congrArg Value.bool hb147) ?_
        refine HPlan.takev (v := (.bool true)) rfl rfl (fun _ => HVal.pickT rfl hb147 rfl) ?_
        refine HPlan.done ?_
        refine nt ?_
        exact ⟨true, ⟨rfl, rfl, rfl, rfl, rfl, rfl, rfl, trivial⟩, h⟩
      · have h := hF hb148
        clear hT hF
        refine HPlan.gtakev (v := (.pointer p0)) rfl rfl rfl rfl rfl (congrArg Value.bool hb148) (fun _ => HVal.move' rfl) ?_
        obtain ⟨a150, e151, h⟩ := h
        refine HPlan.gtakev (v := (.pointer (some a150))) rfl rfl rfl rfl rfl (congrArg Value.bool hb148) (fun _ => HVal.nilCheck (congrArg Value.pointer e151)) ?_
        refine HPlan.gtakev (v := (.pointer (some (Addr.add a150 1)))) rfl rfl rfl rfl rfl (congrArg Value.bool hb148) (fun _ => HVal.fieldAddr' Tryd.runUnderlying61 rfl rfl Tryd.sizeOf57 rfl) ?_
        obtain ⟨c152, h⟩ := h
        refine HPlan.gtakel (v := (.func (.func 19) #[] #[])) (fun X => cell X (Addr.add a150 1) = some (.func (.func 19) #[] #[])) rfl rfl rfl rfl rfl (congrArg Value.bool hb148) (fun _ hX => HVal.load1 Tryd.isAgg57 rfl hX) c152 ?_
        refine HPlan.gtakev (v := (.pointer p0)) rfl rfl rfl rfl rfl (congrArg Value.bool hb148) (fun _ => HVal.move' rfl) ?_
        obtain ⟨a153, e154, h⟩ := h
        refine HPlan.gtakev (v := (.pointer (some a153))) rfl rfl rfl rfl rfl (congrArg Value.bool hb148) (fun _ => HVal.nilCheck (congrArg Value.pointer e154)) ?_
        refine HPlan.gtakev (v := (.pointer (some a153))) rfl rfl rfl rfl rfl (congrArg Value.bool hb148) (fun _ => HVal.fieldAddr0 Tryd.runUnderlying61 rfl rfl Tryd.sizeOf59 rfl) ?_
        obtain ⟨x156, c155, h⟩ := h
        refine HPlan.gtakel (v := (Sl.v x156)) (fun X => cell X a153 = some (Sl.v x156)) rfl rfl rfl rfl rfl (congrArg Value.bool hb148) (fun _ hX => HVal.load1 Tryd.isAgg59 rfl hX) c155 ?_
        refine HPlan.gtakev (v := (.int .i64 y140)) rfl rfl rfl rfl rfl (congrArg Value.bool hb148) (fun _ => HVal.move' rfl) ?_
        obtain ⟨a157, e158, b159, b160, h⟩ := h
        refine HPlan.gtakev (v := (.pointer (some (Addr.add a157 (y140.toNat * 4))))) rfl rfl rfl rfl rfl (congrArg Value.bool hb148) (fun _ => HVal.indexAddr Tryd.runUnderlying59 Tryd.sizeOf56 (Sl.v_some rfl e158) rfl b159 b160) ?_
        obtain ⟨x162, x163, x164, x165, c161, h⟩ := h
        refine HPlan.gtakel (v := (.agg #[(.int .i64 x162), (.string x163), (.int .i64 x164), (Sl.v x165)])) (fun X => cells X (Addr.add a157 (y140.toNat * 4)) [(.int .i64 x162), (.string x163), (.int .i64 x164), (Sl.v x165)] 0) rfl rfl rfl rfl rfl (congrArg Value.bool hb148) (fun _ hX => HVal.loadN [(.int .i64 x162), (.string x163), (.int .i64 x164), (Sl.v x165)] Tryd.isAgg56 Tryd.sizeOf56 rfl hX) c161 ?_
        refine HPlan.gtakev (v := (.pointer p0)) rfl rfl rfl rfl rfl (congrArg Value.bool hb148) (fun _ => HVal.move' rfl) ?_
        obtain ⟨a166, e167, h⟩ := h
        refine HPlan.gtakev (v := (.pointer (some a166))) rfl rfl rfl rfl rfl (congrArg Value.bool hb148) (fun _ => HVal.nilCheck (congrArg Value.pointer e167)) ?_
        refine HPlan.gtakev (v := (.pointer (some a166))) rfl rfl rfl rfl rfl (congrArg Value.bool hb148) (fun _ => HVal.fieldAddr0 Tryd.runUnderlying61 rfl rfl Tryd.sizeOf59 rfl) ?_
        obtain ⟨x169, c168, h⟩ := h
        refine HPlan.gtakel (v := (Sl.v x169)) (fun X => cell X a166 = some (Sl.v x169)) rfl rfl rfl rfl rfl (congrArg Value.bool hb148) (fun _ hX => HVal.load1 Tryd.isAgg59 rfl hX) c168 ?_
        refine HPlan.gtakev (v := (.int .i64 y86)) rfl rfl rfl rfl rfl (congrArg Value.bool hb148) (fun _ => HVal.move' rfl) ?_
        obtain ⟨a170, e171, b172, b173, h⟩ := h
        refine HPlan.gtakev (v := (.pointer (some (Addr.add a170 (y86.toNat * 4))))) rfl rfl rfl rfl rfl (congrArg Value.bool hb148) (fun _ => HVal.indexAddr Tryd.runUnderlying59 Tryd.sizeOf56 (Sl.v_some rfl e171) rfl b172 b173) ?_
        obtain ⟨x175, x176, x177, x178, c174, h⟩ := h
        refine HPlan.gtakel (v := (.agg #[(.int .i64 x175), (.string x176), (.int .i64 x177), (Sl.v x178)])) (fun X => cells X (Addr.add a170 (y86.toNat * 4)) [(.int .i64 x175), (.string x176), (.int .i64 x177), (Sl.v x178)] 0) rfl rfl rfl rfl rfl (congrArg Value.bool hb148) (fun _ hX => HVal.loadN [(.int .i64 x175), (.string x176), (.int .i64 x177), (Sl.v x178)] Tryd.isAgg56 Tryd.sizeOf56 rfl hX) c174 ?_
        refine HPlan.gops rfl rfl rfl rfl rfl (congrArg Value.bool hb148) (HOp.call' 19 [(.agg #[(.int .i64 x162), (.string x163), (.int .i64 x164), (Sl.v x165)]), (.agg #[(.int .i64 x175), (.string x176), (.int .i64 x177), (Sl.v x178)])] (cap := []) rfl rfl Tryd.call19 (walk19 h)) ?_
        rintro _ H179 ⟨r181, rfl, h⟩
        obtain ⟨s182, s183, h⟩ := h
        refine ⟨SC_of ⟨fun e => absurd e (by decide), fun _ => s182, fun e => absurd e (by decide), fun _ => s183, fun e => absurd e (by decide), trivial⟩, ?_⟩
        refine HPlan.gtakev (v := (.bool (!r181))) rfl rfl rfl rfl rfl (congrArg Value.bool hb148) (fun _ => HVal.not rfl) ?_
        refine HPlan.takev (v := (.bool (!r181))) rfl rfl (fun _ => HVal.pickF rfl hb148 rfl) ?_
        refine HPlan.done ?_
        refine nt ?_
        exact ⟨(!r181), ⟨rfl, rfl, rfl, rfl, rfl, rfl, rfl, trivial⟩, h⟩
    · rintro ρ H_4 ⟨y149, hI, h⟩
      obtain ⟨ρ0, rfl⟩ : ∃ ρ0, ρ = (Env.set (Env.set (Env.set (Env.set (Env.set (Env.set (Env.set ρ0 103 (.bool y149)) 7 (.int .i64 y140)) 6 (.int .i64 y86)) 4 (.int .i64 (IntKind.i64.wrap (((x19).n : Int) - 1)))) 3 (.pointer (some ⟨H1.size, 0, none⟩))) 2 (.pointer (some ⟨H.size, 0, none⟩))) 0 (.pointer p0)) := ⟨ρ, hI.eq⟩
      clear hI; unfold F27_4 at h
      obtain ⟨hT, hF⟩ := h
      refine HW.cond y149 rfl (fun hb184 => ?_) (fun hb184 => ?_)
      · have h := hT hb184
        clear hT hF
        refine HW.seq ?_
        refine HW.region ?_
        obtain ⟨x186, x187, x188, x189, c185, h⟩ := h
        refine HList.vals (v := (.agg #[(.int .i64 x186), (.string x187), (.int .i64 x188), (Sl.v x189)])) rfl (HVal.loadN [(.int .i64 x186), (.string x187), (.int .i64 x188), (Sl.v x189)] Tryd.isAgg56 Tryd.sizeOf56 rfl c185) ?_
        obtain ⟨z192, h⟩ := h
        refine HList.opsn (HOp.storeN' (l := [(.int .i64 x186), (.string x187), (.int .i64 x188), (Sl.v x189)]) Tryd.sizeOf56 rfl rfl rfl z192) ?_
        rintro _ H190 e191
        replace h := h H190 e191
        refine HList.nil ?_
        refine nt ?_
        refine HW.ret ?_
        refine tr ?_
        refine br ?_
        refine tr ?_
        refine br ?_
        obtain ⟨x193, x194, x195, x196, c197, h⟩ := h
        exact ⟨_, resOf1 rfl (Res1.n [(.int .i64 x193), (.string x194), (.int .i64 x195), (Sl.v x196)] Tryd.isAgg56 Tryd.sizeOf56 rfl c197), ⟨x193, x194, x195, x196, rfl, h⟩⟩
      · have h := hF hb184
        clear hT hF
        refine HW.skip ?_
        refine nt ?_
        refine HW.seq ?_
        refine HW.region ?_
        refine HList.vals (v := (.pointer p0)) rfl (HVal.move' rfl) ?_
        refine HList.vals (v := (.int .i64 y86)) rfl (HVal.move' rfl) ?_
        refine HList.vals (v := (.int .i64 y140)) rfl (HVal.move' rfl) ?_
        refine HList.ops' rfl (HOp.call' 30 [(.pointer p0), (.int .i64 y86), (.int .i64 y140)] (cap := []) rfl rfl Tryd.call30 (walk30 h)) ?_
        rintro _ H198 ⟨rfl, h⟩
        refine HList.nil ?_
        refine nt ?_
        refine HW.region ?_
        refine HList.vals (v := (.int .i64 y140)) rfl (HVal.move' rfl) ?_
        refine HList.vals (v := (.int .i64 y140)) rfl (HVal.assign' rfl) ?_
        refine HList.nil ?_
        refine nb ?_
        refine nt ?_
        exact (hX1 _ _).1 h _ ⟨rfl, rfl, rfl, rfl, rfl, trivial⟩

def F24_1 (Q : Sl → Hp → Prop) (y47 : Sl) (H_1 : Hp) : Prop :=
Q y47 H_1
def F24_L2b (Q : Sl → Hp → Prop) (X2 : Sl → Hp → Prop) (y2 : (Option Addr)) (y1 : Sl) (H_2 : Hp) : Prop :=
∃ a3 : Addr, y2 = some a3 ∧ (
 ∃ x6 : (Option Addr), cell H_2 (Addr.add a3 5) = some (.pointer x6) ∧ (
 ∃ a7 : Addr, x6 = some a7 ∧ (
 ∃ x10 : Sl, cell H_2 a7 = some (Sl.v x10) ∧ (
 ((decide ((0 : Int) < ((x10).n : Int))) = true → (∃ a13 : Addr, y2 = some a13 ∧ (
 ∃ x16 : (Option Addr), cell H_2 (Addr.add a13 5) = some (.pointer x16) ∧ (
 ∃ a17 : Addr, x16 = some a17 ∧ (
 ∃ x20 : Sl, cell H_2 a17 = some (Sl.v x20) ∧ (
 ∃ a21 : Addr, (x20).b = some a21 ∧ (0 : Int) ≤ 0 ∧ (0 : Int) < ((x20).n : Int) ∧ (
 ∃ x26 : Int, cell H_2 (Addr.add (Addr.add (Addr.add a21 ((0 : Int).toNat * 4)) 1) 1) = some (.int .i64 x26) ∧ (
 ∃ a27 : Addr, y2 = some a27 ∧ (
 ∃ x30 : Int, cell H_2 (Addr.add a27 4) = some (.int .i64 x30) ∧ (
 ((decide (x26 ≤ x30)) = true → (∃ a32 : Addr, y2 = some a32 ∧ (
 ∃ x35 : (Option Addr), cell H_2 (Addr.add a32 5) = some (.pointer x35) ∧ (
 F27 x35 H_2 (fun (r38 : Int) (r39 : ByteArray) (r40 : Int) (r41 : Sl) (H36 : Hp) => 
 ∀ H42 : Hp, H42 = Array.push H36 (.cells #[(.string r39), (.int .i64 r40), (Sl.v r41)] 33) → (
 AppendF H42 33 3 48 #[(.string (ByteArray.mk #[])), (.int .i64 0), (Sl.v Sl.nil)] y1 ((Sl.mk (some ⟨H36.size, 0, none⟩) 1 1)).b ((Sl.mk (some ⟨H36.size, 0, none⟩) 1 1)).n (fun (r46 : Sl) (H44 : Hp) => 
 X2 r46 H44))))))) ∧
 ((decide (x26 ≤ x30)) = false → (F24_1 Q y1 H_2)))))))))))) ∧
 ((decide ((0 : Int) < ((x10).n : Int))) = false → (F24_1 Q y1 H_2))))))
def F24_L2 (Q : Sl → Hp → Prop) (y2 : (Option Addr)) (y1 : Sl) (H_2 : Hp) : Prop :=
  ∀ X2 : Sl → Hp → Prop, (∀ (y1 : Sl) (H_2 : Hp), F24_L2b Q X2 y2 y1 H_2 → X2 y1 H_2) → X2 y1 H_2
def F24 (p0 : (Option Addr)) (H : Hp) (Q : Sl → Hp → Prop) : Prop :=
F24_L2 Q p0 Sl.nil H
set_option maxRecDepth 100000 in
set_option maxHeartbeats 4000000 in
theorem walk24 {w0 : World} {p0 : (Option Addr)} {H : Hp} {Q : Sl → Hp → Prop} (h : F24 p0 H Q) :
    Good Tryd.prog w0 24 #[(.pointer p0)] H (fun v H => ∃ (r0 : Sl) , v = (Sl.v r0) ∧ Q r0 H) := by
  unfold F24 at h
  refine Good.enter' (fn := Tryd.f24) Tryd.func24 rfl rfl rfl ?_
  refine HW.seq ?_
  refine HW.region ?_
  refine HList.vals (v := (Sl.v Sl.nil)) rfl (HVal.assign' rfl) ?_
  refine HList.nil ?_
  refine nt ?_
  refine HW.seq ?_
  refine HW.region ?_
  refine HList.vals (v := (Sl.v Sl.nil)) rfl (HVal.assign' rfl) ?_
  refine HList.nil ?_
  refine nt ?_
  refine HW.cut (fun ρ H_1 => ∃ (y47 : Sl), Env.Is ρ [(3, (Sl.v y47))] ∧ F24_1 Q y47 H_1) ?_ ?_
  · refine HW.block ?_
    refine HW.loop' (fun L2 hL2 => ?_)
    obtain ⟨X2, hX2⟩ : ∃ X2 : Sl → Hp → Prop, ∀ (y1 : Sl) (H_2 : Hp), X2 y1 H_2 ↔ ∀ ρ, Env.Is ρ [(0, (.pointer p0)), (3, (Sl.v y1))] → L2 ρ H_2 := ⟨_, fun _ _ => Iff.rfl⟩
    refine (hX2 _ _).1 (h X2 ?_) _ ?_
    rotate_left
    · exact ⟨rfl, rfl, trivial⟩
    clear h
    intro y1 H_2 h
    refine (hX2 _ _).2 fun ρ hI => ?_
    obtain ⟨ρ0, rfl⟩ : ∃ ρ0, ρ = (Env.set (Env.set ρ0 3 (Sl.v y1)) 0 (.pointer p0)) := ⟨ρ, hI.eq⟩
    clear hI; unfold F24_L2b at h; refine hL2 _ _ ?_
    refine HW.seq ?_
    refine HW.seq ?_
    refine HW.draw mixed [(0, some []), (1, some []), (2, some []), (3, some []), (4, some []), (5, some []), (6, some []), (7, some []), (8, some []), (9, some []), (10, some []), (11, some []), (12, some []), (13, some []), (14, some []), (15, some []), (16, some []), (17, some []), (18, some []), (19, some []), (20, some []), (21, some []), (22, some []), (23, some []), (24, some []), (25, some []), (26, some [])] rfl (by kernel_rfl) (by kernel_rfl) ?_
    refine HPlan.takev (v := (.pointer p0)) rfl rfl (fun _ => HVal.move' rfl) ?_
    obtain ⟨a3, e4, h⟩ := h
    refine HPlan.takev (v := (.pointer (some a3))) rfl rfl (fun _ => HVal.nilCheck (congrArg Value.pointer e4)) ?_
    refine HPlan.takev (v := (.pointer (some (Addr.add a3 5)))) rfl rfl (fun _ => HVal.fieldAddr' Tryd.runUnderlying63 rfl rfl Tryd.sizeOf58 rfl) ?_
    obtain ⟨x6, c5, h⟩ := h
    refine HPlan.takel (v := (.pointer x6)) (fun X => cell X (Addr.add a3 5) = some (.pointer x6)) rfl rfl (fun _ hX => HVal.load1 Tryd.isAgg58 rfl hX) c5 ?_
    obtain ⟨a7, e8, h⟩ := h
    refine HPlan.takev (v := (.pointer (some a7))) rfl rfl (fun _ => HVal.nilCheck (congrArg Value.pointer e8)) ?_
    refine HPlan.takev (v := (.pointer (some a7))) rfl rfl (fun _ => HVal.fieldAddr0 Tryd.runUnderlying61 rfl rfl Tryd.sizeOf59 rfl) ?_
    obtain ⟨x10, c9, h⟩ := h
    refine HPlan.takel (v := (Sl.v x10)) (fun X => cell X a7 = some (Sl.v x10)) rfl rfl (fun _ hX => HVal.load1 Tryd.isAgg59 rfl hX) c9 ?_
    refine HPlan.takev (v := (.int .i64 ((x10).n : Int))) rfl rfl (fun _ => HVal.len Tryd.runUnderlying59 rfl) ?_
    refine HPlan.takev (v := (.bool (decide ((0 : Int) < ((x10).n : Int))))) rfl rfl (fun _ => HVal.gtr rfl rfl) ?_
    refine HPlan.takev (v := (.bool (decide ((0 : Int) < ((x10).n : Int))))) rfl rfl (fun _ => HVal.move' rfl) ?_
    obtain ⟨hT, hF⟩ := h
    rcases Bool.eq_false_or_eq_true (decide ((0 : Int) < ((x10).n : Int))) with hb11 | hb12
    · have h := hT hb11
      clear hT hF
      refine HPlan.gtakev (v := (.pointer p0)) rfl rfl rfl rfl rfl (congrArg Value.bool hb11) (fun _ => HVal.move' rfl) ?_
      obtain ⟨a13, e14, h⟩ := h
      refine HPlan.gtakev (v := (.pointer (some a13))) rfl rfl rfl rfl rfl (congrArg Value.bool hb11) (fun _ => HVal.nilCheck (congrArg Value.pointer e14)) ?_
      refine HPlan.gtakev (v := (.pointer (some (Addr.add a13 5)))) rfl rfl rfl rfl rfl (congrArg Value.bool hb11) (fun _ => HVal.fieldAddr' Tryd.runUnderlying63 rfl rfl Tryd.sizeOf58 rfl) ?_
      obtain ⟨x16, c15, h⟩ := h
      refine HPlan.gtakel (v := (.pointer x16)) (fun X => cell X (Addr.add a13 5) = some (.pointer x16)) rfl rfl rfl rfl rfl (congrArg Value.bool hb11) (fun _ hX => HVal.load1 Tryd.isAgg58 rfl hX) c15 ?_
      obtain ⟨a17, e18, h⟩ := h
      refine HPlan.gtakev (v := (.pointer (some a17))) rfl rfl rfl rfl rfl (congrArg Value.bool hb11) (fun _ => HVal.nilCheck (congrArg Value.pointer e18)) ?_
      refine HPlan.gtakev (v := (.pointer (some a17))) rfl rfl rfl rfl rfl (congrArg Value.bool hb11) (fun _ => HVal.fieldAddr0 Tryd.runUnderlying61 rfl rfl Tryd.sizeOf59 rfl) ?_
      obtain ⟨x20, c19, h⟩ := h
      refine HPlan.gtakel (v := (Sl.v x20)) (fun X => cell X a17 = some (Sl.v x20)) rfl rfl rfl rfl rfl (congrArg Value.bool hb11) (fun _ hX => HVal.load1 Tryd.isAgg59 rfl hX) c19 ?_
      obtain ⟨a21, e22, b23, b24, h⟩ := h
      refine HPlan.gtakev (v := (.pointer (some (Addr.add a21 ((0 : Int).toNat * 4))))) rfl rfl rfl rfl rfl (congrArg Value.bool hb11) (fun _ => HVal.indexAddr Tryd.runUnderlying59 Tryd.sizeOf56 (Sl.v_some rfl e22) rfl b23 b24) ?_
      refine HPlan.gtakev (v := (.pointer (some (Addr.add (Addr.add a21 ((0 : Int).toNat * 4)) 1)))) rfl rfl rfl rfl rfl (congrArg Value.bool hb11) (fun _ => HVal.fieldAddr' Tryd.runUnderlying56 rfl rfl Tryd.sizeOf33 rfl) ?_
      refine HPlan.gtakev (v := (.pointer (some (Addr.add (Addr.add (Addr.add a21 ((0 : Int).toNat * 4)) 1) 1)))) rfl rfl rfl rfl rfl (congrArg Value.bool hb11) (fun _ => HVal.fieldAddr' Tryd.runUnderlying33 rfl rfl Tryd.sizeOf2 rfl) ?_
      obtain ⟨x26, c25, h⟩ := h
      refine HPlan.gtakel (v := (.int .i64 x26)) (fun X => cell X (Addr.add (Addr.add (Addr.add a21 ((0 : Int).toNat * 4)) 1) 1) = some (.int .i64 x26)) rfl rfl rfl rfl rfl (congrArg Value.bool hb11) (fun _ hX => HVal.load1 Tryd.isAgg2 rfl hX) c25 ?_
      refine HPlan.gtakev (v := (.pointer p0)) rfl rfl rfl rfl rfl (congrArg Value.bool hb11) (fun _ => HVal.move' rfl) ?_
      obtain ⟨a27, e28, h⟩ := h
      refine HPlan.gtakev (v := (.pointer (some a27))) rfl rfl rfl rfl rfl (congrArg Value.bool hb11) (fun _ => HVal.nilCheck (congrArg Value.pointer e28)) ?_
      refine HPlan.gtakev (v := (.pointer (some (Addr.add a27 4)))) rfl rfl rfl rfl rfl (congrArg Value.bool hb11) (fun _ => HVal.fieldAddr' Tryd.runUnderlying63 rfl rfl Tryd.sizeOf2 rfl) ?_
      obtain ⟨x30, c29, h⟩ := h
      refine HPlan.gtakel (v := (.int .i64 x30)) (fun X => cell X (Addr.add a27 4) = some (.int .i64 x30)) rfl rfl rfl rfl rfl (congrArg Value.bool hb11) (fun _ hX => HVal.load1 Tryd.isAgg2 rfl hX) c29 ?_
      refine HPlan.gtakev (v := (.bool (decide (x26 ≤ x30)))) rfl rfl rfl rfl rfl (congrArg Value.bool hb11) (fun _ => HVal.leq rfl rfl) ?_
      refine HPlan.takev (v := (.bool (decide (x26 ≤ x30)))) rfl rfl (fun _ => HVal.pickT rfl hb11 rfl) ?_
      refine HPlan.done ?_
      refine nt ?_
      obtain ⟨hT, hF⟩ := h
      refine HW.cond (decide (x26 ≤ x30)) rfl (fun hb31 => ?_) (fun hb31 => ?_)
      · have h := hT hb31
        clear hT hF
        refine HW.skip ?_
        refine nt ?_
        refine HW.block ?_
        refine HW.region ?_
        refine HList.vals (v := (Sl.v y1)) rfl (HVal.move' rfl) ?_
        refine HList.vals (v := (.pointer p0)) rfl (HVal.move' rfl) ?_
        obtain ⟨a32, e33, h⟩ := h
        refine HList.vals (v := (.pointer (some a32))) rfl (HVal.nilCheck (congrArg Value.pointer e33)) ?_
        refine HList.vals (v := (.pointer (some (Addr.add a32 5)))) rfl (HVal.fieldAddr' Tryd.runUnderlying63 rfl rfl Tryd.sizeOf58 rfl) ?_
        obtain ⟨x35, c34, h⟩ := h
        refine HList.vals (v := (.pointer x35)) rfl (HVal.load1 Tryd.isAgg58 rfl c34) ?_
        refine HList.ops' rfl (HOp.call' 27 [(.pointer x35)] (cap := []) rfl rfl Tryd.call27 (walk27 h)) ?_
        rintro _ H36 ⟨r38, r39, r40, r41, rfl, h⟩
        refine HList.vals (v := (.agg #[(.string r39), (.int .i64 r40), (Sl.v r41)])) rfl (HVal.fieldN' Tryd.runUnderlying56 rfl rfl Tryd.isAgg33 Tryd.sizeOf33 rfl rfl) ?_
        refine HList.ops' rfl (HOp.buildSlice' (zs := [(.string (ByteArray.mk #[])), (.int .i64 0), (Sl.v Sl.nil)]) (cs := [(.string r39), (.int .i64 r40), (Sl.v r41)]) Tryd.runUnderlying28 Tryd.sizeOf33 Tryd.zeroValue33 (by decide) (by kernel_rfl) rfl (by decide)) ?_
        rintro _ H42 ⟨rfl, e43⟩
        replace h := h H42 e43
        refine HList.ops' rfl (HOp.append (k := 3) (b := 48) Tryd.runUnderlying28 Tryd.runUnderlying28 Tryd.typeInfo33 rfl rfl Tryd.zeroValue33 rfl rfl h) ?_
        rintro _ H44 ⟨r46, rfl, h⟩
        refine HList.vals (v := (Sl.v r46)) rfl (HVal.assign' rfl) ?_
        refine HList.nil ?_
        refine nb ?_
        refine nt ?_
        exact (hX2 _ _).1 h _ ⟨rfl, rfl, trivial⟩
      · have h := hF hb31
        clear hT hF
        refine HW.exit ?_
        refine te ?_
        refine te ?_
        refine be ?_
        refine nt ?_
        exact ⟨y1, ⟨rfl, trivial⟩, h⟩
    · have h := hF hb12
      clear hT hF
      refine HPlan.takegskip rfl rfl rfl rfl (congrArg Value.bool hb12) ?_
      refine HPlan.takegskip rfl rfl rfl rfl (congrArg Value.bool hb12) ?_
      refine HPlan.takegskip rfl rfl rfl rfl (congrArg Value.bool hb12) ?_
      refine HPlan.takegskip rfl rfl rfl rfl (congrArg Value.bool hb12) ?_
      refine HPlan.takegskip rfl rfl rfl rfl (congrArg Value.bool hb12) ?_
      refine HPlan.takegskip rfl rfl rfl rfl (congrArg Value.bool hb12) ?_
      refine HPlan.takegskip rfl rfl rfl rfl (congrArg Value.bool hb12) ?_
      refine HPlan.takegskip rfl rfl rfl rfl (congrArg Value.bool hb12) ?_
      refine HPlan.takegskip rfl rfl rfl rfl (congrArg Value.bool hb12) ?_
      refine HPlan.takegskip rfl rfl rfl rfl (congrArg Value.bool hb12) ?_
      refine HPlan.takegskip rfl rfl rfl rfl (congrArg Value.bool hb12) ?_
      refine HPlan.takegskip rfl rfl rfl rfl (congrArg Value.bool hb12) ?_
      refine HPlan.takegskip rfl rfl rfl rfl (congrArg Value.bool hb12) ?_
      refine HPlan.takegskip rfl rfl rfl rfl (congrArg Value.bool hb12) ?_
      refine HPlan.takegskip rfl rfl rfl rfl (congrArg Value.bool hb12) ?_
      refine HPlan.takegskip rfl rfl rfl rfl (congrArg Value.bool hb12) ?_
      refine HPlan.takev (v := (.bool false)) rfl rfl (fun _ => HVal.pickF rfl hb12 rfl) ?_
      refine HPlan.done ?_
      refine nt ?_
      refine HW.condF false rfl rfl ?_
      refine HW.exit ?_
      refine te ?_
      refine te ?_
      refine be ?_
      refine nt ?_
      exact ⟨y1, ⟨rfl, trivial⟩, h⟩
  · rintro ρ H_1 ⟨y47, hI, h⟩
    obtain ⟨ρ0, rfl⟩ : ∃ ρ0, ρ = (Env.set ρ0 3 (Sl.v y47)) := ⟨ρ, hI.eq⟩
    clear hI; unfold F24_1 at h
    refine HW.seq ?_
    refine HW.region ?_
    refine HList.vals (v := (Sl.v y47)) rfl (HVal.move' rfl) ?_
    refine HList.vals (v := (Sl.v y47)) rfl (HVal.assign' rfl) ?_
    refine HList.nil ?_
    refine nt ?_
    refine HW.ret ?_
    exact ⟨_, resOf1 rfl Res1.t, ⟨y47, rfl, h⟩⟩

def F7_2 (Q : Sl → Int → Hp → Prop) (y26 : (Option Addr)) (y27 : Addr) (y28 : Int) (y29 : Int) (y60 : Bool) (H_2 : Hp) : Prop :=
(y60 = true → (Q Sl.nil 4 H_2)) ∧
 (y60 = false → (∃ a62 : Addr, y26 = some a62 ∧ (
 (cell H_2 (Addr.add a62 3)).isSome = true ∧ frz H_2 (Addr.add a62 3) = false ∧ ∀ H64 : Hp, H64 = setc H_2 (Addr.add a62 3) (.int .i64 y28) → (
 ∃ a68 : Addr, y26 = some a68 ∧ (
 (cell H64 (Addr.add a68 4)).isSome = true ∧ frz H64 (Addr.add a68 4) = false ∧ ∀ H70 : Hp, H70 = setc H64 (Addr.add a68 4) (.int .i64 y29) → (
 ∃ a74 : Addr, y26 = some a74 ∧ (
 ∃ x77 : Int, cell H70 (Addr.add a74 2) = some (.int .i64 x77) ∧ (
 ∃ a78 : Addr, y26 = some a78 ∧ (
 (cell H70 (Addr.add a78 2)).isSome = true ∧ frz H70 (Addr.add a78 2) = false ∧ ∀ H80 : Hp, H80 = setc H70 (Addr.add a78 2) (.int .i64 (IntKind.i64.wrap (x77 + 1))) → (
 ∃ a84 : Addr, y26 = some a84 ∧ (
 ∃ x87 : (Option Addr), cell H80 (Addr.add a84 5) = some (.pointer x87) ∧ (
 ∃ a88 : Addr, y26 = some a88 ∧ (
 ∃ x91 : Int, cell H80 (Addr.add a88 2) = some (.int .i64 x91) ∧ (
 ∃ (x93 : ByteArray) (x94 : Int) (x95 : Sl), cells H80 y27 [(.string x93), (.int .i64 x94), (Sl.v x95)] 0 ∧ (
 F23 x93 x94 x95 H80 (fun (r98 : ByteArray) (r99 : Int) (r100 : Sl) (H96 : Hp) => 
 cell H96 (Addr.add a88 2) = some (.int .i64 x91) ∧ cell H96 (Addr.add a84 5) = some (.pointer x87) ∧ (
 F22 x87 x91 r98 r99 r100 H96 (fun (H103 : Hp) => 
 cell H103 (Addr.add a88 2) = some (.int .i64 x91) ∧ (
 F24 y26 H103 (fun (r108 : Sl) (H106 : Hp) => 
 Q r108 0 H106))))))))))))))))))))
def F7_1 (Q : Sl → Int → Hp → Prop) (y3 : (Option Addr)) (y4 : Addr) (y9 : Bool) (H_1 : Hp) : Prop :=
(y9 = true → (Q Sl.nil 23 H_1)) ∧
 (y9 = false → (∃ x14 : Int, cell H_1 (Addr.add y4 1) = some (.int .i64 x14) ∧ (
 ∃ a15 : Addr, y3 = some a15 ∧ (
 ∃ x18 : Int, cell H_1 (Addr.add a15 4) = some (.int .i64 x18) ∧ (
 ((decide (x14 < x18)) = true → (Q Sl.nil 180 H_1)) ∧
 ((decide (x14 < x18)) = false → (∃ x21 : Int, cell H_1 (Addr.add y4 1) = some (.int .i64 x21) ∧ (
 F20 y3 x21 H_1 (fun (r24 : Int) (r25 : Int) (H22 : Hp) => 
 ∃ x31 : Int, cell H22 (Addr.add y4 1) = some (.int .i64 x31) ∧ (
 ((decide (r25 < x31)) = true → (∃ a34 : Addr, y3 = some a34 ∧ (
 ∃ x37 : (Option Addr), cell H22 (Addr.add a34 5) = some (.pointer x37) ∧ (
 ∃ a38 : Addr, x37 = some a38 ∧ (
 ∃ x41 : Sl, cell H22 a38 = some (Sl.v x41) ∧ (
 ∃ a42 : Addr, y3 = some a42 ∧ (
 ∃ x45 : Int, cell H22 (Addr.add a42 1) = some (.int .i64 x45) ∧ (
 ((decide (x45 ≤ ((x41).n : Int))) = true → (∃ a48 : Addr, y3 = some a48 ∧ (
 ∃ x51 : Int, cell H22 (Addr.add a48 1) = some (.int .i64 x51) ∧ (
 F21 y3 r25 H22 (fun (r54 : Int) (H52 : Hp) => 
 cell H52 (Addr.add a48 1) = some (.int .i64 x51) ∧ cell H52 (Addr.add a42 1) = some (.int .i64 x45) ∧ cell H52 a38 = some (Sl.v x41) ∧ cell H52 (Addr.add a34 5) = some (.pointer x37) ∧ cell H52 (Addr.add y4 1) = some (.int .i64 x31) ∧ (
 F7_2 Q y3 y4 r24 r25 (decide (x51 ≤ r54)) H52)))))) ∧
 ((decide (x45 ≤ ((x41).n : Int))) = false → (F7_2 Q y3 y4 r24 r25 false H22)))))))))) ∧
 ((decide (r25 < x31)) = false → (F7_2 Q y3 y4 r24 r25 false H22))))))))))))
def F7 (p0 : (Option Addr)) (p1_0 : ByteArray) (p1_1 : Int) (p1_2 : Sl) (H : Hp) (Q : Sl → Int → Hp → Prop) : Prop :=
∀ H1 : Hp, H1 = Array.push H (.cells #[(.string p1_0), (.int .i64 p1_1), (Sl.v p1_2)] 33) → (
 ∃ x6 : Int, cell H1 (Addr.add ⟨H.size, 0, none⟩ 1) = some (.int .i64 x6) ∧ (
 ((decide (x6 < 0)) = true → (F7_1 Q p0 ⟨H.size, 0, none⟩ true H1)) ∧
 ((decide (x6 < 0)) = false → (∃ x11 : Int, cell H1 (Addr.add ⟨H.size, 0, none⟩ 1) = some (.int .i64 x11) ∧ (
 F7_1 Q p0 ⟨H.size, 0, none⟩ (decide ((4611686018427387904 : Int) < x11)) H1)))))
set_option maxRecDepth 100000 in
set_option maxHeartbeats 4000000 in
theorem walk7 {w0 : World} {p0 : (Option Addr)} {p1_0 : ByteArray} {p1_1 : Int} {p1_2 : Sl} {H : Hp} {Q : Sl → Int → Hp → Prop} (h : F7 p0 p1_0 p1_1 p1_2 H Q) :
    Good Tryd.prog w0 7 #[(.pointer p0), (.agg #[(.string p1_0), (.int .i64 p1_1), (Sl.v p1_2)])] H (fun v H => ∃ (r0 : Sl) (r1 : Int) , v = (.tuple #[(Sl.v r0), (.int .i64 r1)]) ∧ Q r0 r1 H) := by
  unfold F7 at h
  refine Good.enter' (fn := Tryd.f7) Tryd.func7 rfl rfl rfl ?_
  refine HW.seq ?_
  refine HW.region ?_
  refine HList.ops' rfl (HOp.box (v := (.agg #[(.string p1_0), (.int .i64 p1_1), (Sl.v p1_2)])) rfl) ?_
  rintro _ H1 ⟨rfl, e2⟩
  replace h := h H1 e2
  refine HList.vals (v := (Sl.v Sl.nil)) rfl (HVal.assign' rfl) ?_
  refine HList.vals (v := (.int .i64 0)) rfl (HVal.assign' rfl) ?_
  refine HList.nil ?_
  refine nt ?_
  refine HW.seq ?_
  refine HW.block ?_
  refine HW.cut (fun ρ H_1 => ∃ (y9 : Bool), Env.Is ρ [(0, (.pointer p0)), (3, (.pointer (some ⟨H.size, 0, none⟩))), (8, (.bool y9))] ∧ F7_1 Q p0 ⟨H.size, 0, none⟩ y9 H_1) ?_ ?_
  · refine HW.region ?_
    refine HList.vals (v := (.pointer (some (Addr.add ⟨H.size, 0, none⟩ 1)))) rfl (HVal.fieldAddr' Tryd.runUnderlying33 rfl rfl Tryd.sizeOf2 rfl) ?_
    obtain ⟨x6, c5, h⟩ := h
    refine HList.vals (v := (.int .i64 x6)) rfl (HVal.load1 Tryd.isAgg2 rfl c5) ?_
    refine HList.vals (v := (.bool (decide (x6 < 0)))) rfl (HVal.lss rfl rfl) ?_
    refine HList.vals (v := (.bool (decide (x6 < 0)))) rfl (HVal.move' rfl) ?_
    obtain ⟨hT, hF⟩ := h
    rcases Bool.eq_false_or_eq_true (decide (x6 < 0)) with hb7 | hb8
    · have h := hT hb7
      clear hT hF
      refine HList.gskips rfl rfl rfl rfl (congrArg Value.bool hb7) ?_
      refine HList.gskips rfl rfl rfl rfl (congrArg Value.bool hb7) ?_
      refine HList.gskips rfl rfl rfl rfl (congrArg Value.bool hb7) ?_
      refine HList.vals (v := (.bool true)) rfl (HVal.pickT rfl hb7 rfl) ?_
      refine HList.vals (v := (.bool true)) rfl (HVal.assign' rfl) ?_
      refine HList.nil ?_
      refine nt ?_
      exact ⟨true, ⟨rfl, rfl, rfl, trivial⟩, h⟩
    · have h := hF hb8
      clear hT hF
      refine HList.gvals (v := (.pointer (some (Addr.add ⟨H.size, 0, none⟩ 1)))) rfl rfl rfl rfl (congrArg Value.bool hb8) (HVal.fieldAddr' Tryd.runUnderlying33 rfl rfl Tryd.sizeOf2 rfl) ?_
      obtain ⟨x11, c10, h⟩ := h
      refine HList.gvals (v := (.int .i64 x11)) rfl rfl rfl rfl (congrArg Value.bool hb8) (HVal.load1 Tryd.isAgg2 rfl c10) ?_
      refine HList.gvals (v := (.bool (decide ((4611686018427387904 : Int) < x11)))) rfl rfl rfl rfl (congrArg Value.bool hb8) (HVal.gtr rfl rfl) ?_
      refine HList.vals (v := (.bool (decide ((4611686018427387904 : Int) < x11)))) rfl (HVal.pickF rfl hb8 rfl) ?_
      refine HList.vals (v := (.bool (decide ((4611686018427387904 : Int) < x11)))) rfl (HVal.assign' rfl) ?_
      refine HList.nil ?_
      refine nt ?_
      exact ⟨(decide ((4611686018427387904 : Int) < x11)), ⟨rfl, rfl, rfl, trivial⟩, h⟩
  · rintro ρ H_1 ⟨y9, hI, h⟩
    obtain ⟨ρ0, rfl⟩ : ∃ ρ0, ρ = (Env.set (Env.set (Env.set ρ0 8 (.bool y9)) 3 (.pointer (some ⟨H.size, 0, none⟩))) 0 (.pointer p0)) := ⟨ρ, hI.eq⟩
    clear hI; unfold F7_1 at h
    obtain ⟨hT, hF⟩ := h
    refine HW.cond y9 rfl (fun hb12 => ?_) (fun hb12 => ?_)
    · have h := hT hb12
      clear hT hF
      refine HW.seq ?_
      refine HW.region ?_
      refine HList.vals (v := (Sl.v Sl.nil)) rfl (HVal.assign' rfl) ?_
      refine HList.vals (v := (.int .i64 23)) rfl (HVal.assign' rfl) ?_
      refine HList.nil ?_
      refine nt ?_
      refine HW.ret ?_
      refine br ?_
      refine tr ?_
      exact ⟨_, resOf2 rfl Res1.t Res1.t, ⟨Sl.nil, 23, rfl, h⟩⟩
    · have h := hF hb12
      clear hT hF
      refine HW.seq ?_
      refine HW.draw mixed [(0, some []), (1, some []), (2, some []), (3, some []), (4, some []), (5, some []), (6, some []), (7, some [])] rfl (by kernel_rfl) (by kernel_rfl) ?_
      refine HPlan.takev (v := (.pointer (some (Addr.add ⟨H.size, 0, none⟩ 1)))) rfl rfl (fun _ => HVal.fieldAddr' Tryd.runUnderlying33 rfl rfl Tryd.sizeOf2 rfl) ?_
      obtain ⟨x14, c13, h⟩ := h
      refine HPlan.takel (v := (.int .i64 x14)) (fun X => cell X (Addr.add ⟨H.size, 0, none⟩ 1) = some (.int .i64 x14)) rfl rfl (fun _ hX => HVal.load1 Tryd.isAgg2 rfl hX) c13 ?_
      refine HPlan.takev (v := (.pointer p0)) rfl rfl (fun _ => HVal.move' rfl) ?_
      obtain ⟨a15, e16, h⟩ := h
      refine HPlan.takev (v := (.pointer (some a15))) rfl rfl (fun _ => HVal.nilCheck (congrArg Value.pointer e16)) ?_
      refine HPlan.takev (v := (.pointer (some (Addr.add a15 4)))) rfl rfl (fun _ => HVal.fieldAddr' Tryd.runUnderlying63 rfl rfl Tryd.sizeOf2 rfl) ?_
      obtain ⟨x18, c17, h⟩ := h
      refine HPlan.takel (v := (.int .i64 x18)) (fun X => cell X (Addr.add a15 4) = some (.int .i64 x18)) rfl rfl (fun _ hX => HVal.load1 Tryd.isAgg2 rfl hX) c17 ?_
      refine HPlan.takev (v := (.bool (decide (x14 < x18)))) rfl rfl (fun _ => HVal.lss rfl rfl) ?_
      refine HPlan.takev (v := (.bool (decide (x14 < x18)))) rfl rfl (fun _ => HVal.assign' rfl) ?_
      refine HPlan.done ?_
      refine nt ?_
      obtain ⟨hT, hF⟩ := h
      refine HW.cond (decide (x14 < x18)) rfl (fun hb19 => ?_) (fun hb19 => ?_)
      · have h := hT hb19
        clear hT hF
        refine HW.seq ?_
        refine HW.region ?_
        refine HList.vals (v := (Sl.v Sl.nil)) rfl (HVal.assign' rfl) ?_
        refine HList.vals (v := (.int .i64 180)) rfl (HVal.assign' rfl) ?_
        refine HList.nil ?_
        refine nt ?_
        refine HW.ret ?_
        refine br ?_
        refine tr ?_
        exact ⟨_, resOf2 rfl Res1.t Res1.t, ⟨Sl.nil, 180, rfl, h⟩⟩
      · have h := hF hb19
        clear hT hF
        refine HW.skip ?_
        refine nb ?_
        refine nt ?_
        refine HW.seq ?_
        refine HW.region ?_
        refine HList.vals (v := (.pointer p0)) rfl (HVal.move' rfl) ?_
        refine HList.vals (v := (.pointer (some (Addr.add ⟨H.size, 0, none⟩ 1)))) rfl (HVal.fieldAddr' Tryd.runUnderlying33 rfl rfl Tryd.sizeOf2 rfl) ?_
        obtain ⟨x21, c20, h⟩ := h
        refine HList.vals (v := (.int .i64 x21)) rfl (HVal.load1 Tryd.isAgg2 rfl c20) ?_
        refine HList.ops' rfl (HOp.call' 20 [(.pointer p0), (.int .i64 x21)] (cap := []) rfl rfl Tryd.call20 (walk20 h)) ?_
        rintro _ H22 ⟨r24, r25, rfl, h⟩
        refine HList.vals (v := (.tuple #[(.int .i64 r24), (.int .i64 r25)])) rfl (HVal.move' rfl) ?_
        refine HList.vals (v := (.int .i64 r24)) rfl (HVal.extract rfl rfl) ?_
        refine HList.vals (v := (.int .i64 r25)) rfl (HVal.extract rfl rfl) ?_
        refine HList.vals (v := (.int .i64 r24)) rfl (HVal.assign' rfl) ?_
        refine HList.vals (v := (.int .i64 r25)) rfl (HVal.assign' rfl) ?_
        refine HList.nil ?_
        refine nt ?_
        refine HW.seq ?_
        refine HW.cut (fun ρ H_2 => ∃ (y60 : Bool), Env.Is ρ [(0, (.pointer p0)), (3, (.pointer (some ⟨H.size, 0, none⟩))), (6, (.int .i64 r24)), (7, (.int .i64 r25)), (60, (.bool y60))] ∧ F7_2 Q p0 ⟨H.size, 0, none⟩ r24 r25 y60 H_2) ?_ ?_
        · refine HW.draw mixed [(0, some []), (1, some []), (2, some []), (3, some []), (4, some []), (5, some []), (6, some []), (7, some []), (8, some []), (9, some []), (10, some []), (11, some []), (12, some []), (13, some []), (14, some []), (15, some []), (16, some []), (17, some []), (18, some []), (19, some []), (20, some []), (21, some []), (23, some []), (24, some []), (25, some []), (26, some []), (22, none), (27, some []), (28, some [])] rfl (by kernel_rfl) (by kernel_rfl) ?_
          refine HPlan.takev (v := (.pointer (some (Addr.add ⟨H.size, 0, none⟩ 1)))) rfl rfl (fun _ => HVal.fieldAddr' Tryd.runUnderlying33 rfl rfl Tryd.sizeOf2 rfl) ?_
          obtain ⟨x31, c30, h⟩ := h
          refine HPlan.takel (v := (.int .i64 x31)) (fun X => cell X (Addr.add ⟨H.size, 0, none⟩ 1) = some (.int .i64 x31)) rfl rfl (fun _ hX => HVal.load1 Tryd.isAgg2 rfl hX) c30 ?_
          refine HPlan.takev (v := (.int .i64 r25)) rfl rfl (fun _ => HVal.move' rfl) ?_
          refine HPlan.takev (v := (.bool (decide (r25 < x31)))) rfl rfl (fun _ => HVal.gtr rfl rfl) ?_
          refine HPlan.takev (v := (.bool (decide (r25 < x31)))) rfl rfl (fun _ => HVal.move' rfl) ?_
          obtain ⟨hT, hF⟩ := h
          rcases Bool.eq_false_or_eq_true (decide (r25 < x31)) with hb32 | hb33
          · have h := hT hb32
            clear hT hF
            refine HPlan.gtakev (v := (.pointer p0)) rfl rfl rfl rfl rfl (congrArg Value.bool hb32) (fun _ => HVal.move' rfl) ?_
            obtain ⟨a34, e35, h⟩ := h
            refine HPlan.gtakev (v := (.pointer (some a34))) rfl rfl rfl rfl rfl (congrArg Value.bool hb32) (fun _ => HVal.nilCheck (congrArg Value.pointer e35)) ?_
            refine HPlan.gtakev (v := (.pointer (some (Addr.add a34 5)))) rfl rfl rfl rfl rfl (congrArg Value.bool hb32) (fun _ => HVal.fieldAddr' Tryd.runUnderlying63 rfl rfl Tryd.sizeOf58 rfl) ?_
            obtain ⟨x37, c36, h⟩ := h
            refine HPlan.gtakel (v := (.pointer x37)) (fun X => cell X (Addr.add a34 5) = some (.pointer x37)) rfl rfl rfl rfl rfl (congrArg Value.bool hb32) (fun _ hX => HVal.load1 Tryd.isAgg58 rfl hX) c36 ?_
            obtain ⟨a38, e39, h⟩ := h
            refine HPlan.gtakev (v := (.pointer (some a38))) rfl rfl rfl rfl rfl (congrArg Value.bool hb32) (fun _ => HVal.nilCheck (congrArg Value.pointer e39)) ?_
            refine HPlan.gtakev (v := (.pointer (some a38))) rfl rfl rfl rfl rfl (congrArg Value.bool hb32) (fun _ => HVal.fieldAddr0 Tryd.runUnderlying61 rfl rfl Tryd.sizeOf59 rfl) ?_
            obtain ⟨x41, c40, h⟩ := h
            refine HPlan.gtakel (v := (Sl.v x41)) (fun X => cell X a38 = some (Sl.v x41)) rfl rfl rfl rfl rfl (congrArg Value.bool hb32) (fun _ hX => HVal.load1 Tryd.isAgg59 rfl hX) c40 ?_
            refine HPlan.gtakev (v := (.int .i64 ((x41).n : Int))) rfl rfl rfl rfl rfl (congrArg Value.bool hb32) (fun _ => HVal.len Tryd.runUnderlying59 rfl) ?_
            refine HPlan.gtakev (v := (.pointer p0)) rfl rfl rfl rfl rfl (congrArg Value.bool hb32) (fun _ => HVal.move' rfl) ?_
            obtain ⟨a42, e43, h⟩ := h
            refine HPlan.gtakev (v := (.pointer (some a42))) rfl rfl rfl rfl rfl (congrArg Value.bool hb32) (fun _ => HVal.nilCheck (congrArg Value.pointer e43)) ?_
            refine HPlan.gtakev (v := (.pointer (some (Addr.add a42 1)))) rfl rfl rfl rfl rfl (congrArg Value.bool hb32) (fun _ => HVal.fieldAddr' Tryd.runUnderlying63 rfl rfl Tryd.sizeOf3 rfl) ?_
            obtain ⟨x45, c44, h⟩ := h
            refine HPlan.gtakel (v := (.int .i64 x45)) (fun X => cell X (Addr.add a42 1) = some (.int .i64 x45)) rfl rfl rfl rfl rfl (congrArg Value.bool hb32) (fun _ hX => HVal.load1 Tryd.isAgg3 rfl hX) c44 ?_
            refine HPlan.gtakev (v := (.bool (decide (x45 ≤ ((x41).n : Int))))) rfl rfl rfl rfl rfl (congrArg Value.bool hb32) (fun _ => HVal.geq rfl rfl) ?_
            refine HPlan.takev (v := (.bool (decide (x45 ≤ ((x41).n : Int))))) rfl rfl (fun _ => HVal.pickT rfl hb32 rfl) ?_
            refine HPlan.takev (v := (.bool (decide (x45 ≤ ((x41).n : Int))))) rfl rfl (fun _ => HVal.move' rfl) ?_
            obtain ⟨hT, hF⟩ := h
            rcases Bool.eq_false_or_eq_true (decide (x45 ≤ ((x41).n : Int))) with hb46 | hb47
            · have h := hT hb46
              clear hT hF
              refine HPlan.gtakev (v := (.pointer p0)) rfl rfl rfl rfl rfl (congrArg Value.bool hb46) (fun _ => HVal.move' rfl) ?_
              refine HPlan.gtakev (v := (.int .i64 r25)) rfl rfl rfl rfl rfl (congrArg Value.bool hb46) (fun _ => HVal.move' rfl) ?_
              refine HPlan.gtakev (v := (.pointer p0)) rfl rfl rfl rfl rfl (congrArg Value.bool hb46) (fun _ => HVal.move' rfl) ?_
              obtain ⟨a48, e49, h⟩ := h
              refine HPlan.gtakev (v := (.pointer (some a48))) rfl rfl rfl rfl rfl (congrArg Value.bool hb46) (fun _ => HVal.nilCheck (congrArg Value.pointer e49)) ?_
              refine HPlan.gtakev (v := (.pointer (some (Addr.add a48 1)))) rfl rfl rfl rfl rfl (congrArg Value.bool hb46) (fun _ => HVal.fieldAddr' Tryd.runUnderlying63 rfl rfl Tryd.sizeOf3 rfl) ?_
              obtain ⟨x51, c50, h⟩ := h
              refine HPlan.gtakel (v := (.int .i64 x51)) (fun X => cell X (Addr.add a48 1) = some (.int .i64 x51)) rfl rfl rfl rfl rfl (congrArg Value.bool hb46) (fun _ hX => HVal.load1 Tryd.isAgg3 rfl hX) c50 ?_
              refine HPlan.gops rfl rfl rfl rfl rfl (congrArg Value.bool hb46) (HOp.call' 21 [(.pointer p0), (.int .i64 r25)] (cap := []) rfl rfl Tryd.call21 (walk21 h)) ?_
              rintro _ H52 ⟨r54, rfl, h⟩
              obtain ⟨s55, s56, s57, s58, s59, h⟩ := h
              refine ⟨SC_of ⟨fun _ => s55, fun _ => s56, fun _ => s57, fun _ => s58, fun _ => s59, trivial⟩, ?_⟩
              refine HPlan.gtakev (v := (.bool (decide (x51 ≤ r54)))) rfl rfl rfl rfl rfl (congrArg Value.bool hb46) (fun _ => HVal.geq rfl rfl) ?_
              refine HPlan.takev (v := (.bool (decide (x51 ≤ r54)))) rfl rfl (fun _ => HVal.pickT rfl hb46 rfl) ?_
              refine HPlan.done ?_
              refine nt ?_
              exact ⟨(decide (x51 ≤ r54)), ⟨rfl, rfl, rfl, rfl, rfl, trivial⟩, h⟩
            · have h := hF hb47
              clear hT hF
              refine HPlan.takegskip rfl rfl rfl rfl (congrArg Value.bool hb47) ?_
              refine HPlan.takegskip rfl rfl rfl rfl (congrArg Value.bool hb47) ?_
              refine HPlan.takegskip rfl rfl rfl rfl (congrArg Value.bool hb47) ?_
              refine HPlan.takegskip rfl rfl rfl rfl (congrArg Value.bool hb47) ?_
              refine HPlan.takegskip rfl rfl rfl rfl (congrArg Value.bool hb47) ?_
              refine HPlan.takegskip rfl rfl rfl rfl (congrArg Value.bool hb47) ?_
              refine HPlan.opgskip rfl rfl rfl rfl (congrArg Value.bool hb47) ?_
              refine HPlan.takegskip rfl rfl rfl rfl (congrArg Value.bool hb47) ?_
              refine HPlan.takev (v := (.bool false)) rfl rfl (fun _ => HVal.pickF rfl hb47 rfl) ?_
              refine HPlan.done ?_
              refine nt ?_
              exact ⟨false, ⟨rfl, rfl, rfl, rfl, rfl, trivial⟩, h⟩
          · have h := hF hb33
            clear hT hF
            refine HPlan.takegskip rfl rfl rfl rfl (congrArg Value.bool hb33) ?_
            refine HPlan.takegskip rfl rfl rfl rfl (congrArg Value.bool hb33) ?_
            refine HPlan.takegskip rfl rfl rfl rfl (congrArg Value.bool hb33) ?_
            refine HPlan.takegskip rfl rfl rfl rfl (congrArg Value.bool hb33) ?_
            refine HPlan.takegskip rfl rfl rfl rfl (congrArg Value.bool hb33) ?_
            refine HPlan.takegskip rfl rfl rfl rfl (congrArg Value.bool hb33) ?_
            refine HPlan.takegskip rfl rfl rfl rfl (congrArg Value.bool hb33) ?_
            refine HPlan.takegskip rfl rfl rfl rfl (congrArg Value.bool hb33) ?_
            refine HPlan.takegskip rfl rfl rfl rfl (congrArg Value.bool hb33) ?_
            refine HPlan.takegskip rfl rfl rfl rfl (congrArg Value.bool hb33) ?_
            refine HPlan.takegskip rfl rfl rfl rfl (congrArg Value.bool hb33) ?_
            refine HPlan.takegskip rfl rfl rfl rfl (congrArg Value.bool hb33) ?_
            refine HPlan.takegskip rfl rfl rfl rfl (congrArg Value.bool hb33) ?_
            refine HPlan.takev (v := (.bool false)) rfl rfl (fun _ => HVal.pickF rfl hb33 rfl) ?_
            refine HPlan.takev (v := (.bool false)) rfl rfl (fun _ => HVal.move' rfl) ?_
            refine HPlan.takegskip rfl rfl rfl rfl rfl ?_
            refine HPlan.takegskip rfl rfl rfl rfl rfl ?_
            refine HPlan.takegskip rfl rfl rfl rfl rfl ?_
            refine HPlan.takegskip rfl rfl rfl rfl rfl ?_
            refine HPlan.takegskip rfl rfl rfl rfl rfl ?_
            refine HPlan.takegskip rfl rfl rfl rfl rfl ?_
            refine HPlan.opgskip rfl rfl rfl rfl rfl ?_
            refine HPlan.takegskip rfl rfl rfl rfl rfl ?_
            refine HPlan.takev (v := (.bool false)) rfl rfl (fun _ => HVal.pickF rfl rfl rfl) ?_
            refine HPlan.done ?_
            refine nt ?_
            exact ⟨false, ⟨rfl, rfl, rfl, rfl, rfl, trivial⟩, h⟩
        · rintro ρ H_2 ⟨y60, hI, h⟩
          obtain ⟨ρ0, rfl⟩ : ∃ ρ0, ρ = (Env.set (Env.set (Env.set (Env.set (Env.set ρ0 60 (.bool y60)) 7 (.int .i64 r25)) 6 (.int .i64 r24)) 3 (.pointer (some ⟨H.size, 0, none⟩))) 0 (.pointer p0)) := ⟨ρ, hI.eq⟩
          clear hI; unfold F7_2 at h
          obtain ⟨hT, hF⟩ := h
          refine HW.cond y60 rfl (fun hb61 => ?_) (fun hb61 => ?_)
          · have h := hT hb61
            clear hT hF
            refine HW.seq ?_
            refine HW.region ?_
            refine HList.vals (v := (Sl.v Sl.nil)) rfl (HVal.assign' rfl) ?_
            refine HList.vals (v := (.int .i64 4)) rfl (HVal.assign' rfl) ?_
            refine HList.nil ?_
            refine nt ?_
            refine HW.ret ?_
            refine tr ?_
            exact ⟨_, resOf2 rfl Res1.t Res1.t, ⟨Sl.nil, 4, rfl, h⟩⟩
          · have h := hF hb61
            clear hT hF
            refine HW.skip ?_
            refine nt ?_
            refine HW.seq ?_
            refine HW.region ?_
            refine HList.vals (v := (.pointer p0)) rfl (HVal.move' rfl) ?_
            refine HList.vals (v := (.pointer p0)) rfl (HVal.move' rfl) ?_
            refine HList.vals (v := (.int .i64 r24)) rfl (HVal.move' rfl) ?_
            refine HList.vals (v := (.int .i64 r25)) rfl (HVal.move' rfl) ?_
            obtain ⟨a62, e63, h⟩ := h
            refine HList.vals (v := (.pointer (some a62))) rfl (HVal.nilCheck (congrArg Value.pointer e63)) ?_
            refine HList.vals (v := (.pointer (some (Addr.add a62 3)))) rfl (HVal.fieldAddr' Tryd.runUnderlying63 rfl rfl Tryd.sizeOf2 rfl) ?_
            obtain ⟨z66, z67, h⟩ := h
            refine HList.opsn (HOp.store1 Tryd.sizeOf2 rfl rfl rfl z66 z67) ?_
            rintro _ H64 e65
            replace h := h H64 e65
            obtain ⟨a68, e69, h⟩ := h
            refine HList.vals (v := (.pointer (some a68))) rfl (HVal.nilCheck (congrArg Value.pointer e69)) ?_
            refine HList.vals (v := (.pointer (some (Addr.add a68 4)))) rfl (HVal.fieldAddr' Tryd.runUnderlying63 rfl rfl Tryd.sizeOf2 rfl) ?_
            obtain ⟨z72, z73, h⟩ := h
            refine HList.opsn (HOp.store1 Tryd.sizeOf2 rfl rfl rfl z72 z73) ?_
            rintro _ H70 e71
            replace h := h H70 e71
            refine HList.nil ?_
            refine nt ?_
            refine HW.seq ?_
            refine HW.region ?_
            refine HList.vals (v := (.pointer p0)) rfl (HVal.move' rfl) ?_
            obtain ⟨a74, e75, h⟩ := h
            refine HList.vals (v := (.pointer (some a74))) rfl (HVal.nilCheck (congrArg Value.pointer e75)) ?_
            refine HList.vals (v := (.pointer (some (Addr.add a74 2)))) rfl (HVal.fieldAddr' Tryd.runUnderlying63 rfl rfl Tryd.sizeOf2 rfl) ?_
            obtain ⟨x77, c76, h⟩ := h
            refine HList.vals (v := (.int .i64 x77)) rfl (HVal.load1 Tryd.isAgg2 rfl c76) ?_
            refine HList.vals (v := (.int .i64 (IntKind.i64.wrap (x77 + 1)))) rfl (HVal.add rfl rfl) ?_
            obtain ⟨a78, e79, h⟩ := h
            refine HList.vals (v := (.pointer (some a78))) rfl (HVal.nilCheck (congrArg Value.pointer e79)) ?_
            refine HList.vals (v := (.pointer (some (Addr.add a78 2)))) rfl (HVal.fieldAddr' Tryd.runUnderlying63 rfl rfl Tryd.sizeOf2 rfl) ?_
            obtain ⟨z82, z83, h⟩ := h
            refine HList.opsn (HOp.store1 Tryd.sizeOf2 rfl rfl rfl z82 z83) ?_
            rintro _ H80 e81
            replace h := h H80 e81
            refine HList.nil ?_
            refine nt ?_
            refine HW.seq ?_
            refine HW.draw mixed [(0, some []), (1, some []), (2, some []), (3, some [11]), (4, some []), (5, some []), (6, some []), (7, some []), (8, some [9]), (9, none), (10, some []), (11, none)] rfl (by kernel_rfl) (by kernel_rfl) ?_
            refine HPlan.takev (v := (.pointer p0)) rfl rfl (fun _ => HVal.move' rfl) ?_
            obtain ⟨a84, e85, h⟩ := h
            refine HPlan.takev (v := (.pointer (some a84))) rfl rfl (fun _ => HVal.nilCheck (congrArg Value.pointer e85)) ?_
            refine HPlan.takev (v := (.pointer (some (Addr.add a84 5)))) rfl rfl (fun _ => HVal.fieldAddr' Tryd.runUnderlying63 rfl rfl Tryd.sizeOf58 rfl) ?_
            obtain ⟨x87, c86, h⟩ := h
            refine HPlan.takel (v := (.pointer x87)) (fun X => cell X (Addr.add a84 5) = some (.pointer x87)) rfl rfl (fun _ hX => HVal.load1 Tryd.isAgg58 rfl hX) c86 ?_
            refine HPlan.takev (v := (.pointer p0)) rfl rfl (fun _ => HVal.move' rfl) ?_
            obtain ⟨a88, e89, h⟩ := h
            refine HPlan.takev (v := (.pointer (some a88))) rfl rfl (fun _ => HVal.nilCheck (congrArg Value.pointer e89)) ?_
            refine HPlan.takev (v := (.pointer (some (Addr.add a88 2)))) rfl rfl (fun _ => HVal.fieldAddr' Tryd.runUnderlying63 rfl rfl Tryd.sizeOf2 rfl) ?_
            obtain ⟨x91, c90, h⟩ := h
            refine HPlan.takel (v := (.int .i64 x91)) (fun X => cell X (Addr.add a88 2) = some (.int .i64 x91)) rfl rfl (fun _ hX => HVal.load1 Tryd.isAgg2 rfl hX) c90 ?_
            obtain ⟨x93, x94, x95, c92, h⟩ := h
            refine HPlan.takel (v := (.agg #[(.string x93), (.int .i64 x94), (Sl.v x95)])) (fun X => cells X ⟨H.size, 0, none⟩ [(.string x93), (.int .i64 x94), (Sl.v x95)] 0) rfl rfl (fun _ hX => HVal.loadN [(.string x93), (.int .i64 x94), (Sl.v x95)] Tryd.isAgg33 Tryd.sizeOf33 rfl hX) c92 ?_
            refine HPlan.ops' rfl rfl (HOp.call' 23 [(.agg #[(.string x93), (.int .i64 x94), (Sl.v x95)])] (cap := []) rfl rfl Tryd.call23 (walk23 h)) ?_
            rintro _ H96 ⟨r98, r99, r100, rfl, h⟩
            obtain ⟨s101, s102, h⟩ := h
            refine ⟨SC_of ⟨fun e => absurd e (by decide), fun _ => s101, fun _ => s102, trivial⟩, ?_⟩
            refine HPlan.takev (v := (.agg #[(.int .i64 x91), (.string r98), (.int .i64 r99), (Sl.v r100)])) rfl rfl (fun _ => HVal.build' (cs := [(.int .i64 x91), (.string r98), (.int .i64 r99), (Sl.v r100)]) Tryd.runUnderlying56 Tryd.zeroValue56 places56 rfl) ?_
            refine HPlan.ops' rfl rfl (HOp.call' 22 [(.pointer x87), (.agg #[(.int .i64 x91), (.string r98), (.int .i64 r99), (Sl.v r100)])] (cap := []) rfl rfl Tryd.call22 (walk22 h)) ?_
            rintro _ H103 ⟨rfl, h⟩
            obtain ⟨s105, h⟩ := h
            refine ⟨SC_of ⟨fun e => absurd e (by decide), fun _ => s105, fun e => absurd e (by decide), trivial⟩, ?_⟩
            refine HPlan.done ?_
            refine nt ?_
            refine HW.seq ?_
            refine HW.region ?_
            refine HList.vals (v := (.pointer p0)) rfl (HVal.move' rfl) ?_
            refine HList.ops' rfl (HOp.call' 24 [(.pointer p0)] (cap := []) rfl rfl Tryd.call24 (walk24 h)) ?_
            rintro _ H106 ⟨r108, rfl, h⟩
            refine HList.vals (v := (Sl.v r108)) rfl (HVal.assign' rfl) ?_
            refine HList.vals (v := (.int .i64 0)) rfl (HVal.assign' rfl) ?_
            refine HList.nil ?_
            refine nt ?_
            refine HW.ret ?_
            exact ⟨_, resOf2 rfl Res1.t Res1.t, ⟨r108, 0, rfl, h⟩⟩

def F8 (p0 : ByteArray) (p1 : Int) (H : Hp) (Q : ByteArray → Int → Sl → Hp → Prop) : Prop :=
∀ H1 : Hp, H1 = Array.push H (.cells #[(.string (ByteArray.mk #[])), (.int .i64 0), (Sl.v Sl.nil)] 33) → (
 mayw H1 ⟨H.size, 0, none⟩ 3 0 ∧ ∀ H3 : Hp, H3 = sets H1 ⟨H.size, 0, none⟩ [(.string p0), (.int .i64 p1), (Sl.v Sl.nil)] 0 → (
 ∃ (x6 : ByteArray) (x7 : Int) (x8 : Sl), cells H3 ⟨H.size, 0, none⟩ [(.string x6), (.int .i64 x7), (Sl.v x8)] 0 ∧ (
 Q x6 x7 x8 H3)))
set_option maxRecDepth 100000 in
set_option maxHeartbeats 4000000 in
theorem walk8 {w0 : World} {p0 : ByteArray} {p1 : Int} {H : Hp} {Q : ByteArray → Int → Sl → Hp → Prop} (h : F8 p0 p1 H Q) :
    Good Tryd.prog w0 8 #[(.string p0), (.int .i64 p1)] H (fun v H => ∃ (r0 : ByteArray) (r1 : Int) (r2 : Sl) , v = (.agg #[(.string r0), (.int .i64 r1), (Sl.v r2)]) ∧ Q r0 r1 r2 H) := by
  unfold F8 at h
  refine Good.enter' (fn := Tryd.f8) Tryd.func8 rfl rfl rfl ?_
  refine HW.seq ?_
  refine HW.region ?_
  refine HList.ops' rfl (HOp.alloc Tryd.zeroValue33) ?_
  rintro _ H1 ⟨rfl, e2⟩
  replace h := h H1 e2
  refine HList.nil ?_
  refine nt ?_
  refine HW.seq ?_
  refine HW.region ?_
  refine HList.vals (v := (.string p0)) rfl (HVal.move' rfl) ?_
  refine HList.vals (v := (.int .i64 p1)) rfl (HVal.move' rfl) ?_
  refine HList.vals (v := (.agg #[(.string p0), (.int .i64 p1), (Sl.v Sl.nil)])) rfl (HVal.build' (cs := [(.string p0), (.int .i64 p1), (Sl.v Sl.nil)]) Tryd.runUnderlying33 Tryd.zeroValue33 places33 rfl) ?_
  obtain ⟨z5, h⟩ := h
  refine HList.opsn (HOp.storeN' (l := [(.string p0), (.int .i64 p1), (Sl.v Sl.nil)]) Tryd.sizeOf33 rfl rfl rfl z5) ?_
  rintro _ H3 e4
  replace h := h H3 e4
  refine HList.nil ?_
  refine nt ?_
  refine HW.ret ?_
  obtain ⟨x6, x7, x8, c9, h⟩ := h
  exact ⟨_, resOf1 rfl (Res1.n [(.string x6), (.int .i64 x7), (Sl.v x8)] Tryd.isAgg33 Tryd.sizeOf33 rfl c9), ⟨x6, x7, x8, rfl, h⟩⟩

def F26 (p0 : Sl) (H : Hp) (Q : Sl → Hp → Prop) : Prop :=
(((p0).b.isNone) = true → (Q Sl.nil H)) ∧
 (((p0).b.isNone) = false → (∀ H2 : Hp, H2 = Array.push H (.cells #[] 56) → (
 AppendF H2 56 4 56 #[(.int .i64 0), (.string (ByteArray.mk #[])), (.int .i64 0), (Sl.v Sl.nil)] (Sl.mk (some ⟨H.size, 0, none⟩) 0 0) (p0).b (p0).n (fun (r6 : Sl) (H4 : Hp) => 
 Q r6 H4))))
set_option maxRecDepth 100000 in
set_option maxHeartbeats 4000000 in
theorem walk26 {w0 : World} {p0 : Sl} {H : Hp} {Q : Sl → Hp → Prop} (h : F26 p0 H Q) :
    Good Tryd.prog w0 26 #[(Sl.v p0)] H (fun v H => ∃ (r0 : Sl) , v = (Sl.v r0) ∧ Q r0 H) := by
  unfold F26 at h
  refine Good.enter' (fn := Tryd.f26) Tryd.func26 rfl rfl rfl ?_
  refine HW.seq ?_
  refine HW.region ?_
  refine HList.vals (v := (Sl.v Sl.nil)) rfl (HVal.assign' rfl) ?_
  refine HList.nil ?_
  refine nt ?_
  refine HW.seq ?_
  refine HW.seq ?_
  refine HW.region ?_
  refine HList.vals (v := (Sl.v p0)) rfl (HVal.move' rfl) ?_
  refine HList.vals (v := (.bool ((p0).b.isNone))) rfl (HVal.eqlSN Tryd.underlying59 rfl rfl) ?_
  refine HList.nil ?_
  refine nt ?_
  obtain ⟨hT, hF⟩ := h
  refine HW.cond ((p0).b.isNone) rfl (fun hb1 => ?_) (fun hb1 => ?_)
  · have h := hT hb1
    clear hT hF
    refine HW.seq ?_
    refine HW.region ?_
    refine HList.vals (v := (Sl.v Sl.nil)) rfl (HVal.assign' rfl) ?_
    refine HList.nil ?_
    refine nt ?_
    refine HW.ret ?_
    refine tr ?_
    exact ⟨_, resOf1 rfl Res1.t, ⟨Sl.nil, rfl, h⟩⟩
  · have h := hF hb1
    clear hT hF
    refine HW.skip ?_
    refine nt ?_
    refine HW.seq ?_
    refine HW.region ?_
    refine HList.ops' rfl (HOp.buildSlice0 (cs := []) Tryd.runUnderlying59 Tryd.sizeOf56 (by decide) rfl) ?_
    rintro _ H2 ⟨rfl, e3⟩
    replace h := h H2 e3
    refine HList.vals (v := (Sl.v p0)) rfl (HVal.move' rfl) ?_
    refine HList.ops' rfl (HOp.append (k := 4) (b := 56) Tryd.runUnderlying59 Tryd.runUnderlying59 Tryd.typeInfo56 rfl rfl Tryd.zeroValue56 rfl rfl h) ?_
    rintro _ H4 ⟨r6, rfl, h⟩
    refine HList.vals (v := (Sl.v r6)) rfl (HVal.assign' rfl) ?_
    refine HList.nil ?_
    refine nt ?_
    refine HW.ret ?_
    exact ⟨_, resOf1 rfl Res1.t, ⟨r6, rfl, h⟩⟩

def F11_1 (Q : Sl → Hp → Prop) (y48 : Sl) (H_1 : Hp) : Prop :=
Q y48 H_1
def F11_L2b (Q : Sl → Hp → Prop) (X2 : Sl → Hp → Prop) (y28 : Addr) (y27 : Sl) (H_2 : Hp) : Prop :=
∃ x30 : Sl, cell H_2 y28 = some (Sl.v x30) ∧ (
 ((decide ((0 : Int) < ((x30).n : Int))) = true → (F27 (some y28) H_2 (fun (r34 : Int) (r35 : ByteArray) (r36 : Int) (r37 : Sl) (H32 : Hp) => 
 F23 r35 r36 r37 H32 (fun (r40 : ByteArray) (r41 : Int) (r42 : Sl) (H38 : Hp) => 
 ∀ H43 : Hp, H43 = Array.push H38 (.cells #[(.string r40), (.int .i64 r41), (Sl.v r42)] 33) → (
 AppendF H43 33 3 48 #[(.string (ByteArray.mk #[])), (.int .i64 0), (Sl.v Sl.nil)] y27 ((Sl.mk (some ⟨H38.size, 0, none⟩) 1 1)).b ((Sl.mk (some ⟨H38.size, 0, none⟩) 1 1)).n (fun (r47 : Sl) (H45 : Hp) => 
 X2 r47 H45)))))) ∧
 ((decide ((0 : Int) < ((x30).n : Int))) = false → (F11_1 Q y27 H_2)))
def F11_L2 (Q : Sl → Hp → Prop) (y28 : Addr) (y27 : Sl) (H_2 : Hp) : Prop :=
  ∀ X2 : Sl → Hp → Prop, (∀ (y27 : Sl) (H_2 : Hp), F11_L2b Q X2 y28 y27 H_2 → X2 y27 H_2) → X2 y27 H_2
def F11 (p0 : (Option Addr)) (H : Hp) (Q : Sl → Hp → Prop) : Prop :=
∃ a1 : Addr, p0 = some a1 ∧ (
 ∃ x4 : (Option Addr), cell H (Addr.add a1 5) = some (.pointer x4) ∧ (
 ∃ a5 : Addr, x4 = some a5 ∧ (
 ∃ x8 : Sl, cell H a5 = some (Sl.v x8) ∧ (
 ∃ a9 : Addr, p0 = some a9 ∧ (
 ∃ x12 : (Option Addr), cell H (Addr.add a9 5) = some (.pointer x12) ∧ (
 ∃ a13 : Addr, x12 = some a13 ∧ (
 cell H (Addr.add a13 1) = some (.func (.func 19) #[] #[]) ∧ (
 F26 x8 H (fun (r18 : Sl) (H16 : Hp) => 
 cell H16 (Addr.add a13 1) = some (.func (.func 19) #[] #[]) ∧ cell H16 (Addr.add a9 5) = some (.pointer x12) ∧ cell H16 (Addr.add a1 5) = some (.pointer x4) ∧ (
 ∀ H22 : Hp, H22 = Array.push H16 (.cells #[(Sl.v r18), (.func (.func 19) #[] #[])] 61) → (
 cell H22 (Addr.add a13 1) = some (.func (.func 19) #[] #[]) ∧ cell H22 (Addr.add a9 5) = some (.pointer x12) ∧ cell H22 (Addr.add a1 5) = some (.pointer x4) ∧ (
 F11_L2 Q ⟨H16.size, 0, none⟩ Sl.nil H22))))))))))))
set_option maxRecDepth 100000 in
set_option maxHeartbeats 4000000 in
theorem walk11 {w0 : World} {p0 : (Option Addr)} {H : Hp} {Q : Sl → Hp → Prop} (h : F11 p0 H Q) :
    Good Tryd.prog w0 11 #[(.pointer p0)] H (fun v H => ∃ (r0 : Sl) , v = (Sl.v r0) ∧ Q r0 H) := by
  unfold F11 at h
  refine Good.enter' (fn := Tryd.f11) Tryd.func11 rfl rfl rfl ?_
  refine HW.seq ?_
  refine HW.region ?_
  refine HList.vals (v := (Sl.v Sl.nil)) rfl (HVal.assign' rfl) ?_
  refine HList.nil ?_
  refine nt ?_
  refine HW.seq ?_
  refine HW.draw mixed [(0, some []), (1, some []), (2, some []), (3, some []), (4, some []), (5, some []), (6, some [7]), (8, some []), (9, some []), (10, some []), (11, some []), (12, some []), (13, some []), (14, some []), (7, none), (15, some []), (16, none), (17, some [])] rfl (by kernel_rfl) (by kernel_rfl) ?_
  refine HPlan.takev (v := (.pointer p0)) rfl rfl (fun _ => HVal.move' rfl) ?_
  obtain ⟨a1, e2, h⟩ := h
  refine HPlan.takev (v := (.pointer (some a1))) rfl rfl (fun _ => HVal.nilCheck (congrArg Value.pointer e2)) ?_
  refine HPlan.takev (v := (.pointer (some (Addr.add a1 5)))) rfl rfl (fun _ => HVal.fieldAddr' Tryd.runUnderlying63 rfl rfl Tryd.sizeOf58 rfl) ?_
  obtain ⟨x4, c3, h⟩ := h
  refine HPlan.takel (v := (.pointer x4)) (fun X => cell X (Addr.add a1 5) = some (.pointer x4)) rfl rfl (fun _ hX => HVal.load1 Tryd.isAgg58 rfl hX) c3 ?_
  obtain ⟨a5, e6, h⟩ := h
  refine HPlan.takev (v := (.pointer (some a5))) rfl rfl (fun _ => HVal.nilCheck (congrArg Value.pointer e6)) ?_
  refine HPlan.takev (v := (.pointer (some a5))) rfl rfl (fun _ => HVal.fieldAddr0 Tryd.runUnderlying61 rfl rfl Tryd.sizeOf59 rfl) ?_
  obtain ⟨x8, c7, h⟩ := h
  refine HPlan.takel (v := (Sl.v x8)) (fun X => cell X a5 = some (Sl.v x8)) rfl rfl (fun _ hX => HVal.load1 Tryd.isAgg59 rfl hX) c7 ?_
  refine HPlan.takev (v := (.pointer p0)) rfl rfl (fun _ => HVal.move' rfl) ?_
  obtain ⟨a9, e10, h⟩ := h
  refine HPlan.takev (v := (.pointer (some a9))) rfl rfl (fun _ => HVal.nilCheck (congrArg Value.pointer e10)) ?_
  refine HPlan.takev (v := (.pointer (some (Addr.add a9 5)))) rfl rfl (fun _ => HVal.fieldAddr' Tryd.runUnderlying63 rfl rfl Tryd.sizeOf58 rfl) ?_
  obtain ⟨x12, c11, h⟩ := h
  refine HPlan.takel (v := (.pointer x12)) (fun X => cell X (Addr.add a9 5) = some (.pointer x12)) rfl rfl (fun _ hX => HVal.load1 Tryd.isAgg58 rfl hX) c11 ?_
  obtain ⟨a13, e14, h⟩ := h
  refine HPlan.takev (v := (.pointer (some a13))) rfl rfl (fun _ => HVal.nilCheck (congrArg Value.pointer e14)) ?_
  refine HPlan.takev (v := (.pointer (some (Addr.add a13 1)))) rfl rfl (fun _ => HVal.fieldAddr' Tryd.runUnderlying61 rfl rfl Tryd.sizeOf57 rfl) ?_
  obtain ⟨c15, h⟩ := h
  refine HPlan.takel (v := (.func (.func 19) #[] #[])) (fun X => cell X (Addr.add a13 1) = some (.func (.func 19) #[] #[])) rfl rfl (fun _ hX => HVal.load1 Tryd.isAgg57 rfl hX) c15 ?_
  refine HPlan.ops' rfl rfl (HOp.call' 26 [(Sl.v x8)] (cap := []) rfl rfl Tryd.call26 (walk26 h)) ?_
  rintro _ H16 ⟨r18, rfl, h⟩
  obtain ⟨s19, s20, s21, h⟩ := h
  refine ⟨SC_of ⟨fun _ => s19, fun _ => s20, fun e => absurd e (by decide), fun _ => s21, trivial⟩, ?_⟩
  refine HPlan.takev (v := (.agg #[(Sl.v r18), (.func (.func 19) #[] #[])])) rfl rfl (fun _ => HVal.build' (cs := [(Sl.v r18), (.func (.func 19) #[] #[])]) Tryd.runUnderlying61 Tryd.zeroValue61 places61 rfl) ?_
  refine HPlan.ops' rfl rfl (HOp.box (v := (.agg #[(Sl.v r18), (.func (.func 19) #[] #[])])) rfl) ?_
  rintro _ H22 ⟨rfl, e23⟩
  replace h := h H22 e23
  obtain ⟨s24, s25, s26, h⟩ := h
  refine ⟨SC_of ⟨fun _ => s24, fun _ => s25, fun e => absurd e (by decide), fun _ => s26, trivial⟩, ?_⟩
  refine HPlan.takev (v := (.pointer (some ⟨H16.size, 0, none⟩))) rfl rfl (fun _ => HVal.assign' rfl) ?_
  refine HPlan.done ?_
  refine nt ?_
  refine HW.seq ?_
  refine HW.region ?_
  refine HList.vals (v := (Sl.v Sl.nil)) rfl (HVal.assign' rfl) ?_
  refine HList.nil ?_
  refine nt ?_
  refine HW.cut (fun ρ H_1 => ∃ (y48 : Sl), Env.Is ρ [(4, (Sl.v y48))] ∧ F11_1 Q y48 H_1) ?_ ?_
  · refine HW.block ?_
    refine HW.loop' (fun L2 hL2 => ?_)
    obtain ⟨X2, hX2⟩ : ∃ X2 : Sl → Hp → Prop, ∀ (y27 : Sl) (H_2 : Hp), X2 y27 H_2 ↔ ∀ ρ, Env.Is ρ [(3, (.pointer (some ⟨H16.size, 0, none⟩))), (4, (Sl.v y27))] → L2 ρ H_2 := ⟨_, fun _ _ => Iff.rfl⟩
    refine (hX2 _ _).1 (h X2 ?_) _ ?_
    rotate_left
    · exact ⟨rfl, rfl, trivial⟩
    clear h
    intro y27 H_2 h
    refine (hX2 _ _).2 fun ρ hI => ?_
    obtain ⟨ρ0, rfl⟩ : ∃ ρ0, ρ = (Env.set (Env.set ρ0 4 (Sl.v y27)) 3 (.pointer (some ⟨H16.size, 0, none⟩))) := ⟨ρ, hI.eq⟩
    clear hI; unfold F11_L2b at h; refine hL2 _ _ ?_
    refine HW.seq ?_
    refine HW.seq ?_
    refine HW.region ?_
    refine HList.vals (v := (.pointer (some ⟨H16.size, 0, none⟩))) rfl (HVal.move' rfl) ?_
    refine HList.vals (v := (.pointer (some ⟨H16.size, 0, none⟩))) rfl (HVal.nilCheck rfl) ?_
    refine HList.vals (v := (.pointer (some ⟨H16.size, 0, none⟩))) rfl (HVal.fieldAddr0 Tryd.runUnderlying61 rfl rfl Tryd.sizeOf59 rfl) ?_
    obtain ⟨x30, c29, h⟩ := h
    refine HList.vals (v := (Sl.v x30)) rfl (HVal.load1 Tryd.isAgg59 rfl c29) ?_
    refine HList.vals (v := (.int .i64 ((x30).n : Int))) rfl (HVal.len Tryd.runUnderlying59 rfl) ?_
    refine HList.vals (v := (.bool (decide ((0 : Int) < ((x30).n : Int))))) rfl (HVal.gtr rfl rfl) ?_
    refine HList.nil ?_
    refine nt ?_
    obtain ⟨hT, hF⟩ := h
    refine HW.cond (decide ((0 : Int) < ((x30).n : Int))) rfl (fun hb31 => ?_) (fun hb31 => ?_)
    · have h := hT hb31
      clear hT hF
      refine HW.skip ?_
      refine nt ?_
      refine HW.block ?_
      refine HW.region ?_
      refine HList.vals (v := (Sl.v y27)) rfl (HVal.move' rfl) ?_
      refine HList.vals (v := (.pointer (some ⟨H16.size, 0, none⟩))) rfl (HVal.move' rfl) ?_
      refine HList.ops' rfl (HOp.call' 27 [(.pointer (some ⟨H16.size, 0, none⟩))] (cap := []) rfl rfl Tryd.call27 (walk27 h)) ?_
      rintro _ H32 ⟨r34, r35, r36, r37, rfl, h⟩
      refine HList.vals (v := (.agg #[(.string r35), (.int .i64 r36), (Sl.v r37)])) rfl (HVal.fieldN' Tryd.runUnderlying56 rfl rfl Tryd.isAgg33 Tryd.sizeOf33 rfl rfl) ?_
      refine HList.ops' rfl (HOp.call' 23 [(.agg #[(.string r35), (.int .i64 r36), (Sl.v r37)])] (cap := []) rfl rfl Tryd.call23 (walk23 h)) ?_
      rintro _ H38 ⟨r40, r41, r42, rfl, h⟩
      refine HList.ops' rfl (HOp.buildSlice' (zs := [(.string (ByteArray.mk #[])), (.int .i64 0), (Sl.v Sl.nil)]) (cs := [(.string r40), (.int .i64 r41), (Sl.v r42)]) Tryd.runUnderlying28 Tryd.sizeOf33 Tryd.zeroValue33 (by decide) (by kernel_rfl) rfl (by decide)) ?_
      rintro _ H43 ⟨rfl, e44⟩
      replace h := h H43 e44
      refine HList.ops' rfl (HOp.append (k := 3) (b := 48) Tryd.runUnderlying28 Tryd.runUnderlying28 Tryd.typeInfo33 rfl rfl Tryd.zeroValue33 rfl rfl h) ?_
      rintro _ H45 ⟨r47, rfl, h⟩
      refine HList.vals (v := (Sl.v r47)) rfl (HVal.assign' rfl) ?_
      refine HList.nil ?_
      refine nb ?_
      refine nt ?_
      exact (hX2 _ _).1 h _ ⟨rfl, rfl, trivial⟩
    · have h := hF hb31
      clear hT hF
      refine HW.exit ?_
      refine te ?_
      refine te ?_
      refine be ?_
      refine nt ?_
      exact ⟨y27, ⟨rfl, trivial⟩, h⟩
  · rintro ρ H_1 ⟨y48, hI, h⟩
    obtain ⟨ρ0, rfl⟩ : ∃ ρ0, ρ = (Env.set ρ0 4 (Sl.v y48)) := ⟨ρ, hI.eq⟩
    clear hI; unfold F11_1 at h
    refine HW.seq ?_
    refine HW.region ?_
    refine HList.vals (v := (Sl.v y48)) rfl (HVal.move' rfl) ?_
    refine HList.vals (v := (Sl.v y48)) rfl (HVal.assign' rfl) ?_
    refine HList.nil ?_
    refine nt ?_
    refine HW.ret ?_
    exact ⟨_, resOf1 rfl Res1.t, ⟨y48, rfl, h⟩⟩

def F16 (p0 : (Option Addr)) (H : Hp) (Q : Int → Hp → Prop) : Prop :=
∃ a1 : Addr, p0 = some a1 ∧ (
 ∃ x4 : Int, cell H (Addr.add a1 4) = some (.int .i64 x4) ∧ (
 Q x4 H))
set_option maxRecDepth 100000 in
set_option maxHeartbeats 4000000 in
theorem walk16 {w0 : World} {p0 : (Option Addr)} {H : Hp} {Q : Int → Hp → Prop} (h : F16 p0 H Q) :
    Good Tryd.prog w0 16 #[(.pointer p0)] H (fun v H => ∃ (r0 : Int) , v = (.int .i64 r0) ∧ Q r0 H) := by
  unfold F16 at h
  refine Good.enter' (fn := Tryd.f16) Tryd.func16 rfl rfl rfl ?_
  refine HW.seq ?_
  refine HW.region ?_
  refine HList.vals (v := (.int .i64 0)) rfl (HVal.assign' rfl) ?_
  refine HList.nil ?_
  refine nt ?_
  refine HW.seq ?_
  refine HW.region ?_
  refine HList.vals (v := (.pointer p0)) rfl (HVal.move' rfl) ?_
  obtain ⟨a1, e2, h⟩ := h
  refine HList.vals (v := (.pointer (some a1))) rfl (HVal.nilCheck (congrArg Value.pointer e2)) ?_
  refine HList.vals (v := (.pointer (some (Addr.add a1 4)))) rfl (HVal.fieldAddr' Tryd.runUnderlying63 rfl rfl Tryd.sizeOf2 rfl) ?_
  obtain ⟨x4, c3, h⟩ := h
  refine HList.vals (v := (.int .i64 x4)) rfl (HVal.load1 Tryd.isAgg2 rfl c3) ?_
  refine HList.vals (v := (.int .i64 x4)) rfl (HVal.assign' rfl) ?_
  refine HList.nil ?_
  refine nt ?_
  refine HW.ret ?_
  exact ⟨_, resOf1 rfl Res1.t, ⟨x4, rfl, h⟩⟩

def F29_L2b (Q : Bool → Hp → Prop) (X2 : Int → Hp → Prop) (y26 : Addr) (y27 : Addr) (y25 : Int) (H_2 : Hp) : Prop :=
∃ x29 : Sl, cell H_2 (Addr.add y26 2) = some (Sl.v x29) ∧ (
 ((decide (y25 < ((x29).n : Int))) = true → (∃ x32 : Sl, cell H_2 (Addr.add y26 2) = some (Sl.v x32) ∧ (
 ∃ a33 : Addr, (x32).b = some a33 ∧ (0 : Int) ≤ y25 ∧ y25 < ((x32).n : Int) ∧ (
 ∃ (x38 : Int) (x39 : Int) (x40 : ByteArray) (x41 : Bool), cells H_2 (Addr.add a33 (y25.toNat * 4)) [(.int .i64 x38), (.int .i64 x39), (.string x40), (.bool x41)] 0 ∧ (
 ∃ x43 : Sl, cell H_2 (Addr.add y27 2) = some (Sl.v x43) ∧ (
 ∃ a44 : Addr, (x43).b = some a44 ∧ (0 : Int) ≤ y25 ∧ y25 < ((x43).n : Int) ∧ (
 ∃ (x49 : Int) (x50 : Int) (x51 : ByteArray) (x52 : Bool), cells H_2 (Addr.add a44 (y25.toNat * 4)) [(.int .i64 x49), (.int .i64 x50), (.string x51), (.bool x52)] 0 ∧ (
 ((!(decide (x38 = x49) && (decide (x39 = x50) && (seq x40 x51 && (x41 == x52))))) = true → (Q false H_2)) ∧
 ((!(decide (x38 = x49) && (decide (x39 = x50) && (seq x40 x51 && (x41 == x52))))) = false → (X2 (IntKind.i64.wrap (y25 + 1)) H_2)))))))))) ∧
 ((decide (y25 < ((x29).n : Int))) = false → (Q true H_2)))
def F29_L2 (Q : Bool → Hp → Prop) (y26 : Addr) (y27 : Addr) (y25 : Int) (H_2 : Hp) : Prop :=
  ∀ X2 : Int → Hp → Prop, (∀ (y25 : Int) (H_2 : Hp), F29_L2b Q X2 y26 y27 y25 H_2 → X2 y25 H_2) → X2 y25 H_2
def F29_1 (Q : Bool → Hp → Prop) (y5 : Addr) (y6 : Addr) (y13 : Bool) (H_1 : Hp) : Prop :=
(y13 = true → (Q false H_1)) ∧
 (y13 = false → (F29_L2 Q y5 y6 0 H_1))
def F29 (p0_0 : ByteArray) (p0_1 : Int) (p0_2 : Sl) (p1_0 : ByteArray) (p1_1 : Int) (p1_2 : Sl) (H : Hp) (Q : Bool → Hp → Prop) : Prop :=
∀ H1 : Hp, H1 = Array.push H (.cells #[(.string p0_0), (.int .i64 p0_1), (Sl.v p0_2)] 33) → (
 ∀ H3 : Hp, H3 = Array.push H1 (.cells #[(.string p1_0), (.int .i64 p1_1), (Sl.v p1_2)] 33) → (
 ∃ x8 : ByteArray, cell H3 ⟨H.size, 0, none⟩ = some (.string x8) ∧ (
 ∃ x10 : ByteArray, cell H3 ⟨H1.size, 0, none⟩ = some (.string x10) ∧ (
 ((!(seq x8 x10)) = true → (F29_1 Q ⟨H.size, 0, none⟩ ⟨H1.size, 0, none⟩ true H3)) ∧
 ((!(seq x8 x10)) = false → (∃ x15 : Int, cell H3 (Addr.add ⟨H.size, 0, none⟩ 1) = some (.int .i64 x15) ∧ (
 ∃ x17 : Int, cell H3 (Addr.add ⟨H1.size, 0, none⟩ 1) = some (.int .i64 x17) ∧ (
 ((decide (x15 ≠ x17)) = true → (F29_1 Q ⟨H.size, 0, none⟩ ⟨H1.size, 0, none⟩ true H3)) ∧
 ((decide (x15 ≠ x17)) = false → (∃ x21 : Sl, cell H3 (Addr.add ⟨H.size, 0, none⟩ 2) = some (Sl.v x21) ∧ (
 ∃ x23 : Sl, cell H3 (Addr.add ⟨H1.size, 0, none⟩ 2) = some (Sl.v x23) ∧ (
 F29_1 Q ⟨H.size, 0, none⟩ ⟨H1.size, 0, none⟩ (decide (((x21).n : Int) ≠ ((x23).n : Int))) H3))))))))))))
set_option maxRecDepth 100000 in
set_option maxHeartbeats 4000000 in
theorem walk29 {w0 : World} {p0_0 : ByteArray} {p0_1 : Int} {p0_2 : Sl} {p1_0 : ByteArray} {p1_1 : Int} {p1_2 : Sl} {H : Hp} {Q : Bool → Hp → Prop} (h : F29 p0_0 p0_1 p0_2 p1_0 p1_1 p1_2 H Q) :
    Good Tryd.prog w0 29 #[(.agg #[(.string p0_0), (.int .i64 p0_1), (Sl.v p0_2)]), (.agg #[(.string p1_0), (.int .i64 p1_1), (Sl.v p1_2)])] H (fun v H => ∃ (r0 : Bool) , v = (.bool r0) ∧ Q r0 H) := by
  unfold F29 at h
  refine Good.enter' (fn := Tryd.f29) Tryd.func29 rfl rfl rfl ?_
  refine HW.seq ?_
  refine HW.region ?_
  refine HList.ops' rfl (HOp.box (v := (.agg #[(.string p0_0), (.int .i64 p0_1), (Sl.v p0_2)])) rfl) ?_
  rintro _ H1 ⟨rfl, e2⟩
  replace h := h H1 e2
  refine HList.ops' rfl (HOp.box (v := (.agg #[(.string p1_0), (.int .i64 p1_1), (Sl.v p1_2)])) rfl) ?_
  rintro _ H3 ⟨rfl, e4⟩
  replace h := h H3 e4
  refine HList.vals (v := (.bool false)) rfl (HVal.assign' rfl) ?_
  refine HList.nil ?_
  refine nt ?_
  refine HW.seq ?_
  refine HW.cut (fun ρ H_1 => ∃ (y13 : Bool), Env.Is ρ [(2, (.pointer (some ⟨H.size, 0, none⟩))), (3, (.pointer (some ⟨H1.size, 0, none⟩))), (26, (.bool y13))] ∧ F29_1 Q ⟨H.size, 0, none⟩ ⟨H1.size, 0, none⟩ y13 H_1) ?_ ?_
  · refine HW.region ?_
    refine HList.vals (v := (.pointer (some ⟨H.size, 0, none⟩))) rfl (HVal.fieldAddr0 Tryd.runUnderlying33 rfl rfl Tryd.sizeOf9 rfl) ?_
    obtain ⟨x8, c7, h⟩ := h
    refine HList.vals (v := (.string x8)) rfl (HVal.load1 Tryd.isAgg9 rfl c7) ?_
    refine HList.vals (v := (.pointer (some ⟨H1.size, 0, none⟩))) rfl (HVal.fieldAddr0 Tryd.runUnderlying33 rfl rfl Tryd.sizeOf9 rfl) ?_
    obtain ⟨x10, c9, h⟩ := h
    refine HList.vals (v := (.string x10)) rfl (HVal.load1 Tryd.isAgg9 rfl c9) ?_
    refine HList.vals (v := (.bool (!(seq x8 x10)))) rfl (HVal.neqS rfl rfl) ?_
    refine HList.vals (v := (.bool (!(seq x8 x10)))) rfl (HVal.move' rfl) ?_
    obtain ⟨hT, hF⟩ := h
    rcases Bool.eq_false_or_eq_true (!(seq x8 x10)) with hb11 | hb12
    · have h := hT hb11
      clear hT hF
      refine HList.gskips rfl rfl rfl rfl (congrArg Value.bool hb11) ?_
      refine HList.gskips rfl rfl rfl rfl (congrArg Value.bool hb11) ?_
      refine HList.gskips rfl rfl rfl rfl (congrArg Value.bool hb11) ?_
      refine HList.gskips rfl rfl rfl rfl (congrArg Value.bool hb11) ?_
      refine HList.gskips rfl rfl rfl rfl (congrArg Value.bool hb11) ?_
      refine HList.vals (v := (.bool true)) rfl (HVal.pickT rfl hb11 rfl) ?_
      refine HList.vals (v := (.bool true)) rfl (HVal.move' rfl) ?_
      refine HList.gskips rfl rfl rfl rfl rfl ?_
      refine HList.gskips rfl rfl rfl rfl rfl ?_
      refine HList.gskips rfl rfl rfl rfl rfl ?_
      refine HList.gskips rfl rfl rfl rfl rfl ?_
      refine HList.gskips rfl rfl rfl rfl rfl ?_
      refine HList.gskips rfl rfl rfl rfl rfl ?_
      refine HList.gskips rfl rfl rfl rfl rfl ?_
      refine HList.vals (v := (.bool true)) rfl (HVal.pickT rfl rfl rfl) ?_
      refine HList.nil ?_
      refine nt ?_
      exact ⟨true, ⟨rfl, rfl, rfl, trivial⟩, h⟩
    · have h := hF hb12
      clear hT hF
      refine HList.gvals (v := (.pointer (some (Addr.add ⟨H.size, 0, none⟩ 1)))) rfl rfl rfl rfl (congrArg Value.bool hb12) (HVal.fieldAddr' Tryd.runUnderlying33 rfl rfl Tryd.sizeOf2 rfl) ?_
      obtain ⟨x15, c14, h⟩ := h
      refine HList.gvals (v := (.int .i64 x15)) rfl rfl rfl rfl (congrArg Value.bool hb12) (HVal.load1 Tryd.isAgg2 rfl c14) ?_
      refine HList.gvals (v := (.pointer (some (Addr.add ⟨H1.size, 0, none⟩ 1)))) rfl rfl rfl rfl (congrArg Value.bool hb12) (HVal.fieldAddr' Tryd.runUnderlying33 rfl rfl Tryd.sizeOf2 rfl) ?_
      obtain ⟨x17, c16, h⟩ := h
      refine HList.gvals (v := (.int .i64 x17)) rfl rfl rfl rfl (congrArg Value.bool hb12) (HVal.load1 Tryd.isAgg2 rfl c16) ?_
      refine HList.gvals (v := (.bool (decide (x15 ≠ x17)))) rfl rfl rfl rfl (congrArg Value.bool hb12) (HVal.neqI rfl rfl) ?_
      refine HList.vals (v := (.bool (decide (x15 ≠ x17)))) rfl (HVal.pickF rfl hb12 rfl) ?_
      refine HList.vals (v := (.bool (decide (x15 ≠ x17)))) rfl (HVal.move' rfl) ?_
      obtain ⟨hT, hF⟩ := h
      rcases Bool.eq_false_or_eq_true (decide (x15 ≠ x17)) with hb18 | hb19
      · have h := hT hb18
        clear hT hF
        refine HList.gskips rfl rfl rfl rfl (congrArg Value.bool hb18) ?_
        refine HList.gskips rfl rfl rfl rfl (congrArg Value.bool hb18) ?_
        refine HList.gskips rfl rfl rfl rfl (congrArg Value.bool hb18) ?_
        refine HList.gskips rfl rfl rfl rfl (congrArg Value.bool hb18) ?_
        refine HList.gskips rfl rfl rfl rfl (congrArg Value.bool hb18) ?_
        refine HList.gskips rfl rfl rfl rfl (congrArg Value.bool hb18) ?_
        refine HList.gskips rfl rfl rfl rfl (congrArg Value.bool hb18) ?_
        refine HList.vals (v := (.bool true)) rfl (HVal.pickT rfl hb18 rfl) ?_
        refine HList.nil ?_
        refine nt ?_
        exact ⟨true, ⟨rfl, rfl, rfl, trivial⟩, h⟩
      · have h := hF hb19
        clear hT hF
        refine HList.gvals (v := (.pointer (some (Addr.add ⟨H.size, 0, none⟩ 2)))) rfl rfl rfl rfl (congrArg Value.bool hb19) (HVal.fieldAddr' Tryd.runUnderlying33 rfl rfl Tryd.sizeOf31 rfl) ?_
        obtain ⟨x21, c20, h⟩ := h
        refine HList.gvals (v := (Sl.v x21)) rfl rfl rfl rfl (congrArg Value.bool hb19) (HVal.load1 Tryd.isAgg31 rfl c20) ?_
        refine HList.gvals (v := (.int .i64 ((x21).n : Int))) rfl rfl rfl rfl (congrArg Value.bool hb19) (HVal.len Tryd.runUnderlying31 rfl) ?_
        refine HList.gvals (v := (.pointer (some (Addr.add ⟨H1.size, 0, none⟩ 2)))) rfl rfl rfl rfl (congrArg Value.bool hb19) (HVal.fieldAddr' Tryd.runUnderlying33 rfl rfl Tryd.sizeOf31 rfl) ?_
        obtain ⟨x23, c22, h⟩ := h
        refine HList.gvals (v := (Sl.v x23)) rfl rfl rfl rfl (congrArg Value.bool hb19) (HVal.load1 Tryd.isAgg31 rfl c22) ?_
        refine HList.gvals (v := (.int .i64 ((x23).n : Int))) rfl rfl rfl rfl (congrArg Value.bool hb19) (HVal.len Tryd.runUnderlying31 rfl) ?_
        refine HList.gvals (v := (.bool (decide (((x21).n : Int) ≠ ((x23).n : Int))))) rfl rfl rfl rfl (congrArg Value.bool hb19) (HVal.neqI rfl rfl) ?_
        refine HList.vals (v := (.bool (decide (((x21).n : Int) ≠ ((x23).n : Int))))) rfl (HVal.pickF rfl hb19 rfl) ?_
        refine HList.nil ?_
        refine nt ?_
        exact ⟨(decide (((x21).n : Int) ≠ ((x23).n : Int))), ⟨rfl, rfl, rfl, trivial⟩, h⟩
  · rintro ρ H_1 ⟨y13, hI, h⟩
    obtain ⟨ρ0, rfl⟩ : ∃ ρ0, ρ = (Env.set (Env.set (Env.set ρ0 26 (.bool y13)) 3 (.pointer (some ⟨H1.size, 0, none⟩))) 2 (.pointer (some ⟨H.size, 0, none⟩))) := ⟨ρ, hI.eq⟩
    clear hI; unfold F29_1 at h
    obtain ⟨hT, hF⟩ := h
    refine HW.cond y13 rfl (fun hb24 => ?_) (fun hb24 => ?_)
    · have h := hT hb24
      clear hT hF
      refine HW.seq ?_
      refine HW.region ?_
      refine HList.vals (v := (.bool false)) rfl (HVal.assign' rfl) ?_
      refine HList.nil ?_
      refine nt ?_
      refine HW.ret ?_
      refine tr ?_
      exact ⟨_, resOf1 rfl Res1.t, ⟨false, rfl, h⟩⟩
    · have h := hF hb24
      clear hT hF
      refine HW.skip ?_
      refine nt ?_
      refine HW.seq ?_
      refine HW.seq ?_
      refine HW.region ?_
      refine HList.vals (v := (.int .i64 0)) rfl (HVal.assign' rfl) ?_
      refine HList.nil ?_
      refine nt ?_
      refine HW.block ?_
      refine HW.loop' (fun L2 hL2 => ?_)
      obtain ⟨X2, hX2⟩ : ∃ X2 : Int → Hp → Prop, ∀ (y25 : Int) (H_2 : Hp), X2 y25 H_2 ↔ ∀ ρ, Env.Is ρ [(2, (.pointer (some ⟨H.size, 0, none⟩))), (3, (.pointer (some ⟨H1.size, 0, none⟩))), (5, (.int .i64 y25))] → L2 ρ H_2 := ⟨_, fun _ _ => Iff.rfl⟩
      refine (hX2 _ _).1 (h X2 ?_) _ ?_
      rotate_left
      · exact ⟨rfl, rfl, rfl, trivial⟩
      clear h
      intro y25 H_2 h
      refine (hX2 _ _).2 fun ρ hI => ?_
      obtain ⟨ρ0, rfl⟩ : ∃ ρ0, ρ = (Env.set (Env.set (Env.set ρ0 5 (.int .i64 y25)) 3 (.pointer (some ⟨H1.size, 0, none⟩))) 2 (.pointer (some ⟨H.size, 0, none⟩))) := ⟨ρ, hI.eq⟩
      clear hI; unfold F29_L2b at h; refine hL2 _ _ ?_
      refine HW.seq ?_
      refine HW.seq ?_
      refine HW.region ?_
      refine HList.vals (v := (.int .i64 y25)) rfl (HVal.move' rfl) ?_
      refine HList.vals (v := (.pointer (some (Addr.add ⟨H.size, 0, none⟩ 2)))) rfl (HVal.fieldAddr' Tryd.runUnderlying33 rfl rfl Tryd.sizeOf31 rfl) ?_
      obtain ⟨x29, c28, h⟩ := h
      refine HList.vals (v := (Sl.v x29)) rfl (HVal.load1 Tryd.isAgg31 rfl c28) ?_
      refine HList.vals (v := (.int .i64 ((x29).n : Int))) rfl (HVal.len Tryd.runUnderlying31 rfl) ?_
      refine HList.vals (v := (.bool (decide (y25 < ((x29).n : Int))))) rfl (HVal.lss rfl rfl) ?_
      refine HList.nil ?_
      refine nt ?_
      obtain ⟨hT, hF⟩ := h
      refine HW.cond (decide (y25 < ((x29).n : Int))) rfl (fun hb30 => ?_) (fun hb30 => ?_)
      · have h := hT hb30
        clear hT hF
        refine HW.skip ?_
        refine nt ?_
        refine HW.seq ?_
        refine HW.block ?_
        refine HW.seq ?_
        refine HW.draw mixed [(0, some []), (1, some []), (2, some []), (3, some []), (4, some []), (5, some []), (6, some []), (7, some []), (8, some []), (9, some []), (10, some [])] rfl (by kernel_rfl) (by kernel_rfl) ?_
        refine HPlan.takev (v := (.pointer (some (Addr.add ⟨H.size, 0, none⟩ 2)))) rfl rfl (fun _ => HVal.fieldAddr' Tryd.runUnderlying33 rfl rfl Tryd.sizeOf31 rfl) ?_
        obtain ⟨x32, c31, h⟩ := h
        refine HPlan.takel (v := (Sl.v x32)) (fun X => cell X (Addr.add ⟨H.size, 0, none⟩ 2) = some (Sl.v x32)) rfl rfl (fun _ hX => HVal.load1 Tryd.isAgg31 rfl hX) c31 ?_
        refine HPlan.takev (v := (.int .i64 y25)) rfl rfl (fun _ => HVal.move' rfl) ?_
        obtain ⟨a33, e34, b35, b36, h⟩ := h
        refine HPlan.takev (v := (.pointer (some (Addr.add a33 (y25.toNat * 4))))) rfl rfl (fun _ => HVal.indexAddr Tryd.runUnderlying31 Tryd.sizeOf76 (Sl.v_some rfl e34) rfl b35 b36) ?_
        obtain ⟨x38, x39, x40, x41, c37, h⟩ := h
        refine HPlan.takel (v := (.agg #[(.int .i64 x38), (.int .i64 x39), (.string x40), (.bool x41)])) (fun X => cells X (Addr.add a33 (y25.toNat * 4)) [(.int .i64 x38), (.int .i64 x39), (.string x40), (.bool x41)] 0) rfl rfl (fun _ hX => HVal.loadN [(.int .i64 x38), (.int .i64 x39), (.string x40), (.bool x41)] Tryd.isAgg76 Tryd.sizeOf76 rfl hX) c37 ?_
        refine HPlan.takev (v := (.pointer (some (Addr.add ⟨H1.size, 0, none⟩ 2)))) rfl rfl (fun _ => HVal.fieldAddr' Tryd.runUnderlying33 rfl rfl Tryd.sizeOf31 rfl) ?_
        obtain ⟨x43, c42, h⟩ := h
        refine HPlan.takel (v := (Sl.v x43)) (fun X => cell X (Addr.add ⟨H1.size, 0, none⟩ 2) = some (Sl.v x43)) rfl rfl (fun _ hX => HVal.load1 Tryd.isAgg31 rfl hX) c42 ?_
        refine HPlan.takev (v := (.int .i64 y25)) rfl rfl (fun _ => HVal.move' rfl) ?_
        obtain ⟨a44, e45, b46, b47, h⟩ := h
        refine HPlan.takev (v := (.pointer (some (Addr.add a44 (y25.toNat * 4))))) rfl rfl (fun _ => HVal.indexAddr Tryd.runUnderlying31 Tryd.sizeOf76 (Sl.v_some rfl e45) rfl b46 b47) ?_
        obtain ⟨x49, x50, x51, x52, c48, h⟩ := h
        refine HPlan.takel (v := (.agg #[(.int .i64 x49), (.int .i64 x50), (.string x51), (.bool x52)])) (fun X => cells X (Addr.add a44 (y25.toNat * 4)) [(.int .i64 x49), (.int .i64 x50), (.string x51), (.bool x52)] 0) rfl rfl (fun _ hX => HVal.loadN [(.int .i64 x49), (.int .i64 x50), (.string x51), (.bool x52)] Tryd.isAgg76 Tryd.sizeOf76 rfl hX) c48 ?_
        refine HPlan.takev (v := (.bool (!(decide (x38 = x49) && (decide (x39 = x50) && (seq x40 x51 && (x41 == x52))))))) rfl rfl (fun _ => eqs76_neq rfl rfl) ?_
        refine HPlan.done ?_
        refine nt ?_
        obtain ⟨hT, hF⟩ := h
        refine HW.cond (!(decide (x38 = x49) && (decide (x39 = x50) && (seq x40 x51 && (x41 == x52))))) rfl (fun hb53 => ?_) (fun hb53 => ?_)
        · have h := hT hb53
          clear hT hF
          refine HW.seq ?_
          refine HW.region ?_
          refine HList.vals (v := (.bool false)) rfl (HVal.assign' rfl) ?_
          refine HList.nil ?_
          refine nt ?_
          refine HW.ret ?_
          refine br ?_
          refine tr ?_
          refine tr ?_
          refine br ?_
          refine tr ?_
          exact ⟨_, resOf1 rfl Res1.t, ⟨false, rfl, h⟩⟩
        · have h := hF hb53
          clear hT hF
          refine HW.skip ?_
          refine nb ?_
          refine nt ?_
          refine HW.region ?_
          refine HList.vals (v := (.int .i64 y25)) rfl (HVal.move' rfl) ?_
          refine HList.vals (v := (.int .i64 (IntKind.i64.wrap (y25 + 1)))) rfl (HVal.add rfl rfl) ?_
          refine HList.vals (v := (.int .i64 (IntKind.i64.wrap (y25 + 1)))) rfl (HVal.assign' rfl) ?_
          refine HList.nil ?_
          refine nt ?_
          exact (hX2 _ _).1 h _ ⟨rfl, rfl, rfl, trivial⟩
      · have h := hF hb30
        clear hT hF
        refine HW.exit ?_
        refine te ?_
        refine te ?_
        refine be ?_
        refine nt ?_
        refine HW.seq ?_
        refine HW.region ?_
        refine HList.vals (v := (.bool true)) rfl (HVal.assign' rfl) ?_
        refine HList.nil ?_
        refine nt ?_
        refine HW.ret ?_
        exact ⟨_, resOf1 rfl Res1.t, ⟨true, rfl, h⟩⟩

def F18_L1b (Q : Bool → Hp → Prop) (X1 : Int → Hp → Prop) (y3 : Sl) (y4 : Sl) (y2 : Int) (H_1 : Hp) : Prop :=
((decide (y2 < ((y3).n : Int))) = true → (∃ a6 : Addr, (y3).b = some a6 ∧ (0 : Int) ≤ y2 ∧ y2 < ((y3).n : Int) ∧ (
 ∃ (x11 : ByteArray) (x12 : Int) (x13 : Sl), cells H_1 (Addr.add a6 (y2.toNat * 3)) [(.string x11), (.int .i64 x12), (Sl.v x13)] 0 ∧ (
 ∃ a14 : Addr, (y4).b = some a14 ∧ (0 : Int) ≤ y2 ∧ y2 < ((y4).n : Int) ∧ (
 ∃ (x19 : ByteArray) (x20 : Int) (x21 : Sl), cells H_1 (Addr.add a14 (y2.toNat * 3)) [(.string x19), (.int .i64 x20), (Sl.v x21)] 0 ∧ (
 F29 x11 x12 x13 x19 x20 x21 H_1 (fun (r24 : Bool) (H22 : Hp) => 
 ((!r24) = true → (Q false H22)) ∧
 ((!r24) = false → (X1 (IntKind.i64.wrap (y2 + 1)) H22))))))))) ∧
 ((decide (y2 < ((y3).n : Int))) = false → (Q true H_1))
def F18_L1 (Q : Bool → Hp → Prop) (y3 : Sl) (y4 : Sl) (y2 : Int) (H_1 : Hp) : Prop :=
  ∀ X1 : Int → Hp → Prop, (∀ (y2 : Int) (H_1 : Hp), F18_L1b Q X1 y3 y4 y2 H_1 → X1 y2 H_1) → X1 y2 H_1
def F18 (p0 : Sl) (p1 : Sl) (H : Hp) (Q : Bool → Hp → Prop) : Prop :=
((decide (((p0).n : Int) ≠ ((p1).n : Int))) = true → (Q false H)) ∧
 ((decide (((p0).n : Int) ≠ ((p1).n : Int))) = false → (F18_L1 Q p0 p1 0 H))
set_option maxRecDepth 100000 in
set_option maxHeartbeats 4000000 in
theorem walk18 {w0 : World} {p0 : Sl} {p1 : Sl} {H : Hp} {Q : Bool → Hp → Prop} (h : F18 p0 p1 H Q) :
    Good Tryd.prog w0 18 #[(Sl.v p0), (Sl.v p1)] H (fun v H => ∃ (r0 : Bool) , v = (.bool r0) ∧ Q r0 H) := by
  unfold F18 at h
  refine Good.enter' (fn := Tryd.f18) Tryd.func18 rfl rfl rfl ?_
  refine HW.seq ?_
  refine HW.region ?_
  refine HList.vals (v := (.bool false)) rfl (HVal.assign' rfl) ?_
  refine HList.nil ?_
  refine nt ?_
  refine HW.seq ?_
  refine HW.seq ?_
  refine HW.region ?_
  refine HList.vals (v := (Sl.v p0)) rfl (HVal.move' rfl) ?_
  refine HList.vals (v := (.int .i64 ((p0).n : Int))) rfl (HVal.len Tryd.runUnderlying28 rfl) ?_
  refine HList.vals (v := (Sl.v p1)) rfl (HVal.move' rfl) ?_
  refine HList.vals (v := (.int .i64 ((p1).n : Int))) rfl (HVal.len Tryd.runUnderlying28 rfl) ?_
  refine HList.vals (v := (.bool (decide (((p0).n : Int) ≠ ((p1).n : Int))))) rfl (HVal.neqI rfl rfl) ?_
  refine HList.nil ?_
  refine nt ?_
  obtain ⟨hT, hF⟩ := h
  refine HW.cond (decide (((p0).n : Int) ≠ ((p1).n : Int))) rfl (fun hb1 => ?_) (fun hb1 => ?_)
  · have h := hT hb1
    clear hT hF
    refine HW.seq ?_
    refine HW.region ?_
    refine HList.vals (v := (.bool false)) rfl (HVal.assign' rfl) ?_
    refine HList.nil ?_
    refine nt ?_
    refine HW.ret ?_
    refine tr ?_
    exact ⟨_, resOf1 rfl Res1.t, ⟨false, rfl, h⟩⟩
  · have h := hF hb1
    clear hT hF
    refine HW.skip ?_
    refine nt ?_
    refine HW.seq ?_
    refine HW.seq ?_
    refine HW.region ?_
    refine HList.vals (v := (.int .i64 0)) rfl (HVal.assign' rfl) ?_
    refine HList.nil ?_
    refine nt ?_
    refine HW.block ?_
    refine HW.loop' (fun L1 hL1 => ?_)
    obtain ⟨X1, hX1⟩ : ∃ X1 : Int → Hp → Prop, ∀ (y2 : Int) (H_1 : Hp), X1 y2 H_1 ↔ ∀ ρ, Env.Is ρ [(0, (Sl.v p0)), (1, (Sl.v p1)), (5, (.int .i64 y2))] → L1 ρ H_1 := ⟨_, fun _ _ => Iff.rfl⟩
    refine (hX1 _ _).1 (h X1 ?_) _ ?_
    rotate_left
    · exact ⟨rfl, rfl, rfl, trivial⟩
    clear h
    intro y2 H_1 h
    refine (hX1 _ _).2 fun ρ hI => ?_
    obtain ⟨ρ0, rfl⟩ : ∃ ρ0, ρ = (Env.set (Env.set (Env.set ρ0 5 (.int .i64 y2)) 1 (Sl.v p1)) 0 (Sl.v p0)) := ⟨ρ, hI.eq⟩
    clear hI; unfold F18_L1b at h; refine hL1 _ _ ?_
    refine HW.seq ?_
    refine HW.seq ?_
    refine HW.region ?_
    refine HList.vals (v := (.int .i64 y2)) rfl (HVal.move' rfl) ?_
    refine HList.vals (v := (Sl.v p0)) rfl (HVal.move' rfl) ?_
    refine HList.vals (v := (.int .i64 ((p0).n : Int))) rfl (HVal.len Tryd.runUnderlying28 rfl) ?_
    refine HList.vals (v := (.bool (decide (y2 < ((p0).n : Int))))) rfl (HVal.lss rfl rfl) ?_
    refine HList.nil ?_
    refine nt ?_
    obtain ⟨hT, hF⟩ := h
    refine HW.cond (decide (y2 < ((p0).n : Int))) rfl (fun hb5 => ?_) (fun hb5 => ?_)
    · have h := hT hb5
      clear hT hF
      refine HW.skip ?_
      refine nt ?_
      refine HW.seq ?_
      refine HW.block ?_
      refine HW.seq ?_
      refine HW.draw mixed [(0, some []), (1, some []), (2, some []), (3, some [8]), (4, some []), (5, some []), (6, some []), (7, some [8]), (8, none), (9, some [])] rfl (by kernel_rfl) (by kernel_rfl) ?_
      refine HPlan.takev (v := (Sl.v p0)) rfl rfl (fun _ => HVal.move' rfl) ?_
      refine HPlan.takev (v := (.int .i64 y2)) rfl rfl (fun _ => HVal.move' rfl) ?_
      obtain ⟨a6, e7, b8, b9, h⟩ := h
      refine HPlan.takev (v := (.pointer (some (Addr.add a6 (y2.toNat * 3))))) rfl rfl (fun _ => HVal.indexAddr Tryd.runUnderlying28 Tryd.sizeOf33 (Sl.v_some rfl e7) rfl b8 b9) ?_
      obtain ⟨x11, x12, x13, c10, h⟩ := h
      refine HPlan.takel (v := (.agg #[(.string x11), (.int .i64 x12), (Sl.v x13)])) (fun X => cells X (Addr.add a6 (y2.toNat * 3)) [(.string x11), (.int .i64 x12), (Sl.v x13)] 0) rfl rfl (fun _ hX => HVal.loadN [(.string x11), (.int .i64 x12), (Sl.v x13)] Tryd.isAgg33 Tryd.sizeOf33 rfl hX) c10 ?_
      refine HPlan.takev (v := (Sl.v p1)) rfl rfl (fun _ => HVal.move' rfl) ?_
      refine HPlan.takev (v := (.int .i64 y2)) rfl rfl (fun _ => HVal.move' rfl) ?_
      obtain ⟨a14, e15, b16, b17, h⟩ := h
      refine HPlan.takev (v := (.pointer (some (Addr.add a14 (y2.toNat * 3))))) rfl rfl (fun _ => HVal.indexAddr Tryd.runUnderlying28 Tryd.sizeOf33 (Sl.v_some rfl e15) rfl b16 b17) ?_
      obtain ⟨x19, x20, x21, c18, h⟩ := h
      refine HPlan.takel (v := (.agg #[(.string x19), (.int .i64 x20), (Sl.v x21)])) (fun X => cells X (Addr.add a14 (y2.toNat * 3)) [(.string x19), (.int .i64 x20), (Sl.v x21)] 0) rfl rfl (fun _ hX => HVal.loadN [(.string x19), (.int .i64 x20), (Sl.v x21)] Tryd.isAgg33 Tryd.sizeOf33 rfl hX) c18 ?_
      refine HPlan.ops' rfl rfl (HOp.call' 29 [(.agg #[(.string x11), (.int .i64 x12), (Sl.v x13)]), (.agg #[(.string x19), (.int .i64 x20), (Sl.v x21)])] (cap := []) rfl rfl Tryd.call29 (walk29 h)) ?_
      rintro _ H22 ⟨r24, rfl, h⟩
      refine ⟨SC_of ⟨fun e => absurd e (by decide), fun e => absurd e (by decide), trivial⟩, ?_⟩
      refine HPlan.takev (v := (.bool (!r24))) rfl rfl (fun _ => HVal.not rfl) ?_
      refine HPlan.done ?_
      refine nt ?_
      obtain ⟨hT, hF⟩ := h
      refine HW.cond (!r24) rfl (fun hb25 => ?_) (fun hb25 => ?_)
      · have h := hT hb25
        clear hT hF
        refine HW.seq ?_
        refine HW.region ?_
        refine HList.vals (v := (.bool false)) rfl (HVal.assign' rfl) ?_
        refine HList.nil ?_
        refine nt ?_
        refine HW.ret ?_
        refine br ?_
        refine tr ?_
        refine tr ?_
        refine br ?_
        refine tr ?_
        exact ⟨_, resOf1 rfl Res1.t, ⟨false, rfl, h⟩⟩
      · have h := hF hb25
        clear hT hF
        refine HW.skip ?_
        refine nb ?_
        refine nt ?_
        refine HW.region ?_
        refine HList.vals (v := (.int .i64 y2)) rfl (HVal.move' rfl) ?_
        refine HList.vals (v := (.int .i64 (IntKind.i64.wrap (y2 + 1)))) rfl (HVal.add rfl rfl) ?_
        refine HList.vals (v := (.int .i64 (IntKind.i64.wrap (y2 + 1)))) rfl (HVal.assign' rfl) ?_
        refine HList.nil ?_
        refine nt ?_
        exact (hX1 _ _).1 h _ ⟨rfl, rfl, rfl, trivial⟩
    · have h := hF hb5
      clear hT hF
      refine HW.exit ?_
      refine te ?_
      refine te ?_
      refine be ?_
      refine nt ?_
      refine HW.seq ?_
      refine HW.region ?_
      refine HList.vals (v := (.bool true)) rfl (HVal.assign' rfl) ?_
      refine HList.nil ?_
      refine nt ?_
      refine HW.ret ?_
      exact ⟨_, resOf1 rfl Res1.t, ⟨true, rfl, h⟩⟩

def F5_1 (Q : Bool → Hp → Prop) (y5 : (Option Addr)) (y8 : Bool) (H_1 : Hp) : Prop :=
(y8 = true → (Q false H_1)) ∧
 (y8 = false → (F8 S_a 5 H_1 (fun (r12 : ByteArray) (r13 : Int) (r14 : Sl) (H10 : Hp) => 
 F7 y5 r12 r13 r14 H10 (fun (r17 : Sl) (r18 : Int) (H15 : Hp) => 
 F8 S_b 12 H15 (fun (r21 : ByteArray) (r22 : Int) (r23 : Sl) (H19 : Hp) => 
 F7 y5 r21 r22 r23 H19 (fun (r26 : Sl) (r27 : Int) (H24 : Hp) => 
 F8 S_c 3 H24 (fun (r30 : ByteArray) (r31 : Int) (r32 : Sl) (H28 : Hp) => 
 F7 y5 r30 r31 r32 H28 (fun (r35 : Sl) (r36 : Int) (H33 : Hp) => 
 F8 S_d 1 H33 (fun (r39 : ByteArray) (r40 : Int) (r41 : Sl) (H37 : Hp) => 
 F7 y5 r39 r40 r41 H37 (fun (r44 : Sl) (r45 : Int) (H42 : Hp) => 
 F8 S_e 13 H42 (fun (r48 : ByteArray) (r49 : Int) (r50 : Sl) (H46 : Hp) => 
 F7 y5 r48 r49 r50 H46 (fun (r53 : Sl) (r54 : Int) (H51 : Hp) => 
 ((decide (r18 = 0)) = true → (((decide (r27 = 0)) = true → (((decide (r36 = 0)) = true → (((decide (r45 = 180)) = true → (((decide (r54 = 0)) = true → (((decide ((IntKind.i64.wrap ((IntKind.i64.wrap (((r17).n : Int) + ((r26).n : Int))) + ((r35).n : Int))) = 0)) = true → (F8 S_c 3 H51 (fun (r69 : ByteArray) (r70 : Int) (r71 : Sl) (H67 : Hp) => 
 ∀ H72 : Hp, H72 = Array.push H67 (.cells #[(.string r69), (.int .i64 r70), (Sl.v r71)] 33) → (
 F18 r53 (Sl.mk (some ⟨H67.size, 0, none⟩) 1 1) H72 (fun (r76 : Bool) (H74 : Hp) => 
 (r76 = true → (F16 y5 H74 (fun (r81 : Int) (H79 : Hp) => 
 ((decide (r81 = 3)) = true → (F11 y5 H79 (fun (r86 : Sl) (H84 : Hp) => 
 F8 S_a 5 H84 (fun (r89 : ByteArray) (r90 : Int) (r91 : Sl) (H87 : Hp) => 
 F8 S_b 12 H87 (fun (r94 : ByteArray) (r95 : Int) (r96 : Sl) (H92 : Hp) => 
 F8 S_e 13 H92 (fun (r99 : ByteArray) (r100 : Int) (r101 : Sl) (H97 : Hp) => 
 ∀ H102 : Hp, H102 = Array.push H97 (.cells #[(.string r89), (.int .i64 r90), (Sl.v r91), (.string r94), (.int .i64 r95), (Sl.v r96), (.string r99), (.int .i64 r100), (Sl.v r101)] 33) → (
 F18 r86 (Sl.mk (some ⟨H97.size, 0, none⟩) 3 3) H102 (fun (r106 : Bool) (H104 : Hp) => 
 Q r106 H104)))))))) ∧
 ((decide (r81 = 3)) = false → (Q false H79))))) ∧
 (r76 = false → (Q false H74))))))) ∧
 ((decide ((IntKind.i64.wrap ((IntKind.i64.wrap (((r17).n : Int) + ((r26).n : Int))) + ((r35).n : Int))) = 0)) = false → (Q false H51)))) ∧
 ((decide (r54 = 0)) = false → (Q false H51)))) ∧
 ((decide (r45 = 180)) = false → (Q false H51)))) ∧
 ((decide (r36 = 0)) = false → (Q false H51)))) ∧
 ((decide (r27 = 0)) = false → (Q false H51)))) ∧
 ((decide (r18 = 0)) = false → (Q false H51))))))))))))))
def F5 (H : Hp) (Q : Bool → Hp → Prop) : Prop :=
F6 10 3 H (fun (r3 : (Option Addr)) (r4 : Int) (H1 : Hp) => 
 ((r3.isNone) = true → (F5_1 Q r3 true H1)) ∧
 ((r3.isNone) = false → (F5_1 Q r3 (decide (r4 ≠ 0)) H1)))
set_option maxRecDepth 100000 in
set_option maxHeartbeats 4000000 in
theorem walk5 {w0 : World} {H : Hp} {Q : Bool → Hp → Prop} (h : F5 H Q) :
    Good Tryd.prog w0 5 #[] H (fun v H => ∃ (r0 : Bool) , v = (.bool r0) ∧ Q r0 H) := by
  unfold F5 at h
  refine Good.enter' (fn := Tryd.f5) Tryd.func5 rfl rfl rfl ?_
  refine HW.seq ?_
  refine HW.region ?_
  refine HList.vals (v := (.bool false)) rfl (HVal.assign' rfl) ?_
  refine HList.nil ?_
  refine nt ?_
  refine HW.seq ?_
  refine HW.region ?_
  refine HList.ops' rfl (HOp.call' 6 [(.int .i64 10), (.int .i64 3)] (cap := []) rfl rfl Tryd.call6 (walk6 h)) ?_
  rintro _ H1 ⟨r3, r4, rfl, h⟩
  refine HList.vals (v := (.tuple #[(.pointer r3), (.int .i64 r4)])) rfl (HVal.move' rfl) ?_
  refine HList.vals (v := (.pointer r3)) rfl (HVal.extract rfl rfl) ?_
  refine HList.vals (v := (.int .i64 r4)) rfl (HVal.extract rfl rfl) ?_
  refine HList.vals (v := (.pointer r3)) rfl (HVal.assign' rfl) ?_
  refine HList.vals (v := (.int .i64 r4)) rfl (HVal.assign' rfl) ?_
  refine HList.nil ?_
  refine nt ?_
  refine HW.seq ?_
  refine HW.cut (fun ρ H_1 => ∃ (y8 : Bool), Env.Is ρ [(1, (.pointer r3)), (21, (.bool y8))] ∧ F5_1 Q r3 y8 H_1) ?_ ?_
  · refine HW.region ?_
    refine HList.vals (v := (.pointer r3)) rfl (HVal.move' rfl) ?_
    refine HList.vals (v := (.bool (r3.isNone))) rfl (HVal.eqlPN Tryd.underlying24 rfl rfl) ?_
    refine HList.vals (v := (.bool (r3.isNone))) rfl (HVal.move' rfl) ?_
    obtain ⟨hT, hF⟩ := h
    rcases Bool.eq_false_or_eq_true (r3.isNone) with hb6 | hb7
    · have h := hT hb6
      clear hT hF
      refine HList.gskips rfl rfl rfl rfl (congrArg Value.bool hb6) ?_
      refine HList.gskips rfl rfl rfl rfl (congrArg Value.bool hb6) ?_
      refine HList.vals (v := (.bool true)) rfl (HVal.pickT rfl hb6 rfl) ?_
      refine HList.nil ?_
      refine nt ?_
      exact ⟨true, ⟨rfl, rfl, trivial⟩, h⟩
    · have h := hF hb7
      clear hT hF
      refine HList.gvals (v := (.int .i64 r4)) rfl rfl rfl rfl (congrArg Value.bool hb7) (HVal.move' rfl) ?_
      refine HList.gvals (v := (.bool (decide (r4 ≠ 0)))) rfl rfl rfl rfl (congrArg Value.bool hb7) (HVal.neqI rfl rfl) ?_
      refine HList.vals (v := (.bool (decide (r4 ≠ 0)))) rfl (HVal.pickF rfl hb7 rfl) ?_
      refine HList.nil ?_
      refine nt ?_
      exact ⟨(decide (r4 ≠ 0)), ⟨rfl, rfl, trivial⟩, h⟩
  · rintro ρ H_1 ⟨y8, hI, h⟩
    obtain ⟨ρ0, rfl⟩ : ∃ ρ0, ρ = (Env.set (Env.set ρ0 21 (.bool y8)) 1 (.pointer r3)) := ⟨ρ, hI.eq⟩
    clear hI; unfold F5_1 at h
    obtain ⟨hT, hF⟩ := h
    refine HW.cond y8 rfl (fun hb9 => ?_) (fun hb9 => ?_)
    · have h := hT hb9
      clear hT hF
      refine HW.seq ?_
      refine HW.region ?_
      refine HList.vals (v := (.bool false)) rfl (HVal.assign' rfl) ?_
      refine HList.nil ?_
      refine nt ?_
      refine HW.ret ?_
      refine tr ?_
      exact ⟨_, resOf1 rfl Res1.t, ⟨false, rfl, h⟩⟩
    · have h := hF hb9
      clear hT hF
      refine HW.skip ?_
      refine nt ?_
      refine HW.seq ?_
      refine HW.region ?_
      refine HList.vals (v := (.pointer r3)) rfl (HVal.move' rfl) ?_
      refine HList.ops' rfl (HOp.call' 8 [(.string S_a), (.int .i64 5)] (cap := []) rfl rfl Tryd.call8 (walk8 h)) ?_
      rintro _ H10 ⟨r12, r13, r14, rfl, h⟩
      refine HList.ops' rfl (HOp.call' 7 [(.pointer r3), (.agg #[(.string r12), (.int .i64 r13), (Sl.v r14)])] (cap := []) rfl rfl Tryd.call7 (walk7 h)) ?_
      rintro _ H15 ⟨r17, r18, rfl, h⟩
      refine HList.vals (v := (.tuple #[(Sl.v r17), (.int .i64 r18)])) rfl (HVal.move' rfl) ?_
      refine HList.vals (v := (Sl.v r17)) rfl (HVal.extract rfl rfl) ?_
      refine HList.vals (v := (.int .i64 r18)) rfl (HVal.extract rfl rfl) ?_
      refine HList.vals (v := (Sl.v r17)) rfl (HVal.assign' rfl) ?_
      refine HList.vals (v := (.int .i64 r18)) rfl (HVal.assign' rfl) ?_
      refine HList.nil ?_
      refine nt ?_
      refine HW.seq ?_
      refine HW.region ?_
      refine HList.vals (v := (.pointer r3)) rfl (HVal.move' rfl) ?_
      refine HList.ops' rfl (HOp.call' 8 [(.string S_b), (.int .i64 12)] (cap := []) rfl rfl Tryd.call8 (walk8 h)) ?_
      rintro _ H19 ⟨r21, r22, r23, rfl, h⟩
      refine HList.ops' rfl (HOp.call' 7 [(.pointer r3), (.agg #[(.string r21), (.int .i64 r22), (Sl.v r23)])] (cap := []) rfl rfl Tryd.call7 (walk7 h)) ?_
      rintro _ H24 ⟨r26, r27, rfl, h⟩
      refine HList.vals (v := (.tuple #[(Sl.v r26), (.int .i64 r27)])) rfl (HVal.move' rfl) ?_
      refine HList.vals (v := (Sl.v r26)) rfl (HVal.extract rfl rfl) ?_
      refine HList.vals (v := (.int .i64 r27)) rfl (HVal.extract rfl rfl) ?_
      refine HList.vals (v := (Sl.v r26)) rfl (HVal.assign' rfl) ?_
      refine HList.vals (v := (.int .i64 r27)) rfl (HVal.assign' rfl) ?_
      refine HList.nil ?_
      refine nt ?_
      refine HW.seq ?_
      refine HW.region ?_
      refine HList.vals (v := (.pointer r3)) rfl (HVal.move' rfl) ?_
      refine HList.ops' rfl (HOp.call' 8 [(.string S_c), (.int .i64 3)] (cap := []) rfl rfl Tryd.call8 (walk8 h)) ?_
      rintro _ H28 ⟨r30, r31, r32, rfl, h⟩
      refine HList.ops' rfl (HOp.call' 7 [(.pointer r3), (.agg #[(.string r30), (.int .i64 r31), (Sl.v r32)])] (cap := []) rfl rfl Tryd.call7 (walk7 h)) ?_
      rintro _ H33 ⟨r35, r36, rfl, h⟩
      refine HList.vals (v := (.tuple #[(Sl.v r35), (.int .i64 r36)])) rfl (HVal.move' rfl) ?_
      refine HList.vals (v := (Sl.v r35)) rfl (HVal.extract rfl rfl) ?_
      refine HList.vals (v := (.int .i64 r36)) rfl (HVal.extract rfl rfl) ?_
      refine HList.vals (v := (Sl.v r35)) rfl (HVal.assign' rfl) ?_
      refine HList.vals (v := (.int .i64 r36)) rfl (HVal.assign' rfl) ?_
      refine HList.nil ?_
      refine nt ?_
      refine HW.seq ?_
      refine HW.region ?_
      refine HList.vals (v := (.pointer r3)) rfl (HVal.move' rfl) ?_
      refine HList.ops' rfl (HOp.call' 8 [(.string S_d), (.int .i64 1)] (cap := []) rfl rfl Tryd.call8 (walk8 h)) ?_
      rintro _ H37 ⟨r39, r40, r41, rfl, h⟩
      refine HList.ops' rfl (HOp.call' 7 [(.pointer r3), (.agg #[(.string r39), (.int .i64 r40), (Sl.v r41)])] (cap := []) rfl rfl Tryd.call7 (walk7 h)) ?_
      rintro _ H42 ⟨r44, r45, rfl, h⟩
      refine HList.vals (v := (.tuple #[(Sl.v r44), (.int .i64 r45)])) rfl (HVal.move' rfl) ?_
      refine HList.vals (v := (Sl.v r44)) rfl (HVal.extract rfl rfl) ?_
      refine HList.vals (v := (.int .i64 r45)) rfl (HVal.extract rfl rfl) ?_
      refine HList.vals (v := (Sl.v r44)) rfl (HVal.assign' rfl) ?_
      refine HList.vals (v := (.int .i64 r45)) rfl (HVal.assign' rfl) ?_
      refine HList.nil ?_
      refine nt ?_
      refine HW.seq ?_
      refine HW.region ?_
      refine HList.vals (v := (.pointer r3)) rfl (HVal.move' rfl) ?_
      refine HList.ops' rfl (HOp.call' 8 [(.string S_e), (.int .i64 13)] (cap := []) rfl rfl Tryd.call8 (walk8 h)) ?_
      rintro _ H46 ⟨r48, r49, r50, rfl, h⟩
      refine HList.ops' rfl (HOp.call' 7 [(.pointer r3), (.agg #[(.string r48), (.int .i64 r49), (Sl.v r50)])] (cap := []) rfl rfl Tryd.call7 (walk7 h)) ?_
      rintro _ H51 ⟨r53, r54, rfl, h⟩
      refine HList.vals (v := (.tuple #[(Sl.v r53), (.int .i64 r54)])) rfl (HVal.move' rfl) ?_
      refine HList.vals (v := (Sl.v r53)) rfl (HVal.extract rfl rfl) ?_
      refine HList.vals (v := (.int .i64 r54)) rfl (HVal.extract rfl rfl) ?_
      refine HList.vals (v := (Sl.v r53)) rfl (HVal.assign' rfl) ?_
      refine HList.vals (v := (.int .i64 r54)) rfl (HVal.assign' rfl) ?_
      refine HList.nil ?_
      refine nt ?_
      refine HW.seq ?_
      refine HW.region ?_
      refine HList.vals (v := (.int .i64 r18)) rfl (HVal.move' rfl) ?_
      refine HList.vals (v := (.bool (decide (r18 = 0)))) rfl (HVal.eqlI rfl rfl) ?_
      refine HList.vals (v := (.bool (decide (r18 = 0)))) rfl (HVal.move' rfl) ?_
      obtain ⟨hT, hF⟩ := h
      rcases Bool.eq_false_or_eq_true (decide (r18 = 0)) with hb55 | hb56
      · have h := hT hb55
        clear hT hF
        refine HList.gvals (v := (.int .i64 r27)) rfl rfl rfl rfl (congrArg Value.bool hb55) (HVal.move' rfl) ?_
        refine HList.gvals (v := (.bool (decide (r27 = 0)))) rfl rfl rfl rfl (congrArg Value.bool hb55) (HVal.eqlI rfl rfl) ?_
        refine HList.vals (v := (.bool (decide (r27 = 0)))) rfl (HVal.pickT rfl hb55 rfl) ?_
        refine HList.vals (v := (.bool (decide (r27 = 0)))) rfl (HVal.move' rfl) ?_
        obtain ⟨hT, hF⟩ := h
        rcases Bool.eq_false_or_eq_true (decide (r27 = 0)) with hb57 | hb58
        · have h := hT hb57
          clear hT hF
          refine HList.gvals (v := (.int .i64 r36)) rfl rfl rfl rfl (congrArg Value.bool hb57) (HVal.move' rfl) ?_
          refine HList.gvals (v := (.bool (decide (r36 = 0)))) rfl rfl rfl rfl (congrArg Value.bool hb57) (HVal.eqlI rfl rfl) ?_
          refine HList.vals (v := (.bool (decide (r36 = 0)))) rfl (HVal.pickT rfl hb57 rfl) ?_
          refine HList.vals (v := (.bool (decide (r36 = 0)))) rfl (HVal.move' rfl) ?_
          obtain ⟨hT, hF⟩ := h
          rcases Bool.eq_false_or_eq_true (decide (r36 = 0)) with hb59 | hb60
          · have h := hT hb59
            clear hT hF
            refine HList.gvals (v := (.int .i64 r45)) rfl rfl rfl rfl (congrArg Value.bool hb59) (HVal.move' rfl) ?_
            refine HList.gvals (v := (.bool (decide (r45 = 180)))) rfl rfl rfl rfl (congrArg Value.bool hb59) (HVal.eqlI rfl rfl) ?_
            refine HList.vals (v := (.bool (decide (r45 = 180)))) rfl (HVal.pickT rfl hb59 rfl) ?_
            refine HList.vals (v := (.bool (decide (r45 = 180)))) rfl (HVal.move' rfl) ?_
            obtain ⟨hT, hF⟩ := h
            rcases Bool.eq_false_or_eq_true (decide (r45 = 180)) with hb61 | hb62
            · have h := hT hb61
              clear hT hF
              refine HList.gvals (v := (.int .i64 r54)) rfl rfl rfl rfl (congrArg Value.bool hb61) (HVal.move' rfl) ?_
              refine HList.gvals (v := (.bool (decide (r54 = 0)))) rfl rfl rfl rfl (congrArg Value.bool hb61) (HVal.eqlI rfl rfl) ?_
              refine HList.vals (v := (.bool (decide (r54 = 0)))) rfl (HVal.pickT rfl hb61 rfl) ?_
              refine HList.vals (v := (.bool (decide (r54 = 0)))) rfl (HVal.move' rfl) ?_
              obtain ⟨hT, hF⟩ := h
              rcases Bool.eq_false_or_eq_true (decide (r54 = 0)) with hb63 | hb64
              · have h := hT hb63
                clear hT hF
                refine HList.gvals (v := (Sl.v r17)) rfl rfl rfl rfl (congrArg Value.bool hb63) (HVal.move' rfl) ?_
                refine HList.gvals (v := (.int .i64 ((r17).n : Int))) rfl rfl rfl rfl (congrArg Value.bool hb63) (HVal.len Tryd.runUnderlying28 rfl) ?_
                refine HList.gvals (v := (Sl.v r26)) rfl rfl rfl rfl (congrArg Value.bool hb63) (HVal.move' rfl) ?_
                refine HList.gvals (v := (.int .i64 ((r26).n : Int))) rfl rfl rfl rfl (congrArg Value.bool hb63) (HVal.len Tryd.runUnderlying28 rfl) ?_
                refine HList.gvals (v := (.int .i64 (IntKind.i64.wrap (((r17).n : Int) + ((r26).n : Int))))) rfl rfl rfl rfl (congrArg Value.bool hb63) (HVal.add rfl rfl) ?_
                refine HList.gvals (v := (Sl.v r35)) rfl rfl rfl rfl (congrArg Value.bool hb63) (HVal.move' rfl) ?_
                refine HList.gvals (v := (.int .i64 ((r35).n : Int))) rfl rfl rfl rfl (congrArg Value.bool hb63) (HVal.len Tryd.runUnderlying28 rfl) ?_
                refine HList.gvals (v := (.int .i64 (IntKind.i64.wrap ((IntKind.i64.wrap (((r17).n : Int) + ((r26).n : Int))) + ((r35).n : Int))))) rfl rfl rfl rfl (congrArg Value.bool hb63) (HVal.add rfl rfl) ?_
                refine HList.gvals (v := (.bool (decide ((IntKind.i64.wrap ((IntKind.i64.wrap (((r17).n : Int) + ((r26).n : Int))) + ((r35).n : Int))) = 0)))) rfl rfl rfl rfl (congrArg Value.bool hb63) (HVal.eqlI rfl rfl) ?_
                refine HList.vals (v := (.bool (decide ((IntKind.i64.wrap ((IntKind.i64.wrap (((r17).n : Int) + ((r26).n : Int))) + ((r35).n : Int))) = 0)))) rfl (HVal.pickT rfl hb63 rfl) ?_
                refine HList.vals (v := (.bool (decide ((IntKind.i64.wrap ((IntKind.i64.wrap (((r17).n : Int) + ((r26).n : Int))) + ((r35).n : Int))) = 0)))) rfl (HVal.move' rfl) ?_
                obtain ⟨hT, hF⟩ := h
                rcases Bool.eq_false_or_eq_true (decide ((IntKind.i64.wrap ((IntKind.i64.wrap (((r17).n : Int) + ((r26).n : Int))) + ((r35).n : Int))) = 0)) with hb65 | hb66
                · have h := hT hb65
                  clear hT hF
                  refine HList.gvals (v := (Sl.v r53)) rfl rfl rfl rfl (congrArg Value.bool hb65) (HVal.move' rfl) ?_
                  refine HList.gops rfl rfl rfl rfl (congrArg Value.bool hb65) (HOp.call' 8 [(.string S_c), (.int .i64 3)] (cap := []) rfl rfl Tryd.call8 (walk8 h)) ?_
                  rintro _ H67 ⟨r69, r70, r71, rfl, h⟩
                  refine HList.gops rfl rfl rfl rfl (congrArg Value.bool hb65) (HOp.buildSlice' (zs := [(.string (ByteArray.mk #[])), (.int .i64 0), (Sl.v Sl.nil)]) (cs := [(.string r69), (.int .i64 r70), (Sl.v r71)]) Tryd.runUnderlying28 Tryd.sizeOf33 Tryd.zeroValue33 (by decide) (by kernel_rfl) rfl (by decide)) ?_
                  rintro _ H72 ⟨rfl, e73⟩
                  replace h := h H72 e73
                  refine HList.gops rfl rfl rfl rfl (congrArg Value.bool hb65) (HOp.call' 18 [(Sl.v r53), (Sl.v (Sl.mk (some ⟨H67.size, 0, none⟩) 1 1))] (cap := []) rfl rfl Tryd.call18 (walk18 h)) ?_
                  rintro _ H74 ⟨r76, rfl, h⟩
                  refine HList.vals (v := (.bool r76)) rfl (HVal.pickT rfl hb65 rfl) ?_
                  refine HList.vals (v := (.bool r76)) rfl (HVal.move' rfl) ?_
                  obtain ⟨hT, hF⟩ := h
                  rcases Bool.eq_false_or_eq_true r76 with hb77 | hb78
                  · have h := hT hb77
                    clear hT hF
                    refine HList.gvals (v := (.pointer r3)) rfl rfl rfl rfl (congrArg Value.bool hb77) (HVal.move' rfl) ?_
                    refine HList.gops rfl rfl rfl rfl (congrArg Value.bool hb77) (HOp.call' 16 [(.pointer r3)] (cap := []) rfl rfl Tryd.call16 (walk16 h)) ?_
                    rintro _ H79 ⟨r81, rfl, h⟩
                    refine HList.gvals (v := (.bool (decide (r81 = 3)))) rfl rfl rfl rfl (congrArg Value.bool hb77) (HVal.eqlI rfl rfl) ?_
                    refine HList.vals (v := (.bool (decide (r81 = 3)))) rfl (HVal.pickT rfl hb77 rfl) ?_
                    refine HList.vals (v := (.bool (decide (r81 = 3)))) rfl (HVal.move' rfl) ?_
                    obtain ⟨hT, hF⟩ := h
                    rcases Bool.eq_false_or_eq_true (decide (r81 = 3)) with hb82 | hb83
                    · have h := hT hb82
                      clear hT hF
                      refine HList.gvals (v := (.pointer r3)) rfl rfl rfl rfl (congrArg Value.bool hb82) (HVal.move' rfl) ?_
                      refine HList.gops rfl rfl rfl rfl (congrArg Value.bool hb82) (HOp.call' 11 [(.pointer r3)] (cap := []) rfl rfl Tryd.call11 (walk11 h)) ?_
                      rintro _ H84 ⟨r86, rfl, h⟩
                      refine HList.gops rfl rfl rfl rfl (congrArg Value.bool hb82) (HOp.call' 8 [(.string S_a), (.int .i64 5)] (cap := []) rfl rfl Tryd.call8 (walk8 h)) ?_
                      rintro _ H87 ⟨r89, r90, r91, rfl, h⟩
                      refine HList.gops rfl rfl rfl rfl (congrArg Value.bool hb82) (HOp.call' 8 [(.string S_b), (.int .i64 12)] (cap := []) rfl rfl Tryd.call8 (walk8 h)) ?_
                      rintro _ H92 ⟨r94, r95, r96, rfl, h⟩
                      refine HList.gops rfl rfl rfl rfl (congrArg Value.bool hb82) (HOp.call' 8 [(.string S_e), (.int .i64 13)] (cap := []) rfl rfl Tryd.call8 (walk8 h)) ?_
                      rintro _ H97 ⟨r99, r100, r101, rfl, h⟩
                      refine HList.gops rfl rfl rfl rfl (congrArg Value.bool hb82) (HOp.buildSlice' (zs := [(.string (ByteArray.mk #[])), (.int .i64 0), (Sl.v Sl.nil), (.string (ByteArray.mk #[])), (.int .i64 0), (Sl.v Sl.nil), (.string (ByteArray.mk #[])), (.int .i64 0), (Sl.v Sl.nil)]) (cs := [(.string r89), (.int .i64 r90), (Sl.v r91), (.string r94), (.int .i64 r95), (Sl.v r96), (.string r99), (.int .i64 r100), (Sl.v r101)]) Tryd.runUnderlying28 Tryd.sizeOf33 Tryd.zeroValue33 (by decide) (by kernel_rfl) rfl (by decide)) ?_
                      rintro _ H102 ⟨rfl, e103⟩
                      replace h := h H102 e103
                      refine HList.gops rfl rfl rfl rfl (congrArg Value.bool hb82) (HOp.call' 18 [(Sl.v r86), (Sl.v (Sl.mk (some ⟨H97.size, 0, none⟩) 3 3))] (cap := []) rfl rfl Tryd.call18 (walk18 h)) ?_
                      rintro _ H104 ⟨r106, rfl, h⟩
                      refine HList.vals (v := (.bool r106)) rfl (HVal.pickT rfl hb82 rfl) ?_
                      refine HList.vals (v := (.bool r106)) rfl (HVal.assign' rfl) ?_
                      refine HList.nil ?_
                      refine nt ?_
                      refine HW.ret ?_
                      exact ⟨_, resOf1 rfl Res1.t, ⟨r106, rfl, h⟩⟩
                    · have h := hF hb83
                      clear hT hF
                      refine HList.gskips rfl rfl rfl rfl (congrArg Value.bool hb83) ?_
                      refine HList.gskips rfl rfl rfl rfl (congrArg Value.bool hb83) ?_
                      refine HList.gskips rfl rfl rfl rfl (congrArg Value.bool hb83) ?_
                      refine HList.gskips rfl rfl rfl rfl (congrArg Value.bool hb83) ?_
                      refine HList.gskips rfl rfl rfl rfl (congrArg Value.bool hb83) ?_
                      refine HList.gskips rfl rfl rfl rfl (congrArg Value.bool hb83) ?_
                      refine HList.gskips rfl rfl rfl rfl (congrArg Value.bool hb83) ?_
                      refine HList.vals (v := (.bool false)) rfl (HVal.pickF rfl hb83 rfl) ?_
                      refine HList.vals (v := (.bool false)) rfl (HVal.assign' rfl) ?_
                      refine HList.nil ?_
                      refine nt ?_
                      refine HW.ret ?_
                      exact ⟨_, resOf1 rfl Res1.t, ⟨false, rfl, h⟩⟩
                  · have h := hF hb78
                    clear hT hF
                    refine HList.gskips rfl rfl rfl rfl (congrArg Value.bool hb78) ?_
                    refine HList.gskips rfl rfl rfl rfl (congrArg Value.bool hb78) ?_
                    refine HList.gskips rfl rfl rfl rfl (congrArg Value.bool hb78) ?_
                    refine HList.vals (v := (.bool false)) rfl (HVal.pickF rfl hb78 rfl) ?_
                    refine HList.vals (v := (.bool false)) rfl (HVal.move' rfl) ?_
                    refine HList.gskips rfl rfl rfl rfl rfl ?_
                    refine HList.gskips rfl rfl rfl rfl rfl ?_
                    refine HList.gskips rfl rfl rfl rfl rfl ?_
                    refine HList.gskips rfl rfl rfl rfl rfl ?_
                    refine HList.gskips rfl rfl rfl rfl rfl ?_
                    refine HList.gskips rfl rfl rfl rfl rfl ?_
                    refine HList.gskips rfl rfl rfl rfl rfl ?_
                    refine HList.vals (v := (.bool false)) rfl (HVal.pickF rfl rfl rfl) ?_
                    refine HList.vals (v := (.bool false)) rfl (HVal.assign' rfl) ?_
                    refine HList.nil ?_
                    refine nt ?_
                    refine HW.ret ?_
                    exact ⟨_, resOf1 rfl Res1.t, ⟨false, rfl, h⟩⟩
                · have h := hF hb66
                  clear hT hF
                  refine HList.gskips rfl rfl rfl rfl (congrArg Value.bool hb66) ?_
                  refine HList.gskips rfl rfl rfl rfl (congrArg Value.bool hb66) ?_
                  refine HList.gskips rfl rfl rfl rfl (congrArg Value.bool hb66) ?_
                  refine HList.gskips rfl rfl rfl rfl (congrArg Value.bool hb66) ?_
                  refine HList.vals (v := (.bool false)) rfl (HVal.pickF rfl hb66 rfl) ?_
                  refine HList.vals (v := (.bool false)) rfl (HVal.move' rfl) ?_
                  refine HList.gskips rfl rfl rfl rfl rfl ?_
                  refine HList.gskips rfl rfl rfl rfl rfl ?_
                  refine HList.gskips rfl rfl rfl rfl rfl ?_
                  refine HList.vals (v := (.bool false)) rfl (HVal.pickF rfl rfl rfl) ?_
                  refine HList.vals (v := (.bool false)) rfl (HVal.move' rfl) ?_
                  refine HList.gskips rfl rfl rfl rfl rfl ?_
                  refine HList.gskips rfl rfl rfl rfl rfl ?_
                  refine HList.gskips rfl rfl rfl rfl rfl ?_
                  refine HList.gskips rfl rfl rfl rfl rfl ?_
                  refine HList.gskips rfl rfl rfl rfl rfl ?_
                  refine HList.gskips rfl rfl rfl rfl rfl ?_
                  refine HList.gskips rfl rfl rfl rfl rfl ?_
                  refine HList.vals (v := (.bool false)) rfl (HVal.pickF rfl rfl rfl) ?_
                  refine HList.vals (v := (.bool false)) rfl (HVal.assign' rfl) ?_
                  refine HList.nil ?_
                  refine nt ?_
                  refine HW.ret ?_
                  exact ⟨_, resOf1 rfl Res1.t, ⟨false, rfl, h⟩⟩
              · have h := hF hb64
                clear hT hF
                refine HList.gskips rfl rfl rfl rfl (congrArg Value.bool hb64) ?_
                refine HList.gskips rfl rfl rfl rfl (congrArg Value.bool hb64) ?_
                refine HList.gskips rfl rfl rfl rfl (congrArg Value.bool hb64) ?_
                refine HList.gskips rfl rfl rfl rfl (congrArg Value.bool hb64) ?_
                refine HList.gskips rfl rfl rfl rfl (congrArg Value.bool hb64) ?_
                refine HList.gskips rfl rfl rfl rfl (congrArg Value.bool hb64) ?_
                refine HList.gskips rfl rfl rfl rfl (congrArg Value.bool hb64) ?_
                refine HList.gskips rfl rfl rfl rfl (congrArg Value.bool hb64) ?_
                refine HList.gskips rfl rfl rfl rfl (congrArg Value.bool hb64) ?_
                refine HList.vals (v := (.bool false)) rfl (HVal.pickF rfl hb64 rfl) ?_
                refine HList.vals (v := (.bool false)) rfl (HVal.move' rfl) ?_
                refine HList.gskips rfl rfl rfl rfl rfl ?_
                refine HList.gskips rfl rfl rfl rfl rfl ?_
                refine HList.gskips rfl rfl rfl rfl rfl ?_
                refine HList.gskips rfl rfl rfl rfl rfl ?_
                refine HList.vals (v := (.bool false)) rfl (HVal.pickF rfl rfl rfl) ?_
                refine HList.vals (v := (.bool false)) rfl (HVal.move' rfl) ?_
                refine HList.gskips rfl rfl rfl rfl rfl ?_
                refine HList.gskips rfl rfl rfl rfl rfl ?_
                refine HList.gskips rfl rfl rfl rfl rfl ?_
                refine HList.vals (v := (.bool false)) rfl (HVal.pickF rfl rfl rfl) ?_
                refine HList.vals (v := (.bool false)) rfl (HVal.move' rfl) ?_
                refine HList.gskips rfl rfl rfl rfl rfl ?_
                refine HList.gskips rfl rfl rfl rfl rfl ?_
                refine HList.gskips rfl rfl rfl rfl rfl ?_
                refine HList.gskips rfl rfl rfl rfl rfl ?_
                refine HList.gskips rfl rfl rfl rfl rfl ?_
                refine HList.gskips rfl rfl rfl rfl rfl ?_
                refine HList.gskips rfl rfl rfl rfl rfl ?_
                refine HList.vals (v := (.bool false)) rfl (HVal.pickF rfl rfl rfl) ?_
                refine HList.vals (v := (.bool false)) rfl (HVal.assign' rfl) ?_
                refine HList.nil ?_
                refine nt ?_
                refine HW.ret ?_
                exact ⟨_, resOf1 rfl Res1.t, ⟨false, rfl, h⟩⟩
            · have h := hF hb62
              clear hT hF
              refine HList.gskips rfl rfl rfl rfl (congrArg Value.bool hb62) ?_
              refine HList.gskips rfl rfl rfl rfl (congrArg Value.bool hb62) ?_
              refine HList.vals (v := (.bool false)) rfl (HVal.pickF rfl hb62 rfl) ?_
              refine HList.vals (v := (.bool false)) rfl (HVal.move' rfl) ?_
              refine HList.gskips rfl rfl rfl rfl rfl ?_
              refine HList.gskips rfl rfl rfl rfl rfl ?_
              refine HList.gskips rfl rfl rfl rfl rfl ?_
              refine HList.gskips rfl rfl rfl rfl rfl ?_
              refine HList.gskips rfl rfl rfl rfl rfl ?_
              refine HList.gskips rfl rfl rfl rfl rfl ?_
              refine HList.gskips rfl rfl rfl rfl rfl ?_
              refine HList.gskips rfl rfl rfl rfl rfl ?_
              refine HList.gskips rfl rfl rfl rfl rfl ?_
              refine HList.vals (v := (.bool false)) rfl (HVal.pickF rfl rfl rfl) ?_
              refine HList.vals (v := (.bool false)) rfl (HVal.move' rfl) ?_
              refine HList.gskips rfl rfl rfl rfl rfl ?_
              refine HList.gskips rfl rfl rfl rfl rfl ?_
              refine HList.gskips rfl rfl rfl rfl rfl ?_
              refine HList.gskips rfl rfl rfl rfl rfl ?_
              refine HList.vals (v := (.bool false)) rfl (HVal.pickF rfl rfl rfl) ?_
              refine HList.vals (v := (.bool false)) rfl (HVal.move' rfl) ?_
              refine HList.gskips rfl rfl rfl rfl rfl ?_
              refine HList.gskips rfl rfl rfl rfl rfl ?_
              refine HList.gskips rfl rfl rfl rfl rfl ?_
              refine HList.vals (v := (.bool false)) rfl (HVal.pickF rfl rfl rfl) ?_
              refine HList.vals (v := (.bool false)) rfl (HVal.move' rfl) ?_
              refine HList.gskips rfl rfl rfl rfl rfl ?_
              refine HList.gskips rfl rfl rfl rfl rfl ?_
              refine HList.gskips rfl rfl rfl rfl rfl ?_
              refine HList.gskips rfl rfl rfl rfl rfl ?_
              refine HList.gskips rfl rfl rfl rfl rfl ?_
              refine HList.gskips rfl rfl rfl rfl rfl ?_
              refine HList.gskips rfl rfl rfl rfl rfl ?_
              refine HList.vals (v := (.bool false)) rfl (HVal.pickF rfl rfl rfl) ?_
              refine HList.vals (v := (.bool false)) rfl (HVal.assign' rfl) ?_
              refine HList.nil ?_
              refine nt ?_
              refine HW.ret ?_
              exact ⟨_, resOf1 rfl Res1.t, ⟨false, rfl, h⟩⟩
          · have h := hF hb60
            clear hT hF
            refine HList.gskips rfl rfl rfl rfl (congrArg Value.bool hb60) ?_
            refine HList.gskips rfl rfl rfl rfl (congrArg Value.bool hb60) ?_
            refine HList.vals (v := (.bool false)) rfl (HVal.pickF rfl hb60 rfl) ?_
            refine HList.vals (v := (.bool false)) rfl (HVal.move' rfl) ?_
            refine HList.gskips rfl rfl rfl rfl rfl ?_
            refine HList.gskips rfl rfl rfl rfl rfl ?_
            refine HList.vals (v := (.bool false)) rfl (HVal.pickF rfl rfl rfl) ?_
            refine HList.vals (v := (.bool false)) rfl (HVal.move' rfl) ?_
            refine HList.gskips rfl rfl rfl rfl rfl ?_
            refine HList.gskips rfl rfl rfl rfl rfl ?_
            refine HList.gskips rfl rfl rfl rfl rfl ?_
            refine HList.gskips rfl rfl rfl rfl rfl ?_
            refine HList.gskips rfl rfl rfl rfl rfl ?_
            refine HList.gskips rfl rfl rfl rfl rfl ?_
            refine HList.gskips rfl rfl rfl rfl rfl ?_
            refine HList.gskips rfl rfl rfl rfl rfl ?_
            refine HList.gskips rfl rfl rfl rfl rfl ?_
            refine HList.vals (v := (.bool false)) rfl (HVal.pickF rfl rfl rfl) ?_
            refine HList.vals (v := (.bool false)) rfl (HVal.move' rfl) ?_
            refine HList.gskips rfl rfl rfl rfl rfl ?_
            refine HList.gskips rfl rfl rfl rfl rfl ?_
            refine HList.gskips rfl rfl rfl rfl rfl ?_
            refine HList.gskips rfl rfl rfl rfl rfl ?_
            refine HList.vals (v := (.bool false)) rfl (HVal.pickF rfl rfl rfl) ?_
            refine HList.vals (v := (.bool false)) rfl (HVal.move' rfl) ?_
            refine HList.gskips rfl rfl rfl rfl rfl ?_
            refine HList.gskips rfl rfl rfl rfl rfl ?_
            refine HList.gskips rfl rfl rfl rfl rfl ?_
            refine HList.vals (v := (.bool false)) rfl (HVal.pickF rfl rfl rfl) ?_
            refine HList.vals (v := (.bool false)) rfl (HVal.move' rfl) ?_
            refine HList.gskips rfl rfl rfl rfl rfl ?_
            refine HList.gskips rfl rfl rfl rfl rfl ?_
            refine HList.gskips rfl rfl rfl rfl rfl ?_
            refine HList.gskips rfl rfl rfl rfl rfl ?_
            refine HList.gskips rfl rfl rfl rfl rfl ?_
            refine HList.gskips rfl rfl rfl rfl rfl ?_
            refine HList.gskips rfl rfl rfl rfl rfl ?_
            refine HList.vals (v := (.bool false)) rfl (HVal.pickF rfl rfl rfl) ?_
            refine HList.vals (v := (.bool false)) rfl (HVal.assign' rfl) ?_
            refine HList.nil ?_
            refine nt ?_
            refine HW.ret ?_
            exact ⟨_, resOf1 rfl Res1.t, ⟨false, rfl, h⟩⟩
        · have h := hF hb58
          clear hT hF
          refine HList.gskips rfl rfl rfl rfl (congrArg Value.bool hb58) ?_
          refine HList.gskips rfl rfl rfl rfl (congrArg Value.bool hb58) ?_
          refine HList.vals (v := (.bool false)) rfl (HVal.pickF rfl hb58 rfl) ?_
          refine HList.vals (v := (.bool false)) rfl (HVal.move' rfl) ?_
          refine HList.gskips rfl rfl rfl rfl rfl ?_
          refine HList.gskips rfl rfl rfl rfl rfl ?_
          refine HList.vals (v := (.bool false)) rfl (HVal.pickF rfl rfl rfl) ?_
          refine HList.vals (v := (.bool false)) rfl (HVal.move' rfl) ?_
          refine HList.gskips rfl rfl rfl rfl rfl ?_
          refine HList.gskips rfl rfl rfl rfl rfl ?_
          refine HList.vals (v := (.bool false)) rfl (HVal.pickF rfl rfl rfl) ?_
          refine HList.vals (v := (.bool false)) rfl (HVal.move' rfl) ?_
          refine HList.gskips rfl rfl rfl rfl rfl ?_
          refine HList.gskips rfl rfl rfl rfl rfl ?_
          refine HList.gskips rfl rfl rfl rfl rfl ?_
          refine HList.gskips rfl rfl rfl rfl rfl ?_
          refine HList.gskips rfl rfl rfl rfl rfl ?_
          refine HList.gskips rfl rfl rfl rfl rfl ?_
          refine HList.gskips rfl rfl rfl rfl rfl ?_
          refine HList.gskips rfl rfl rfl rfl rfl ?_
          refine HList.gskips rfl rfl rfl rfl rfl ?_
          refine HList.vals (v := (.bool false)) rfl (HVal.pickF rfl rfl rfl) ?_
          refine HList.vals (v := (.bool false)) rfl (HVal.move' rfl) ?_
          refine HList.gskips rfl rfl rfl rfl rfl ?_
          refine HList.gskips rfl rfl rfl rfl rfl ?_
          refine HList.gskips rfl rfl rfl rfl rfl ?_
          refine HList.gskips rfl rfl rfl rfl rfl ?_
          refine HList.vals (v := (.bool false)) rfl (HVal.pickF rfl rfl rfl) ?_
          refine HList.vals (v := (.bool false)) rfl (HVal.move' rfl) ?_
          refine HList.gskips rfl rfl rfl rfl rfl ?_
          refine HList.gskips rfl rfl rfl rfl rfl ?_
          refine HList.gskips rfl rfl rfl rfl rfl ?_
          refine HList.vals (v := (.bool false)) rfl (HVal.pickF rfl rfl rfl) ?_
          refine HList.vals (v := (.bool false)) rfl (HVal.move' rfl) ?_
          refine HList.gskips rfl rfl rfl rfl rfl ?_
          refine HList.gskips rfl rfl rfl rfl rfl ?_
          refine HList.gskips rfl rfl rfl rfl rfl ?_
          refine HList.gskips rfl rfl rfl rfl rfl ?_
          refine HList.gskips rfl rfl rfl rfl rfl ?_
          refine HList.gskips rfl rfl rfl rfl rfl ?_
          refine HList.gskips rfl rfl rfl rfl rfl ?_
          refine HList.vals (v := (.bool false)) rfl (HVal.pickF rfl rfl rfl) ?_
          refine HList.vals (v := (.bool false)) rfl (HVal.assign' rfl) ?_
          refine HList.nil ?_
          refine nt ?_
          refine HW.ret ?_
          exact ⟨_, resOf1 rfl Res1.t, ⟨false, rfl, h⟩⟩
      · have h := hF hb56
        clear hT hF
        refine HList.gskips rfl rfl rfl rfl (congrArg Value.bool hb56) ?_
        refine HList.gskips rfl rfl rfl rfl (congrArg Value.bool hb56) ?_
        refine HList.vals (v := (.bool false)) rfl (HVal.pickF rfl hb56 rfl) ?_
        refine HList.vals (v := (.bool false)) rfl (HVal.move' rfl) ?_
        refine HList.gskips rfl rfl rfl rfl rfl ?_
        refine HList.gskips rfl rfl rfl rfl rfl ?_
        refine HList.vals (v := (.bool false)) rfl (HVal.pickF rfl rfl rfl) ?_
        refine HList.vals (v := (.bool false)) rfl (HVal.move' rfl) ?_
        refine HList.gskips rfl rfl rfl rfl rfl ?_
        refine HList.gskips rfl rfl rfl rfl rfl ?_
        refine HList.vals (v := (.bool false)) rfl (HVal.pickF rfl rfl rfl) ?_
        refine HList.vals (v := (.bool false)) rfl (HVal.move' rfl) ?_
        refine HList.gskips rfl rfl rfl rfl rfl ?_
        refine HList.gskips rfl rfl rfl rfl rfl ?_
        refine HList.vals (v := (.bool false)) rfl (HVal.pickF rfl rfl rfl) ?_
        refine HList.vals (v := (.bool false)) rfl (HVal.move' rfl) ?_
        refine HList.gskips rfl rfl rfl rfl rfl ?_
        refine HList.gskips rfl rfl rfl rfl rfl ?_
        refine HList.gskips rfl rfl rfl rfl rfl ?_
        refine HList.gskips rfl rfl rfl rfl rfl ?_
        refine HList.gskips rfl rfl rfl rfl rfl ?_
        refine HList.gskips rfl rfl rfl rfl rfl ?_
        refine HList.gskips rfl rfl rfl rfl rfl ?_
        refine HList.gskips rfl rfl rfl rfl rfl ?_
        refine HList.gskips rfl rfl rfl rfl rfl ?_
        refine HList.vals (v := (.bool false)) rfl (HVal.pickF rfl rfl rfl) ?_
        refine HList.vals (v := (.bool false)) rfl (HVal.move' rfl) ?_
        refine HList.gskips rfl rfl rfl rfl rfl ?_
        refine HList.gskips rfl rfl rfl rfl rfl ?_
        refine HList.gskips rfl rfl rfl rfl rfl ?_
        refine HList.gskips rfl rfl rfl rfl rfl ?_
        refine HList.vals (v := (.bool false)) rfl (HVal.pickF rfl rfl rfl) ?_
        refine HList.vals (v := (.bool false)) rfl (HVal.move' rfl) ?_
        refine HList.gskips rfl rfl rfl rfl rfl ?_
        refine HList.gskips rfl rfl rfl rfl rfl ?_
        refine HList.gskips rfl rfl rfl rfl rfl ?_
        refine HList.vals (v := (.bool false)) rfl (HVal.pickF rfl rfl rfl) ?_
        refine HList.vals (v := (.bool false)) rfl (HVal.move' rfl) ?_
        refine HList.gskips rfl rfl rfl rfl rfl ?_
        refine HList.gskips rfl rfl rfl rfl rfl ?_
        refine HList.gskips rfl rfl rfl rfl rfl ?_
        refine HList.gskips rfl rfl rfl rfl rfl ?_
        refine HList.gskips rfl rfl rfl rfl rfl ?_
        refine HList.gskips rfl rfl rfl rfl rfl ?_
        refine HList.gskips rfl rfl rfl rfl rfl ?_
        refine HList.vals (v := (.bool false)) rfl (HVal.pickF rfl rfl rfl) ?_
        refine HList.vals (v := (.bool false)) rfl (HVal.assign' rfl) ?_
        refine HList.nil ?_
        refine nt ?_
        refine HW.ret ?_
        exact ⟨_, resOf1 rfl Res1.t, ⟨false, rfl, h⟩⟩

def F10_1 (Q : Sl → Hp → Prop) (y1 : (Option Addr)) (H_1 : Hp) : Prop :=
F24 y1 H_1 (fun (r43 : Sl) (H41 : Hp) => 
 Q r43 H41)
def F10_L2b (Q : Sl → Hp → Prop) (X2 : Int → Hp → Prop) (y11 : (Option Addr)) (y12 : Sl) (y13 : Int) (y10 : Int) (H_2 : Hp) : Prop :=
((decide (y10 < y13)) = true → (∃ a15 : Addr, (y12).b = some a15 ∧ (0 : Int) ≤ y10 ∧ y10 < ((y12).n : Int) ∧ (
 ∃ (x20 : Int) (x21 : ByteArray) (x22 : Int) (x23 : Sl), cells H_2 (Addr.add a15 (y10.toNat * 4)) [(.int .i64 x20), (.string x21), (.int .i64 x22), (Sl.v x23)] 0 ∧ (
 ∀ H24 : Hp, H24 = Array.push H_2 (.cells #[(.int .i64 0), (.string (ByteArray.mk #[])), (.int .i64 0), (Sl.v Sl.nil)] 56) → (
 mayw H24 ⟨H_2.size, 0, none⟩ 4 0 ∧ ∀ H26 : Hp, H26 = sets H24 ⟨H_2.size, 0, none⟩ [(.int .i64 x20), (.string x21), (.int .i64 x22), (Sl.v x23)] 0 → (
 ∃ a29 : Addr, y11 = some a29 ∧ (
 ∃ x32 : Int, cell H26 (Addr.add a29 4) = some (.int .i64 x32) ∧ (
 ∃ x34 : Int, cell H26 (Addr.add (Addr.add ⟨H_2.size, 0, none⟩ 1) 1) = some (.int .i64 x34) ∧ (
 ∃ a35 : Addr, y11 = some a35 ∧ (
 (cell H26 (Addr.add a35 4)).isSome = true ∧ frz H26 (Addr.add a35 4) = false ∧ ∀ H37 : Hp, H37 = setc H26 (Addr.add a35 4) (.int .i64 (if x32 < x34 then x34 else x32)) → (
 X2 (IntKind.i64.wrap (y10 + 1)) H37))))))))))) ∧
 ((decide (y10 < y13)) = false → (F10_1 Q y11 H_2))
def F10_L2 (Q : Sl → Hp → Prop) (y11 : (Option Addr)) (y12 : Sl) (y13 : Int) (y10 : Int) (H_2 : Hp) : Prop :=
  ∀ X2 : Int → Hp → Prop, (∀ (y10 : Int) (H_2 : Hp), F10_L2b Q X2 y11 y12 y13 y10 H_2 → X2 y10 H_2) → X2 y10 H_2
def F10 (p0 : (Option Addr)) (H : Hp) (Q : Sl → Hp → Prop) : Prop :=
∃ a2 : Addr, p0 = some a2 ∧ (
 ∃ x5 : (Option Addr), cell H (Addr.add a2 5) = some (.pointer x5) ∧ (
 ∃ a6 : Addr, x5 = some a6 ∧ (
 ∃ x9 : Sl, cell H a6 = some (Sl.v x9) ∧ (
 F10_L2 Q p0 x9 ((x9).n : Int) 0 H))))
set_option maxRecDepth 100000 in
set_option maxHeartbeats 4000000 in
theorem walk10 {w0 : World} {p0 : (Option Addr)} {H : Hp} {Q : Sl → Hp → Prop} (h : F10 p0 H Q) :
    Good Tryd.prog w0 10 #[(.pointer p0)] H (fun v H => ∃ (r0 : Sl) , v = (Sl.v r0) ∧ Q r0 H) := by
  unfold F10 at h
  refine Good.enter' (fn := Tryd.f10) Tryd.func10 rfl rfl rfl ?_
  refine HW.seq ?_
  refine HW.region ?_
  refine HList.vals (v := (Sl.v Sl.nil)) rfl (HVal.assign' rfl) ?_
  refine HList.nil ?_
  refine nt ?_
  refine HW.cut (fun ρ H_1 => Env.Is ρ [(0, (.pointer p0))] ∧ F10_1 Q p0 H_1) ?_ ?_
  · refine HW.seq ?_
    refine HW.region ?_
    refine HList.vals (v := (.pointer p0)) rfl (HVal.move' rfl) ?_
    obtain ⟨a2, e3, h⟩ := h
    refine HList.vals (v := (.pointer (some a2))) rfl (HVal.nilCheck (congrArg Value.pointer e3)) ?_
    refine HList.vals (v := (.pointer (some (Addr.add a2 5)))) rfl (HVal.fieldAddr' Tryd.runUnderlying63 rfl rfl Tryd.sizeOf58 rfl) ?_
    obtain ⟨x5, c4, h⟩ := h
    refine HList.vals (v := (.pointer x5)) rfl (HVal.load1 Tryd.isAgg58 rfl c4) ?_
    obtain ⟨a6, e7, h⟩ := h
    refine HList.vals (v := (.pointer (some a6))) rfl (HVal.nilCheck (congrArg Value.pointer e7)) ?_
    refine HList.vals (v := (.pointer (some a6))) rfl (HVal.fieldAddr0 Tryd.runUnderlying61 rfl rfl Tryd.sizeOf59 rfl) ?_
    obtain ⟨x9, c8, h⟩ := h
    refine HList.vals (v := (Sl.v x9)) rfl (HVal.load1 Tryd.isAgg59 rfl c8) ?_
    refine HList.vals (v := (.int .i64 ((x9).n : Int))) rfl (HVal.len Tryd.runUnderlying59 rfl) ?_
    refine HList.vals (v := (.int .i64 0)) rfl (HVal.move' rfl) ?_
    refine HList.nil ?_
    refine nt ?_
    refine HW.block ?_
    refine HW.loop' (fun L2 hL2 => ?_)
    obtain ⟨X2, hX2⟩ : ∃ X2 : Int → Hp → Prop, ∀ (y10 : Int) (H_2 : Hp), X2 y10 H_2 ↔ ∀ ρ, Env.Is ρ [(0, (.pointer p0)), (11, (Sl.v x9)), (12, (.int .i64 ((x9).n : Int))), (13, (.int .i64 y10))] → L2 ρ H_2 := ⟨_, fun _ _ => Iff.rfl⟩
    refine (hX2 _ _).1 (h X2 ?_) _ ?_
    rotate_left
    · exact ⟨rfl, rfl, rfl, rfl, trivial⟩
    clear h
    intro y10 H_2 h
    refine (hX2 _ _).2 fun ρ hI => ?_
    obtain ⟨ρ0, rfl⟩ : ∃ ρ0, ρ = (Env.set (Env.set (Env.set (Env.set ρ0 13 (.int .i64 y10)) 12 (.int .i64 ((x9).n : Int))) 11 (Sl.v x9)) 0 (.pointer p0)) := ⟨ρ, hI.eq⟩
    clear hI; unfold F10_L2b at h; refine hL2 _ _ ?_
    refine HW.seq ?_
    refine HW.region ?_
    refine HList.vals (v := (.bool (decide (y10 < ((x9).n : Int))))) rfl (HVal.lss rfl rfl) ?_
    refine HList.nil ?_
    refine nt ?_
    refine HW.seq ?_
    obtain ⟨hT, hF⟩ := h
    refine HW.cond (decide (y10 < ((x9).n : Int))) rfl (fun hb14 => ?_) (fun hb14 => ?_)
    · have h := hT hb14
      clear hT hF
      refine HW.skip ?_
      refine nt ?_
      refine HW.seq ?_
      refine HW.block ?_
      refine HW.seq ?_
      refine HW.region ?_
      obtain ⟨a15, e16, b17, b18, h⟩ := h
      refine HList.vals (v := (.pointer (some (Addr.add a15 (y10.toNat * 4))))) rfl (HVal.indexAddr Tryd.runUnderlying59 Tryd.sizeOf56 (Sl.v_some rfl e16) rfl b17 b18) ?_
      obtain ⟨x20, x21, x22, x23, c19, h⟩ := h
      refine HList.vals (v := (.agg #[(.int .i64 x20), (.string x21), (.int .i64 x22), (Sl.v x23)])) rfl (HVal.loadN [(.int .i64 x20), (.string x21), (.int .i64 x22), (Sl.v x23)] Tryd.isAgg56 Tryd.sizeOf56 rfl c19) ?_
      refine HList.ops' rfl (HOp.alloc Tryd.zeroValue56) ?_
      rintro _ H24 ⟨rfl, e25⟩
      replace h := h H24 e25
      obtain ⟨z28, h⟩ := h
      refine HList.opsn (HOp.storeN' (l := [(.int .i64 x20), (.string x21), (.int .i64 x22), (Sl.v x23)]) Tryd.sizeOf56 rfl rfl rfl z28) ?_
      rintro _ H26 e27
      replace h := h H26 e27
      refine HList.nil ?_
      refine nt ?_
      refine HW.draw mixed [(0, some []), (1, some []), (2, some []), (3, some []), (4, some [11]), (5, some []), (6, some []), (7, some [11]), (8, some []), (9, some []), (10, some []), (11, none)] rfl (by kernel_rfl) (by kernel_rfl) ?_
      refine HPlan.takev (v := (.pointer p0)) rfl rfl (fun _ => HVal.move' rfl) ?_
      refine HPlan.takev (v := (.pointer p0)) rfl rfl (fun _ => HVal.move' rfl) ?_
      obtain ⟨a29, e30, h⟩ := h
      refine HPlan.takev (v := (.pointer (some a29))) rfl rfl (fun _ => HVal.nilCheck (congrArg Value.pointer e30)) ?_
      refine HPlan.takev (v := (.pointer (some (Addr.add a29 4)))) rfl rfl (fun _ => HVal.fieldAddr' Tryd.runUnderlying63 rfl rfl Tryd.sizeOf2 rfl) ?_
      obtain ⟨x32, c31, h⟩ := h
      refine HPlan.takel (v := (.int .i64 x32)) (fun X => cell X (Addr.add a29 4) = some (.int .i64 x32)) rfl rfl (fun _ hX => HVal.load1 Tryd.isAgg2 rfl hX) c31 ?_
      refine HPlan.takev (v := (.pointer (some (Addr.add ⟨H_2.size, 0, none⟩ 1)))) rfl rfl (fun _ => HVal.fieldAddr' Tryd.runUnderlying56 rfl rfl Tryd.sizeOf33 rfl) ?_
      refine HPlan.takev (v := (.pointer (some (Addr.add (Addr.add ⟨H_2.size, 0, none⟩ 1) 1)))) rfl rfl (fun _ => HVal.fieldAddr' Tryd.runUnderlying33 rfl rfl Tryd.sizeOf2 rfl) ?_
      obtain ⟨x34, c33, h⟩ := h
      refine HPlan.takel (v := (.int .i64 x34)) (fun X => cell X (Addr.add (Addr.add ⟨H_2.size, 0, none⟩ 1) 1) = some (.int .i64 x34)) rfl rfl (fun _ hX => HVal.load1 Tryd.isAgg2 rfl hX) c33 ?_
      refine HPlan.takev (v := (.int .i64 (if x32 < x34 then x34 else x32))) rfl rfl (fun _ => HVal.max rfl rfl) ?_
      obtain ⟨a35, e36, h⟩ := h
      refine HPlan.takev (v := (.pointer (some a35))) rfl rfl (fun _ => HVal.nilCheck (congrArg Value.pointer e36)) ?_
      refine HPlan.takev (v := (.pointer (some (Addr.add a35 4)))) rfl rfl (fun _ => HVal.fieldAddr' Tryd.runUnderlying63 rfl rfl Tryd.sizeOf2 rfl) ?_
      obtain ⟨z39, z40, h⟩ := h
      refine HPlan.opsn rfl (HOp.store1 Tryd.sizeOf2 rfl rfl rfl z39 z40) ?_
      rintro _ H37 e38
      replace h := h H37 e38
      refine ⟨SC_of ⟨fun e => absurd e (by decide), fun e => absurd e (by decide), trivial⟩, ?_⟩
      refine HPlan.done ?_
      refine nb ?_
      refine nt ?_
      refine HW.region ?_
      refine HList.vals (v := (.int .i64 (IntKind.i64.wrap (y10 + 1)))) rfl (HVal.add rfl rfl) ?_
      refine HList.vals (v := (.int .i64 (IntKind.i64.wrap (y10 + 1)))) rfl (HVal.move' rfl) ?_
      refine HList.nil ?_
      refine nt ?_
      exact (hX2 _ _).1 h _ ⟨rfl, rfl, rfl, rfl, trivial⟩
    · have h := hF hb14
      clear hT hF
      refine HW.exit ?_
      refine te ?_
      refine te ?_
      refine be ?_
      refine nt ?_
      exact ⟨⟨rfl, trivial⟩, h⟩
  · rintro ρ H_1 ⟨hI, h⟩
    obtain ⟨ρ0, rfl⟩ : ∃ ρ0, ρ = (Env.set ρ0 0 (.pointer p0)) := ⟨ρ, hI.eq⟩
    clear hI; unfold F10_1 at h
    refine HW.seq ?_
    refine HW.region ?_
    refine HList.vals (v := (.pointer p0)) rfl (HVal.move' rfl) ?_
    refine HList.ops' rfl (HOp.call' 24 [(.pointer p0)] (cap := []) rfl rfl Tryd.call24 (walk24 h)) ?_
    rintro _ H41 ⟨r43, rfl, h⟩
    refine HList.vals (v := (Sl.v r43)) rfl (HVal.assign' rfl) ?_
    refine HList.nil ?_
    refine nt ?_
    refine HW.ret ?_
    exact ⟨_, resOf1 rfl Res1.t, ⟨r43, rfl, h⟩⟩

end Go.Hw
