/- The walks of this seat, printed by a program of this session (wip/tools/gen.py): of each function what it does to the heap, and that it does so. -/
import Derived.Test.YtbhfkpdalilhcaaDoorHwT
import Derived.Test.YtbhfkpdalilhcaaDoorProg
import Derived.Test.YtbhfkpdalilhcaaDoorWAux
import Derived.Test.YtbhfkpdalilhcaaDoorWLib
set_option linter.unusedVariables false
set_option linter.unusedSimpArgs false
namespace Go.Hw
open Go Go.Proofs
def F7 (H : Hp) (Q : (Option Addr) → Hp → Prop) : Prop :=
∀ H1 : Hp, H1 = Array.push H (.map #[] 0) → (
 ∀ H3 : Hp, H3 = Array.push H1 (.cells #[(.map (some (Array.size H)))] 72) → (
 Q (some ⟨H1.size, 0, none⟩) H3))
set_option maxRecDepth 100000 in
set_option maxHeartbeats 4000000 in
theorem walk7 {w0 : World} {H : Hp} {Q : (Option Addr) → Hp → Prop} (h : F7 H Q) :
    Good Tryd.prog w0 7 #[] H (fun v H => ∃ (r0 : (Option Addr)) , v = (.pointer r0) ∧ Q r0 H) := by
  unfold F7 at h
  refine Good.enter' (fn := Tryd.f7) Tryd.func7 rfl rfl rfl ?_
  refine HW.seq ?_
  refine HW.region ?_
  refine HList.vals (v := (.pointer none)) rfl (HVal.assign' rfl) ?_
  refine HList.nil ?_
  refine nt ?_
  refine HW.seq ?_
  refine HW.region ?_
  refine HList.ops' rfl (HOp.makeMap) ?_
  rintro _ H1 ⟨rfl, e2⟩
  replace h := h H1 e2
  refine HList.vals (v := (.agg #[(.map (some (Array.size H)))])) rfl (HVal.build' (cs := [(.map (some (Array.size H)))]) Tryd.runUnderlying72 Tryd.zeroValue72 places72 rfl) ?_
  refine HList.ops' rfl (HOp.box (v := (.agg #[(.map (some (Array.size H)))])) rfl) ?_
  rintro _ H3 ⟨rfl, e4⟩
  replace h := h H3 e4
  refine HList.vals (v := (.pointer (some ⟨H1.size, 0, none⟩))) rfl (HVal.assign' rfl) ?_
  refine HList.nil ?_
  refine nt ?_
  refine HW.ret ?_
  exact ⟨_, resOf1 rfl Res1.t, ⟨(some ⟨H1.size, 0, none⟩), rfl, h⟩⟩

def F12_1 (Q : Int → Hp → Prop) (y3 : Int) (H_1 : Hp) : Prop :=
Q y3 H_1
def F12 (p0 : Int) (p1 : Int) (H : Hp) (Q : Int → Hp → Prop) : Prop :=
p1 ≠ 0 ∧ (
 ((decide ((Int.tmod p0 p1) < 0)) = true → (F12_1 Q (IntKind.i64.wrap ((Int.tmod p0 p1) + p1)) H)) ∧
 ((decide ((Int.tmod p0 p1) < 0)) = false → (F12_1 Q (Int.tmod p0 p1) H)))
set_option maxRecDepth 100000 in
set_option maxHeartbeats 4000000 in
theorem walk12 {w0 : World} {p0 : Int} {p1 : Int} {H : Hp} {Q : Int → Hp → Prop} (h : F12 p0 p1 H Q) :
    Good Tryd.prog w0 12 #[(.int .i64 p0), (.int .i64 p1)] H (fun v H => ∃ (r0 : Int) , v = (.int .i64 r0) ∧ Q r0 H) := by
  unfold F12 at h
  refine Good.enter' (fn := Tryd.f12) Tryd.func12 rfl rfl rfl ?_
  refine HW.seq ?_
  refine HW.region ?_
  refine HList.vals (v := (.int .i64 0)) rfl (HVal.assign' rfl) ?_
  refine HList.nil ?_
  refine nt ?_
  refine HW.seq ?_
  refine HW.region ?_
  refine HList.vals (v := (.int .i64 p0)) rfl (HVal.move' rfl) ?_
  refine HList.vals (v := (.int .i64 p1)) rfl (HVal.move' rfl) ?_
  obtain ⟨z1, h⟩ := h
  refine HList.vals (v := (.int .i64 (Int.tmod p0 p1))) rfl (HVal.rem rfl rfl z1) ?_
  refine HList.vals (v := (.int .i64 (Int.tmod p0 p1))) rfl (HVal.assign' rfl) ?_
  refine HList.nil ?_
  refine nt ?_
  refine HW.cut (fun ρ H_1 => ∃ (y3 : Int), Env.Is ρ [(0, (.int .i64 y3))] ∧ F12_1 Q y3 H_1) ?_ ?_
  · refine HW.seq ?_
    refine HW.region ?_
    refine HList.vals (v := (.int .i64 (Int.tmod p0 p1))) rfl (HVal.move' rfl) ?_
    refine HList.vals (v := (.bool (decide ((Int.tmod p0 p1) < 0)))) rfl (HVal.lss rfl rfl) ?_
    refine HList.nil ?_
    refine nt ?_
    obtain ⟨hT, hF⟩ := h
    refine HW.cond (decide ((Int.tmod p0 p1) < 0)) rfl (fun hb2 => ?_) (fun hb2 => ?_)
    · have h := hT hb2
      clear hT hF
      refine HW.region ?_
      refine HList.vals (v := (.int .i64 (Int.tmod p0 p1))) rfl (HVal.move' rfl) ?_
      refine HList.vals (v := (.int .i64 p1)) rfl (HVal.move' rfl) ?_
      refine HList.vals (v := (.int .i64 (IntKind.i64.wrap ((Int.tmod p0 p1) + p1)))) rfl (HVal.add rfl rfl) ?_
      refine HList.vals (v := (.int .i64 (IntKind.i64.wrap ((Int.tmod p0 p1) + p1)))) rfl (HVal.assign' rfl) ?_
      refine HList.nil ?_
      refine nt ?_
      exact ⟨(IntKind.i64.wrap ((Int.tmod p0 p1) + p1)), ⟨rfl, trivial⟩, h⟩
    · have h := hF hb2
      clear hT hF
      refine HW.skip ?_
      refine nt ?_
      exact ⟨(Int.tmod p0 p1), ⟨rfl, trivial⟩, h⟩
  · rintro ρ H_1 ⟨y3, hI, h⟩
    obtain ⟨ρ0, rfl⟩ : ∃ ρ0, ρ = (Env.set ρ0 0 (.int .i64 y3)) := ⟨ρ, hI.eq⟩
    clear hI; unfold F12_1 at h
    refine HW.seq ?_
    refine HW.region ?_
    refine HList.vals (v := (.int .i64 y3)) rfl (HVal.move' rfl) ?_
    refine HList.vals (v := (.int .i64 y3)) rfl (HVal.assign' rfl) ?_
    refine HList.nil ?_
    refine nt ?_
    refine HW.ret ?_
    exact ⟨_, resOf1 rfl Res1.t, ⟨y3, rfl, h⟩⟩

def F32 (p0 : Int) (H : Hp) (Q : Bool → Hp → Prop) : Prop :=
((decide ((97 : Int) ≤ p0)) = true → (((decide (p0 ≤ 122)) = true → (Q true H)) ∧
 ((decide (p0 ≤ 122)) = false → (((decide ((65 : Int) ≤ p0)) = true → (((decide (p0 ≤ 90)) = true → (Q true H)) ∧
 ((decide (p0 ≤ 90)) = false → (Q (decide (p0 = 95)) H)))) ∧
 ((decide ((65 : Int) ≤ p0)) = false → (Q (decide (p0 = 95)) H)))))) ∧
 ((decide ((97 : Int) ≤ p0)) = false → (((decide ((65 : Int) ≤ p0)) = true → (((decide (p0 ≤ 90)) = true → (Q true H)) ∧
 ((decide (p0 ≤ 90)) = false → (Q (decide (p0 = 95)) H)))) ∧
 ((decide ((65 : Int) ≤ p0)) = false → (Q (decide (p0 = 95)) H))))
set_option maxRecDepth 100000 in
set_option maxHeartbeats 4000000 in
theorem walk32 {w0 : World} {p0 : Int} {H : Hp} {Q : Bool → Hp → Prop} (h : F32 p0 H Q) :
    Good Tryd.prog w0 32 #[(.int .u8 p0)] H (fun v H => ∃ (r0 : Bool) , v = (.bool r0) ∧ Q r0 H) := by
  unfold F32 at h
  refine Good.enter' (fn := Tryd.f32) Tryd.func32 rfl rfl rfl ?_
  refine HW.seq ?_
  refine HW.region ?_
  refine HList.vals (v := (.bool false)) rfl (HVal.assign' rfl) ?_
  refine HList.nil ?_
  refine nt ?_
  refine HW.seq ?_
  refine HW.region ?_
  refine HList.vals (v := (.int .u8 p0)) rfl (HVal.move' rfl) ?_
  refine HList.vals (v := (.bool (decide ((97 : Int) ≤ p0)))) rfl (HVal.geq rfl rfl) ?_
  refine HList.vals (v := (.bool (decide ((97 : Int) ≤ p0)))) rfl (HVal.move' rfl) ?_
  obtain ⟨hT, hF⟩ := h
  rcases Bool.eq_false_or_eq_true (decide ((97 : Int) ≤ p0)) with hb1 | hb2
  · have h := hT hb1
    clear hT hF
    refine HList.gvals (v := (.int .u8 p0)) rfl rfl rfl rfl (congrArg Value.bool hb1) (HVal.move' rfl) ?_
    refine HList.gvals (v := (.bool (decide (p0 ≤ 122)))) rfl rfl rfl rfl (congrArg Value.bool hb1) (HVal.leq rfl rfl) ?_
    refine HList.vals (v := (.bool (decide (p0 ≤ 122)))) rfl (HVal.pickT rfl hb1 rfl) ?_
    refine HList.vals (v := (.bool (decide (p0 ≤ 122)))) rfl (HVal.move' rfl) ?_
    obtain ⟨hT, hF⟩ := h
    rcases Bool.eq_false_or_eq_true (decide (p0 ≤ 122)) with hb3 | hb4
    · have h := hT hb3
      clear hT hF
      refine HList.gskips rfl rfl rfl rfl (congrArg Value.bool hb3) ?_
      refine HList.gskips rfl rfl rfl rfl (congrArg Value.bool hb3) ?_
      refine HList.gskips rfl rfl rfl rfl (congrArg Value.bool hb3) ?_
      refine HList.uskips rfl rfl rfl rfl rfl ?_
      refine HList.uskips rfl rfl rfl rfl rfl ?_
      refine HList.gskips rfl rfl rfl rfl (congrArg Value.bool hb3) ?_
      refine HList.vals (v := (.bool true)) rfl (HVal.pickT rfl hb3 rfl) ?_
      refine HList.vals (v := (.bool true)) rfl (HVal.move' rfl) ?_
      refine HList.gskips rfl rfl rfl rfl rfl ?_
      refine HList.gskips rfl rfl rfl rfl rfl ?_
      refine HList.vals (v := (.bool true)) rfl (HVal.pickT rfl rfl rfl) ?_
      refine HList.vals (v := (.bool true)) rfl (HVal.assign' rfl) ?_
      refine HList.nil ?_
      refine nt ?_
      refine HW.ret ?_
      exact ⟨_, resOf1 rfl Res1.t, ⟨true, rfl, h⟩⟩
    · have h := hF hb4
      clear hT hF
      refine HList.gvals (v := (.int .u8 p0)) rfl rfl rfl rfl (congrArg Value.bool hb4) (HVal.move' rfl) ?_
      refine HList.gvals (v := (.bool (decide ((65 : Int) ≤ p0)))) rfl rfl rfl rfl (congrArg Value.bool hb4) (HVal.geq rfl rfl) ?_
      refine HList.gvals (v := (.bool (decide ((65 : Int) ≤ p0)))) rfl rfl rfl rfl (congrArg Value.bool hb4) (HVal.move' rfl) ?_
      obtain ⟨hT, hF⟩ := h
      rcases Bool.eq_false_or_eq_true (decide ((65 : Int) ≤ p0)) with hb5 | hb6
      · have h := hT hb5
        clear hT hF
        refine HList.gvals (v := (.int .u8 p0)) rfl rfl rfl rfl (congrArg Value.bool hb5) (HVal.move' rfl) ?_
        refine HList.gvals (v := (.bool (decide (p0 ≤ 90)))) rfl rfl rfl rfl (congrArg Value.bool hb5) (HVal.leq rfl rfl) ?_
        refine HList.gvals (v := (.bool (decide (p0 ≤ 90)))) rfl rfl rfl rfl (congrArg Value.bool hb4) (HVal.pickT rfl hb5 rfl) ?_
        refine HList.vals (v := (.bool (decide (p0 ≤ 90)))) rfl (HVal.pickF rfl hb4 rfl) ?_
        refine HList.vals (v := (.bool (decide (p0 ≤ 90)))) rfl (HVal.move' rfl) ?_
        obtain ⟨hT, hF⟩ := h
        rcases Bool.eq_false_or_eq_true (decide (p0 ≤ 90)) with hb7 | hb8
        · have h := hT hb7
          clear hT hF
          refine HList.gskips rfl rfl rfl rfl (congrArg Value.bool hb7) ?_
          refine HList.gskips rfl rfl rfl rfl (congrArg Value.bool hb7) ?_
          refine HList.vals (v := (.bool true)) rfl (HVal.pickT rfl hb7 rfl) ?_
          refine HList.vals (v := (.bool true)) rfl (HVal.assign' rfl) ?_
          refine HList.nil ?_
          refine nt ?_
          refine HW.ret ?_
          exact ⟨_, resOf1 rfl Res1.t, ⟨true, rfl, h⟩⟩
        · have h := hF hb8
          clear hT hF
          refine HList.gvals (v := (.int .u8 p0)) rfl rfl rfl rfl (congrArg Value.bool hb8) (HVal.move' rfl) ?_
          refine HList.gvals (v := (.bool (decide (p0 = 95)))) rfl rfl rfl rfl (congrArg Value.bool hb8) (HVal.eqlI rfl rfl) ?_
          refine HList.vals (v := (.bool (decide (p0 = 95)))) rfl (HVal.pickF rfl hb8 rfl) ?_
          refine HList.vals (v := (.bool (decide (p0 = 95)))) rfl (HVal.assign' rfl) ?_
          refine HList.nil ?_
          refine nt ?_
          refine HW.ret ?_
          exact ⟨_, resOf1 rfl Res1.t, ⟨(decide (p0 = 95)), rfl, h⟩⟩
      · have h := hF hb6
        clear hT hF
        refine HList.gskips rfl rfl rfl rfl (congrArg Value.bool hb6) ?_
        refine HList.gskips rfl rfl rfl rfl (congrArg Value.bool hb6) ?_
        refine HList.gvals (v := (.bool false)) rfl rfl rfl rfl (congrArg Value.bool hb4) (HVal.pickF rfl hb6 rfl) ?_
        refine HList.vals (v := (.bool false)) rfl (HVal.pickF rfl hb4 rfl) ?_
        refine HList.vals (v := (.bool false)) rfl (HVal.move' rfl) ?_
        refine HList.gvals (v := (.int .u8 p0)) rfl rfl rfl rfl rfl (HVal.move' rfl) ?_
        refine HList.gvals (v := (.bool (decide (p0 = 95)))) rfl rfl rfl rfl rfl (HVal.eqlI rfl rfl) ?_
        refine HList.vals (v := (.bool (decide (p0 = 95)))) rfl (HVal.pickF rfl rfl rfl) ?_
        refine HList.vals (v := (.bool (decide (p0 = 95)))) rfl (HVal.assign' rfl) ?_
        refine HList.nil ?_
        refine nt ?_
        refine HW.ret ?_
        exact ⟨_, resOf1 rfl Res1.t, ⟨(decide (p0 = 95)), rfl, h⟩⟩
  · have h := hF hb2
    clear hT hF
    refine HList.gskips rfl rfl rfl rfl (congrArg Value.bool hb2) ?_
    refine HList.gskips rfl rfl rfl rfl (congrArg Value.bool hb2) ?_
    refine HList.vals (v := (.bool false)) rfl (HVal.pickF rfl hb2 rfl) ?_
    refine HList.vals (v := (.bool false)) rfl (HVal.move' rfl) ?_
    refine HList.gvals (v := (.int .u8 p0)) rfl rfl rfl rfl rfl (HVal.move' rfl) ?_
    refine HList.gvals (v := (.bool (decide ((65 : Int) ≤ p0)))) rfl rfl rfl rfl rfl (HVal.geq rfl rfl) ?_
    refine HList.gvals (v := (.bool (decide ((65 : Int) ≤ p0)))) rfl rfl rfl rfl rfl (HVal.move' rfl) ?_
    obtain ⟨hT, hF⟩ := h
    rcases Bool.eq_false_or_eq_true (decide ((65 : Int) ≤ p0)) with hb9 | hb10
    · have h := hT hb9
      clear hT hF
      refine HList.gvals (v := (.int .u8 p0)) rfl rfl rfl rfl (congrArg Value.bool hb9) (HVal.move' rfl) ?_
      refine HList.gvals (v := (.bool (decide (p0 ≤ 90)))) rfl rfl rfl rfl (congrArg Value.bool hb9) (HVal.leq rfl rfl) ?_
      refine HList.gvals (v := (.bool (decide (p0 ≤ 90)))) rfl rfl rfl rfl rfl (HVal.pickT rfl hb9 rfl) ?_
      refine HList.vals (v := (.bool (decide (p0 ≤ 90)))) rfl (HVal.pickF rfl rfl rfl) ?_
      refine HList.vals (v := (.bool (decide (p0 ≤ 90)))) rfl (HVal.move' rfl) ?_
      obtain ⟨hT, hF⟩ := h
      rcases Bool.eq_false_or_eq_true (decide (p0 ≤ 90)) with hb11 | hb12
      · have h := hT hb11
        clear hT hF
        refine HList.gskips rfl rfl rfl rfl (congrArg Value.bool hb11) ?_
        refine HList.gskips rfl rfl rfl rfl (congrArg Value.bool hb11) ?_
        refine HList.vals (v := (.bool true)) rfl (HVal.pickT rfl hb11 rfl) ?_
        refine HList.vals (v := (.bool true)) rfl (HVal.assign' rfl) ?_
        refine HList.nil ?_
        refine nt ?_
        refine HW.ret ?_
        exact ⟨_, resOf1 rfl Res1.t, ⟨true, rfl, h⟩⟩
      · have h := hF hb12
        clear hT hF
        refine HList.gvals (v := (.int .u8 p0)) rfl rfl rfl rfl (congrArg Value.bool hb12) (HVal.move' rfl) ?_
        refine HList.gvals (v := (.bool (decide (p0 = 95)))) rfl rfl rfl rfl (congrArg Value.bool hb12) (HVal.eqlI rfl rfl) ?_
        refine HList.vals (v := (.bool (decide (p0 = 95)))) rfl (HVal.pickF rfl hb12 rfl) ?_
        refine HList.vals (v := (.bool (decide (p0 = 95)))) rfl (HVal.assign' rfl) ?_
        refine HList.nil ?_
        refine nt ?_
        refine HW.ret ?_
        exact ⟨_, resOf1 rfl Res1.t, ⟨(decide (p0 = 95)), rfl, h⟩⟩
    · have h := hF hb10
      clear hT hF
      refine HList.gskips rfl rfl rfl rfl (congrArg Value.bool hb10) ?_
      refine HList.gskips rfl rfl rfl rfl (congrArg Value.bool hb10) ?_
      refine HList.gvals (v := (.bool false)) rfl rfl rfl rfl rfl (HVal.pickF rfl hb10 rfl) ?_
      refine HList.vals (v := (.bool false)) rfl (HVal.pickF rfl rfl rfl) ?_
      refine HList.vals (v := (.bool false)) rfl (HVal.move' rfl) ?_
      refine HList.gvals (v := (.int .u8 p0)) rfl rfl rfl rfl rfl (HVal.move' rfl) ?_
      refine HList.gvals (v := (.bool (decide (p0 = 95)))) rfl rfl rfl rfl rfl (HVal.eqlI rfl rfl) ?_
      refine HList.vals (v := (.bool (decide (p0 = 95)))) rfl (HVal.pickF rfl rfl rfl) ?_
      refine HList.vals (v := (.bool (decide (p0 = 95)))) rfl (HVal.assign' rfl) ?_
      refine HList.nil ?_
      refine nt ?_
      refine HW.ret ?_
      exact ⟨_, resOf1 rfl Res1.t, ⟨(decide (p0 = 95)), rfl, h⟩⟩

def F33 (p0 : Int) (H : Hp) (Q : Bool → Hp → Prop) : Prop :=
F32 p0 H (fun (r3 : Bool) (H1 : Hp) => 
 (r3 = true → (Q true H1)) ∧
 (r3 = false → (((decide ((48 : Int) ≤ p0)) = true → (Q (decide (p0 ≤ 57)) H1)) ∧
 ((decide ((48 : Int) ≤ p0)) = false → (Q false H1)))))
set_option maxRecDepth 100000 in
set_option maxHeartbeats 4000000 in
theorem walk33 {w0 : World} {p0 : Int} {H : Hp} {Q : Bool → Hp → Prop} (h : F33 p0 H Q) :
    Good Tryd.prog w0 33 #[(.int .u8 p0)] H (fun v H => ∃ (r0 : Bool) , v = (.bool r0) ∧ Q r0 H) := by
  unfold F33 at h
  refine Good.enter' (fn := Tryd.f33) Tryd.func33 rfl rfl rfl ?_
  refine HW.seq ?_
  refine HW.region ?_
  refine HList.vals (v := (.bool false)) rfl (HVal.assign' rfl) ?_
  refine HList.nil ?_
  refine nt ?_
  refine HW.seq ?_
  refine HW.region ?_
  refine HList.vals (v := (.int .u8 p0)) rfl (HVal.move' rfl) ?_
  refine HList.ops' rfl (HOp.call' 32 [(.int .u8 p0)] (cap := []) rfl rfl Tryd.call32 (walk32 h)) ?_
  rintro _ H1 ⟨r3, rfl, h⟩
  refine HList.vals (v := (.bool r3)) rfl (HVal.move' rfl) ?_
  obtain ⟨hT, hF⟩ := h
  rcases Bool.eq_false_or_eq_true r3 with hb4 | hb5
  · have h := hT hb4
    clear hT hF
    refine HList.gskips rfl rfl rfl rfl (congrArg Value.bool hb4) ?_
    refine HList.gskips rfl rfl rfl rfl (congrArg Value.bool hb4) ?_
    refine HList.gskips rfl rfl rfl rfl (congrArg Value.bool hb4) ?_
    refine HList.uskips rfl rfl rfl rfl rfl ?_
    refine HList.uskips rfl rfl rfl rfl rfl ?_
    refine HList.gskips rfl rfl rfl rfl (congrArg Value.bool hb4) ?_
    refine HList.vals (v := (.bool true)) rfl (HVal.pickT rfl hb4 rfl) ?_
    refine HList.vals (v := (.bool true)) rfl (HVal.assign' rfl) ?_
    refine HList.nil ?_
    refine nt ?_
    refine HW.ret ?_
    exact ⟨_, resOf1 rfl Res1.t, ⟨true, rfl, h⟩⟩
  · have h := hF hb5
    clear hT hF
    refine HList.gvals (v := (.int .u8 p0)) rfl rfl rfl rfl (congrArg Value.bool hb5) (HVal.move' rfl) ?_
    refine HList.gvals (v := (.bool (decide ((48 : Int) ≤ p0)))) rfl rfl rfl rfl (congrArg Value.bool hb5) (HVal.geq rfl rfl) ?_
    refine HList.gvals (v := (.bool (decide ((48 : Int) ≤ p0)))) rfl rfl rfl rfl (congrArg Value.bool hb5) (HVal.move' rfl) ?_
    obtain ⟨hT, hF⟩ := h
    rcases Bool.eq_false_or_eq_true (decide ((48 : Int) ≤ p0)) with hb6 | hb7
    · have h := hT hb6
      clear hT hF
      refine HList.gvals (v := (.int .u8 p0)) rfl rfl rfl rfl (congrArg Value.bool hb6) (HVal.move' rfl) ?_
      refine HList.gvals (v := (.bool (decide (p0 ≤ 57)))) rfl rfl rfl rfl (congrArg Value.bool hb6) (HVal.leq rfl rfl) ?_
      refine HList.gvals (v := (.bool (decide (p0 ≤ 57)))) rfl rfl rfl rfl (congrArg Value.bool hb5) (HVal.pickT rfl hb6 rfl) ?_
      refine HList.vals (v := (.bool (decide (p0 ≤ 57)))) rfl (HVal.pickF rfl hb5 rfl) ?_
      refine HList.vals (v := (.bool (decide (p0 ≤ 57)))) rfl (HVal.assign' rfl) ?_
      refine HList.nil ?_
      refine nt ?_
      refine HW.ret ?_
      exact ⟨_, resOf1 rfl Res1.t, ⟨(decide (p0 ≤ 57)), rfl, h⟩⟩
    · have h := hF hb7
      clear hT hF
      refine HList.gskips rfl rfl rfl rfl (congrArg Value.bool hb7) ?_
      refine HList.gskips rfl rfl rfl rfl (congrArg Value.bool hb7) ?_
      refine HList.gvals (v := (.bool false)) rfl rfl rfl rfl (congrArg Value.bool hb5) (HVal.pickF rfl hb7 rfl) ?_
      refine HList.vals (v := (.bool false)) rfl (HVal.pickF rfl hb5 rfl) ?_
      refine HList.vals (v := (.bool false)) rfl (HVal.assign' rfl) ?_
      refine HList.nil ?_
      refine nt ?_
      refine HW.ret ?_
      exact ⟨_, resOf1 rfl Res1.t, ⟨false, rfl, h⟩⟩

def F17_L4b (Q : Bool → Hp → Prop) (X4 : Int → Hp → Prop) (y42 : ByteArray) (y43 : ByteArray) (y44 : ByteArray) (y45 : ByteArray) (y46 : ByteArray) (y47 : ByteArray) (y48 : ByteArray) (y49 : ByteArray) (y50 : ByteArray) (y51 : ByteArray) (y52 : ByteArray) (y53 : ByteArray) (y54 : ByteArray) (y55 : ByteArray) (y56 : ByteArray) (y57 : ByteArray) (y58 : ByteArray) (y41 : Int) (H_4 : Hp) : Prop :=
((decide (y41 < 16)) = true → ((0 : Int) ≤ y41 ∧ y41 < (16 : Int) ∧ ∃ y60 : ByteArray, ([y43, y44, y45, y46, y47, y48, y49, y50, y51, y52, y53, y54, y55, y56, y57, y58] : List ByteArray)[y41.toNat]? = some y60 ∧ (
 ((seq y42 y60) = true → (Q false H_4)) ∧
 ((seq y42 y60) = false → (X4 (IntKind.i64.wrap (y41 + 1)) H_4))))) ∧
 ((decide (y41 < 16)) = false → (Q true H_4))
def F17_L4 (Q : Bool → Hp → Prop) (y42 : ByteArray) (y43 : ByteArray) (y44 : ByteArray) (y45 : ByteArray) (y46 : ByteArray) (y47 : ByteArray) (y48 : ByteArray) (y49 : ByteArray) (y50 : ByteArray) (y51 : ByteArray) (y52 : ByteArray) (y53 : ByteArray) (y54 : ByteArray) (y55 : ByteArray) (y56 : ByteArray) (y57 : ByteArray) (y58 : ByteArray) (y41 : Int) (H_4 : Hp) : Prop :=
  ∀ X4 : Int → Hp → Prop, (∀ (y41 : Int) (H_4 : Hp), F17_L4b Q X4 y42 y43 y44 y45 y46 y47 y48 y49 y50 y51 y52 y53 y54 y55 y56 y57 y58 y41 H_4 → X4 y41 H_4) → X4 y41 H_4
def F17_2 (Q : Bool → Hp → Prop) (y13 : ByteArray) (H_2 : Hp) : Prop :=
∃ (x25 : ByteArray) (x26 : ByteArray) (x27 : ByteArray) (x28 : ByteArray) (x29 : ByteArray) (x30 : ByteArray) (x31 : ByteArray) (x32 : ByteArray) (x33 : ByteArray) (x34 : ByteArray) (x35 : ByteArray) (x36 : ByteArray) (x37 : ByteArray) (x38 : ByteArray) (x39 : ByteArray) (x40 : ByteArray), cells H_2 ⟨1, 0, none⟩ [(.string x25), (.string x26), (.string x27), (.string x28), (.string x29), (.string x30), (.string x31), (.string x32), (.string x33), (.string x34), (.string x35), (.string x36), (.string x37), (.string x38), (.string x39), (.string x40)] 0 ∧ (
 F17_L4 Q y13 x25 x26 x27 x28 x29 x30 x31 x32 x33 x34 x35 x36 x37 x38 x39 x40 0 H_2)
def F17_L3b (Q : Bool → Hp → Prop) (X3 : Int → Hp → Prop) (y15 : ByteArray) (y16 : Int) (y14 : Int) (H_3 : Hp) : Prop :=
((decide (y14 < y16)) = true → ((0 : Int) ≤ y14 ∧ y14.toNat < (y15).size ∧ (
 F33 (bt y15 y14.toNat) H_3 (fun (r22 : Bool) (H20 : Hp) => 
 ((!r22) = true → (Q false H20)) ∧
 ((!r22) = false → (X3 (IntKind.i64.wrap (y14 + 1)) H20)))))) ∧
 ((decide (y14 < y16)) = false → (F17_2 Q y15 H_3))
def F17_L3 (Q : Bool → Hp → Prop) (y15 : ByteArray) (y16 : Int) (y14 : Int) (H_3 : Hp) : Prop :=
  ∀ X3 : Int → Hp → Prop, (∀ (y14 : Int) (H_3 : Hp), F17_L3b Q X3 y15 y16 y14 H_3 → X3 y14 H_3) → X3 y14 H_3
def F17_1 (Q : Bool → Hp → Prop) (y1 : ByteArray) (y4 : Bool) (H_1 : Hp) : Prop :=
(y4 = true → (Q false H_1)) ∧
 (y4 = false → (F17_L3 Q y1 ((y1).size : Int) 0 H_1))
def F17 (p0 : ByteArray) (H : Hp) (Q : Bool → Hp → Prop) : Prop :=
((seq p0 (ByteArray.mk #[])) = true → (F17_1 Q p0 true H)) ∧
 ((seq p0 (ByteArray.mk #[])) = false → (((decide ((32 : Int) < ((p0).size : Int))) = true → (F17_1 Q p0 true H)) ∧
 ((decide ((32 : Int) < ((p0).size : Int))) = false → ((0 : Int) ≤ 0 ∧ (0 : Int).toNat < (p0).size ∧ (
 F32 (bt p0 (0 : Int).toNat) H (fun (r11 : Bool) (H9 : Hp) => 
 F17_1 Q p0 (!r11) H9))))))
set_option maxRecDepth 100000 in
set_option maxHeartbeats 4000000 in
theorem walk17 {w0 : World} {p0 : ByteArray} {H : Hp} {Q : Bool → Hp → Prop} (h : F17 p0 H Q) :
    Good Tryd.prog w0 17 #[(.string p0)] H (fun v H => ∃ (r0 : Bool) , v = (.bool r0) ∧ Q r0 H) := by
  unfold F17 at h
  refine Good.enter' (fn := Tryd.f17) Tryd.func17 rfl rfl rfl ?_
  refine HW.seq ?_
  refine HW.region ?_
  refine HList.vals (v := (.bool false)) rfl (HVal.assign' rfl) ?_
  refine HList.nil ?_
  refine nt ?_
  refine HW.seq ?_
  refine HW.cut (fun ρ H_1 => ∃ (y4 : Bool), Env.Is ρ [(0, (.string p0)), (18, (.bool y4))] ∧ F17_1 Q p0 y4 H_1) ?_ ?_
  · refine HW.region ?_
    refine HList.vals (v := (.string p0)) rfl (HVal.move' rfl) ?_
    refine HList.vals (v := (.bool (seq p0 (ByteArray.mk #[])))) rfl (HVal.eqlS rfl rfl) ?_
    refine HList.vals (v := (.bool (seq p0 (ByteArray.mk #[])))) rfl (HVal.move' rfl) ?_
    obtain ⟨hT, hF⟩ := h
    rcases Bool.eq_false_or_eq_true (seq p0 (ByteArray.mk #[])) with hb2 | hb3
    · have h := hT hb2
      clear hT hF
      refine HList.gskips rfl rfl rfl rfl (congrArg Value.bool hb2) ?_
      refine HList.gskips rfl rfl rfl rfl (congrArg Value.bool hb2) ?_
      refine HList.gskips rfl rfl rfl rfl (congrArg Value.bool hb2) ?_
      refine HList.vals (v := (.bool true)) rfl (HVal.pickT rfl hb2 rfl) ?_
      refine HList.vals (v := (.bool true)) rfl (HVal.move' rfl) ?_
      refine HList.gskips rfl rfl rfl rfl rfl ?_
      refine HList.gskips rfl rfl rfl rfl rfl ?_
      refine HList.gskips rfl rfl rfl rfl rfl ?_
      refine HList.gskips rfl rfl rfl rfl rfl ?_
      refine HList.vals (v := (.bool true)) rfl (HVal.pickT rfl rfl rfl) ?_
      refine HList.nil ?_
      refine nt ?_
      exact ⟨true, ⟨rfl, rfl, trivial⟩, h⟩
    · have h := hF hb3
      clear hT hF
      refine HList.gvals (v := (.string p0)) rfl rfl rfl rfl (congrArg Value.bool hb3) (HVal.move' rfl) ?_
      refine HList.gvals (v := (.int .i64 ((p0).size : Int))) rfl rfl rfl rfl (congrArg Value.bool hb3) (HVal.lenS Tryd.runUnderlying9 rfl) ?_
      refine HList.gvals (v := (.bool (decide ((32 : Int) < ((p0).size : Int))))) rfl rfl rfl rfl (congrArg Value.bool hb3) (HVal.gtr rfl rfl) ?_
      refine HList.vals (v := (.bool (decide ((32 : Int) < ((p0).size : Int))))) rfl (HVal.pickF rfl hb3 rfl) ?_
      refine HList.vals (v := (.bool (decide ((32 : Int) < ((p0).size : Int))))) rfl (HVal.move' rfl) ?_
      obtain ⟨hT, hF⟩ := h
      rcases Bool.eq_false_or_eq_true (decide ((32 : Int) < ((p0).size : Int))) with hb5 | hb6
      · have h := hT hb5
        clear hT hF
        refine HList.gskips rfl rfl rfl rfl (congrArg Value.bool hb5) ?_
        refine HList.gskips rfl rfl rfl rfl (congrArg Value.bool hb5) ?_
        refine HList.gskips rfl rfl rfl rfl (congrArg Value.bool hb5) ?_
        refine HList.gskips rfl rfl rfl rfl (congrArg Value.bool hb5) ?_
        refine HList.vals (v := (.bool true)) rfl (HVal.pickT rfl hb5 rfl) ?_
        refine HList.nil ?_
        refine nt ?_
        exact ⟨true, ⟨rfl, rfl, trivial⟩, h⟩
      · have h := hF hb6
        clear hT hF
        refine HList.gvals (v := (.string p0)) rfl rfl rfl rfl (congrArg Value.bool hb6) (HVal.move' rfl) ?_
        obtain ⟨b7, b8, h⟩ := h
        refine HList.gvals (v := (.int .u8 (bt p0 (0 : Int).toNat))) rfl rfl rfl rfl (congrArg Value.bool hb6) (HVal.indexS' Tryd.runUnderlying9 rfl rfl b7 b8) ?_
        refine HList.gops rfl rfl rfl rfl (congrArg Value.bool hb6) (HOp.call' 32 [(.int .u8 (bt p0 (0 : Int).toNat))] (cap := []) rfl rfl Tryd.call32 (walk32 h)) ?_
        rintro _ H9 ⟨r11, rfl, h⟩
        refine HList.gvals (v := (.bool (!r11))) rfl rfl rfl rfl (congrArg Value.bool hb6) (HVal.not rfl) ?_
        refine HList.vals (v := (.bool (!r11))) rfl (HVal.pickF rfl hb6 rfl) ?_
        refine HList.nil ?_
        refine nt ?_
        exact ⟨(!r11), ⟨rfl, rfl, trivial⟩, h⟩
  · rintro ρ H_1 ⟨y4, hI, h⟩
    obtain ⟨ρ0, rfl⟩ : ∃ ρ0, ρ = (Env.set (Env.set ρ0 18 (.bool y4)) 0 (.string p0)) := ⟨ρ, hI.eq⟩
    clear hI; unfold F17_1 at h
    obtain ⟨hT, hF⟩ := h
    refine HW.cond y4 rfl (fun hb12 => ?_) (fun hb12 => ?_)
    · have h := hT hb12
      clear hT hF
      refine HW.seq ?_
      refine HW.region ?_
      refine HList.vals (v := (.bool false)) rfl (HVal.assign' rfl) ?_
      refine HList.nil ?_
      refine nt ?_
      refine HW.ret ?_
      refine tr ?_
      exact ⟨_, resOf1 rfl Res1.t, ⟨false, rfl, h⟩⟩
    · have h := hF hb12
      clear hT hF
      refine HW.skip ?_
      refine nt ?_
      refine HW.cut (fun ρ H_2 => Env.Is ρ [(0, (.string p0))] ∧ F17_2 Q p0 H_2) ?_ ?_
      · refine HW.seq ?_
        refine HW.region ?_
        refine HList.vals (v := (.string p0)) rfl (HVal.move' rfl) ?_
        refine HList.vals (v := (.int .i64 ((p0).size : Int))) rfl (HVal.lenS Tryd.runUnderlying9 rfl) ?_
        refine HList.vals (v := (.int .i64 0)) rfl (HVal.move' rfl) ?_
        refine HList.nil ?_
        refine nt ?_
        refine HW.block ?_
        refine HW.loop' (fun L3 hL3 => ?_)
        obtain ⟨X3, hX3⟩ : ∃ X3 : Int → Hp → Prop, ∀ (y14 : Int) (H_3 : Hp), X3 y14 H_3 ↔ ∀ ρ, Env.Is ρ [(0, (.string p0)), (20, (.int .i64 ((p0).size : Int))), (21, (.int .i64 y14))] → L3 ρ H_3 := ⟨_, fun _ _ => Iff.rfl⟩
        refine (hX3 _ _).1 (h X3 ?_) _ ?_
        rotate_left
        · exact ⟨rfl, rfl, rfl, trivial⟩
        clear h
        intro y14 H_3 h
        refine (hX3 _ _).2 fun ρ hI => ?_
        obtain ⟨ρ0, rfl⟩ : ∃ ρ0, ρ = (Env.set (Env.set (Env.set ρ0 21 (.int .i64 y14)) 20 (.int .i64 ((p0).size : Int))) 0 (.string p0)) := ⟨ρ, hI.eq⟩
        clear hI; unfold F17_L3b at h; refine hL3 _ _ ?_
        refine HW.seq ?_
        refine HW.region ?_
        refine HList.vals (v := (.bool (decide (y14 < ((p0).size : Int))))) rfl (HVal.lss rfl rfl) ?_
        refine HList.nil ?_
        refine nt ?_
        refine HW.seq ?_
        obtain ⟨hT, hF⟩ := h
        refine HW.cond (decide (y14 < ((p0).size : Int))) rfl (fun hb17 => ?_) (fun hb17 => ?_)
        · have h := hT hb17
          clear hT hF
          refine HW.skip ?_
          refine nt ?_
          refine HW.seq ?_
          refine HW.block ?_
          refine HW.seq ?_
          refine HW.region ?_
          refine HList.vals (v := (.int .i64 y14)) rfl (HVal.move' rfl) ?_
          refine HList.vals (v := (.int .i64 y14)) rfl (HVal.assign' rfl) ?_
          refine HList.nil ?_
          refine nt ?_
          refine HW.seq ?_
          refine HW.region ?_
          refine HList.vals (v := (.string p0)) rfl (HVal.move' rfl) ?_
          refine HList.vals (v := (.int .i64 y14)) rfl (HVal.move' rfl) ?_
          obtain ⟨b18, b19, h⟩ := h
          refine HList.vals (v := (.int .u8 (bt p0 y14.toNat))) rfl (HVal.indexS' Tryd.runUnderlying9 rfl rfl b18 b19) ?_
          refine HList.ops' rfl (HOp.call' 33 [(.int .u8 (bt p0 y14.toNat))] (cap := []) rfl rfl Tryd.call33 (walk33 h)) ?_
          rintro _ H20 ⟨r22, rfl, h⟩
          refine HList.vals (v := (.bool (!r22))) rfl (HVal.not rfl) ?_
          refine HList.nil ?_
          refine nt ?_
          obtain ⟨hT, hF⟩ := h
          refine HW.cond (!r22) rfl (fun hb23 => ?_) (fun hb23 => ?_)
          · have h := hT hb23
            clear hT hF
            refine HW.seq ?_
            refine HW.region ?_
            refine HList.vals (v := (.bool false)) rfl (HVal.assign' rfl) ?_
            refine HList.nil ?_
            refine nt ?_
            refine HW.ret ?_
            refine br ?_
            refine tr ?_
            refine tr ?_
            refine br ?_
            refine tr ?_
            exact ⟨_, resOf1 rfl Res1.t, ⟨false, rfl, h⟩⟩
          · have h := hF hb23
            clear hT hF
            refine HW.skip ?_
            refine nb ?_
            refine nt ?_
            refine HW.region ?_
            refine HList.vals (v := (.int .i64 (IntKind.i64.wrap (y14 + 1)))) rfl (HVal.add rfl rfl) ?_
            refine HList.vals (v := (.int .i64 (IntKind.i64.wrap (y14 + 1)))) rfl (HVal.move' rfl) ?_
            refine HList.nil ?_
            refine nt ?_
            exact (hX3 _ _).1 h _ ⟨rfl, rfl, rfl, trivial⟩
        · have h := hF hb17
          clear hT hF
          refine HW.exit ?_
          refine te ?_
          refine te ?_
          refine be ?_
          refine nt ?_
          exact ⟨⟨rfl, trivial⟩, h⟩
      · rintro ρ H_2 ⟨hI, h⟩
        obtain ⟨ρ0, rfl⟩ : ∃ ρ0, ρ = (Env.set ρ0 0 (.string p0)) := ⟨ρ, hI.eq⟩
        clear hI; unfold F17_2 at h
        refine HW.seq ?_
        refine HW.seq ?_
        refine HW.region ?_
        obtain ⟨x25, x26, x27, x28, x29, x30, x31, x32, x33, x34, x35, x36, x37, x38, x39, x40, c24, h⟩ := h
        refine HList.vals (v := (.agg #[(.string x25), (.string x26), (.string x27), (.string x28), (.string x29), (.string x30), (.string x31), (.string x32), (.string x33), (.string x34), (.string x35), (.string x36), (.string x37), (.string x38), (.string x39), (.string x40)])) rfl (HVal.loadN [(.string x25), (.string x26), (.string x27), (.string x28), (.string x29), (.string x30), (.string x31), (.string x32), (.string x33), (.string x34), (.string x35), (.string x36), (.string x37), (.string x38), (.string x39), (.string x40)] Tryd.isAgg52 Tryd.sizeOf52 rfl c24) ?_
        refine HList.vals (v := (.int .i64 0)) rfl (HVal.move' rfl) ?_
        refine HList.nil ?_
        refine nt ?_
        refine HW.block ?_
        refine HW.loop' (fun L4 hL4 => ?_)
        obtain ⟨X4, hX4⟩ : ∃ X4 : Int → Hp → Prop, ∀ (y41 : Int) (H_4 : Hp), X4 y41 H_4 ↔ ∀ ρ, Env.Is ρ [(0, (.string p0)), (30, (.agg #[(.string x25), (.string x26), (.string x27), (.string x28), (.string x29), (.string x30), (.string x31), (.string x32), (.string x33), (.string x34), (.string x35), (.string x36), (.string x37), (.string x38), (.string x39), (.string x40)])), (31, (.int .i64 y41))] → L4 ρ H_4 := ⟨_, fun _ _ => Iff.rfl⟩
        refine (hX4 _ _).1 (h X4 ?_) _ ?_
        rotate_left
        · exact ⟨rfl, rfl, rfl, trivial⟩
        clear h
        intro y41 H_4 h
        refine (hX4 _ _).2 fun ρ hI => ?_
        obtain ⟨ρ0, rfl⟩ : ∃ ρ0, ρ = (Env.set (Env.set (Env.set ρ0 31 (.int .i64 y41)) 30 (.agg #[(.string x25), (.string x26), (.string x27), (.string x28), (.string x29), (.string x30), (.string x31), (.string x32), (.string x33), (.string x34), (.string x35), (.string x36), (.string x37), (.string x38), (.string x39), (.string x40)])) 0 (.string p0)) := ⟨ρ, hI.eq⟩
        clear hI; unfold F17_L4b at h; refine hL4 _ _ ?_
        refine HW.seq ?_
        refine HW.region ?_
        refine HList.vals (v := (.bool (decide (y41 < 16)))) rfl (HVal.lss rfl rfl) ?_
        refine HList.nil ?_
        refine nt ?_
        refine HW.seq ?_
        obtain ⟨hT, hF⟩ := h
        refine HW.cond (decide (y41 < 16)) rfl (fun hb59 => ?_) (fun hb59 => ?_)
        · have h := hT hb59
          clear hT hF
          refine HW.skip ?_
          refine nt ?_
          refine HW.seq ?_
          refine HW.block ?_
          refine HW.seq ?_
          refine HW.region ?_
          obtain ⟨b61, b62, y60, b63, h⟩ := h
          refine HList.vals (v := (.string y60)) rfl (HVal.indexA Value.string [x25, x26, x27, x28, x29, x30, x31, x32, x33, x34, x35, x36, x37, x38, x39, x40] Tryd.runUnderlying52 Tryd.isAgg9 Tryd.sizeOf9 rfl rfl b61 b62 b63) ?_
          refine HList.vals (v := (.string y60)) rfl (HVal.assign' rfl) ?_
          refine HList.nil ?_
          refine nt ?_
          refine HW.seq ?_
          refine HW.region ?_
          refine HList.vals (v := (.string p0)) rfl (HVal.move' rfl) ?_
          refine HList.vals (v := (.string y60)) rfl (HVal.move' rfl) ?_
          refine HList.vals (v := (.bool (seq p0 y60))) rfl (HVal.eqlS rfl rfl) ?_
          refine HList.nil ?_
          refine nt ?_
          obtain ⟨hT, hF⟩ := h
          refine HW.cond (seq p0 y60) rfl (fun hb64 => ?_) (fun hb64 => ?_)
          · have h := hT hb64
            clear hT hF
            refine HW.seq ?_
            refine HW.region ?_
            refine HList.vals (v := (.bool false)) rfl (HVal.assign' rfl) ?_
            refine HList.nil ?_
            refine nt ?_
            refine HW.ret ?_
            refine br ?_
            refine tr ?_
            refine tr ?_
            refine br ?_
            refine tr ?_
            exact ⟨_, resOf1 rfl Res1.t, ⟨false, rfl, h⟩⟩
          · have h := hF hb64
            clear hT hF
            refine HW.skip ?_
            refine nb ?_
            refine nt ?_
            refine HW.region ?_
            refine HList.vals (v := (.int .i64 (IntKind.i64.wrap (y41 + 1)))) rfl (HVal.add rfl rfl) ?_
            refine HList.vals (v := (.int .i64 (IntKind.i64.wrap (y41 + 1)))) rfl (HVal.move' rfl) ?_
            refine HList.nil ?_
            refine nt ?_
            exact (hX4 _ _).1 h _ ⟨rfl, rfl, rfl, trivial⟩
        · have h := hF hb59
          clear hT hF
          refine HW.exit ?_
          refine te ?_
          refine te ?_
          refine be ?_
          refine nt ?_
          refine HW.seq ?_
          refine HW.region ?_
          refine HList.vals (v := (.bool true)) rfl (HVal.assign' rfl) ?_
          refine HList.nil ?_
          refine nt ?_
          refine HW.ret ?_
          exact ⟨_, resOf1 rfl Res1.t, ⟨true, rfl, h⟩⟩

def F23b (X : Int → Hp → (ByteArray → Hp → Prop) → Prop) (p0 : Int) (H : Hp) (Q : ByteArray → Hp → Prop) : Prop :=
∀ H1 : Hp, H1 = Array.push H (.cells #[(.int .u8 (IntKind.u8.wrap (IntKind.i64.wrap (48 + (Int.tmod p0 (10 : Int))))))] 5) → (
 ∃ L3 : List Int, (rds H1 ((Sl.mk (some ⟨H.size, 0, none⟩) 1 1)).b (L3.map (Value.int .u8)) ∧ L3.length = ((Sl.mk (some ⟨H.size, 0, none⟩) 1 1)).n) ∧ (
 ((decide ((10 : Int) ≤ p0)) = true → (X (IntKind.i64.wrap (Int.tdiv p0 (10 : Int))) H1 (fun (r8 : ByteArray) (H6 : Hp) => 
 (r8).size + ((bst L3)).size ≤ 9223372036854775807 ∧ (
 Q (r8 ++ (bst L3)) H6)))) ∧
 ((decide ((10 : Int) ≤ p0)) = false → (Q (bst L3) H1))))
def F23 (p0 : Int) (H : Hp) (Q : ByteArray → Hp → Prop) : Prop :=
  ∀ X : Int → Hp → (ByteArray → Hp → Prop) → Prop, (∀ (p0 : Int) (H : Hp) (Q : ByteArray → Hp → Prop), F23b X p0 H Q → X p0 H Q) → X p0 H Q
set_option maxRecDepth 100000 in
set_option maxHeartbeats 4000000 in
theorem walk23 {w0 : World} {p0 : Int} {H : Hp} {Q : ByteArray → Hp → Prop} (h : F23 p0 H Q) :
    Good Tryd.prog w0 23 #[(.int .i64 p0)] H (fun v H => ∃ (r0 : ByteArray) , v = (.string r0) ∧ Q r0 H) := by
  obtain ⟨X, hX⟩ : ∃ X : Int → Hp → (ByteArray → Hp → Prop) → Prop, ∀ (p0 : Int) (H : Hp) (Q : ByteArray → Hp → Prop), X p0 H Q ↔ Good Tryd.prog w0 23 #[(.int .i64 p0)] H (fun v H => ∃ (r0 : ByteArray) , v = (.string r0) ∧ Q r0 H) := ⟨_, fun _ _ _ => Iff.rfl⟩
  refine (hX _ _ _).1 (h X ?_)
  clear h
  intro p0 H Q h
  refine (hX _ _ _).2 ?_
  unfold F23b at h
  refine Good.enter' (fn := Tryd.f23) Tryd.func23 rfl rfl rfl ?_
  refine HW.seq ?_
  refine HW.region ?_
  refine HList.vals (v := (.string (ByteArray.mk #[]))) rfl (HVal.assign' rfl) ?_
  refine HList.nil ?_
  refine nt ?_
  refine HW.seq ?_
  refine HW.region ?_
  refine HList.vals (v := (.int .i64 p0)) rfl (HVal.move' rfl) ?_
  refine HList.vals (v := (.int .i64 (Int.tmod p0 (10 : Int)))) rfl (HVal.rem rfl rfl (by decide)) ?_
  refine HList.vals (v := (.int .i64 (IntKind.i64.wrap (48 + (Int.tmod p0 (10 : Int)))))) rfl (HVal.add rfl rfl) ?_
  refine HList.vals (v := (.int .u8 (IntKind.u8.wrap (IntKind.i64.wrap (48 + (Int.tmod p0 (10 : Int))))))) rfl (HVal.convI Tryd.runUnderlying3 Tryd.runUnderlying5 rfl) ?_
  refine HList.ops' rfl (HOp.buildSlice' (zs := [(.int .u8 0)]) (cs := [(.int .u8 (IntKind.u8.wrap (IntKind.i64.wrap (48 + (Int.tmod p0 (10 : Int))))))]) Tryd.runUnderlying43 Tryd.sizeOf5 Tryd.zeroValue5 (by decide) (by kernel_rfl) rfl (by decide)) ?_
  rintro _ H1 ⟨rfl, e2⟩
  replace h := h H1 e2
  obtain ⟨L3, c4, h⟩ := h
  refine HList.vals (v := (.string (bst L3))) rfl (HVal.convBS (L := L3) Tryd.runUnderlying43 Tryd.runUnderlying9 Tryd.runUnderlying5 rfl c4) ?_
  refine HList.vals (v := (.string (bst L3))) rfl (HVal.assign' rfl) ?_
  refine HList.nil ?_
  refine nt ?_
  refine HW.seq ?_
  refine HW.seq ?_
  refine HW.region ?_
  refine HList.vals (v := (.int .i64 p0)) rfl (HVal.move' rfl) ?_
  refine HList.vals (v := (.bool (decide ((10 : Int) ≤ p0)))) rfl (HVal.geq rfl rfl) ?_
  refine HList.nil ?_
  refine nt ?_
  obtain ⟨hT, hF⟩ := h
  refine HW.cond (decide ((10 : Int) ≤ p0)) rfl (fun hb5 => ?_) (fun hb5 => ?_)
  · have h := hT hb5
    clear hT hF
    refine HW.seq ?_
    refine HW.region ?_
    refine HList.vals (v := (.int .i64 p0)) rfl (HVal.move' rfl) ?_
    refine HList.vals (v := (.int .i64 (IntKind.i64.wrap (Int.tdiv p0 (10 : Int))))) rfl (HVal.quo rfl rfl (by decide)) ?_
    refine HList.ops' rfl (HOp.call' 23 [(.int .i64 (IntKind.i64.wrap (Int.tdiv p0 (10 : Int))))] (cap := []) rfl rfl Tryd.call23 ((hX _ _ _).1 h)) ?_
    rintro _ H6 ⟨r8, rfl, h⟩
    refine HList.vals (v := (.string r8)) rfl (HVal.assign' rfl) ?_
    refine HList.nil ?_
    refine nt ?_
    refine HW.seq ?_
    refine HW.region ?_
    refine HList.vals (v := (.string r8)) rfl (HVal.move' rfl) ?_
    refine HList.vals (v := (.string (bst L3))) rfl (HVal.move' rfl) ?_
    obtain ⟨z9, h⟩ := h
    refine HList.vals (v := (.string (r8 ++ (bst L3)))) rfl (HVal.addS rfl rfl z9) ?_
    refine HList.vals (v := (.string (r8 ++ (bst L3)))) rfl (HVal.assign' rfl) ?_
    refine HList.nil ?_
    refine nt ?_
    refine HW.ret ?_
    refine tr ?_
    exact ⟨_, resOf1 rfl Res1.t, ⟨(r8 ++ (bst L3)), rfl, h⟩⟩
  · have h := hF hb5
    clear hT hF
    refine HW.skip ?_
    refine nt ?_
    refine HW.seq ?_
    refine HW.region ?_
    refine HList.vals (v := (.string (bst L3))) rfl (HVal.move' rfl) ?_
    refine HList.vals (v := (.string (bst L3))) rfl (HVal.assign' rfl) ?_
    refine HList.nil ?_
    refine nt ?_
    refine HW.ret ?_
    exact ⟨_, resOf1 rfl Res1.t, ⟨(bst L3), rfl, h⟩⟩

def F8_2 (Q : ByteArray → Sl → Hp → Prop) (y16 : Addr) (y17 : Addr) (H_2 : Hp) : Prop :=
∃ (x144 : ByteArray) (x145 : Sl), cells H_2 y17 [(.string x144), (Sl.v x145)] 0 ∧ (
 mayw H_2 y16 2 0 ∧ ∀ H146 : Hp, H146 = sets H_2 y16 [(.string x144), (Sl.v x145)] 0 → (
 ∃ (x149 : ByteArray) (x150 : Sl), cells H146 y16 [(.string x149), (Sl.v x150)] 0 ∧ (
 Q x149 x150 H146)))
def F8_6 (Q : ByteArray → Sl → Hp → Prop) (X3 : Int → Hp → Prop) (y87 : Sl) (y88 : Sl) (y89 : Addr) (y90 : Addr) (y91 : Int) (y120 : ByteArray) (H_6 : Hp) : Prop :=
∃ x122 : Sl, cell H_6 (Addr.add y90 1) = some (Sl.v x122) ∧ (
 ∃ a123 : Addr, (y88).b = some a123 ∧ (0 : Int) ≤ y91 ∧ y91 < ((y88).n : Int) ∧ (
 ∃ x128 : Int, cell H_6 (Addr.add a123 (y91.toNat * 1)) = some (.int .i64 x128) ∧ (
 F12 x128 3 H_6 (fun (r131 : Int) (H129 : Hp) => 
 cell H129 (Addr.add y90 1) = some (Sl.v x122) ∧ (
 ∀ H133 : Hp, H133 = Array.push H129 (.cells #[(.string y120), (.int .i64 (IntKind.i64.wrap (1 + r131)))] 38) → (
 cell H133 (Addr.add y90 1) = some (Sl.v x122) ∧ (
 AppendF H133 38 2 24 #[(.string (ByteArray.mk #[])), (.int .i64 0)] x122 ((Sl.mk (some ⟨H129.size, 0, none⟩) 1 1)).b ((Sl.mk (some ⟨H129.size, 0, none⟩) 1 1)).n (fun (r138 : Sl) (H136 : Hp) => 
 (cell H136 (Addr.add y90 1)).isSome = true ∧ frz H136 (Addr.add y90 1) = false ∧ ∀ H139 : Hp, H139 = setc H136 (Addr.add y90 1) (Sl.v r138) → (
 X3 (IntKind.i64.wrap (y91 + 1)) H139)))))))))
def F8_8 (Q : ByteArray → Sl → Hp → Prop) (X3 : Int → Hp → Prop) (X7 : ByteArray → Int → Hp → Prop) (y100 : Sl) (y101 : Sl) (y102 : Addr) (y103 : Addr) (y104 : Int) (y105 : Int) (y119 : ByteArray) (H_8 : Hp) : Prop :=
X7 y119 (IntKind.i64.wrap (y105 + 1)) H_8
def F8_L7b (Q : ByteArray → Sl → Hp → Prop) (X3 : Int → Hp → Prop) (X7 : ByteArray → Int → Hp → Prop) (y94 : Sl) (y95 : Sl) (y96 : Addr) (y97 : Addr) (y98 : Int) (y92 : ByteArray) (y93 : Int) (H_7 : Hp) : Prop :=
((decide (y93 < y98)) = true → (∃ x107 : Sl, cell H_7 (Addr.add y97 1) = some (Sl.v x107) ∧ (
 ∃ a108 : Addr, (x107).b = some a108 ∧ (0 : Int) ≤ y93 ∧ y93 < ((x107).n : Int) ∧ (
 ∃ x113 : ByteArray, cell H_7 (Addr.add a108 (y93.toNat * 2)) = some (.string x113) ∧ (
 ((seq x113 y92) = true → (F23 y98 H_7 (fun (r117 : ByteArray) (H115 : Hp) => 
 (S_a).size + (r117).size ≤ 9223372036854775807 ∧ (
 F8_8 Q X3 X7 y94 y95 y96 y97 y98 y93 (S_a ++ r117) H115)))) ∧
 ((seq x113 y92) = false → (F8_8 Q X3 X7 y94 y95 y96 y97 y98 y93 y92 H_7))))))) ∧
 ((decide (y93 < y98)) = false → (F8_6 Q X3 y94 y95 y96 y97 y98 y92 H_7))
def F8_L7 (Q : ByteArray → Sl → Hp → Prop) (X3 : Int → Hp → Prop) (y94 : Sl) (y95 : Sl) (y96 : Addr) (y97 : Addr) (y98 : Int) (y92 : ByteArray) (y93 : Int) (H_7 : Hp) : Prop :=
  ∀ X7 : ByteArray → Int → Hp → Prop, (∀ (y92 : ByteArray) (y93 : Int) (H_7 : Hp), F8_L7b Q X3 X7 y94 y95 y96 y97 y98 y92 y93 H_7 → X7 y92 y93 H_7) → X7 y92 y93 H_7
def F8_4 (Q : ByteArray → Sl → Hp → Prop) (X3 : Int → Hp → Prop) (y30 : Sl) (y31 : Sl) (y32 : Addr) (y33 : Addr) (y34 : Int) (y86 : ByteArray) (H_4 : Hp) : Prop :=
F8_L7 Q X3 y30 y31 y32 y33 y34 y86 0 H_4
def F8_5 (Q : ByteArray → Sl → Hp → Prop) (X3 : Int → Hp → Prop) (y35 : Sl) (y36 : Sl) (y37 : Addr) (y38 : Addr) (y39 : Int) (y40 : ByteArray) (y78 : Bool) (H_5 : Hp) : Prop :=
(y78 = true → (∃ a80 : Addr, (y35).b = some a80 ∧ (0 : Int) ≤ y39 ∧ y39 < ((y35).n : Int) ∧ (
 ∃ x85 : ByteArray, cell H_5 (Addr.add a80 (y39.toNat * 1)) = some (.string x85) ∧ (
 F8_4 Q X3 y35 y36 y37 y38 y39 x85 H_5)))) ∧
 (y78 = false → (F8_4 Q X3 y35 y36 y37 y38 y39 y40 H_5))
def F8_L3b (Q : ByteArray → Sl → Hp → Prop) (X3 : Int → Hp → Prop) (y19 : Sl) (y20 : Sl) (y21 : Addr) (y22 : Addr) (y18 : Int) (H_3 : Hp) : Prop :=
((decide (y18 < ((y20).n : Int))) = true → (((decide (y18 < 16)) = true → (F23 y18 H_3 (fun (r28 : ByteArray) (H26 : Hp) => 
 (S_a).size + (r28).size ≤ 9223372036854775807 ∧ (
 ((decide (y18 < ((y19).n : Int))) = true → (∃ a43 : Addr, (y19).b = some a43 ∧ (0 : Int) ≤ y18 ∧ y18 < ((y19).n : Int) ∧ (
 ∃ x48 : ByteArray, cell H26 (Addr.add a43 (y18.toNat * 1)) = some (.string x48) ∧ (
 F17 x48 H26 (fun (r51 : Bool) (H49 : Hp) => 
 (r51 = true → (∃ a54 : Addr, (y19).b = some a54 ∧ (0 : Int) ≤ y18 ∧ y18 < ((y19).n : Int) ∧ (
 ∃ x59 : ByteArray, cell H49 (Addr.add a54 (y18.toNat * 1)) = some (.string x59) ∧ (
 ((decide ((0 : Int) < ((x59).size : Int))) = true → (∃ a62 : Addr, (y19).b = some a62 ∧ (0 : Int) ≤ y18 ∧ y18 < ((y19).n : Int) ∧ (
 ∃ x67 : ByteArray, cell H49 (Addr.add a62 (y18.toNat * 1)) = some (.string x67) ∧ (
 (0 : Int) ≤ 0 ∧ (0 : Int).toNat < (x67).size ∧ (
 ((decide ((98 : Int) ≤ (bt x67 (0 : Int).toNat))) = true → (∃ a72 : Addr, (y19).b = some a72 ∧ (0 : Int) ≤ y18 ∧ y18 < ((y19).n : Int) ∧ (
 ∃ x77 : ByteArray, cell H49 (Addr.add a72 (y18.toNat * 1)) = some (.string x77) ∧ (
 F8_5 Q X3 y19 y20 y21 y22 y18 (S_a ++ r28) (!(seq x77 S_time)) H49)))) ∧
 ((decide ((98 : Int) ≤ (bt x67 (0 : Int).toNat))) = false → (F8_5 Q X3 y19 y20 y21 y22 y18 (S_a ++ r28) false H49))))))) ∧
 ((decide ((0 : Int) < ((x59).size : Int))) = false → (F8_5 Q X3 y19 y20 y21 y22 y18 (S_a ++ r28) false H49)))))) ∧
 (r51 = false → (F8_5 Q X3 y19 y20 y21 y22 y18 (S_a ++ r28) false H49))))))) ∧
 ((decide (y18 < ((y19).n : Int))) = false → (F8_5 Q X3 y19 y20 y21 y22 y18 (S_a ++ r28) false H26)))))) ∧
 ((decide (y18 < 16)) = false → (F8_2 Q y21 y22 H_3)))) ∧
 ((decide (y18 < ((y20).n : Int))) = false → (F8_2 Q y21 y22 H_3))
def F8_L3 (Q : ByteArray → Sl → Hp → Prop) (y19 : Sl) (y20 : Sl) (y21 : Addr) (y22 : Addr) (y18 : Int) (H_3 : Hp) : Prop :=
  ∀ X3 : Int → Hp → Prop, (∀ (y18 : Int) (H_3 : Hp), F8_L3b Q X3 y19 y20 y21 y22 y18 H_3 → X3 y18 H_3) → X3 y18 H_3
def F8_1 (Q : ByteArray → Sl → Hp → Prop) (y3 : Sl) (y4 : Sl) (y5 : Addr) (y10 : ByteArray) (H_1 : Hp) : Prop :=
∀ H11 : Hp, H11 = Array.push H_1 (.cells #[(.string (ByteArray.mk #[])), (Sl.v Sl.nil)] 27) → (
 mayw H11 ⟨H_1.size, 0, none⟩ 2 0 ∧ ∀ H13 : Hp, H13 = sets H11 ⟨H_1.size, 0, none⟩ [(.string y10), (Sl.v Sl.nil)] 0 → (
 F8_L3 Q y3 y4 y5 ⟨H_1.size, 0, none⟩ 0 H13))
def F8 (p0 : ByteArray) (p1 : Sl) (p2 : Sl) (H : Hp) (Q : ByteArray → Sl → Hp → Prop) : Prop :=
∀ H1 : Hp, H1 = Array.push H (.cells #[(.string (ByteArray.mk #[])), (Sl.v Sl.nil)] 27) → (
 F17 p0 H1 (fun (r8 : Bool) (H6 : Hp) => 
 ((!r8) = true → (F8_1 Q p1 p2 ⟨H.size, 0, none⟩ S_T H6)) ∧
 ((!r8) = false → (F8_1 Q p1 p2 ⟨H.size, 0, none⟩ p0 H6))))
set_option maxRecDepth 100000 in
set_option maxHeartbeats 4000000 in
theorem walk8 {w0 : World} {p0 : ByteArray} {p1 : Sl} {p2 : Sl} {H : Hp} {Q : ByteArray → Sl → Hp → Prop} (h : F8 p0 p1 p2 H Q) :
    Good Tryd.prog w0 8 #[(.string p0), (Sl.v p1), (Sl.v p2)] H (fun v H => ∃ (r0 : ByteArray) (r1 : Sl) , v = (.agg #[(.string r0), (Sl.v r1)]) ∧ Q r0 r1 H) := by
  unfold F8 at h
  refine Good.enter' (fn := Tryd.f8) Tryd.func8 rfl rfl rfl ?_
  refine HW.seq ?_
  refine HW.region ?_
  refine HList.ops' rfl (HOp.alloc Tryd.zeroValue27) ?_
  rintro _ H1 ⟨rfl, e2⟩
  replace h := h H1 e2
  refine HList.nil ?_
  refine nt ?_
  refine HW.cut (fun ρ H_1 => ∃ (y10 : ByteArray), Env.Is ρ [(1, (Sl.v p1)), (2, (Sl.v p2)), (6, (.pointer (some ⟨H.size, 0, none⟩))), (0, (.string y10))] ∧ F8_1 Q p1 p2 ⟨H.size, 0, none⟩ y10 H_1) ?_ ?_
  · refine HW.seq ?_
    refine HW.region ?_
    refine HList.vals (v := (.string p0)) rfl (HVal.move' rfl) ?_
    refine HList.ops' rfl (HOp.call' 17 [(.string p0)] (cap := []) rfl rfl Tryd.call17 (walk17 h)) ?_
    rintro _ H6 ⟨r8, rfl, h⟩
    refine HList.vals (v := (.bool (!r8))) rfl (HVal.not rfl) ?_
    refine HList.nil ?_
    refine nt ?_
    obtain ⟨hT, hF⟩ := h
    refine HW.cond (!r8) rfl (fun hb9 => ?_) (fun hb9 => ?_)
    · have h := hT hb9
      clear hT hF
      refine HW.region ?_
      refine HList.vals (v := (.string S_T)) rfl (HVal.assign' rfl) ?_
      refine HList.nil ?_
      refine nt ?_
      exact ⟨S_T, ⟨rfl, rfl, rfl, rfl, trivial⟩, h⟩
    · have h := hF hb9
      clear hT hF
      refine HW.skip ?_
      refine nt ?_
      exact ⟨p0, ⟨rfl, rfl, rfl, rfl, trivial⟩, h⟩
  · rintro ρ H_1 ⟨y10, hI, h⟩
    obtain ⟨ρ0, rfl⟩ : ∃ ρ0, ρ = (Env.set (Env.set (Env.set (Env.set ρ0 0 (.string y10)) 6 (.pointer (some ⟨H.size, 0, none⟩))) 2 (Sl.v p2)) 1 (Sl.v p1)) := ⟨ρ, hI.eq⟩
    clear hI; unfold F8_1 at h
    refine HW.seq ?_
    refine HW.region ?_
    refine HList.vals (v := (.string y10)) rfl (HVal.move' rfl) ?_
    refine HList.vals (v := (.agg #[(.string y10), (Sl.v Sl.nil)])) rfl (HVal.build' (cs := [(.string y10), (Sl.v Sl.nil)]) Tryd.runUnderlying27 Tryd.zeroValue27 places27 rfl) ?_
    refine HList.ops' rfl (HOp.alloc Tryd.zeroValue27) ?_
    rintro _ H11 ⟨rfl, e12⟩
    replace h := h H11 e12
    obtain ⟨z15, h⟩ := h
    refine HList.opsn (HOp.storeN' (l := [(.string y10), (Sl.v Sl.nil)]) Tryd.sizeOf27 rfl rfl rfl z15) ?_
    rintro _ H13 e14
    replace h := h H13 e14
    refine HList.nil ?_
    refine nt ?_
    refine HW.cut (fun ρ H_2 => Env.Is ρ [(6, (.pointer (some ⟨H.size, 0, none⟩))), (7, (.pointer (some ⟨H_1.size, 0, none⟩)))] ∧ F8_2 Q ⟨H.size, 0, none⟩ ⟨H_1.size, 0, none⟩ H_2) ?_ ?_
    · refine HW.seq ?_
      refine HW.region ?_
      refine HList.vals (v := (.int .i64 0)) rfl (HVal.assign' rfl) ?_
      refine HList.nil ?_
      refine nt ?_
      refine HW.block ?_
      refine HW.loop' (fun L3 hL3 => ?_)
      obtain ⟨X3, hX3⟩ : ∃ X3 : Int → Hp → Prop, ∀ (y18 : Int) (H_3 : Hp), X3 y18 H_3 ↔ ∀ ρ, Env.Is ρ [(1, (Sl.v p1)), (2, (Sl.v p2)), (6, (.pointer (some ⟨H.size, 0, none⟩))), (7, (.pointer (some ⟨H_1.size, 0, none⟩))), (8, (.int .i64 y18))] → L3 ρ H_3 := ⟨_, fun _ _ => Iff.rfl⟩
      refine (hX3 _ _).1 (h X3 ?_) _ ?_
      rotate_left
      · exact ⟨rfl, rfl, rfl, rfl, rfl, trivial⟩
      clear h
      intro y18 H_3 h
      refine (hX3 _ _).2 fun ρ hI => ?_
      obtain ⟨ρ0, rfl⟩ : ∃ ρ0, ρ = (Env.set (Env.set (Env.set (Env.set (Env.set ρ0 8 (.int .i64 y18)) 7 (.pointer (some ⟨H_1.size, 0, none⟩))) 6 (.pointer (some ⟨H.size, 0, none⟩))) 2 (Sl.v p2)) 1 (Sl.v p1)) := ⟨ρ, hI.eq⟩
      clear hI; unfold F8_L3b at h; refine hL3 _ _ ?_
      refine HW.seq ?_
      refine HW.seq ?_
      refine HW.region ?_
      refine HList.vals (v := (.int .i64 y18)) rfl (HVal.move' rfl) ?_
      refine HList.vals (v := (Sl.v p2)) rfl (HVal.move' rfl) ?_
      refine HList.vals (v := (.int .i64 ((p2).n : Int))) rfl (HVal.len Tryd.runUnderlying22 rfl) ?_
      refine HList.vals (v := (.bool (decide (y18 < ((p2).n : Int))))) rfl (HVal.lss rfl rfl) ?_
      refine HList.vals (v := (.bool (decide (y18 < ((p2).n : Int))))) rfl (HVal.move' rfl) ?_
      obtain ⟨hT, hF⟩ := h
      rcases Bool.eq_false_or_eq_true (decide (y18 < ((p2).n : Int))) with hb23 | hb24
      · have h := hT hb23
        clear hT hF
        refine HList.gvals (v := (.int .i64 y18)) rfl rfl rfl rfl (congrArg Value.bool hb23) (HVal.move' rfl) ?_
        refine HList.gvals (v := (.bool (decide (y18 < 16)))) rfl rfl rfl rfl (congrArg Value.bool hb23) (HVal.lss rfl rfl) ?_
        refine HList.vals (v := (.bool (decide (y18 < 16)))) rfl (HVal.pickT rfl hb23 rfl) ?_
        refine HList.nil ?_
        refine nt ?_
        obtain ⟨hT, hF⟩ := h
        refine HW.cond (decide (y18 < 16)) rfl (fun hb25 => ?_) (fun hb25 => ?_)
        · have h := hT hb25
          clear hT hF
          refine HW.skip ?_
          refine nt ?_
          refine HW.seq ?_
          refine HW.block ?_
          refine HW.seq ?_
          refine HW.region ?_
          refine HList.vals (v := (.int .i64 y18)) rfl (HVal.move' rfl) ?_
          refine HList.ops' rfl (HOp.call' 23 [(.int .i64 y18)] (cap := []) rfl rfl Tryd.call23 (walk23 h)) ?_
          rintro _ H26 ⟨r28, rfl, h⟩
          obtain ⟨z29, h⟩ := h
          refine HList.vals (v := (.string (S_a ++ r28))) rfl (HVal.addS rfl rfl z29) ?_
          refine HList.vals (v := (.string (S_a ++ r28))) rfl (HVal.assign' rfl) ?_
          refine HList.nil ?_
          refine nt ?_
          refine HW.cut (fun ρ H_4 => ∃ (y86 : ByteArray), Env.Is ρ [(1, (Sl.v p1)), (2, (Sl.v p2)), (6, (.pointer (some ⟨H.size, 0, none⟩))), (7, (.pointer (some ⟨H_1.size, 0, none⟩))), (8, (.int .i64 y18)), (9, (.string y86))] ∧ F8_4 Q X3 p1 p2 ⟨H.size, 0, none⟩ ⟨H_1.size, 0, none⟩ y18 y86 H_4) ?_ ?_
          · refine HW.cut (fun ρ H_5 => ∃ (y78 : Bool), Env.Is ρ [(1, (Sl.v p1)), (2, (Sl.v p2)), (6, (.pointer (some ⟨H.size, 0, none⟩))), (7, (.pointer (some ⟨H_1.size, 0, none⟩))), (8, (.int .i64 y18)), (9, (.string (S_a ++ r28))), (62, (.bool y78))] ∧ F8_5 Q X3 p1 p2 ⟨H.size, 0, none⟩ ⟨H_1.size, 0, none⟩ y18 (S_a ++ r28) y78 H_5) ?_ ?_
            · refine HW.region ?_
              refine HList.vals (v := (.int .i64 y18)) rfl (HVal.move' rfl) ?_
              refine HList.vals (v := (Sl.v p1)) rfl (HVal.move' rfl) ?_
              refine HList.vals (v := (.int .i64 ((p1).n : Int))) rfl (HVal.len Tryd.runUnderlying42 rfl) ?_
              refine HList.vals (v := (.bool (decide (y18 < ((p1).n : Int))))) rfl (HVal.lss rfl rfl) ?_
              refine HList.vals (v := (.bool (decide (y18 < ((p1).n : Int))))) rfl (HVal.move' rfl) ?_
              obtain ⟨hT, hF⟩ := h
              rcases Bool.eq_false_or_eq_true (decide (y18 < ((p1).n : Int))) with hb41 | hb42
              · have h := hT hb41
                clear hT hF
                refine HList.gvals (v := (Sl.v p1)) rfl rfl rfl rfl (congrArg Value.bool hb41) (HVal.move' rfl) ?_
                refine HList.gvals (v := (.int .i64 y18)) rfl rfl rfl rfl (congrArg Value.bool hb41) (HVal.move' rfl) ?_
                obtain ⟨a43, e44, b45, b46, h⟩ := h
                refine HList.gvals (v := (.pointer (some (Addr.add a43 (y18.toNat * 1))))) rfl rfl rfl rfl (congrArg Value.bool hb41) (HVal.indexAddr Tryd.runUnderlying42 Tryd.sizeOf9 (Sl.v_some rfl e44) rfl b45 b46) ?_
                obtain ⟨x48, c47, h⟩ := h
                refine HList.gvals (v := (.string x48)) rfl rfl rfl rfl (congrArg Value.bool hb41) (HVal.load1 Tryd.isAgg9 rfl c47) ?_
                refine HList.gops rfl rfl rfl rfl (congrArg Value.bool hb41) (HOp.call' 17 [(.string x48)] (cap := []) rfl rfl Tryd.call17 (walk17 h)) ?_
                rintro _ H49 ⟨r51, rfl, h⟩
                refine HList.vals (v := (.bool r51)) rfl (HVal.pickT rfl hb41 rfl) ?_
                refine HList.vals (v := (.bool r51)) rfl (HVal.move' rfl) ?_
                obtain ⟨hT, hF⟩ := h
                rcases Bool.eq_false_or_eq_true r51 with hb52 | hb53
                · have h := hT hb52
                  clear hT hF
                  refine HList.gvals (v := (Sl.v p1)) rfl rfl rfl rfl (congrArg Value.bool hb52) (HVal.move' rfl) ?_
                  refine HList.gvals (v := (.int .i64 y18)) rfl rfl rfl rfl (congrArg Value.bool hb52) (HVal.move' rfl) ?_
                  obtain ⟨a54, e55, b56, b57, h⟩ := h
                  refine HList.gvals (v := (.pointer (some (Addr.add a54 (y18.toNat * 1))))) rfl rfl rfl rfl (congrArg Value.bool hb52) (HVal.indexAddr Tryd.runUnderlying42 Tryd.sizeOf9 (Sl.v_some rfl e55) rfl b56 b57) ?_
                  obtain ⟨x59, c58, h⟩ := h
                  refine HList.gvals (v := (.string x59)) rfl rfl rfl rfl (congrArg Value.bool hb52) (HVal.load1 Tryd.isAgg9 rfl c58) ?_
                  refine HList.gvals (v := (.int .i64 ((x59).size : Int))) rfl rfl rfl rfl (congrArg Value.bool hb52) (HVal.lenS Tryd.runUnderlying9 rfl) ?_
                  refine HList.gvals (v := (.bool (decide ((0 : Int) < ((x59).size : Int))))) rfl rfl rfl rfl (congrArg Value.bool hb52) (HVal.gtr rfl rfl) ?_
                  refine HList.vals (v := (.bool (decide ((0 : Int) < ((x59).size : Int))))) rfl (HVal.pickT rfl hb52 rfl) ?_
                  refine HList.vals (v := (.bool (decide ((0 : Int) < ((x59).size : Int))))) rfl (HVal.move' rfl) ?_
                  obtain ⟨hT, hF⟩ := h
                  rcases Bool.eq_false_or_eq_true (decide ((0 : Int) < ((x59).size : Int))) with hb60 | hb61
                  · have h := hT hb60
                    clear hT hF
                    refine HList.gvals (v := (Sl.v p1)) rfl rfl rfl rfl (congrArg Value.bool hb60) (HVal.move' rfl) ?_
                    refine HList.gvals (v := (.int .i64 y18)) rfl rfl rfl rfl (congrArg Value.bool hb60) (HVal.move' rfl) ?_
                    obtain ⟨a62, e63, b64, b65, h⟩ := h
                    refine HList.gvals (v := (.pointer (some (Addr.add a62 (y18.toNat * 1))))) rfl rfl rfl rfl (congrArg Value.bool hb60) (HVal.indexAddr Tryd.runUnderlying42 Tryd.sizeOf9 (Sl.v_some rfl e63) rfl b64 b65) ?_
                    obtain ⟨x67, c66, h⟩ := h
                    refine HList.gvals (v := (.string x67)) rfl rfl rfl rfl (congrArg Value.bool hb60) (HVal.load1 Tryd.isAgg9 rfl c66) ?_
                    obtain ⟨b68, b69, h⟩ := h
                    refine HList.gvals (v := (.int .u8 (bt x67 (0 : Int).toNat))) rfl rfl rfl rfl (congrArg Value.bool hb60) (HVal.indexS' Tryd.runUnderlying9 rfl rfl b68 b69) ?_
                    refine HList.gvals (v := (.bool (decide ((98 : Int) ≤ (bt x67 (0 : Int).toNat))))) rfl rfl rfl rfl (congrArg Value.bool hb60) (HVal.geq rfl rfl) ?_
                    refine HList.vals (v := (.bool (decide ((98 : Int) ≤ (bt x67 (0 : Int).toNat))))) rfl (HVal.pickT rfl hb60 rfl) ?_
                    refine HList.vals (v := (.bool (decide ((98 : Int) ≤ (bt x67 (0 : Int).toNat))))) rfl (HVal.move' rfl) ?_
                    obtain ⟨hT, hF⟩ := h
                    rcases Bool.eq_false_or_eq_true (decide ((98 : Int) ≤ (bt x67 (0 : Int).toNat))) with hb70 | hb71
                    · have h := hT hb70
                      clear hT hF
                      refine HList.gvals (v := (Sl.v p1)) rfl rfl rfl rfl (congrArg Value.bool hb70) (HVal.move' rfl) ?_
                      refine HList.gvals (v := (.int .i64 y18)) rfl rfl rfl rfl (congrArg Value.bool hb70) (HVal.move' rfl) ?_
                      obtain ⟨a72, e73, b74, b75, h⟩ := h
                      refine HList.gvals (v := (.pointer (some (Addr.add a72 (y18.toNat * 1))))) rfl rfl rfl rfl (congrArg Value.bool hb70) (HVal.indexAddr Tryd.runUnderlying42 Tryd.sizeOf9 (Sl.v_some rfl e73) rfl b74 b75) ?_
                      obtain ⟨x77, c76, h⟩ := h
                      refine HList.gvals (v := (.string x77)) rfl rfl rfl rfl (congrArg Value.bool hb70) (HVal.load1 Tryd.isAgg9 rfl c76) ?_
                      refine HList.gvals (v := (.bool (!(seq x77 S_time)))) rfl rfl rfl rfl (congrArg Value.bool hb70) (HVal.neqS rfl rfl) ?_
                      refine HList.vals (v := (.bool (!(seq x77 S_time)))) rfl (HVal.pickT rfl hb70 rfl) ?_
                      refine HList.nil ?_
                      refine nt ?_
                      exact ⟨(!(seq x77 S_time)), ⟨rfl, rfl, rfl, rfl, rfl, rfl, rfl, trivial⟩, h⟩
                    · have h := hF hb71
                      clear hT hF
                      refine HList.gskips rfl rfl rfl rfl (congrArg Value.bool hb71) ?_
                      refine HList.gskips rfl rfl rfl rfl (congrArg Value.bool hb71) ?_
                      refine HList.gskips rfl rfl rfl rfl (congrArg Value.bool hb71) ?_
                      refine HList.gskips rfl rfl rfl rfl (congrArg Value.bool hb71) ?_
                      refine HList.gskips rfl rfl rfl rfl (congrArg Value.bool hb71) ?_
                      refine HList.vals (v := (.bool false)) rfl (HVal.pickF rfl hb71 rfl) ?_
                      refine HList.nil ?_
                      refine nt ?_
                      exact ⟨false, ⟨rfl, rfl, rfl, rfl, rfl, rfl, rfl, trivial⟩, h⟩
                  · have h := hF hb61
                    clear hT hF
                    refine HList.gskips rfl rfl rfl rfl (congrArg Value.bool hb61) ?_
                    refine HList.gskips rfl rfl rfl rfl (congrArg Value.bool hb61) ?_
                    refine HList.gskips rfl rfl rfl rfl (congrArg Value.bool hb61) ?_
                    refine HList.gskips rfl rfl rfl rfl (congrArg Value.bool hb61) ?_
                    refine HList.gskips rfl rfl rfl rfl (congrArg Value.bool hb61) ?_
                    refine HList.gskips rfl rfl rfl rfl (congrArg Value.bool hb61) ?_
                    refine HList.vals (v := (.bool false)) rfl (HVal.pickF rfl hb61 rfl) ?_
                    refine HList.vals (v := (.bool false)) rfl (HVal.move' rfl) ?_
                    refine HList.gskips rfl rfl rfl rfl rfl ?_
                    refine HList.gskips rfl rfl rfl rfl rfl ?_
                    refine HList.gskips rfl rfl rfl rfl rfl ?_
                    refine HList.gskips rfl rfl rfl rfl rfl ?_
                    refine HList.gskips rfl rfl rfl rfl rfl ?_
                    refine HList.vals (v := (.bool false)) rfl (HVal.pickF rfl rfl rfl) ?_
                    refine HList.nil ?_
                    refine nt ?_
                    exact ⟨false, ⟨rfl, rfl, rfl, rfl, rfl, rfl, rfl, trivial⟩, h⟩
                · have h := hF hb53
                  clear hT hF
                  refine HList.gskips rfl rfl rfl rfl (congrArg Value.bool hb53) ?_
                  refine HList.gskips rfl rfl rfl rfl (congrArg Value.bool hb53) ?_
                  refine HList.gskips rfl rfl rfl rfl (congrArg Value.bool hb53) ?_
                  refine HList.gskips rfl rfl rfl rfl (congrArg Value.bool hb53) ?_
                  refine HList.gskips rfl rfl rfl rfl (congrArg Value.bool hb53) ?_
                  refine HList.gskips rfl rfl rfl rfl (congrArg Value.bool hb53) ?_
                  refine HList.vals (v := (.bool false)) rfl (HVal.pickF rfl hb53 rfl) ?_
                  refine HList.vals (v := (.bool false)) rfl (HVal.move' rfl) ?_
                  refine HList.gskips rfl rfl rfl rfl rfl ?_
                  refine HList.gskips rfl rfl rfl rfl rfl ?_
                  refine HList.gskips rfl rfl rfl rfl rfl ?_
                  refine HList.gskips rfl rfl rfl rfl rfl ?_
                  refine HList.gskips rfl rfl rfl rfl rfl ?_
                  refine HList.gskips rfl rfl rfl rfl rfl ?_
                  refine HList.vals (v := (.bool false)) rfl (HVal.pickF rfl rfl rfl) ?_
                  refine HList.vals (v := (.bool false)) rfl (HVal.move' rfl) ?_
                  refine HList.gskips rfl rfl rfl rfl rfl ?_
                  refine HList.gskips rfl rfl rfl rfl rfl ?_
                  refine HList.gskips rfl rfl rfl rfl rfl ?_
                  refine HList.gskips rfl rfl rfl rfl rfl ?_
                  refine HList.gskips rfl rfl rfl rfl rfl ?_
                  refine HList.vals (v := (.bool false)) rfl (HVal.pickF rfl rfl rfl) ?_
                  refine HList.nil ?_
                  refine nt ?_
                  exact ⟨false, ⟨rfl, rfl, rfl, rfl, rfl, rfl, rfl, trivial⟩, h⟩
              · have h := hF hb42
                clear hT hF
                refine HList.gskips rfl rfl rfl rfl (congrArg Value.bool hb42) ?_
                refine HList.gskips rfl rfl rfl rfl (congrArg Value.bool hb42) ?_
                refine HList.gskips rfl rfl rfl rfl (congrArg Value.bool hb42) ?_
                refine HList.gskips rfl rfl rfl rfl (congrArg Value.bool hb42) ?_
                refine HList.gskips rfl rfl rfl rfl (congrArg Value.bool hb42) ?_
                refine HList.vals (v := (.bool false)) rfl (HVal.pickF rfl hb42 rfl) ?_
                refine HList.vals (v := (.bool false)) rfl (HVal.move' rfl) ?_
                refine HList.gskips rfl rfl rfl rfl rfl ?_
                refine HList.gskips rfl rfl rfl rfl rfl ?_
                refine HList.gskips rfl rfl rfl rfl rfl ?_
                refine HList.gskips rfl rfl rfl rfl rfl ?_
                refine HList.gskips rfl rfl rfl rfl rfl ?_
                refine HList.gskips rfl rfl rfl rfl rfl ?_
                refine HList.vals (v := (.bool false)) rfl (HVal.pickF rfl rfl rfl) ?_
                refine HList.vals (v := (.bool false)) rfl (HVal.move' rfl) ?_
                refine HList.gskips rfl rfl rfl rfl rfl ?_
                refine HList.gskips rfl rfl rfl rfl rfl ?_
                refine HList.gskips rfl rfl rfl rfl rfl ?_
                refine HList.gskips rfl rfl rfl rfl rfl ?_
                refine HList.gskips rfl rfl rfl rfl rfl ?_
                refine HList.gskips rfl rfl rfl rfl rfl ?_
                refine HList.vals (v := (.bool false)) rfl (HVal.pickF rfl rfl rfl) ?_
                refine HList.vals (v := (.bool false)) rfl (HVal.move' rfl) ?_
                refine HList.gskips rfl rfl rfl rfl rfl ?_
                refine HList.gskips rfl rfl rfl rfl rfl ?_
                refine HList.gskips rfl rfl rfl rfl rfl ?_
                refine HList.gskips rfl rfl rfl rfl rfl ?_
                refine HList.gskips rfl rfl rfl rfl rfl ?_
                refine HList.vals (v := (.bool false)) rfl (HVal.pickF rfl rfl rfl) ?_
                refine HList.nil ?_
                refine nt ?_
                exact ⟨false, ⟨rfl, rfl, rfl, rfl, rfl, rfl, rfl, trivial⟩, h⟩
            · rintro ρ H_5 ⟨y78, hI, h⟩
              obtain ⟨ρ0, rfl⟩ : ∃ ρ0, ρ = (Env.set (Env.set (Env.set (Env.set (Env.set (Env.set (Env.set ρ0 62 (.bool y78)) 9 (.string (S_a ++ r28))) 8 (.int .i64 y18)) 7 (.pointer (some ⟨H_1.size, 0, none⟩))) 6 (.pointer (some ⟨H.size, 0, none⟩))) 2 (Sl.v p2)) 1 (Sl.v p1)) := ⟨ρ, hI.eq⟩
              clear hI; unfold F8_5 at h
              obtain ⟨hT, hF⟩ := h
              refine HW.cond y78 rfl (fun hb79 => ?_) (fun hb79 => ?_)
              · have h := hT hb79
                clear hT hF
                refine HW.region ?_
                refine HList.vals (v := (Sl.v p1)) rfl (HVal.move' rfl) ?_
                refine HList.vals (v := (.int .i64 y18)) rfl (HVal.move' rfl) ?_
                obtain ⟨a80, e81, b82, b83, h⟩ := h
                refine HList.vals (v := (.pointer (some (Addr.add a80 (y18.toNat * 1))))) rfl (HVal.indexAddr Tryd.runUnderlying42 Tryd.sizeOf9 (Sl.v_some rfl e81) rfl b82 b83) ?_
                obtain ⟨x85, c84, h⟩ := h
                refine HList.vals (v := (.string x85)) rfl (HVal.load1 Tryd.isAgg9 rfl c84) ?_
                refine HList.vals (v := (.string x85)) rfl (HVal.assign' rfl) ?_
                refine HList.nil ?_
                refine nt ?_
                exact ⟨x85, ⟨rfl, rfl, rfl, rfl, rfl, rfl, trivial⟩, h⟩
              · have h := hF hb79
                clear hT hF
                refine HW.skip ?_
                refine nt ?_
                exact ⟨(S_a ++ r28), ⟨rfl, rfl, rfl, rfl, rfl, rfl, trivial⟩, h⟩
          · rintro ρ H_4 ⟨y86, hI, h⟩
            obtain ⟨ρ0, rfl⟩ : ∃ ρ0, ρ = (Env.set (Env.set (Env.set (Env.set (Env.set (Env.set ρ0 9 (.string y86)) 8 (.int .i64 y18)) 7 (.pointer (some ⟨H_1.size, 0, none⟩))) 6 (.pointer (some ⟨H.size, 0, none⟩))) 2 (Sl.v p2)) 1 (Sl.v p1)) := ⟨ρ, hI.eq⟩
            clear hI; unfold F8_4 at h
            refine HW.cut (fun ρ H_6 => ∃ (y120 : ByteArray), Env.Is ρ [(1, (Sl.v p1)), (2, (Sl.v p2)), (6, (.pointer (some ⟨H.size, 0, none⟩))), (7, (.pointer (some ⟨H_1.size, 0, none⟩))), (8, (.int .i64 y18)), (9, (.string y120))] ∧ F8_6 Q X3 p1 p2 ⟨H.size, 0, none⟩ ⟨H_1.size, 0, none⟩ y18 y120 H_6) ?_ ?_
            · refine HW.seq ?_
              refine HW.region ?_
              refine HList.vals (v := (.int .i64 0)) rfl (HVal.assign' rfl) ?_
              refine HList.nil ?_
              refine nt ?_
              refine HW.block ?_
              refine HW.loop' (fun L7 hL7 => ?_)
              obtain ⟨X7, hX7⟩ : ∃ X7 : ByteArray → Int → Hp → Prop, ∀ (y92 : ByteArray) (y93 : Int) (H_7 : Hp), X7 y92 y93 H_7 ↔ ∀ ρ, Env.Is ρ [(1, (Sl.v p1)), (2, (Sl.v p2)), (6, (.pointer (some ⟨H.size, 0, none⟩))), (7, (.pointer (some ⟨H_1.size, 0, none⟩))), (8, (.int .i64 y18)), (9, (.string y92)), (10, (.int .i64 y93))] → L7 ρ H_7 := ⟨_, fun _ _ _ => Iff.rfl⟩
              refine (hX7 _ _ _).1 (h X7 ?_) _ ?_
              rotate_left
              · exact ⟨rfl, rfl, rfl, rfl, rfl, rfl, rfl, trivial⟩
              clear h
              intro y92 y93 H_7 h
              refine (hX7 _ _ _).2 fun ρ hI => ?_
              obtain ⟨ρ0, rfl⟩ : ∃ ρ0, ρ = (Env.set (Env.set (Env.set (Env.set (Env.set (Env.set (Env.set ρ0 10 (.int .i64 y93)) 9 (.string y92)) 8 (.int .i64 y18)) 7 (.pointer (some ⟨H_1.size, 0, none⟩))) 6 (.pointer (some ⟨H.size, 0, none⟩))) 2 (Sl.v p2)) 1 (Sl.v p1)) := ⟨ρ, hI.eq⟩
              clear hI; unfold F8_L7b at h; refine hL7 _ _ ?_
              refine HW.seq ?_
              refine HW.seq ?_
              refine HW.region ?_
              refine HList.vals (v := (.int .i64 y93)) rfl (HVal.move' rfl) ?_
              refine HList.vals (v := (.int .i64 y18)) rfl (HVal.move' rfl) ?_
              refine HList.vals (v := (.bool (decide (y93 < y18)))) rfl (HVal.lss rfl rfl) ?_
              refine HList.nil ?_
              refine nt ?_
              obtain ⟨hT, hF⟩ := h
              refine HW.cond (decide (y93 < y18)) rfl (fun hb99 => ?_) (fun hb99 => ?_)
              · have h := hT hb99
                clear hT hF
                refine HW.skip ?_
                refine nt ?_
                refine HW.cut (fun ρ H_8 => ∃ (y119 : ByteArray), Env.Is ρ [(1, (Sl.v p1)), (2, (Sl.v p2)), (6, (.pointer (some ⟨H.size, 0, none⟩))), (7, (.pointer (some ⟨H_1.size, 0, none⟩))), (8, (.int .i64 y18)), (10, (.int .i64 y93)), (9, (.string y119))] ∧ F8_8 Q X3 X7 p1 p2 ⟨H.size, 0, none⟩ ⟨H_1.size, 0, none⟩ y18 y93 y119 H_8) ?_ ?_
                · refine HW.block ?_
                  refine HW.seq ?_
                  refine HW.region ?_
                  refine HList.vals (v := (.pointer (some (Addr.add ⟨H_1.size, 0, none⟩ 1)))) rfl (HVal.fieldAddr' Tryd.runUnderlying27 rfl rfl Tryd.sizeOf25 rfl) ?_
                  obtain ⟨x107, c106, h⟩ := h
                  refine HList.vals (v := (Sl.v x107)) rfl (HVal.load1 Tryd.isAgg25 rfl c106) ?_
                  refine HList.vals (v := (.int .i64 y93)) rfl (HVal.move' rfl) ?_
                  obtain ⟨a108, e109, b110, b111, h⟩ := h
                  refine HList.vals (v := (.pointer (some (Addr.add a108 (y93.toNat * 2))))) rfl (HVal.indexAddr Tryd.runUnderlying25 Tryd.sizeOf38 (Sl.v_some rfl e109) rfl b110 b111) ?_
                  refine HList.vals (v := (.pointer (some (Addr.add a108 (y93.toNat * 2))))) rfl (HVal.fieldAddr0 Tryd.runUnderlying38 rfl rfl Tryd.sizeOf9 rfl) ?_
                  obtain ⟨x113, c112, h⟩ := h
                  refine HList.vals (v := (.string x113)) rfl (HVal.load1 Tryd.isAgg9 rfl c112) ?_
                  refine HList.vals (v := (.string y92)) rfl (HVal.move' rfl) ?_
                  refine HList.vals (v := (.bool (seq x113 y92))) rfl (HVal.eqlS rfl rfl) ?_
                  refine HList.nil ?_
                  refine nt ?_
                  obtain ⟨hT, hF⟩ := h
                  refine HW.cond (seq x113 y92) rfl (fun hb114 => ?_) (fun hb114 => ?_)
                  · have h := hT hb114
                    clear hT hF
                    refine HW.region ?_
                    refine HList.vals (v := (.int .i64 y18)) rfl (HVal.move' rfl) ?_
                    refine HList.ops' rfl (HOp.call' 23 [(.int .i64 y18)] (cap := []) rfl rfl Tryd.call23 (walk23 h)) ?_
                    rintro _ H115 ⟨r117, rfl, h⟩
                    obtain ⟨z118, h⟩ := h
                    refine HList.vals (v := (.string (S_a ++ r117))) rfl (HVal.addS rfl rfl z118) ?_
                    refine HList.vals (v := (.string (S_a ++ r117))) rfl (HVal.assign' rfl) ?_
                    refine HList.nil ?_
                    refine nb ?_
                    refine nt ?_
                    exact ⟨(S_a ++ r117), ⟨rfl, rfl, rfl, rfl, rfl, rfl, rfl, trivial⟩, h⟩
                  · have h := hF hb114
                    clear hT hF
                    refine HW.skip ?_
                    refine nb ?_
                    refine nt ?_
                    exact ⟨y92, ⟨rfl, rfl, rfl, rfl, rfl, rfl, rfl, trivial⟩, h⟩
                · rintro ρ H_8 ⟨y119, hI, h⟩
                  obtain ⟨ρ0, rfl⟩ : ∃ ρ0, ρ = (Env.set (Env.set (Env.set (Env.set (Env.set (Env.set (Env.set ρ0 9 (.string y119)) 10 (.int .i64 y93)) 8 (.int .i64 y18)) 7 (.pointer (some ⟨H_1.size, 0, none⟩))) 6 (.pointer (some ⟨H.size, 0, none⟩))) 2 (Sl.v p2)) 1 (Sl.v p1)) := ⟨ρ, hI.eq⟩
                  clear hI; unfold F8_8 at h
                  refine HW.region ?_
                  refine HList.vals (v := (.int .i64 y93)) rfl (HVal.move' rfl) ?_
                  refine HList.vals (v := (.int .i64 (IntKind.i64.wrap (y93 + 1)))) rfl (HVal.add rfl rfl) ?_
                  refine HList.vals (v := (.int .i64 (IntKind.i64.wrap (y93 + 1)))) rfl (HVal.assign' rfl) ?_
                  refine HList.nil ?_
                  refine nt ?_
                  exact (hX7 _ _ _).1 h _ ⟨rfl, rfl, rfl, rfl, rfl, rfl, rfl, trivial⟩
              · have h := hF hb99
                clear hT hF
                refine HW.exit ?_
                refine te ?_
                refine te ?_
                refine be ?_
                refine nt ?_
                exact ⟨y92, ⟨rfl, rfl, rfl, rfl, rfl, rfl, trivial⟩, h⟩
            · rintro ρ H_6 ⟨y120, hI, h⟩
              obtain ⟨ρ0, rfl⟩ : ∃ ρ0, ρ = (Env.set (Env.set (Env.set (Env.set (Env.set (Env.set ρ0 9 (.string y120)) 8 (.int .i64 y18)) 7 (.pointer (some ⟨H_1.size, 0, none⟩))) 6 (.pointer (some ⟨H.size, 0, none⟩))) 2 (Sl.v p2)) 1 (Sl.v p1)) := ⟨ρ, hI.eq⟩
              clear hI; unfold F8_6 at h
              refine HW.draw mixed [(0, some []), (1, some [11, 13]), (2, some []), (3, some []), (4, some []), (5, some []), (6, some [7, 13]), (7, none), (8, some []), (9, some []), (10, none), (11, none), (12, some []), (13, none)] rfl (by kernel_rfl) (by kernel_rfl) ?_
              refine HPlan.takev (v := (.pointer (some (Addr.add ⟨H_1.size, 0, none⟩ 1)))) rfl rfl (fun _ => HVal.fieldAddr' Tryd.runUnderlying27 rfl rfl Tryd.sizeOf25 rfl) ?_
              obtain ⟨x122, c121, h⟩ := h
              refine HPlan.takel (v := (Sl.v x122)) (fun X => cell X (Addr.add ⟨H_1.size, 0, none⟩ 1) = some (Sl.v x122)) rfl rfl (fun _ hX => HVal.load1 Tryd.isAgg25 rfl hX) c121 ?_
              refine HPlan.takev (v := (.string y120)) rfl rfl (fun _ => HVal.move' rfl) ?_
              refine HPlan.takev (v := (Sl.v p2)) rfl rfl (fun _ => HVal.move' rfl) ?_
              refine HPlan.takev (v := (.int .i64 y18)) rfl rfl (fun _ => HVal.move' rfl) ?_
              obtain ⟨a123, e124, b125, b126, h⟩ := h
              refine HPlan.takev (v := (.pointer (some (Addr.add a123 (y18.toNat * 1))))) rfl rfl (fun _ => HVal.indexAddr Tryd.runUnderlying22 Tryd.sizeOf3 (Sl.v_some rfl e124) rfl b125 b126) ?_
              obtain ⟨x128, c127, h⟩ := h
              refine HPlan.takel (v := (.int .i64 x128)) (fun X => cell X (Addr.add a123 (y18.toNat * 1)) = some (.int .i64 x128)) rfl rfl (fun _ hX => HVal.load1 Tryd.isAgg3 rfl hX) c127 ?_
              refine HPlan.ops' rfl rfl (HOp.call' 12 [(.int .i64 x128), (.int .i64 3)] (cap := []) rfl rfl Tryd.call12 (walk12 h)) ?_
              rintro _ H129 ⟨r131, rfl, h⟩
              obtain ⟨s132, h⟩ := h
              refine ⟨SC_of ⟨fun e => absurd e (by decide), fun _ => s132, trivial⟩, ?_⟩
              refine HPlan.takev (v := (.int .i64 (IntKind.i64.wrap (1 + r131)))) rfl rfl (fun _ => HVal.add rfl rfl) ?_
              refine HPlan.takev (v := (.agg #[(.string y120), (.int .i64 (IntKind.i64.wrap (1 + r131)))])) rfl rfl (fun _ => HVal.build' (cs := [(.string y120), (.int .i64 (IntKind.i64.wrap (1 + r131)))]) Tryd.runUnderlying38 Tryd.zeroValue38 places38 rfl) ?_
              refine HPlan.ops' rfl rfl (HOp.buildSlice' (zs := [(.string (ByteArray.mk #[])), (.int .i64 0)]) (cs := [(.string y120), (.int .i64 (IntKind.i64.wrap (1 + r131)))]) Tryd.runUnderlying25 Tryd.sizeOf38 Tryd.zeroValue38 (by decide) (by kernel_rfl) rfl (by decide)) ?_
              rintro _ H133 ⟨rfl, e134⟩
              replace h := h H133 e134
              obtain ⟨s135, h⟩ := h
              refine ⟨SC_of ⟨fun e => absurd e (by decide), fun _ => s135, trivial⟩, ?_⟩
              refine HPlan.ops' rfl rfl (HOp.append (k := 2) (b := 24) Tryd.runUnderlying25 Tryd.runUnderlying25 Tryd.typeInfo38 rfl rfl Tryd.zeroValue38 rfl rfl h) ?_
              rintro _ H136 ⟨r138, rfl, h⟩
              refine ⟨SC_of ⟨fun e => absurd e (by decide), fun e => absurd e (by decide), trivial⟩, ?_⟩
              refine HPlan.takev (v := (.pointer (some (Addr.add ⟨H_1.size, 0, none⟩ 1)))) rfl rfl (fun _ => HVal.fieldAddr' Tryd.runUnderlying27 rfl rfl Tryd.sizeOf25 rfl) ?_
              obtain ⟨z141, z142, h⟩ := h
              refine HPlan.opsn rfl (HOp.store1 Tryd.sizeOf25 rfl rfl rfl z141 z142) ?_
              rintro _ H139 e140
              replace h := h H139 e140
              refine ⟨SC_of ⟨fun e => absurd e (by decide), fun e => absurd e (by decide), trivial⟩, ?_⟩
              refine HPlan.done ?_
              refine nb ?_
              refine nt ?_
              refine HW.region ?_
              refine HList.vals (v := (.int .i64 y18)) rfl (HVal.move' rfl) ?_
              refine HList.vals (v := (.int .i64 (IntKind.i64.wrap (y18 + 1)))) rfl (HVal.add rfl rfl) ?_
              refine HList.vals (v := (.int .i64 (IntKind.i64.wrap (y18 + 1)))) rfl (HVal.assign' rfl) ?_
              refine HList.nil ?_
              refine nt ?_
              exact (hX3 _ _).1 h _ ⟨rfl, rfl, rfl, rfl, rfl, trivial⟩
        · have h := hF hb25
          clear hT hF
          refine HW.exit ?_
          refine te ?_
          refine te ?_
          refine be ?_
          refine nt ?_
          exact ⟨⟨rfl, rfl, trivial⟩, h⟩
      · have h := hF hb24
        clear hT hF
        refine HList.gskips rfl rfl rfl rfl (congrArg Value.bool hb24) ?_
        refine HList.gskips rfl rfl rfl rfl (congrArg Value.bool hb24) ?_
        refine HList.vals (v := (.bool false)) rfl (HVal.pickF rfl hb24 rfl) ?_
        refine HList.nil ?_
        refine nt ?_
        refine HW.condF false rfl rfl ?_
        refine HW.exit ?_
        refine te ?_
        refine te ?_
        refine be ?_
        refine nt ?_
        exact ⟨⟨rfl, rfl, trivial⟩, h⟩
    · rintro ρ H_2 ⟨hI, h⟩
      obtain ⟨ρ0, rfl⟩ : ∃ ρ0, ρ = (Env.set (Env.set ρ0 7 (.pointer (some ⟨H_1.size, 0, none⟩))) 6 (.pointer (some ⟨H.size, 0, none⟩))) := ⟨ρ, hI.eq⟩
      clear hI; unfold F8_2 at h
      refine HW.seq ?_
      refine HW.region ?_
      obtain ⟨x144, x145, c143, h⟩ := h
      refine HList.vals (v := (.agg #[(.string x144), (Sl.v x145)])) rfl (HVal.loadN [(.string x144), (Sl.v x145)] Tryd.isAgg27 Tryd.sizeOf27 rfl c143) ?_
      obtain ⟨z148, h⟩ := h
      refine HList.opsn (HOp.storeN' (l := [(.string x144), (Sl.v x145)]) Tryd.sizeOf27 rfl rfl rfl z148) ?_
      rintro _ H146 e147
      replace h := h H146 e147
      refine HList.nil ?_
      refine nt ?_
      refine HW.ret ?_
      obtain ⟨x149, x150, c151, h⟩ := h
      exact ⟨_, resOf1 rfl (Res1.n [(.string x149), (Sl.v x150)] Tryd.isAgg27 Tryd.sizeOf27 rfl c151), ⟨x149, x150, rfl, h⟩⟩

def F52 (p0 : ByteArray) (H : Hp) (Q : Bool → Hp → Prop) : Prop :=
F17 p0 H (fun (r3 : Bool) (H1 : Hp) => 
 (r3 = true → (Q (!(seq p0 S_time)) H1)) ∧
 (r3 = false → (Q false H1)))
set_option maxRecDepth 100000 in
set_option maxHeartbeats 4000000 in
theorem walk52 {w0 : World} {p0 : ByteArray} {H : Hp} {Q : Bool → Hp → Prop} (h : F52 p0 H Q) :
    Good Tryd.prog w0 52 #[(.string p0)] H (fun v H => ∃ (r0 : Bool) , v = (.bool r0) ∧ Q r0 H) := by
  unfold F52 at h
  refine Good.enter' (fn := Tryd.f52) Tryd.func52 rfl rfl rfl ?_
  refine HW.seq ?_
  refine HW.region ?_
  refine HList.vals (v := (.bool false)) rfl (HVal.assign' rfl) ?_
  refine HList.nil ?_
  refine nt ?_
  refine HW.seq ?_
  refine HW.region ?_
  refine HList.vals (v := (.string p0)) rfl (HVal.move' rfl) ?_
  refine HList.ops' rfl (HOp.call' 17 [(.string p0)] (cap := []) rfl rfl Tryd.call17 (walk17 h)) ?_
  rintro _ H1 ⟨r3, rfl, h⟩
  refine HList.vals (v := (.bool r3)) rfl (HVal.move' rfl) ?_
  obtain ⟨hT, hF⟩ := h
  rcases Bool.eq_false_or_eq_true r3 with hb4 | hb5
  · have h := hT hb4
    clear hT hF
    refine HList.gvals (v := (.string p0)) rfl rfl rfl rfl (congrArg Value.bool hb4) (HVal.move' rfl) ?_
    refine HList.gvals (v := (.bool (!(seq p0 S_time)))) rfl rfl rfl rfl (congrArg Value.bool hb4) (HVal.neqS rfl rfl) ?_
    refine HList.vals (v := (.bool (!(seq p0 S_time)))) rfl (HVal.pickT rfl hb4 rfl) ?_
    refine HList.vals (v := (.bool (!(seq p0 S_time)))) rfl (HVal.assign' rfl) ?_
    refine HList.nil ?_
    refine nt ?_
    refine HW.ret ?_
    exact ⟨_, resOf1 rfl Res1.t, ⟨(!(seq p0 S_time)), rfl, h⟩⟩
  · have h := hF hb5
    clear hT hF
    refine HList.gskips rfl rfl rfl rfl (congrArg Value.bool hb5) ?_
    refine HList.gskips rfl rfl rfl rfl (congrArg Value.bool hb5) ?_
    refine HList.vals (v := (.bool false)) rfl (HVal.pickF rfl hb5 rfl) ?_
    refine HList.vals (v := (.bool false)) rfl (HVal.assign' rfl) ?_
    refine HList.nil ?_
    refine nt ?_
    refine HW.ret ?_
    exact ⟨_, resOf1 rfl Res1.t, ⟨false, rfl, h⟩⟩

def F53 (p0 : Int) (H : Hp) (Q : Bool → Hp → Prop) : Prop :=
((decide ((0 : Int) < p0)) = true → (Q (decide (p0 < 4)) H)) ∧
 ((decide ((0 : Int) < p0)) = false → (Q false H))
set_option maxRecDepth 100000 in
set_option maxHeartbeats 4000000 in
theorem walk53 {w0 : World} {p0 : Int} {H : Hp} {Q : Bool → Hp → Prop} (h : F53 p0 H Q) :
    Good Tryd.prog w0 53 #[(.int .i64 p0)] H (fun v H => ∃ (r0 : Bool) , v = (.bool r0) ∧ Q r0 H) := by
  unfold F53 at h
  refine Good.enter' (fn := Tryd.f53) Tryd.func53 rfl rfl rfl ?_
  refine HW.seq ?_
  refine HW.region ?_
  refine HList.vals (v := (.bool false)) rfl (HVal.assign' rfl) ?_
  refine HList.nil ?_
  refine nt ?_
  refine HW.seq ?_
  refine HW.region ?_
  refine HList.vals (v := (.int .i64 p0)) rfl (HVal.move' rfl) ?_
  refine HList.vals (v := (.bool (decide ((0 : Int) < p0)))) rfl (HVal.gtr rfl rfl) ?_
  refine HList.vals (v := (.bool (decide ((0 : Int) < p0)))) rfl (HVal.move' rfl) ?_
  obtain ⟨hT, hF⟩ := h
  rcases Bool.eq_false_or_eq_true (decide ((0 : Int) < p0)) with hb1 | hb2
  · have h := hT hb1
    clear hT hF
    refine HList.gvals (v := (.int .i64 p0)) rfl rfl rfl rfl (congrArg Value.bool hb1) (HVal.move' rfl) ?_
    refine HList.gvals (v := (.bool (decide (p0 < 4)))) rfl rfl rfl rfl (congrArg Value.bool hb1) (HVal.lss rfl rfl) ?_
    refine HList.vals (v := (.bool (decide (p0 < 4)))) rfl (HVal.pickT rfl hb1 rfl) ?_
    refine HList.vals (v := (.bool (decide (p0 < 4)))) rfl (HVal.assign' rfl) ?_
    refine HList.nil ?_
    refine nt ?_
    refine HW.ret ?_
    exact ⟨_, resOf1 rfl Res1.t, ⟨(decide (p0 < 4)), rfl, h⟩⟩
  · have h := hF hb2
    clear hT hF
    refine HList.gskips rfl rfl rfl rfl (congrArg Value.bool hb2) ?_
    refine HList.gskips rfl rfl rfl rfl (congrArg Value.bool hb2) ?_
    refine HList.vals (v := (.bool false)) rfl (HVal.pickF rfl hb2 rfl) ?_
    refine HList.vals (v := (.bool false)) rfl (HVal.assign' rfl) ?_
    refine HList.nil ?_
    refine nt ?_
    refine HW.ret ?_
    exact ⟨_, resOf1 rfl Res1.t, ⟨false, rfl, h⟩⟩

def F25 (p0_0 : ByteArray) (p0_1 : Sl) (H : Hp) (Q : ByteArray → Sl → Hp → Prop) : Prop :=
∀ H1 : Hp, H1 = Array.push H (.cells #[(.string p0_0), (Sl.v p0_1)] 27) → (
 ∀ H3 : Hp, H3 = Array.push H1 (.cells #[(.string (ByteArray.mk #[])), (Sl.v Sl.nil)] 27) → (
 ∃ x6 : Sl, cell H3 (Addr.add ⟨H.size, 0, none⟩ 1) = some (Sl.v x6) ∧ (
 AppendF H3 38 2 24 #[(.string (ByteArray.mk #[])), (.int .i64 0)] Sl.nil (x6).b (x6).n (fun (r9 : Sl) (H7 : Hp) => 
 (cell H7 (Addr.add ⟨H.size, 0, none⟩ 1)).isSome = true ∧ frz H7 (Addr.add ⟨H.size, 0, none⟩ 1) = false ∧ ∀ H10 : Hp, H10 = setc H7 (Addr.add ⟨H.size, 0, none⟩ 1) (Sl.v r9) → (
 ∃ (x15 : ByteArray) (x16 : Sl), cells H10 ⟨H.size, 0, none⟩ [(.string x15), (Sl.v x16)] 0 ∧ (
 mayw H10 ⟨H1.size, 0, none⟩ 2 0 ∧ ∀ H17 : Hp, H17 = sets H10 ⟨H1.size, 0, none⟩ [(.string x15), (Sl.v x16)] 0 → (
 ∃ (x20 : ByteArray) (x21 : Sl), cells H17 ⟨H1.size, 0, none⟩ [(.string x20), (Sl.v x21)] 0 ∧ (
 Q x20 x21 H17))))))))
set_option maxRecDepth 100000 in
set_option maxHeartbeats 4000000 in
theorem walk25 {w0 : World} {p0_0 : ByteArray} {p0_1 : Sl} {H : Hp} {Q : ByteArray → Sl → Hp → Prop} (h : F25 p0_0 p0_1 H Q) :
    Good Tryd.prog w0 25 #[(.agg #[(.string p0_0), (Sl.v p0_1)])] H (fun v H => ∃ (r0 : ByteArray) (r1 : Sl) , v = (.agg #[(.string r0), (Sl.v r1)]) ∧ Q r0 r1 H) := by
  unfold F25 at h
  refine Good.enter' (fn := Tryd.f25) Tryd.func25 rfl rfl rfl ?_
  refine HW.seq ?_
  refine HW.region ?_
  refine HList.ops' rfl (HOp.box (v := (.agg #[(.string p0_0), (Sl.v p0_1)])) rfl) ?_
  rintro _ H1 ⟨rfl, e2⟩
  replace h := h H1 e2
  refine HList.ops' rfl (HOp.alloc Tryd.zeroValue27) ?_
  rintro _ H3 ⟨rfl, e4⟩
  replace h := h H3 e4
  refine HList.nil ?_
  refine nt ?_
  refine HW.seq ?_
  refine HW.region ?_
  refine HList.vals (v := (.pointer (some (Addr.add ⟨H.size, 0, none⟩ 1)))) rfl (HVal.fieldAddr' Tryd.runUnderlying27 rfl rfl Tryd.sizeOf25 rfl) ?_
  obtain ⟨x6, c5, h⟩ := h
  refine HList.vals (v := (Sl.v x6)) rfl (HVal.load1 Tryd.isAgg25 rfl c5) ?_
  refine HList.ops' rfl (HOp.append (k := 2) (b := 24) Tryd.runUnderlying25 Tryd.runUnderlying25 Tryd.typeInfo38 rfl rfl Tryd.zeroValue38 rfl rfl h) ?_
  rintro _ H7 ⟨r9, rfl, h⟩
  refine HList.vals (v := (.pointer (some (Addr.add ⟨H.size, 0, none⟩ 1)))) rfl (HVal.fieldAddr' Tryd.runUnderlying27 rfl rfl Tryd.sizeOf25 rfl) ?_
  obtain ⟨z12, z13, h⟩ := h
  refine HList.opsn (HOp.store1 Tryd.sizeOf25 rfl rfl rfl z12 z13) ?_
  rintro _ H10 e11
  replace h := h H10 e11
  refine HList.nil ?_
  refine nt ?_
  refine HW.seq ?_
  refine HW.region ?_
  obtain ⟨x15, x16, c14, h⟩ := h
  refine HList.vals (v := (.agg #[(.string x15), (Sl.v x16)])) rfl (HVal.loadN [(.string x15), (Sl.v x16)] Tryd.isAgg27 Tryd.sizeOf27 rfl c14) ?_
  obtain ⟨z19, h⟩ := h
  refine HList.opsn (HOp.storeN' (l := [(.string x15), (Sl.v x16)]) Tryd.sizeOf27 rfl rfl rfl z19) ?_
  rintro _ H17 e18
  replace h := h H17 e18
  refine HList.nil ?_
  refine nt ?_
  refine HW.ret ?_
  obtain ⟨x20, x21, c22, h⟩ := h
  exact ⟨_, resOf1 rfl (Res1.n [(.string x20), (Sl.v x21)] Tryd.isAgg27 Tryd.sizeOf27 rfl c22), ⟨x20, x21, rfl, h⟩⟩

def F26 (p0 : ByteArray) (H : Hp) (Q : ByteArray → Hp → Prop) : Prop :=
F55 p0 H (fun (r3 : ByteArray) (H1 : Hp) => 
 Q r3 H1)
set_option maxRecDepth 100000 in
set_option maxHeartbeats 4000000 in
theorem walk26 {w0 : World} {p0 : ByteArray} {H : Hp} {Q : ByteArray → Hp → Prop} (h : F26 p0 H Q) :
    Good Tryd.prog w0 26 #[(.string p0)] H (fun v H => ∃ (r0 : ByteArray) , v = (.string r0) ∧ Q r0 H) := by
  unfold F26 at h
  refine Good.enter' (fn := Tryd.f26) Tryd.func26 rfl rfl rfl ?_
  refine HW.seq ?_
  refine HW.region ?_
  refine HList.vals (v := (.string (ByteArray.mk #[]))) rfl (HVal.assign' rfl) ?_
  refine HList.nil ?_
  refine nt ?_
  refine HW.seq ?_
  refine HW.region ?_
  refine HList.vals (v := (.string p0)) rfl (HVal.move' rfl) ?_
  refine HList.ops' rfl (HOp.call' 55 [(.string p0)] (cap := []) rfl rfl Tryd.call55 (walk55 h)) ?_
  rintro _ H1 ⟨r3, rfl, h⟩
  refine HList.vals (v := (.string r3)) rfl (HVal.assign' rfl) ?_
  refine HList.nil ?_
  refine nt ?_
  refine HW.ret ?_
  exact ⟨_, resOf1 rfl Res1.t, ⟨r3, rfl, h⟩⟩

def F10_1 (Q : Int → Int → ByteArray → Bool → Hp → Prop) (y3 : Int) (y4 : Int) (y5 : Addr) (y9 : ByteArray) (H_1 : Hp) : Prop :=
((decide (y3 = 1)) = true → (mayw H_1 y5 4 0 ∧ ∀ H11 : Hp, H11 = sets H_1 y5 [(.int .i64 1), (.int .i64 y4), (.string (ByteArray.mk #[])), (.bool false)] 0 → (
 ∃ (x14 : Int) (x15 : Int) (x16 : ByteArray) (x17 : Bool), cells H11 y5 [(.int .i64 x14), (.int .i64 x15), (.string x16), (.bool x17)] 0 ∧ (
 Q x14 x15 x16 x17 H11)))) ∧
 ((decide (y3 = 1)) = false → (((decide (y3 = 2)) = true → (mayw H_1 y5 4 0 ∧ ∀ H20 : Hp, H20 = sets H_1 y5 [(.int .i64 2), (.int .i64 0), (.string y9), (.bool false)] 0 → (
 ∃ (x23 : Int) (x24 : Int) (x25 : ByteArray) (x26 : Bool), cells H20 y5 [(.int .i64 x23), (.int .i64 x24), (.string x25), (.bool x26)] 0 ∧ (
 Q x23 x24 x25 x26 H20)))) ∧
 ((decide (y3 = 2)) = false → (mayw H_1 y5 4 0 ∧ ∀ H28 : Hp, H28 = sets H_1 y5 [(.int .i64 3), (.int .i64 0), (.string (ByteArray.mk #[])), (.bool (decide ((Int.tmod y4 (2 : Int)) ≠ 0)))] 0 → (
 ∃ (x31 : Int) (x32 : Int) (x33 : ByteArray) (x34 : Bool), cells H28 y5 [(.int .i64 x31), (.int .i64 x32), (.string x33), (.bool x34)] 0 ∧ (
 Q x31 x32 x33 x34 H28))))))
def F10 (p0 : Int) (p1 : Int) (p2 : ByteArray) (H : Hp) (Q : Int → Int → ByteArray → Bool → Hp → Prop) : Prop :=
∀ H1 : Hp, H1 = Array.push H (.cells #[(.int .i64 0), (.int .i64 0), (.string (ByteArray.mk #[])), (.bool false)] 35) → (
 ((decide ((256 : Int) < ((p2).size : Int))) = true → (0 ≤ (256 : Int).toNat ∧ (256 : Int).toNat ≤ (p2).size ∧ (
 F10_1 Q p0 p1 ⟨H.size, 0, none⟩ ((p2).extract 0 ((256 : Int).toNat)) H1))) ∧
 ((decide ((256 : Int) < ((p2).size : Int))) = false → (F10_1 Q p0 p1 ⟨H.size, 0, none⟩ p2 H1)))
set_option maxRecDepth 100000 in
set_option maxHeartbeats 4000000 in
theorem walk10 {w0 : World} {p0 : Int} {p1 : Int} {p2 : ByteArray} {H : Hp} {Q : Int → Int → ByteArray → Bool → Hp → Prop} (h : F10 p0 p1 p2 H Q) :
    Good Tryd.prog w0 10 #[(.int .i64 p0), (.int .i64 p1), (.string p2)] H (fun v H => ∃ (r0 : Int) (r1 : Int) (r2 : ByteArray) (r3 : Bool) , v = (.agg #[(.int .i64 r0), (.int .i64 r1), (.string r2), (.bool r3)]) ∧ Q r0 r1 r2 r3 H) := by
  unfold F10 at h
  refine Good.enter' (fn := Tryd.f10) Tryd.func10 rfl rfl rfl ?_
  refine HW.seq ?_
  refine HW.region ?_
  refine HList.ops' rfl (HOp.alloc Tryd.zeroValue35) ?_
  rintro _ H1 ⟨rfl, e2⟩
  replace h := h H1 e2
  refine HList.nil ?_
  refine nt ?_
  refine HW.cut (fun ρ H_1 => ∃ (y9 : ByteArray), Env.Is ρ [(0, (.int .i64 p0)), (1, (.int .i64 p1)), (6, (.pointer (some ⟨H.size, 0, none⟩))), (2, (.string y9))] ∧ F10_1 Q p0 p1 ⟨H.size, 0, none⟩ y9 H_1) ?_ ?_
  · refine HW.seq ?_
    refine HW.region ?_
    refine HList.vals (v := (.string p2)) rfl (HVal.move' rfl) ?_
    refine HList.vals (v := (.int .i64 ((p2).size : Int))) rfl (HVal.lenS Tryd.runUnderlying9 rfl) ?_
    refine HList.vals (v := (.bool (decide ((256 : Int) < ((p2).size : Int))))) rfl (HVal.gtr rfl rfl) ?_
    refine HList.nil ?_
    refine nt ?_
    obtain ⟨hT, hF⟩ := h
    refine HW.cond (decide ((256 : Int) < ((p2).size : Int))) rfl (fun hb6 => ?_) (fun hb6 => ?_)
    · have h := hT hb6
      clear hT hF
      refine HW.region ?_
      refine HList.vals (v := (.string p2)) rfl (HVal.move' rfl) ?_
      obtain ⟨z7, z8, h⟩ := h
      refine HList.vals (v := (.string ((p2).extract 0 ((256 : Int).toNat)))) rfl (HVal.sliceS _ _ Tryd.runUnderlying9 rfl rfl ⟨_, _, rfl, by decide, rfl⟩ z7 z8) ?_
      refine HList.vals (v := (.string ((p2).extract 0 ((256 : Int).toNat)))) rfl (HVal.assign' rfl) ?_
      refine HList.nil ?_
      refine nt ?_
      exact ⟨((p2).extract 0 ((256 : Int).toNat)), ⟨rfl, rfl, rfl, rfl, trivial⟩, h⟩
    · have h := hF hb6
      clear hT hF
      refine HW.skip ?_
      refine nt ?_
      exact ⟨p2, ⟨rfl, rfl, rfl, rfl, trivial⟩, h⟩
  · rintro ρ H_1 ⟨y9, hI, h⟩
    obtain ⟨ρ0, rfl⟩ : ∃ ρ0, ρ = (Env.set (Env.set (Env.set (Env.set ρ0 2 (.string y9)) 6 (.pointer (some ⟨H.size, 0, none⟩))) 1 (.int .i64 p1)) 0 (.int .i64 p0)) := ⟨ρ, hI.eq⟩
    clear hI; unfold F10_1 at h
    refine HW.seq ?_
    refine HW.seq ?_
    refine HW.region ?_
    refine HList.vals (v := (.int .i64 p0)) rfl (HVal.move' rfl) ?_
    refine HList.nil ?_
    refine nt ?_
    refine HW.block ?_
    refine HW.seq ?_
    refine HW.region ?_
    refine HList.vals (v := (.bool (decide (p0 = 1)))) rfl (HVal.eqlI rfl rfl) ?_
    refine HList.vals (v := (.bool (decide (p0 = 1)))) rfl (HVal.assign' rfl) ?_
    refine HList.nil ?_
    refine nt ?_
    obtain ⟨hT, hF⟩ := h
    refine HW.cond (decide (p0 = 1)) rfl (fun hb10 => ?_) (fun hb10 => ?_)
    · have h := hT hb10
      clear hT hF
      refine HW.seq ?_
      refine HW.region ?_
      refine HList.vals (v := (.int .i64 p1)) rfl (HVal.move' rfl) ?_
      refine HList.vals (v := (.agg #[(.int .i64 1), (.int .i64 p1), (.string (ByteArray.mk #[])), (.bool false)])) rfl (HVal.build' (cs := [(.int .i64 1), (.int .i64 p1), (.string (ByteArray.mk #[])), (.bool false)]) Tryd.runUnderlying35 Tryd.zeroValue35 places35 rfl) ?_
      obtain ⟨z13, h⟩ := h
      refine HList.opsn (HOp.storeN' (l := [(.int .i64 1), (.int .i64 p1), (.string (ByteArray.mk #[])), (.bool false)]) Tryd.sizeOf35 rfl rfl rfl z13) ?_
      rintro _ H11 e12
      replace h := h H11 e12
      refine HList.nil ?_
      refine nt ?_
      refine HW.ret ?_
      refine br ?_
      refine tr ?_
      obtain ⟨x14, x15, x16, x17, c18, h⟩ := h
      exact ⟨_, resOf1 rfl (Res1.n [(.int .i64 x14), (.int .i64 x15), (.string x16), (.bool x17)] Tryd.isAgg35 Tryd.sizeOf35 rfl c18), ⟨x14, x15, x16, x17, rfl, h⟩⟩
    · have h := hF hb10
      clear hT hF
      refine HW.seq ?_
      refine HW.region ?_
      refine HList.vals (v := (.bool (decide (p0 = 2)))) rfl (HVal.eqlI rfl rfl) ?_
      refine HList.vals (v := (.bool (decide (p0 = 2)))) rfl (HVal.assign' rfl) ?_
      refine HList.nil ?_
      refine nt ?_
      obtain ⟨hT, hF⟩ := h
      refine HW.cond (decide (p0 = 2)) rfl (fun hb19 => ?_) (fun hb19 => ?_)
      · have h := hT hb19
        clear hT hF
        refine HW.seq ?_
        refine HW.region ?_
        refine HList.vals (v := (.string y9)) rfl (HVal.move' rfl) ?_
        refine HList.vals (v := (.agg #[(.int .i64 2), (.int .i64 0), (.string y9), (.bool false)])) rfl (HVal.build' (cs := [(.int .i64 2), (.int .i64 0), (.string y9), (.bool false)]) Tryd.runUnderlying35 Tryd.zeroValue35 places35 rfl) ?_
        obtain ⟨z22, h⟩ := h
        refine HList.opsn (HOp.storeN' (l := [(.int .i64 2), (.int .i64 0), (.string y9), (.bool false)]) Tryd.sizeOf35 rfl rfl rfl z22) ?_
        rintro _ H20 e21
        replace h := h H20 e21
        refine HList.nil ?_
        refine nt ?_
        refine HW.ret ?_
        refine br ?_
        refine tr ?_
        obtain ⟨x23, x24, x25, x26, c27, h⟩ := h
        exact ⟨_, resOf1 rfl (Res1.n [(.int .i64 x23), (.int .i64 x24), (.string x25), (.bool x26)] Tryd.isAgg35 Tryd.sizeOf35 rfl c27), ⟨x23, x24, x25, x26, rfl, h⟩⟩
      · have h := hF hb19
        clear hT hF
        refine HW.skip ?_
        refine nb ?_
        refine nt ?_
        refine HW.seq ?_
        refine HW.region ?_
        refine HList.vals (v := (.int .i64 p1)) rfl (HVal.move' rfl) ?_
        refine HList.vals (v := (.int .i64 (Int.tmod p1 (2 : Int)))) rfl (HVal.rem rfl rfl (by decide)) ?_
        refine HList.vals (v := (.bool (decide ((Int.tmod p1 (2 : Int)) ≠ 0)))) rfl (HVal.neqI rfl rfl) ?_
        refine HList.vals (v := (.agg #[(.int .i64 3), (.int .i64 0), (.string (ByteArray.mk #[])), (.bool (decide ((Int.tmod p1 (2 : Int)) ≠ 0)))])) rfl (HVal.build' (cs := [(.int .i64 3), (.int .i64 0), (.string (ByteArray.mk #[])), (.bool (decide ((Int.tmod p1 (2 : Int)) ≠ 0)))]) Tryd.runUnderlying35 Tryd.zeroValue35 places35 rfl) ?_
        obtain ⟨z30, h⟩ := h
        refine HList.opsn (HOp.storeN' (l := [(.int .i64 3), (.int .i64 0), (.string (ByteArray.mk #[])), (.bool (decide ((Int.tmod p1 (2 : Int)) ≠ 0)))]) Tryd.sizeOf35 rfl rfl rfl z30) ?_
        rintro _ H28 e29
        replace h := h H28 e29
        refine HList.nil ?_
        refine nt ?_
        refine HW.ret ?_
        obtain ⟨x31, x32, x33, x34, c35, h⟩ := h
        exact ⟨_, resOf1 rfl (Res1.n [(.int .i64 x31), (.int .i64 x32), (.string x33), (.bool x34)] Tryd.isAgg35 Tryd.sizeOf35 rfl c35), ⟨x31, x32, x33, x34, rfl, h⟩⟩

def F56 (p0 : Int) (H : Hp) (Q : Int → Int → ByteArray → Bool → Hp → Prop) : Prop :=
∀ H1 : Hp, H1 = Array.push H (.cells #[(.int .i64 0), (.int .i64 0), (.string (ByteArray.mk #[])), (.bool false)] 35) → (
 mayw H1 ⟨H.size, 0, none⟩ 4 0 ∧ ∀ H3 : Hp, H3 = sets H1 ⟨H.size, 0, none⟩ [(.int .i64 1), (.int .i64 p0), (.string (ByteArray.mk #[])), (.bool false)] 0 → (
 ∃ (x6 : Int) (x7 : Int) (x8 : ByteArray) (x9 : Bool), cells H3 ⟨H.size, 0, none⟩ [(.int .i64 x6), (.int .i64 x7), (.string x8), (.bool x9)] 0 ∧ (
 Q x6 x7 x8 x9 H3)))
set_option maxRecDepth 100000 in
set_option maxHeartbeats 4000000 in
theorem walk56 {w0 : World} {p0 : Int} {H : Hp} {Q : Int → Int → ByteArray → Bool → Hp → Prop} (h : F56 p0 H Q) :
    Good Tryd.prog w0 56 #[(.int .i64 p0)] H (fun v H => ∃ (r0 : Int) (r1 : Int) (r2 : ByteArray) (r3 : Bool) , v = (.agg #[(.int .i64 r0), (.int .i64 r1), (.string r2), (.bool r3)]) ∧ Q r0 r1 r2 r3 H) := by
  unfold F56 at h
  refine Good.enter' (fn := Tryd.f56) Tryd.func56 rfl rfl rfl ?_
  refine HW.seq ?_
  refine HW.region ?_
  refine HList.ops' rfl (HOp.alloc Tryd.zeroValue35) ?_
  rintro _ H1 ⟨rfl, e2⟩
  replace h := h H1 e2
  refine HList.nil ?_
  refine nt ?_
  refine HW.seq ?_
  refine HW.region ?_
  refine HList.vals (v := (.int .i64 p0)) rfl (HVal.move' rfl) ?_
  refine HList.vals (v := (.agg #[(.int .i64 1), (.int .i64 p0), (.string (ByteArray.mk #[])), (.bool false)])) rfl (HVal.build' (cs := [(.int .i64 1), (.int .i64 p0), (.string (ByteArray.mk #[])), (.bool false)]) Tryd.runUnderlying35 Tryd.zeroValue35 places35 rfl) ?_
  obtain ⟨z5, h⟩ := h
  refine HList.opsn (HOp.storeN' (l := [(.int .i64 1), (.int .i64 p0), (.string (ByteArray.mk #[])), (.bool false)]) Tryd.sizeOf35 rfl rfl rfl z5) ?_
  rintro _ H3 e4
  replace h := h H3 e4
  refine HList.nil ?_
  refine nt ?_
  refine HW.ret ?_
  obtain ⟨x6, x7, x8, x9, c10, h⟩ := h
  exact ⟨_, resOf1 rfl (Res1.n [(.int .i64 x6), (.int .i64 x7), (.string x8), (.bool x9)] Tryd.isAgg35 Tryd.sizeOf35 rfl c10), ⟨x6, x7, x8, x9, rfl, h⟩⟩

def F57 (p0 : ByteArray) (H : Hp) (Q : Int → Int → ByteArray → Bool → Hp → Prop) : Prop :=
∀ H1 : Hp, H1 = Array.push H (.cells #[(.int .i64 0), (.int .i64 0), (.string (ByteArray.mk #[])), (.bool false)] 35) → (
 mayw H1 ⟨H.size, 0, none⟩ 4 0 ∧ ∀ H3 : Hp, H3 = sets H1 ⟨H.size, 0, none⟩ [(.int .i64 2), (.int .i64 0), (.string p0), (.bool false)] 0 → (
 ∃ (x6 : Int) (x7 : Int) (x8 : ByteArray) (x9 : Bool), cells H3 ⟨H.size, 0, none⟩ [(.int .i64 x6), (.int .i64 x7), (.string x8), (.bool x9)] 0 ∧ (
 Q x6 x7 x8 x9 H3)))
set_option maxRecDepth 100000 in
set_option maxHeartbeats 4000000 in
theorem walk57 {w0 : World} {p0 : ByteArray} {H : Hp} {Q : Int → Int → ByteArray → Bool → Hp → Prop} (h : F57 p0 H Q) :
    Good Tryd.prog w0 57 #[(.string p0)] H (fun v H => ∃ (r0 : Int) (r1 : Int) (r2 : ByteArray) (r3 : Bool) , v = (.agg #[(.int .i64 r0), (.int .i64 r1), (.string r2), (.bool r3)]) ∧ Q r0 r1 r2 r3 H) := by
  unfold F57 at h
  refine Good.enter' (fn := Tryd.f57) Tryd.func57 rfl rfl rfl ?_
  refine HW.seq ?_
  refine HW.region ?_
  refine HList.ops' rfl (HOp.alloc Tryd.zeroValue35) ?_
  rintro _ H1 ⟨rfl, e2⟩
  replace h := h H1 e2
  refine HList.nil ?_
  refine nt ?_
  refine HW.seq ?_
  refine HW.region ?_
  refine HList.vals (v := (.string p0)) rfl (HVal.move' rfl) ?_
  refine HList.vals (v := (.agg #[(.int .i64 2), (.int .i64 0), (.string p0), (.bool false)])) rfl (HVal.build' (cs := [(.int .i64 2), (.int .i64 0), (.string p0), (.bool false)]) Tryd.runUnderlying35 Tryd.zeroValue35 places35 rfl) ?_
  obtain ⟨z5, h⟩ := h
  refine HList.opsn (HOp.storeN' (l := [(.int .i64 2), (.int .i64 0), (.string p0), (.bool false)]) Tryd.sizeOf35 rfl rfl rfl z5) ?_
  rintro _ H3 e4
  replace h := h H3 e4
  refine HList.nil ?_
  refine nt ?_
  refine HW.ret ?_
  obtain ⟨x6, x7, x8, x9, c10, h⟩ := h
  exact ⟨_, resOf1 rfl (Res1.n [(.int .i64 x6), (.int .i64 x7), (.string x8), (.bool x9)] Tryd.isAgg35 Tryd.sizeOf35 rfl c10), ⟨x6, x7, x8, x9, rfl, h⟩⟩

def F58 (p0 : Bool) (H : Hp) (Q : Int → Int → ByteArray → Bool → Hp → Prop) : Prop :=
∀ H1 : Hp, H1 = Array.push H (.cells #[(.int .i64 0), (.int .i64 0), (.string (ByteArray.mk #[])), (.bool false)] 35) → (
 mayw H1 ⟨H.size, 0, none⟩ 4 0 ∧ ∀ H3 : Hp, H3 = sets H1 ⟨H.size, 0, none⟩ [(.int .i64 3), (.int .i64 0), (.string (ByteArray.mk #[])), (.bool p0)] 0 → (
 ∃ (x6 : Int) (x7 : Int) (x8 : ByteArray) (x9 : Bool), cells H3 ⟨H.size, 0, none⟩ [(.int .i64 x6), (.int .i64 x7), (.string x8), (.bool x9)] 0 ∧ (
 Q x6 x7 x8 x9 H3)))
set_option maxRecDepth 100000 in
set_option maxHeartbeats 4000000 in
theorem walk58 {w0 : World} {p0 : Bool} {H : Hp} {Q : Int → Int → ByteArray → Bool → Hp → Prop} (h : F58 p0 H Q) :
    Good Tryd.prog w0 58 #[(.bool p0)] H (fun v H => ∃ (r0 : Int) (r1 : Int) (r2 : ByteArray) (r3 : Bool) , v = (.agg #[(.int .i64 r0), (.int .i64 r1), (.string r2), (.bool r3)]) ∧ Q r0 r1 r2 r3 H) := by
  unfold F58 at h
  refine Good.enter' (fn := Tryd.f58) Tryd.func58 rfl rfl rfl ?_
  refine HW.seq ?_
  refine HW.region ?_
  refine HList.ops' rfl (HOp.alloc Tryd.zeroValue35) ?_
  rintro _ H1 ⟨rfl, e2⟩
  replace h := h H1 e2
  refine HList.nil ?_
  refine nt ?_
  refine HW.seq ?_
  refine HW.region ?_
  refine HList.vals (v := (.bool p0)) rfl (HVal.move' rfl) ?_
  refine HList.vals (v := (.agg #[(.int .i64 3), (.int .i64 0), (.string (ByteArray.mk #[])), (.bool p0)])) rfl (HVal.build' (cs := [(.int .i64 3), (.int .i64 0), (.string (ByteArray.mk #[])), (.bool p0)]) Tryd.runUnderlying35 Tryd.zeroValue35 places35 rfl) ?_
  obtain ⟨z5, h⟩ := h
  refine HList.opsn (HOp.storeN' (l := [(.int .i64 3), (.int .i64 0), (.string (ByteArray.mk #[])), (.bool p0)]) Tryd.sizeOf35 rfl rfl rfl z5) ?_
  rintro _ H3 e4
  replace h := h H3 e4
  refine HList.nil ?_
  refine nt ?_
  refine HW.ret ?_
  obtain ⟨x6, x7, x8, x9, c10, h⟩ := h
  exact ⟨_, resOf1 rfl (Res1.n [(.int .i64 x6), (.int .i64 x7), (.string x8), (.bool x9)] Tryd.isAgg35 Tryd.sizeOf35 rfl c10), ⟨x6, x7, x8, x9, rfl, h⟩⟩

def F27 (p0_0 : Int) (p0_1 : Int) (p0_2 : ByteArray) (p0_3 : Bool) (H : Hp) (Q : Bool → Hp → Prop) : Prop :=
∀ H1 : Hp, H1 = Array.push H (.cells #[(.int .i64 p0_0), (.int .i64 p0_1), (.string p0_2), (.bool p0_3)] 35) → (
 ∃ x4 : Int, cell H1 ⟨H.size, 0, none⟩ = some (.int .i64 x4) ∧ (
 ((decide (x4 = 1)) = true → (∃ (x7 : Int) (x8 : Int) (x9 : ByteArray) (x10 : Bool), cells H1 ⟨H.size, 0, none⟩ [(.int .i64 x7), (.int .i64 x8), (.string x9), (.bool x10)] 0 ∧ (
 ∃ x12 : Int, cell H1 (Addr.add ⟨H.size, 0, none⟩ 1) = some (.int .i64 x12) ∧ (
 F56 x12 H1 (fun (r15 : Int) (r16 : Int) (r17 : ByteArray) (r18 : Bool) (H13 : Hp) => 
 cells H13 ⟨H.size, 0, none⟩ [(.int .i64 x7), (.int .i64 x8), (.string x9), (.bool x10)] 0 ∧ (
 Q (decide (x7 = r15) && (decide (x8 = r16) && (seq x9 r17 && (x10 == r18)))) H13)))))) ∧
 ((decide (x4 = 1)) = false → (((decide (x4 = 2)) = true → (∃ (x22 : Int) (x23 : Int) (x24 : ByteArray) (x25 : Bool), cells H1 ⟨H.size, 0, none⟩ [(.int .i64 x22), (.int .i64 x23), (.string x24), (.bool x25)] 0 ∧ (
 ∃ x27 : ByteArray, cell H1 (Addr.add ⟨H.size, 0, none⟩ 2) = some (.string x27) ∧ (
 F57 x27 H1 (fun (r30 : Int) (r31 : Int) (r32 : ByteArray) (r33 : Bool) (H28 : Hp) => 
 cells H28 ⟨H.size, 0, none⟩ [(.int .i64 x22), (.int .i64 x23), (.string x24), (.bool x25)] 0 ∧ (
 ((decide (x22 = r30) && (decide (x23 = r31) && (seq x24 r32 && (x25 == r33)))) = true → (∃ x38 : ByteArray, cell H28 (Addr.add ⟨H.size, 0, none⟩ 2) = some (.string x38) ∧ (
 Q (decide (((x38).size : Int) ≤ 256)) H28))) ∧
 ((decide (x22 = r30) && (decide (x23 = r31) && (seq x24 r32 && (x25 == r33)))) = false → (Q false H28)))))))) ∧
 ((decide (x4 = 2)) = false → (((decide (x4 = 3)) = true → (∃ (x41 : Int) (x42 : Int) (x43 : ByteArray) (x44 : Bool), cells H1 ⟨H.size, 0, none⟩ [(.int .i64 x41), (.int .i64 x42), (.string x43), (.bool x44)] 0 ∧ (
 ∃ x46 : Bool, cell H1 (Addr.add ⟨H.size, 0, none⟩ 3) = some (.bool x46) ∧ (
 F58 x46 H1 (fun (r49 : Int) (r50 : Int) (r51 : ByteArray) (r52 : Bool) (H47 : Hp) => 
 cells H47 ⟨H.size, 0, none⟩ [(.int .i64 x41), (.int .i64 x42), (.string x43), (.bool x44)] 0 ∧ (
 Q (decide (x41 = r49) && (decide (x42 = r50) && (seq x43 r51 && (x44 == r52)))) H47)))))) ∧
 ((decide (x4 = 3)) = false → (Q false H1))))))))
set_option maxRecDepth 100000 in
set_option maxHeartbeats 4000000 in
theorem walk27 {w0 : World} {p0_0 : Int} {p0_1 : Int} {p0_2 : ByteArray} {p0_3 : Bool} {H : Hp} {Q : Bool → Hp → Prop} (h : F27 p0_0 p0_1 p0_2 p0_3 H Q) :
    Good Tryd.prog w0 27 #[(.agg #[(.int .i64 p0_0), (.int .i64 p0_1), (.string p0_2), (.bool p0_3)])] H (fun v H => ∃ (r0 : Bool) , v = (.bool r0) ∧ Q r0 H) := by
  unfold F27 at h
  refine Good.enter' (fn := Tryd.f27) Tryd.func27 rfl rfl rfl ?_
  refine HW.seq ?_
  refine HW.region ?_
  refine HList.ops' rfl (HOp.box (v := (.agg #[(.int .i64 p0_0), (.int .i64 p0_1), (.string p0_2), (.bool p0_3)])) rfl) ?_
  rintro _ H1 ⟨rfl, e2⟩
  replace h := h H1 e2
  refine HList.vals (v := (.bool false)) rfl (HVal.assign' rfl) ?_
  refine HList.nil ?_
  refine nt ?_
  refine HW.seq ?_
  refine HW.seq ?_
  refine HW.region ?_
  refine HList.vals (v := (.pointer (some ⟨H.size, 0, none⟩))) rfl (HVal.fieldAddr0 Tryd.runUnderlying35 rfl rfl Tryd.sizeOf3 rfl) ?_
  obtain ⟨x4, c3, h⟩ := h
  refine HList.vals (v := (.int .i64 x4)) rfl (HVal.load1 Tryd.isAgg3 rfl c3) ?_
  refine HList.nil ?_
  refine nt ?_
  refine HW.block ?_
  refine HW.seq ?_
  refine HW.region ?_
  refine HList.vals (v := (.bool (decide (x4 = 1)))) rfl (HVal.eqlI rfl rfl) ?_
  refine HList.vals (v := (.bool (decide (x4 = 1)))) rfl (HVal.assign' rfl) ?_
  refine HList.nil ?_
  refine nt ?_
  obtain ⟨hT, hF⟩ := h
  refine HW.cond (decide (x4 = 1)) rfl (fun hb5 => ?_) (fun hb5 => ?_)
  · have h := hT hb5
    clear hT hF
    refine HW.seq ?_
    refine HW.draw mixed [(0, some []), (1, some []), (2, some [3]), (3, none), (4, some []), (5, some [])] rfl (by kernel_rfl) (by kernel_rfl) ?_
    obtain ⟨x7, x8, x9, x10, c6, h⟩ := h
    refine HPlan.takel (v := (.agg #[(.int .i64 x7), (.int .i64 x8), (.string x9), (.bool x10)])) (fun X => cells X ⟨H.size, 0, none⟩ [(.int .i64 x7), (.int .i64 x8), (.string x9), (.bool x10)] 0) rfl rfl (fun _ hX => HVal.loadN [(.int .i64 x7), (.int .i64 x8), (.string x9), (.bool x10)] Tryd.isAgg35 Tryd.sizeOf35 rfl hX) c6 ?_
    refine HPlan.takev (v := (.pointer (some (Addr.add ⟨H.size, 0, none⟩ 1)))) rfl rfl (fun _ => HVal.fieldAddr' Tryd.runUnderlying35 rfl rfl Tryd.sizeOf2 rfl) ?_
    obtain ⟨x12, c11, h⟩ := h
    refine HPlan.takel (v := (.int .i64 x12)) (fun X => cell X (Addr.add ⟨H.size, 0, none⟩ 1) = some (.int .i64 x12)) rfl rfl (fun _ hX => HVal.load1 Tryd.isAgg2 rfl hX) c11 ?_
    refine HPlan.ops' rfl rfl (HOp.call' 56 [(.int .i64 x12)] (cap := []) rfl rfl Tryd.call56 (walk56 h)) ?_
    rintro _ H13 ⟨r15, r16, r17, r18, rfl, h⟩
    obtain ⟨s19, h⟩ := h
    refine ⟨SC_of ⟨fun e => absurd e (by decide), fun _ => s19, trivial⟩, ?_⟩
    refine HPlan.takev (v := (.bool (decide (x7 = r15) && (decide (x8 = r16) && (seq x9 r17 && (x10 == r18)))))) rfl rfl (fun _ => eqs35_eql rfl rfl) ?_
    refine HPlan.takev (v := (.bool (decide (x7 = r15) && (decide (x8 = r16) && (seq x9 r17 && (x10 == r18)))))) rfl rfl (fun _ => HVal.assign' rfl) ?_
    refine HPlan.done ?_
    refine nt ?_
    refine HW.ret ?_
    refine br ?_
    refine tr ?_
    exact ⟨_, resOf1 rfl Res1.t, ⟨(decide (x7 = r15) && (decide (x8 = r16) && (seq x9 r17 && (x10 == r18)))), rfl, h⟩⟩
  · have h := hF hb5
    clear hT hF
    refine HW.seq ?_
    refine HW.region ?_
    refine HList.vals (v := (.bool (decide (x4 = 2)))) rfl (HVal.eqlI rfl rfl) ?_
    refine HList.vals (v := (.bool (decide (x4 = 2)))) rfl (HVal.assign' rfl) ?_
    refine HList.nil ?_
    refine nt ?_
    obtain ⟨hT, hF⟩ := h
    refine HW.cond (decide (x4 = 2)) rfl (fun hb20 => ?_) (fun hb20 => ?_)
    · have h := hT hb20
      clear hT hF
      refine HW.seq ?_
      refine HW.draw mixed [(0, some []), (1, some []), (2, some [3]), (3, none), (4, some []), (5, some []), (6, some []), (7, some []), (8, some []), (9, some []), (10, some []), (11, some [])] rfl (by kernel_rfl) (by kernel_rfl) ?_
      obtain ⟨x22, x23, x24, x25, c21, h⟩ := h
      refine HPlan.takel (v := (.agg #[(.int .i64 x22), (.int .i64 x23), (.string x24), (.bool x25)])) (fun X => cells X ⟨H.size, 0, none⟩ [(.int .i64 x22), (.int .i64 x23), (.string x24), (.bool x25)] 0) rfl rfl (fun _ hX => HVal.loadN [(.int .i64 x22), (.int .i64 x23), (.string x24), (.bool x25)] Tryd.isAgg35 Tryd.sizeOf35 rfl hX) c21 ?_
      refine HPlan.takev (v := (.pointer (some (Addr.add ⟨H.size, 0, none⟩ 2)))) rfl rfl (fun _ => HVal.fieldAddr' Tryd.runUnderlying35 rfl rfl Tryd.sizeOf9 rfl) ?_
      obtain ⟨x27, c26, h⟩ := h
      refine HPlan.takel (v := (.string x27)) (fun X => cell X (Addr.add ⟨H.size, 0, none⟩ 2) = some (.string x27)) rfl rfl (fun _ hX => HVal.load1 Tryd.isAgg9 rfl hX) c26 ?_
      refine HPlan.ops' rfl rfl (HOp.call' 57 [(.string x27)] (cap := []) rfl rfl Tryd.call57 (walk57 h)) ?_
      rintro _ H28 ⟨r30, r31, r32, r33, rfl, h⟩
      obtain ⟨s34, h⟩ := h
      refine ⟨SC_of ⟨fun e => absurd e (by decide), fun _ => s34, trivial⟩, ?_⟩
      refine HPlan.takev (v := (.bool (decide (x22 = r30) && (decide (x23 = r31) && (seq x24 r32 && (x25 == r33)))))) rfl rfl (fun _ => eqs35_eql rfl rfl) ?_
      refine HPlan.takev (v := (.bool (decide (x22 = r30) && (decide (x23 = r31) && (seq x24 r32 && (x25 == r33)))))) rfl rfl (fun _ => HVal.move' rfl) ?_
      obtain ⟨hT, hF⟩ := h
      rcases Bool.eq_false_or_eq_true (decide (x22 = r30) && (decide (x23 = r31) && (seq x24 r32 && (x25 == r33)))) with hb35 | hb36
      · have h := hT hb35
        clear hT hF
        refine HPlan.gtakev (v := (.pointer (some (Addr.add ⟨H.size, 0, none⟩ 2)))) rfl rfl rfl rfl rfl (congrArg Value.bool hb35) (fun _ => HVal.fieldAddr' Tryd.runUnderlying35 rfl rfl Tryd.sizeOf9 rfl) ?_
        obtain ⟨x38, c37, h⟩ := h
        refine HPlan.gtakel (v := (.string x38)) (fun X => cell X (Addr.add ⟨H.size, 0, none⟩ 2) = some (.string x38)) rfl rfl rfl rfl rfl (congrArg Value.bool hb35) (fun _ hX => HVal.load1 Tryd.isAgg9 rfl hX) c37 ?_
        refine HPlan.gtakev (v := (.int .i64 ((x38).size : Int))) rfl rfl rfl rfl rfl (congrArg Value.bool hb35) (fun _ => HVal.lenS Tryd.runUnderlying9 rfl) ?_
        refine HPlan.gtakev (v := (.bool (decide (((x38).size : Int) ≤ 256)))) rfl rfl rfl rfl rfl (congrArg Value.bool hb35) (fun _ => HVal.leq rfl rfl) ?_
        refine HPlan.takev (v := (.bool (decide (((x38).size : Int) ≤ 256)))) rfl rfl (fun _ => HVal.pickT rfl hb35 rfl) ?_
        refine HPlan.takev (v := (.bool (decide (((x38).size : Int) ≤ 256)))) rfl rfl (fun _ => HVal.assign' rfl) ?_
        refine HPlan.done ?_
        refine nt ?_
        refine HW.ret ?_
        refine br ?_
        refine tr ?_
        exact ⟨_, resOf1 rfl Res1.t, ⟨(decide (((x38).size : Int) ≤ 256)), rfl, h⟩⟩
      · have h := hF hb36
        clear hT hF
        refine HPlan.takegskip rfl rfl rfl rfl (congrArg Value.bool hb36) ?_
        refine HPlan.takegskip rfl rfl rfl rfl (congrArg Value.bool hb36) ?_
        refine HPlan.takegskip rfl rfl rfl rfl (congrArg Value.bool hb36) ?_
        refine HPlan.takegskip rfl rfl rfl rfl (congrArg Value.bool hb36) ?_
        refine HPlan.takev (v := (.bool false)) rfl rfl (fun _ => HVal.pickF rfl hb36 rfl) ?_
        refine HPlan.takev (v := (.bool false)) rfl rfl (fun _ => HVal.assign' rfl) ?_
        refine HPlan.done ?_
        refine nt ?_
        refine HW.ret ?_
        refine br ?_
        refine tr ?_
        exact ⟨_, resOf1 rfl Res1.t, ⟨false, rfl, h⟩⟩
    · have h := hF hb20
      clear hT hF
      refine HW.seq ?_
      refine HW.region ?_
      refine HList.vals (v := (.bool (decide (x4 = 3)))) rfl (HVal.eqlI rfl rfl) ?_
      refine HList.vals (v := (.bool (decide (x4 = 3)))) rfl (HVal.assign' rfl) ?_
      refine HList.nil ?_
      refine nt ?_
      obtain ⟨hT, hF⟩ := h
      refine HW.cond (decide (x4 = 3)) rfl (fun hb39 => ?_) (fun hb39 => ?_)
      · have h := hT hb39
        clear hT hF
        refine HW.seq ?_
        refine HW.draw mixed [(0, some []), (1, some []), (2, some [3]), (3, none), (4, some []), (5, some [])] rfl (by kernel_rfl) (by kernel_rfl) ?_
        obtain ⟨x41, x42, x43, x44, c40, h⟩ := h
        refine HPlan.takel (v := (.agg #[(.int .i64 x41), (.int .i64 x42), (.string x43), (.bool x44)])) (fun X => cells X ⟨H.size, 0, none⟩ [(.int .i64 x41), (.int .i64 x42), (.string x43), (.bool x44)] 0) rfl rfl (fun _ hX => HVal.loadN [(.int .i64 x41), (.int .i64 x42), (.string x43), (.bool x44)] Tryd.isAgg35 Tryd.sizeOf35 rfl hX) c40 ?_
        refine HPlan.takev (v := (.pointer (some (Addr.add ⟨H.size, 0, none⟩ 3)))) rfl rfl (fun _ => HVal.fieldAddr' Tryd.runUnderlying35 rfl rfl Tryd.sizeOf4 rfl) ?_
        obtain ⟨x46, c45, h⟩ := h
        refine HPlan.takel (v := (.bool x46)) (fun X => cell X (Addr.add ⟨H.size, 0, none⟩ 3) = some (.bool x46)) rfl rfl (fun _ hX => HVal.load1 Tryd.isAgg4 rfl hX) c45 ?_
        refine HPlan.ops' rfl rfl (HOp.call' 58 [(.bool x46)] (cap := []) rfl rfl Tryd.call58 (walk58 h)) ?_
        rintro _ H47 ⟨r49, r50, r51, r52, rfl, h⟩
        obtain ⟨s53, h⟩ := h
        refine ⟨SC_of ⟨fun e => absurd e (by decide), fun _ => s53, trivial⟩, ?_⟩
        refine HPlan.takev (v := (.bool (decide (x41 = r49) && (decide (x42 = r50) && (seq x43 r51 && (x44 == r52)))))) rfl rfl (fun _ => eqs35_eql rfl rfl) ?_
        refine HPlan.takev (v := (.bool (decide (x41 = r49) && (decide (x42 = r50) && (seq x43 r51 && (x44 == r52)))))) rfl rfl (fun _ => HVal.assign' rfl) ?_
        refine HPlan.done ?_
        refine nt ?_
        refine HW.ret ?_
        refine br ?_
        refine tr ?_
        exact ⟨_, resOf1 rfl Res1.t, ⟨(decide (x41 = r49) && (decide (x42 = r50) && (seq x43 r51 && (x44 == r52)))), rfl, h⟩⟩
      · have h := hF hb39
        clear hT hF
        refine HW.skip ?_
        refine nb ?_
        refine nt ?_
        refine HW.seq ?_
        refine HW.region ?_
        refine HList.vals (v := (.bool false)) rfl (HVal.assign' rfl) ?_
        refine HList.nil ?_
        refine nt ?_
        refine HW.ret ?_
        exact ⟨_, resOf1 rfl Res1.t, ⟨false, rfl, h⟩⟩

def F11_L2b (Q : Int → Hp → Prop) (X2 : Int → Hp → Prop) (y39 : Addr) (y40 : Sl) (y41 : Int) (y38 : Int) (H_2 : Hp) : Prop :=
((decide (y38 < y41)) = true → (∃ a43 : Addr, (y40).b = some a43 ∧ (0 : Int) ≤ y38 ∧ y38 < ((y40).n : Int) ∧ (
 ∃ (x48 : Int) (x49 : Int) (x50 : ByteArray) (x51 : Bool), cells H_2 (Addr.add a43 (y38.toNat * 4)) [(.int .i64 x48), (.int .i64 x49), (.string x50), (.bool x51)] 0 ∧ (
 ∀ H52 : Hp, H52 = Array.push H_2 (.cells #[(.int .i64 0), (.int .i64 0), (.string (ByteArray.mk #[])), (.bool false)] 35) → (
 mayw H52 ⟨H_2.size, 0, none⟩ 4 0 ∧ ∀ H54 : Hp, H54 = sets H52 ⟨H_2.size, 0, none⟩ [(.int .i64 x48), (.int .i64 x49), (.string x50), (.bool x51)] 0 → (
 ∃ x58 : Int, cell H54 ⟨H_2.size, 0, none⟩ = some (.int .i64 x58) ∧ (
 ∃ x60 : Sl, cell H54 (Addr.add y39 1) = some (Sl.v x60) ∧ (
 ∃ a61 : Addr, (x60).b = some a61 ∧ (0 : Int) ≤ y38 ∧ y38 < ((x60).n : Int) ∧ (
 ∃ x66 : Int, cell H54 (Addr.add (Addr.add a61 (y38.toNat * 2)) 1) = some (.int .i64 x66) ∧ (
 ((decide (x58 ≠ x66)) = true → (Q 10 H54)) ∧
 ((decide (x58 ≠ x66)) = false → (∃ (x69 : Int) (x70 : Int) (x71 : ByteArray) (x72 : Bool), cells H54 ⟨H_2.size, 0, none⟩ [(.int .i64 x69), (.int .i64 x70), (.string x71), (.bool x72)] 0 ∧ (
 F27 x69 x70 x71 x72 H54 (fun (r75 : Bool) (H73 : Hp) => 
 ((!r75) = true → (Q 12 H73)) ∧
 ((!r75) = false → (X2 (IntKind.i64.wrap (y38 + 1)) H73)))))))))))))))) ∧
 ((decide (y38 < y41)) = false → (Q 0 H_2))
def F11_L2 (Q : Int → Hp → Prop) (y39 : Addr) (y40 : Sl) (y41 : Int) (y38 : Int) (H_2 : Hp) : Prop :=
  ∀ X2 : Int → Hp → Prop, (∀ (y38 : Int) (H_2 : Hp), F11_L2b Q X2 y39 y40 y41 y38 H_2 → X2 y38 H_2) → X2 y38 H_2
def F11_1 (Q : Int → Hp → Prop) (y21 : Addr) (y22 : Addr) (y27 : Bool) (H_1 : Hp) : Prop :=
(y27 = true → (Q 23 H_1)) ∧
 (y27 = false → (∃ x32 : Sl, cell H_1 (Addr.add y21 2) = some (Sl.v x32) ∧ (
 ∃ x34 : Sl, cell H_1 (Addr.add y22 1) = some (Sl.v x34) ∧ (
 ((decide (((x32).n : Int) ≠ ((x34).n : Int))) = true → (Q 22 H_1)) ∧
 ((decide (((x32).n : Int) ≠ ((x34).n : Int))) = false → (∃ x37 : Sl, cell H_1 (Addr.add y21 2) = some (Sl.v x37) ∧ (
 F11_L2 Q y22 x37 ((x37).n : Int) 0 H_1)))))))
def F11 (p0 : (Option Addr)) (p1_0 : ByteArray) (p1_1 : Int) (p1_2 : Sl) (H : Hp) (Q : Int → Hp → Prop) : Prop :=
∀ H1 : Hp, H1 = Array.push H (.cells #[(.string p1_0), (.int .i64 p1_1), (Sl.v p1_2)] 33) → (
 ∃ a3 : Addr, p0 = some a3 ∧ (
 ∃ x6 : (Option Nat), cell H1 a3 = some (.map x6) ∧ (
 ∃ x8 : ByteArray, cell H1 ⟨H.size, 0, none⟩ = some (.string x8) ∧ (
 ∃ (L9 : ML ByteArray (ByteArray × Sl)) (c10 : Nat), MapK mk9 mv27 Always H1 x6 L9 c10 x8 ∧ (
 ∀ H12 : Hp, H12 = Array.push H1 (.cells #[(.string (ByteArray.mk #[])), (Sl.v Sl.nil)] 27) → (
 MapK mk9 mv27 Always H12 x6 L9 c10 x8 ∧ cell H12 ⟨H.size, 0, none⟩ = some (.string x8) ∧ cell H12 a3 = some (.map x6) ∧ (
 mayw H12 ⟨H1.size, 0, none⟩ 2 0 ∧ ∀ H17 : Hp, H17 = sets H12 ⟨H1.size, 0, none⟩ [(.string ((mget L9 x8).getD ((ByteArray.mk #[]), Sl.nil)).1), (Sl.v ((mget L9 x8).getD ((ByteArray.mk #[]), Sl.nil)).2)] 0 → (
 ((!((mget L9 x8).isSome)) = true → (Q 21 H17)) ∧
 ((!((mget L9 x8).isSome)) = false → (∃ x24 : Int, cell H17 (Addr.add ⟨H.size, 0, none⟩ 1) = some (.int .i64 x24) ∧ (
 ((decide (x24 < 0)) = true → (F11_1 Q ⟨H.size, 0, none⟩ ⟨H1.size, 0, none⟩ true H17)) ∧
 ((decide (x24 < 0)) = false → (∃ x29 : Int, cell H17 (Addr.add ⟨H.size, 0, none⟩ 1) = some (.int .i64 x29) ∧ (
 F11_1 Q ⟨H.size, 0, none⟩ ⟨H1.size, 0, none⟩ (decide ((4611686018427387904 : Int) < x29)) H17))))))))))))))
set_option maxRecDepth 100000 in
set_option maxHeartbeats 4000000 in
theorem walk11 {w0 : World} {p0 : (Option Addr)} {p1_0 : ByteArray} {p1_1 : Int} {p1_2 : Sl} {H : Hp} {Q : Int → Hp → Prop} (h : F11 p0 p1_0 p1_1 p1_2 H Q) :
    Good Tryd.prog w0 11 #[(.pointer p0), (.agg #[(.string p1_0), (.int .i64 p1_1), (Sl.v p1_2)])] H (fun v H => ∃ (r0 : Int) , v = (.int .i64 r0) ∧ Q r0 H) := by
  unfold F11 at h
  refine Good.enter' (fn := Tryd.f11) Tryd.func11 rfl rfl rfl ?_
  refine HW.seq ?_
  refine HW.region ?_
  refine HList.ops' rfl (HOp.box (v := (.agg #[(.string p1_0), (.int .i64 p1_1), (Sl.v p1_2)])) rfl) ?_
  rintro _ H1 ⟨rfl, e2⟩
  replace h := h H1 e2
  refine HList.vals (v := (.int .i64 0)) rfl (HVal.assign' rfl) ?_
  refine HList.nil ?_
  refine nt ?_
  refine HW.seq ?_
  refine HW.draw mixed [(0, some []), (1, some []), (2, some []), (3, some [11]), (4, some []), (5, some [11]), (6, some [11]), (7, some []), (8, some []), (9, some []), (10, none), (11, none), (12, some [])] rfl (by kernel_rfl) (by kernel_rfl) ?_
  refine HPlan.takev (v := (.pointer p0)) rfl rfl (fun _ => HVal.move' rfl) ?_
  obtain ⟨a3, e4, h⟩ := h
  refine HPlan.takev (v := (.pointer (some a3))) rfl rfl (fun _ => HVal.nilCheck (congrArg Value.pointer e4)) ?_
  refine HPlan.takev (v := (.pointer (some a3))) rfl rfl (fun _ => HVal.fieldAddr0 Tryd.runUnderlying72 rfl rfl Tryd.sizeOf70 rfl) ?_
  obtain ⟨x6, c5, h⟩ := h
  refine HPlan.takel (v := (.map x6)) (fun X => cell X a3 = some (.map x6)) rfl rfl (fun _ hX => HVal.load1 Tryd.isAgg70 rfl hX) c5 ?_
  refine HPlan.takev (v := (.pointer (some ⟨H.size, 0, none⟩))) rfl rfl (fun _ => HVal.fieldAddr0 Tryd.runUnderlying33 rfl rfl Tryd.sizeOf9 rfl) ?_
  obtain ⟨x8, c7, h⟩ := h
  refine HPlan.takel (v := (.string x8)) (fun X => cell X ⟨H.size, 0, none⟩ = some (.string x8)) rfl rfl (fun _ hX => HVal.load1 Tryd.isAgg9 rfl hX) c7 ?_
  obtain ⟨L9, c10, c11, h⟩ := h
  refine HPlan.takel (v := (.tuple #[(.agg #[(.string ((mget L9 x8).getD ((ByteArray.mk #[]), Sl.nil)).1), (Sl.v ((mget L9 x8).getD ((ByteArray.mk #[]), Sl.nil)).2)]), (.bool ((mget L9 x8).isSome))])) (fun X => MapK mk9 mv27 Always X x6 L9 c10 x8) rfl rfl (fun _ hX => HVal.lookupOk (f := mk9) (g := mv27) (k := x8) (z := ((ByteArray.mk #[]), Sl.nil)) Tryd.runUnderlying70 mkk9 Tryd.zeroValue27 rfl rfl hX) c11 ?_
  refine HPlan.takev (v := (.tuple #[(.agg #[(.string ((mget L9 x8).getD ((ByteArray.mk #[]), Sl.nil)).1), (Sl.v ((mget L9 x8).getD ((ByteArray.mk #[]), Sl.nil)).2)]), (.bool ((mget L9 x8).isSome))])) rfl rfl (fun _ => HVal.move' rfl) ?_
  refine HPlan.takev (v := (.agg #[(.string ((mget L9 x8).getD ((ByteArray.mk #[]), Sl.nil)).1), (Sl.v ((mget L9 x8).getD ((ByteArray.mk #[]), Sl.nil)).2)])) rfl rfl (fun _ => HVal.extract rfl rfl) ?_
  refine HPlan.takev (v := (.bool ((mget L9 x8).isSome))) rfl rfl (fun _ => HVal.extract rfl rfl) ?_
  refine HPlan.ops' rfl rfl (HOp.alloc Tryd.zeroValue27) ?_
  rintro _ H12 ⟨rfl, e13⟩
  replace h := h H12 e13
  obtain ⟨s14, s15, s16, h⟩ := h
  refine ⟨SC_of ⟨fun _ => s14, fun _ => s15, fun _ => s16, trivial⟩, ?_⟩
  obtain ⟨z19, h⟩ := h
  refine HPlan.opsn rfl (HOp.storeN' (l := [(.string ((mget L9 x8).getD ((ByteArray.mk #[]), Sl.nil)).1), (Sl.v ((mget L9 x8).getD ((ByteArray.mk #[]), Sl.nil)).2)]) Tryd.sizeOf27 rfl rfl rfl z19) ?_
  rintro _ H17 e18
  replace h := h H17 e18
  refine ⟨SC_of ⟨fun e => absurd e (by decide), fun e => absurd e (by decide), fun e => absurd e (by decide), trivial⟩, ?_⟩
  refine HPlan.takev (v := (.bool ((mget L9 x8).isSome))) rfl rfl (fun _ => HVal.assign' rfl) ?_
  refine HPlan.done ?_
  refine nt ?_
  refine HW.seq ?_
  refine HW.block ?_
  refine HW.seq ?_
  refine HW.region ?_
  refine HList.vals (v := (.bool ((mget L9 x8).isSome))) rfl (HVal.move' rfl) ?_
  refine HList.vals (v := (.bool (!((mget L9 x8).isSome)))) rfl (HVal.not rfl) ?_
  refine HList.vals (v := (.bool (!((mget L9 x8).isSome)))) rfl (HVal.assign' rfl) ?_
  refine HList.nil ?_
  refine nt ?_
  obtain ⟨hT, hF⟩ := h
  refine HW.cond (!((mget L9 x8).isSome)) rfl (fun hb20 => ?_) (fun hb20 => ?_)
  · have h := hT hb20
    clear hT hF
    refine HW.seq ?_
    refine HW.region ?_
    refine HList.vals (v := (.int .i64 21)) rfl (HVal.assign' rfl) ?_
    refine HList.nil ?_
    refine nt ?_
    refine HW.ret ?_
    refine br ?_
    refine tr ?_
    exact ⟨_, resOf1 rfl Res1.t, ⟨21, rfl, h⟩⟩
  · have h := hF hb20
    clear hT hF
    refine HW.cut (fun ρ H_1 => ∃ (y27 : Bool), Env.Is ρ [(3, (.pointer (some ⟨H.size, 0, none⟩))), (5, (.pointer (some ⟨H1.size, 0, none⟩))), (22, (.bool y27))] ∧ F11_1 Q ⟨H.size, 0, none⟩ ⟨H1.size, 0, none⟩ y27 H_1) ?_ ?_
    · refine HW.region ?_
      refine HList.vals (v := (.pointer (some (Addr.add ⟨H.size, 0, none⟩ 1)))) rfl (HVal.fieldAddr' Tryd.runUnderlying33 rfl rfl Tryd.sizeOf2 rfl) ?_
      obtain ⟨x24, c23, h⟩ := h
      refine HList.vals (v := (.int .i64 x24)) rfl (HVal.load1 Tryd.isAgg2 rfl c23) ?_
      refine HList.vals (v := (.bool (decide (x24 < 0)))) rfl (HVal.lss rfl rfl) ?_
      refine HList.vals (v := (.bool (decide (x24 < 0)))) rfl (HVal.move' rfl) ?_
      obtain ⟨hT, hF⟩ := h
      rcases Bool.eq_false_or_eq_true (decide (x24 < 0)) with hb25 | hb26
      · have h := hT hb25
        clear hT hF
        refine HList.gskips rfl rfl rfl rfl (congrArg Value.bool hb25) ?_
        refine HList.gskips rfl rfl rfl rfl (congrArg Value.bool hb25) ?_
        refine HList.gskips rfl rfl rfl rfl (congrArg Value.bool hb25) ?_
        refine HList.vals (v := (.bool true)) rfl (HVal.pickT rfl hb25 rfl) ?_
        refine HList.vals (v := (.bool true)) rfl (HVal.assign' rfl) ?_
        refine HList.nil ?_
        refine nt ?_
        exact ⟨true, ⟨rfl, rfl, rfl, trivial⟩, h⟩
      · have h := hF hb26
        clear hT hF
        refine HList.gvals (v := (.pointer (some (Addr.add ⟨H.size, 0, none⟩ 1)))) rfl rfl rfl rfl (congrArg Value.bool hb26) (HVal.fieldAddr' Tryd.runUnderlying33 rfl rfl Tryd.sizeOf2 rfl) ?_
        obtain ⟨x29, c28, h⟩ := h
        refine HList.gvals (v := (.int .i64 x29)) rfl rfl rfl rfl (congrArg Value.bool hb26) (HVal.load1 Tryd.isAgg2 rfl c28) ?_
        refine HList.gvals (v := (.bool (decide ((4611686018427387904 : Int) < x29)))) rfl rfl rfl rfl (congrArg Value.bool hb26) (HVal.gtr rfl rfl) ?_
        refine HList.vals (v := (.bool (decide ((4611686018427387904 : Int) < x29)))) rfl (HVal.pickF rfl hb26 rfl) ?_
        refine HList.vals (v := (.bool (decide ((4611686018427387904 : Int) < x29)))) rfl (HVal.assign' rfl) ?_
        refine HList.nil ?_
        refine nt ?_
        exact ⟨(decide ((4611686018427387904 : Int) < x29)), ⟨rfl, rfl, rfl, trivial⟩, h⟩
    · rintro ρ H_1 ⟨y27, hI, h⟩
      obtain ⟨ρ0, rfl⟩ : ∃ ρ0, ρ = (Env.set (Env.set (Env.set ρ0 22 (.bool y27)) 5 (.pointer (some ⟨H1.size, 0, none⟩))) 3 (.pointer (some ⟨H.size, 0, none⟩))) := ⟨ρ, hI.eq⟩
      clear hI; unfold F11_1 at h
      obtain ⟨hT, hF⟩ := h
      refine HW.cond y27 rfl (fun hb30 => ?_) (fun hb30 => ?_)
      · have h := hT hb30
        clear hT hF
        refine HW.seq ?_
        refine HW.region ?_
        refine HList.vals (v := (.int .i64 23)) rfl (HVal.assign' rfl) ?_
        refine HList.nil ?_
        refine nt ?_
        refine HW.ret ?_
        refine br ?_
        refine tr ?_
        exact ⟨_, resOf1 rfl Res1.t, ⟨23, rfl, h⟩⟩
      · have h := hF hb30
        clear hT hF
        refine HW.seq ?_
        refine HW.region ?_
        refine HList.vals (v := (.pointer (some (Addr.add ⟨H.size, 0, none⟩ 2)))) rfl (HVal.fieldAddr' Tryd.runUnderlying33 rfl rfl Tryd.sizeOf31 rfl) ?_
        obtain ⟨x32, c31, h⟩ := h
        refine HList.vals (v := (Sl.v x32)) rfl (HVal.load1 Tryd.isAgg31 rfl c31) ?_
        refine HList.vals (v := (.int .i64 ((x32).n : Int))) rfl (HVal.len Tryd.runUnderlying31 rfl) ?_
        refine HList.vals (v := (.pointer (some (Addr.add ⟨H1.size, 0, none⟩ 1)))) rfl (HVal.fieldAddr' Tryd.runUnderlying27 rfl rfl Tryd.sizeOf25 rfl) ?_
        obtain ⟨x34, c33, h⟩ := h
        refine HList.vals (v := (Sl.v x34)) rfl (HVal.load1 Tryd.isAgg25 rfl c33) ?_
        refine HList.vals (v := (.int .i64 ((x34).n : Int))) rfl (HVal.len Tryd.runUnderlying25 rfl) ?_
        refine HList.vals (v := (.bool (decide (((x32).n : Int) ≠ ((x34).n : Int))))) rfl (HVal.neqI rfl rfl) ?_
        refine HList.vals (v := (.bool (decide (((x32).n : Int) ≠ ((x34).n : Int))))) rfl (HVal.assign' rfl) ?_
        refine HList.nil ?_
        refine nt ?_
        obtain ⟨hT, hF⟩ := h
        refine HW.cond (decide (((x32).n : Int) ≠ ((x34).n : Int))) rfl (fun hb35 => ?_) (fun hb35 => ?_)
        · have h := hT hb35
          clear hT hF
          refine HW.seq ?_
          refine HW.region ?_
          refine HList.vals (v := (.int .i64 22)) rfl (HVal.assign' rfl) ?_
          refine HList.nil ?_
          refine nt ?_
          refine HW.ret ?_
          refine br ?_
          refine tr ?_
          exact ⟨_, resOf1 rfl Res1.t, ⟨22, rfl, h⟩⟩
        · have h := hF hb35
          clear hT hF
          refine HW.skip ?_
          refine nb ?_
          refine nt ?_
          refine HW.seq ?_
          refine HW.seq ?_
          refine HW.region ?_
          refine HList.vals (v := (.pointer (some (Addr.add ⟨H.size, 0, none⟩ 2)))) rfl (HVal.fieldAddr' Tryd.runUnderlying33 rfl rfl Tryd.sizeOf31 rfl) ?_
          obtain ⟨x37, c36, h⟩ := h
          refine HList.vals (v := (Sl.v x37)) rfl (HVal.load1 Tryd.isAgg31 rfl c36) ?_
          refine HList.vals (v := (.int .i64 ((x37).n : Int))) rfl (HVal.len Tryd.runUnderlying31 rfl) ?_
          refine HList.vals (v := (.int .i64 0)) rfl (HVal.move' rfl) ?_
          refine HList.nil ?_
          refine nt ?_
          refine HW.block ?_
          refine HW.loop' (fun L2 hL2 => ?_)
          obtain ⟨X2, hX2⟩ : ∃ X2 : Int → Hp → Prop, ∀ (y38 : Int) (H_2 : Hp), X2 y38 H_2 ↔ ∀ ρ, Env.Is ρ [(5, (.pointer (some ⟨H1.size, 0, none⟩))), (40, (Sl.v x37)), (41, (.int .i64 ((x37).n : Int))), (42, (.int .i64 y38))] → L2 ρ H_2 := ⟨_, fun _ _ => Iff.rfl⟩
          refine (hX2 _ _).1 (h X2 ?_) _ ?_
          rotate_left
          · exact ⟨rfl, rfl, rfl, rfl, trivial⟩
          clear h
          intro y38 H_2 h
          refine (hX2 _ _).2 fun ρ hI => ?_
          obtain ⟨ρ0, rfl⟩ : ∃ ρ0, ρ = (Env.set (Env.set (Env.set (Env.set ρ0 42 (.int .i64 y38)) 41 (.int .i64 ((x37).n : Int))) 40 (Sl.v x37)) 5 (.pointer (some ⟨H1.size, 0, none⟩))) := ⟨ρ, hI.eq⟩
          clear hI; unfold F11_L2b at h; refine hL2 _ _ ?_
          refine HW.seq ?_
          refine HW.region ?_
          refine HList.vals (v := (.bool (decide (y38 < ((x37).n : Int))))) rfl (HVal.lss rfl rfl) ?_
          refine HList.nil ?_
          refine nt ?_
          refine HW.seq ?_
          obtain ⟨hT, hF⟩ := h
          refine HW.cond (decide (y38 < ((x37).n : Int))) rfl (fun hb42 => ?_) (fun hb42 => ?_)
          · have h := hT hb42
            clear hT hF
            refine HW.skip ?_
            refine nt ?_
            refine HW.seq ?_
            refine HW.block ?_
            refine HW.seq ?_
            refine HW.region ?_
            refine HList.vals (v := (.int .i64 y38)) rfl (HVal.move' rfl) ?_
            obtain ⟨a43, e44, b45, b46, h⟩ := h
            refine HList.vals (v := (.pointer (some (Addr.add a43 (y38.toNat * 4))))) rfl (HVal.indexAddr Tryd.runUnderlying31 Tryd.sizeOf35 (Sl.v_some rfl e44) rfl b45 b46) ?_
            obtain ⟨x48, x49, x50, x51, c47, h⟩ := h
            refine HList.vals (v := (.agg #[(.int .i64 x48), (.int .i64 x49), (.string x50), (.bool x51)])) rfl (HVal.loadN [(.int .i64 x48), (.int .i64 x49), (.string x50), (.bool x51)] Tryd.isAgg35 Tryd.sizeOf35 rfl c47) ?_
            refine HList.ops' rfl (HOp.alloc Tryd.zeroValue35) ?_
            rintro _ H52 ⟨rfl, e53⟩
            replace h := h H52 e53
            refine HList.vals (v := (.int .i64 y38)) rfl (HVal.assign' rfl) ?_
            obtain ⟨z56, h⟩ := h
            refine HList.opsn (HOp.storeN' (l := [(.int .i64 x48), (.int .i64 x49), (.string x50), (.bool x51)]) Tryd.sizeOf35 rfl rfl rfl z56) ?_
            rintro _ H54 e55
            replace h := h H54 e55
            refine HList.nil ?_
            refine nt ?_
            refine HW.seq ?_
            refine HW.seq ?_
            refine HW.draw mixed [(0, some []), (1, some []), (2, some []), (3, some []), (4, some []), (5, some []), (6, some []), (7, some []), (8, some [])] rfl (by kernel_rfl) (by kernel_rfl) ?_
            refine HPlan.takev (v := (.pointer (some ⟨H_2.size, 0, none⟩))) rfl rfl (fun _ => HVal.fieldAddr0 Tryd.runUnderlying35 rfl rfl Tryd.sizeOf3 rfl) ?_
            obtain ⟨x58, c57, h⟩ := h
            refine HPlan.takel (v := (.int .i64 x58)) (fun X => cell X ⟨H_2.size, 0, none⟩ = some (.int .i64 x58)) rfl rfl (fun _ hX => HVal.load1 Tryd.isAgg3 rfl hX) c57 ?_
            refine HPlan.takev (v := (.pointer (some (Addr.add ⟨H1.size, 0, none⟩ 1)))) rfl rfl (fun _ => HVal.fieldAddr' Tryd.runUnderlying27 rfl rfl Tryd.sizeOf25 rfl) ?_
            obtain ⟨x60, c59, h⟩ := h
            refine HPlan.takel (v := (Sl.v x60)) (fun X => cell X (Addr.add ⟨H1.size, 0, none⟩ 1) = some (Sl.v x60)) rfl rfl (fun _ hX => HVal.load1 Tryd.isAgg25 rfl hX) c59 ?_
            refine HPlan.takev (v := (.int .i64 y38)) rfl rfl (fun _ => HVal.move' rfl) ?_
            obtain ⟨a61, e62, b63, b64, h⟩ := h
            refine HPlan.takev (v := (.pointer (some (Addr.add a61 (y38.toNat * 2))))) rfl rfl (fun _ => HVal.indexAddr Tryd.runUnderlying25 Tryd.sizeOf38 (Sl.v_some rfl e62) rfl b63 b64) ?_
            refine HPlan.takev (v := (.pointer (some (Addr.add (Addr.add a61 (y38.toNat * 2)) 1)))) rfl rfl (fun _ => HVal.fieldAddr' Tryd.runUnderlying38 rfl rfl Tryd.sizeOf3 rfl) ?_
            obtain ⟨x66, c65, h⟩ := h
            refine HPlan.takel (v := (.int .i64 x66)) (fun X => cell X (Addr.add (Addr.add a61 (y38.toNat * 2)) 1) = some (.int .i64 x66)) rfl rfl (fun _ hX => HVal.load1 Tryd.isAgg3 rfl hX) c65 ?_
            refine HPlan.takev (v := (.bool (decide (x58 ≠ x66)))) rfl rfl (fun _ => HVal.neqI rfl rfl) ?_
            refine HPlan.done ?_
            refine nt ?_
            obtain ⟨hT, hF⟩ := h
            refine HW.cond (decide (x58 ≠ x66)) rfl (fun hb67 => ?_) (fun hb67 => ?_)
            · have h := hT hb67
              clear hT hF
              refine HW.seq ?_
              refine HW.region ?_
              refine HList.vals (v := (.int .i64 10)) rfl (HVal.assign' rfl) ?_
              refine HList.nil ?_
              refine nt ?_
              refine HW.ret ?_
              refine tr ?_
              refine br ?_
              refine tr ?_
              refine tr ?_
              refine br ?_
              refine tr ?_
              exact ⟨_, resOf1 rfl Res1.t, ⟨10, rfl, h⟩⟩
            · have h := hF hb67
              clear hT hF
              refine HW.skip ?_
              refine nt ?_
              refine HW.seq ?_
              refine HW.region ?_
              obtain ⟨x69, x70, x71, x72, c68, h⟩ := h
              refine HList.vals (v := (.agg #[(.int .i64 x69), (.int .i64 x70), (.string x71), (.bool x72)])) rfl (HVal.loadN [(.int .i64 x69), (.int .i64 x70), (.string x71), (.bool x72)] Tryd.isAgg35 Tryd.sizeOf35 rfl c68) ?_
              refine HList.ops' rfl (HOp.call' 27 [(.agg #[(.int .i64 x69), (.int .i64 x70), (.string x71), (.bool x72)])] (cap := []) rfl rfl Tryd.call27 (walk27 h)) ?_
              rintro _ H73 ⟨r75, rfl, h⟩
              refine HList.vals (v := (.bool (!r75))) rfl (HVal.not rfl) ?_
              refine HList.nil ?_
              refine nt ?_
              obtain ⟨hT, hF⟩ := h
              refine HW.cond (!r75) rfl (fun hb76 => ?_) (fun hb76 => ?_)
              · have h := hT hb76
                clear hT hF
                refine HW.seq ?_
                refine HW.region ?_
                refine HList.vals (v := (.int .i64 12)) rfl (HVal.assign' rfl) ?_
                refine HList.nil ?_
                refine nt ?_
                refine HW.ret ?_
                refine br ?_
                refine tr ?_
                refine tr ?_
                refine br ?_
                refine tr ?_
                exact ⟨_, resOf1 rfl Res1.t, ⟨12, rfl, h⟩⟩
              · have h := hF hb76
                clear hT hF
                refine HW.skip ?_
                refine nb ?_
                refine nt ?_
                refine HW.region ?_
                refine HList.vals (v := (.int .i64 (IntKind.i64.wrap (y38 + 1)))) rfl (HVal.add rfl rfl) ?_
                refine HList.vals (v := (.int .i64 (IntKind.i64.wrap (y38 + 1)))) rfl (HVal.move' rfl) ?_
                refine HList.nil ?_
                refine nt ?_
                exact (hX2 _ _).1 h _ ⟨rfl, rfl, rfl, rfl, trivial⟩
          · have h := hF hb42
            clear hT hF
            refine HW.exit ?_
            refine te ?_
            refine te ?_
            refine be ?_
            refine nt ?_
            refine HW.seq ?_
            refine HW.region ?_
            refine HList.vals (v := (.int .i64 0)) rfl (HVal.assign' rfl) ?_
            refine HList.nil ?_
            refine nt ?_
            refine HW.ret ?_
            exact ⟨_, resOf1 rfl Res1.t, ⟨0, rfl, h⟩⟩

def F80 (p0 : Int) (H : Hp) (Q : Bool → Hp → Prop) : Prop :=
((decide (p0 = 40)) = true → (Q true H)) ∧
 ((decide (p0 = 40)) = false → (((decide (p0 = 41)) = true → (Q true H)) ∧
 ((decide (p0 = 41)) = false → (Q (decide (p0 = 44)) H))))
set_option maxRecDepth 100000 in
set_option maxHeartbeats 4000000 in
theorem walk80 {w0 : World} {p0 : Int} {H : Hp} {Q : Bool → Hp → Prop} (h : F80 p0 H Q) :
    Good Tryd.prog w0 80 #[(.int .u8 p0)] H (fun v H => ∃ (r0 : Bool) , v = (.bool r0) ∧ Q r0 H) := by
  unfold F80 at h
  refine Good.enter' (fn := Tryd.f80) Tryd.func80 rfl rfl rfl ?_
  refine HW.seq ?_
  refine HW.region ?_
  refine HList.vals (v := (.bool false)) rfl (HVal.assign' rfl) ?_
  refine HList.nil ?_
  refine nt ?_
  refine HW.seq ?_
  refine HW.region ?_
  refine HList.vals (v := (.int .u8 p0)) rfl (HVal.move' rfl) ?_
  refine HList.vals (v := (.bool (decide (p0 = 40)))) rfl (HVal.eqlI rfl rfl) ?_
  refine HList.vals (v := (.bool (decide (p0 = 40)))) rfl (HVal.move' rfl) ?_
  obtain ⟨hT, hF⟩ := h
  rcases Bool.eq_false_or_eq_true (decide (p0 = 40)) with hb1 | hb2
  · have h := hT hb1
    clear hT hF
    refine HList.gskips rfl rfl rfl rfl (congrArg Value.bool hb1) ?_
    refine HList.gskips rfl rfl rfl rfl (congrArg Value.bool hb1) ?_
    refine HList.vals (v := (.bool true)) rfl (HVal.pickT rfl hb1 rfl) ?_
    refine HList.vals (v := (.bool true)) rfl (HVal.move' rfl) ?_
    refine HList.gskips rfl rfl rfl rfl rfl ?_
    refine HList.gskips rfl rfl rfl rfl rfl ?_
    refine HList.vals (v := (.bool true)) rfl (HVal.pickT rfl rfl rfl) ?_
    refine HList.vals (v := (.bool true)) rfl (HVal.assign' rfl) ?_
    refine HList.nil ?_
    refine nt ?_
    refine HW.ret ?_
    exact ⟨_, resOf1 rfl Res1.t, ⟨true, rfl, h⟩⟩
  · have h := hF hb2
    clear hT hF
    refine HList.gvals (v := (.int .u8 p0)) rfl rfl rfl rfl (congrArg Value.bool hb2) (HVal.move' rfl) ?_
    refine HList.gvals (v := (.bool (decide (p0 = 41)))) rfl rfl rfl rfl (congrArg Value.bool hb2) (HVal.eqlI rfl rfl) ?_
    refine HList.vals (v := (.bool (decide (p0 = 41)))) rfl (HVal.pickF rfl hb2 rfl) ?_
    refine HList.vals (v := (.bool (decide (p0 = 41)))) rfl (HVal.move' rfl) ?_
    obtain ⟨hT, hF⟩ := h
    rcases Bool.eq_false_or_eq_true (decide (p0 = 41)) with hb3 | hb4
    · have h := hT hb3
      clear hT hF
      refine HList.gskips rfl rfl rfl rfl (congrArg Value.bool hb3) ?_
      refine HList.gskips rfl rfl rfl rfl (congrArg Value.bool hb3) ?_
      refine HList.vals (v := (.bool true)) rfl (HVal.pickT rfl hb3 rfl) ?_
      refine HList.vals (v := (.bool true)) rfl (HVal.assign' rfl) ?_
      refine HList.nil ?_
      refine nt ?_
      refine HW.ret ?_
      exact ⟨_, resOf1 rfl Res1.t, ⟨true, rfl, h⟩⟩
    · have h := hF hb4
      clear hT hF
      refine HList.gvals (v := (.int .u8 p0)) rfl rfl rfl rfl (congrArg Value.bool hb4) (HVal.move' rfl) ?_
      refine HList.gvals (v := (.bool (decide (p0 = 44)))) rfl rfl rfl rfl (congrArg Value.bool hb4) (HVal.eqlI rfl rfl) ?_
      refine HList.vals (v := (.bool (decide (p0 = 44)))) rfl (HVal.pickF rfl hb4 rfl) ?_
      refine HList.vals (v := (.bool (decide (p0 = 44)))) rfl (HVal.assign' rfl) ?_
      refine HList.nil ?_
      refine nt ?_
      refine HW.ret ?_
      exact ⟨_, resOf1 rfl Res1.t, ⟨(decide (p0 = 44)), rfl, h⟩⟩

def F60_6 (Q : Hp → Prop) (y109 : (Option Addr)) (H_6 : Hp) : Prop :=
∃ a162 : Addr, y109 = some a162 ∧ (
 ∃ x165 : ByteArray, cell H_6 a162 = some (.string x165) ∧ (
 ∃ a166 : Addr, y109 = some a166 ∧ (
 ∃ x169 : Int, cell H_6 (Addr.add a166 1) = some (.int .i64 x169) ∧ (
 ∃ a170 : Addr, y109 = some a170 ∧ (
 ∃ x173 : Int, cell H_6 (Addr.add a170 2) = some (.int .i64 x173) ∧ (
 (0 : Int) ≤ x169 ∧ (0 : Int) ≤ x173 ∧ x169.toNat ≤ x173.toNat ∧ x173.toNat ≤ (x165).size ∧ (
 ∃ a178 : Addr, y109 = some a178 ∧ (
 (cell H_6 (Addr.add a178 3)).isSome = true ∧ frz H_6 (Addr.add a178 3) = false ∧ ∀ H180 : Hp, H180 = setc H_6 (Addr.add a178 3) (.string ((x165).extract x169.toNat x173.toNat)) → (
 Q H180)))))))))
def F60_7 (Q : Hp → Prop) (y110 : (Option Addr)) (y150 : Bool) (H_7 : Hp) : Prop :=
(y150 = true → (∃ a152 : Addr, y110 = some a152 ∧ (
 ∃ x155 : Int, cell H_7 (Addr.add a152 2) = some (.int .i64 x155) ∧ (
 ∃ a156 : Addr, y110 = some a156 ∧ (
 (cell H_7 (Addr.add a156 2)).isSome = true ∧ frz H_7 (Addr.add a156 2) = false ∧ ∀ H158 : Hp, H158 = setc H_7 (Addr.add a156 2) (.int .i64 (IntKind.i64.wrap (x155 + 1))) → (
 F60_6 Q y110 H158)))))) ∧
 (y150 = false → (F60_6 Q y110 H_7))
def F60_4 (Q : Hp → Prop) (y69 : (Option Addr)) (H_4 : Hp) : Prop :=
∃ a111 : Addr, y69 = some a111 ∧ (
 ∃ x114 : Int, cell H_4 (Addr.add a111 2) = some (.int .i64 x114) ∧ (
 ∃ a115 : Addr, y69 = some a115 ∧ (
 ∃ x118 : Int, cell H_4 (Addr.add a115 1) = some (.int .i64 x118) ∧ (
 ((decide (x114 = x118)) = true → (∃ a121 : Addr, y69 = some a121 ∧ (
 ∃ x124 : Int, cell H_4 (Addr.add a121 1) = some (.int .i64 x124) ∧ (
 ∃ a125 : Addr, y69 = some a125 ∧ (
 ∃ x128 : ByteArray, cell H_4 a125 = some (.string x128) ∧ (
 ((decide (x124 < ((x128).size : Int))) = true → (∃ a131 : Addr, y69 = some a131 ∧ (
 ∃ x134 : ByteArray, cell H_4 a131 = some (.string x134) ∧ (
 ∃ a135 : Addr, y69 = some a135 ∧ (
 ∃ x138 : Int, cell H_4 (Addr.add a135 1) = some (.int .i64 x138) ∧ (
 (0 : Int) ≤ x138 ∧ x138.toNat < (x134).size ∧ (
 F80 (bt x134 x138.toNat) H_4 (fun (r143 : Bool) (H141 : Hp) => 
 cell H141 (Addr.add a135 1) = some (.int .i64 x138) ∧ cell H141 a131 = some (.string x134) ∧ cell H141 a125 = some (.string x128) ∧ cell H141 (Addr.add a121 1) = some (.int .i64 x124) ∧ cell H141 (Addr.add a115 1) = some (.int .i64 x118) ∧ cell H141 (Addr.add a111 2) = some (.int .i64 x114) ∧ (
 F60_7 Q y69 r143 H141))))))))) ∧
 ((decide (x124 < ((x128).size : Int))) = false → (F60_7 Q y69 false H_4)))))))) ∧
 ((decide (x114 = x118)) = false → (F60_7 Q y69 false H_4))))))
def F60_L5b (Q : Hp → Prop) (X5 : Hp → Prop) (y70 : (Option Addr)) (H_5 : Hp) : Prop :=
∃ a71 : Addr, y70 = some a71 ∧ (
 ∃ x74 : Int, cell H_5 (Addr.add a71 2) = some (.int .i64 x74) ∧ (
 ∃ a75 : Addr, y70 = some a75 ∧ (
 ∃ x78 : ByteArray, cell H_5 a75 = some (.string x78) ∧ (
 ((decide (x74 < ((x78).size : Int))) = true → (∃ a81 : Addr, y70 = some a81 ∧ (
 ∃ x84 : ByteArray, cell H_5 a81 = some (.string x84) ∧ (
 ∃ a85 : Addr, y70 = some a85 ∧ (
 ∃ x88 : Int, cell H_5 (Addr.add a85 2) = some (.int .i64 x88) ∧ (
 (0 : Int) ≤ x88 ∧ x88.toNat < (x84).size ∧ (
 F33 (bt x84 x88.toNat) H_5 (fun (r93 : Bool) (H91 : Hp) => 
 cell H91 (Addr.add a85 2) = some (.int .i64 x88) ∧ cell H91 a81 = some (.string x84) ∧ cell H91 a75 = some (.string x78) ∧ cell H91 (Addr.add a71 2) = some (.int .i64 x74) ∧ (
 (r93 = true → (∃ a99 : Addr, y70 = some a99 ∧ (
 ∃ x102 : Int, cell H91 (Addr.add a99 2) = some (.int .i64 x102) ∧ (
 ∃ a103 : Addr, y70 = some a103 ∧ (
 (cell H91 (Addr.add a103 2)).isSome = true ∧ frz H91 (Addr.add a103 2) = false ∧ ∀ H105 : Hp, H105 = setc H91 (Addr.add a103 2) (.int .i64 (IntKind.i64.wrap (x102 + 1))) → (
 X5 H105)))))) ∧
 (r93 = false → (F60_4 Q y70 H91))))))))))) ∧
 ((decide (x74 < ((x78).size : Int))) = false → (F60_4 Q y70 H_5))))))
def F60_L5 (Q : Hp → Prop) (y70 : (Option Addr)) (H_5 : Hp) : Prop :=
  ∀ X5 : Hp → Prop, (∀ (H_5 : Hp), F60_L5b Q X5 y70 H_5 → X5 H_5) → X5 H_5
def F60_1 (Q : Hp → Prop) (y11 : (Option Addr)) (H_1 : Hp) : Prop :=
∃ a59 : Addr, y11 = some a59 ∧ (
 ∃ x62 : Int, cell H_1 (Addr.add a59 1) = some (.int .i64 x62) ∧ (
 ∃ a63 : Addr, y11 = some a63 ∧ (
 (cell H_1 (Addr.add a63 2)).isSome = true ∧ frz H_1 (Addr.add a63 2) = false ∧ ∀ H65 : Hp, H65 = setc H_1 (Addr.add a63 2) (.int .i64 x62) → (
 F60_L5 Q y11 H65))))
def F60_3 (Q : Hp → Prop) (X2 : Hp → Prop) (y36 : (Option Addr)) (y37 : Int) (y38 : Addr) (y45 : Bool) (H_3 : Hp) : Prop :=
(y45 = true → (∃ a47 : Addr, y36 = some a47 ∧ (
 ∃ x50 : Int, cell H_3 (Addr.add a47 2) = some (.int .i64 x50) ∧ (
 ∃ a51 : Addr, y36 = some a51 ∧ (
 (cell H_3 (Addr.add a51 1)).isSome = true ∧ frz H_3 (Addr.add a51 1) = false ∧ ∀ H53 : Hp, H53 = setc H_3 (Addr.add a51 1) (.int .i64 (IntKind.i64.wrap (x50 + y37))) → (
 F60_1 Q y36 H53)))))) ∧
 (y45 = false → (X2 H_3))
def F60_L2b (Q : Hp → Prop) (X2 : Hp → Prop) (y27 : (Option Addr)) (y28 : Addr) (H_2 : Hp) : Prop :=
∃ (ss29 : ByteArray) (ps30 : Nat), iterAt H_2 y28 ss29 ps30 ∧ (
 ((decide (ps30 < (ss29).size)) = true → (∀ H34 : Hp, H34 = seto H_2 (y28).block (.stringIter ss29 (ps30 + (Utf8.decode ss29 ps30).2)) → (
 ((decide (((Utf8.decode ss29 ps30).1 : Int) ≠ 32)) = true → (((decide (((Utf8.decode ss29 ps30).1 : Int) ≠ 9)) = true → (((decide (((Utf8.decode ss29 ps30).1 : Int) ≠ 10)) = true → (F60_3 Q X2 y27 (ps30 : Int) y28 (decide (((Utf8.decode ss29 ps30).1 : Int) ≠ 13)) H34)) ∧
 ((decide (((Utf8.decode ss29 ps30).1 : Int) ≠ 10)) = false → (F60_3 Q X2 y27 (ps30 : Int) y28 false H34)))) ∧
 ((decide (((Utf8.decode ss29 ps30).1 : Int) ≠ 9)) = false → (F60_3 Q X2 y27 (ps30 : Int) y28 false H34)))) ∧
 ((decide (((Utf8.decode ss29 ps30).1 : Int) ≠ 32)) = false → (F60_3 Q X2 y27 (ps30 : Int) y28 false H34))))) ∧
 ((decide (ps30 < (ss29).size)) = false → (F60_1 Q y27 H_2)))
def F60_L2 (Q : Hp → Prop) (y27 : (Option Addr)) (y28 : Addr) (H_2 : Hp) : Prop :=
  ∀ X2 : Hp → Prop, (∀ (H_2 : Hp), F60_L2b Q X2 y27 y28 H_2 → X2 H_2) → X2 H_2
def F60 (p0 : (Option Addr)) (H : Hp) (Q : Hp → Prop) : Prop :=
∃ a1 : Addr, p0 = some a1 ∧ (
 ∃ x4 : ByteArray, cell H a1 = some (.string x4) ∧ (
 ∃ a5 : Addr, p0 = some a5 ∧ (
 (cell H (Addr.add a5 1)).isSome = true ∧ frz H (Addr.add a5 1) = false ∧ ∀ H7 : Hp, H7 = setc H (Addr.add a5 1) (.int .i64 ((x4).size : Int)) → (
 ∃ a12 : Addr, p0 = some a12 ∧ (
 ∃ x15 : ByteArray, cell H7 a12 = some (.string x15) ∧ (
 ∃ a16 : Addr, p0 = some a16 ∧ (
 ∃ x19 : Int, cell H7 (Addr.add a16 2) = some (.int .i64 x19) ∧ (
 (0 : Int) ≤ x19 ∧ x19.toNat ≤ (x15).size ∧ (x15).size ≤ (x15).size ∧ (
 ∀ H23 : Hp, H23 = Array.push H7 (.stringIter ((x15).extract x19.toNat ((x15).size)) 0) → (
 cell H23 (Addr.add a16 2) = some (.int .i64 x19) ∧ cell H23 a12 = some (.string x15) ∧ (
 F60_L2 Q p0 ⟨H7.size, 0, none⟩ H23)))))))))))
set_option maxRecDepth 100000 in
set_option maxHeartbeats 4000000 in
theorem walk60 {w0 : World} {p0 : (Option Addr)} {H : Hp} {Q : Hp → Prop} (h : F60 p0 H Q) :
    Good Tryd.prog w0 60 #[(.pointer p0)] H (fun v H => v = (.tuple #[]) ∧ Q H) := by
  unfold F60 at h
  refine Good.enter' (fn := Tryd.f60) Tryd.func60 rfl rfl rfl ?_
  refine HW.seq ?_
  refine HW.region ?_
  refine HList.vals (v := (.pointer p0)) rfl (HVal.move' rfl) ?_
  refine HList.vals (v := (.pointer p0)) rfl (HVal.move' rfl) ?_
  obtain ⟨a1, e2, h⟩ := h
  refine HList.vals (v := (.pointer (some a1))) rfl (HVal.nilCheck (congrArg Value.pointer e2)) ?_
  refine HList.vals (v := (.pointer (some a1))) rfl (HVal.fieldAddr0 Tryd.runUnderlying89 rfl rfl Tryd.sizeOf9 rfl) ?_
  obtain ⟨x4, c3, h⟩ := h
  refine HList.vals (v := (.string x4)) rfl (HVal.load1 Tryd.isAgg9 rfl c3) ?_
  refine HList.vals (v := (.int .i64 ((x4).size : Int))) rfl (HVal.lenS Tryd.runUnderlying9 rfl) ?_
  obtain ⟨a5, e6, h⟩ := h
  refine HList.vals (v := (.pointer (some a5))) rfl (HVal.nilCheck (congrArg Value.pointer e6)) ?_
  refine HList.vals (v := (.pointer (some (Addr.add a5 1)))) rfl (HVal.fieldAddr' Tryd.runUnderlying89 rfl rfl Tryd.sizeOf3 rfl) ?_
  obtain ⟨z9, z10, h⟩ := h
  refine HList.opsn (HOp.store1 Tryd.sizeOf3 rfl rfl rfl z9 z10) ?_
  rintro _ H7 e8
  replace h := h H7 e8
  refine HList.nil ?_
  refine nt ?_
  refine HW.cut (fun ρ H_1 => Env.Is ρ [(0, (.pointer p0))] ∧ F60_1 Q p0 H_1) ?_ ?_
  · refine HW.seq ?_
    refine HW.draw mixed [(0, some []), (1, some []), (2, some []), (3, some []), (4, some []), (5, some []), (6, some []), (7, some []), (8, some []), (9, none)] rfl (by kernel_rfl) (by kernel_rfl) ?_
    refine HPlan.takev (v := (.pointer p0)) rfl rfl (fun _ => HVal.move' rfl) ?_
    obtain ⟨a12, e13, h⟩ := h
    refine HPlan.takev (v := (.pointer (some a12))) rfl rfl (fun _ => HVal.nilCheck (congrArg Value.pointer e13)) ?_
    refine HPlan.takev (v := (.pointer (some a12))) rfl rfl (fun _ => HVal.fieldAddr0 Tryd.runUnderlying89 rfl rfl Tryd.sizeOf9 rfl) ?_
    obtain ⟨x15, c14, h⟩ := h
    refine HPlan.takel (v := (.string x15)) (fun X => cell X a12 = some (.string x15)) rfl rfl (fun _ hX => HVal.load1 Tryd.isAgg9 rfl hX) c14 ?_
    refine HPlan.takev (v := (.pointer p0)) rfl rfl (fun _ => HVal.move' rfl) ?_
    obtain ⟨a16, e17, h⟩ := h
    refine HPlan.takev (v := (.pointer (some a16))) rfl rfl (fun _ => HVal.nilCheck (congrArg Value.pointer e17)) ?_
    refine HPlan.takev (v := (.pointer (some (Addr.add a16 2)))) rfl rfl (fun _ => HVal.fieldAddr' Tryd.runUnderlying89 rfl rfl Tryd.sizeOf3 rfl) ?_
    obtain ⟨x19, c18, h⟩ := h
    refine HPlan.takel (v := (.int .i64 x19)) (fun X => cell X (Addr.add a16 2) = some (.int .i64 x19)) rfl rfl (fun _ hX => HVal.load1 Tryd.isAgg3 rfl hX) c18 ?_
    obtain ⟨z20, z21, z22, h⟩ := h
    refine HPlan.takev (v := (.string ((x15).extract x19.toNat ((x15).size)))) rfl rfl (fun _ => HVal.sliceS _ _ Tryd.runUnderlying9 rfl ⟨_, _, rfl, z20, rfl⟩ rfl z21 z22) ?_
    refine HPlan.ops' rfl rfl (HOp.range Tryd.runUnderlying9 rfl) ?_
    rintro _ H23 ⟨rfl, e24⟩
    replace h := h H23 e24
    obtain ⟨s25, s26, h⟩ := h
    refine ⟨SC_of ⟨fun _ => s25, fun _ => s26, trivial⟩, ?_⟩
    refine HPlan.done ?_
    refine nt ?_
    refine HW.block ?_
    refine HW.loop' (fun L2 hL2 => ?_)
    obtain ⟨X2, hX2⟩ : ∃ X2 : Hp → Prop, ∀ (H_2 : Hp), X2 H_2 ↔ ∀ ρ, Env.Is ρ [(0, (.pointer p0)), (21, (.pointer (some ⟨H7.size, 0, none⟩)))] → L2 ρ H_2 := ⟨_, fun _ => Iff.rfl⟩
    refine (hX2 _).1 (h X2 ?_) _ ?_
    rotate_left
    · exact ⟨rfl, rfl, trivial⟩
    clear h
    intro H_2 h
    refine (hX2 _).2 fun ρ hI => ?_
    obtain ⟨ρ0, rfl⟩ : ∃ ρ0, ρ = (Env.set (Env.set ρ0 21 (.pointer (some ⟨H7.size, 0, none⟩))) 0 (.pointer p0)) := ⟨ρ, hI.eq⟩
    clear hI; unfold F60_L2b at h; refine hL2 _ _ ?_
    refine HW.seq ?_
    refine HW.region ?_
    obtain ⟨ss29, ps30, c31, h⟩ := h
    obtain ⟨hT, hF⟩ := h
    rcases Bool.eq_false_or_eq_true (decide (ps30 < (ss29).size)) with hb32 | hb33
    · have h := hT hb32
      clear hT hF
      refine HList.ops' rfl (HOp.nextT rfl c31 hb32) ?_
      rintro _ H34 ⟨rfl, e35⟩
      replace h := h H34 e35
      refine HList.vals (v := (.bool true)) rfl (HVal.extract rfl rfl) ?_
      refine HList.nil ?_
      refine nt ?_
      refine HW.seq ?_
      refine HW.condT true rfl rfl ?_
      refine HW.skip ?_
      refine nt ?_
      refine HW.block ?_
      refine HW.seq ?_
      refine HW.region ?_
      refine HList.vals (v := (.int .i64 (ps30 : Int))) rfl (HVal.extract rfl rfl) ?_
      refine HList.vals (v := (.int .i32 ((Utf8.decode ss29 ps30).1 : Int))) rfl (HVal.extract rfl rfl) ?_
      refine HList.vals (v := (.int .i64 (ps30 : Int))) rfl (HVal.assign' rfl) ?_
      refine HList.vals (v := (.int .i32 ((Utf8.decode ss29 ps30).1 : Int))) rfl (HVal.assign' rfl) ?_
      refine HList.nil ?_
      refine nt ?_
      refine HW.cut (fun ρ H_3 => ∃ (y45 : Bool), Env.Is ρ [(0, (.pointer p0)), (2, (.int .i64 (ps30 : Int))), (21, (.pointer (some ⟨H7.size, 0, none⟩))), (39, (.bool y45))] ∧ F60_3 Q X2 p0 (ps30 : Int) ⟨H7.size, 0, none⟩ y45 H_3) ?_ ?_
      · refine HW.region ?_
        refine HList.vals (v := (.int .i32 ((Utf8.decode ss29 ps30).1 : Int))) rfl (HVal.move' rfl) ?_
        refine HList.vals (v := (.bool (decide (((Utf8.decode ss29 ps30).1 : Int) ≠ 32)))) rfl (HVal.neqI rfl rfl) ?_
        refine HList.vals (v := (.bool (decide (((Utf8.decode ss29 ps30).1 : Int) ≠ 32)))) rfl (HVal.move' rfl) ?_
        obtain ⟨hT, hF⟩ := h
        rcases Bool.eq_false_or_eq_true (decide (((Utf8.decode ss29 ps30).1 : Int) ≠ 32)) with hb39 | hb40
        · have h := hT hb39
          clear hT hF
          refine HList.gvals (v := (.int .i32 ((Utf8.decode ss29 ps30).1 : Int))) rfl rfl rfl rfl (congrArg Value.bool hb39) (HVal.move' rfl) ?_
          refine HList.gvals (v := (.bool (decide (((Utf8.decode ss29 ps30).1 : Int) ≠ 9)))) rfl rfl rfl rfl (congrArg Value.bool hb39) (HVal.neqI rfl rfl) ?_
          refine HList.vals (v := (.bool (decide (((Utf8.decode ss29 ps30).1 : Int) ≠ 9)))) rfl (HVal.pickT rfl hb39 rfl) ?_
          refine HList.vals (v := (.bool (decide (((Utf8.decode ss29 ps30).1 : Int) ≠ 9)))) rfl (HVal.move' rfl) ?_
          obtain ⟨hT, hF⟩ := h
          rcases Bool.eq_false_or_eq_true (decide (((Utf8.decode ss29 ps30).1 : Int) ≠ 9)) with hb41 | hb42
          · have h := hT hb41
            clear hT hF
            refine HList.gvals (v := (.int .i32 ((Utf8.decode ss29 ps30).1 : Int))) rfl rfl rfl rfl (congrArg Value.bool hb41) (HVal.move' rfl) ?_
            refine HList.gvals (v := (.bool (decide (((Utf8.decode ss29 ps30).1 : Int) ≠ 10)))) rfl rfl rfl rfl (congrArg Value.bool hb41) (HVal.neqI rfl rfl) ?_
            refine HList.vals (v := (.bool (decide (((Utf8.decode ss29 ps30).1 : Int) ≠ 10)))) rfl (HVal.pickT rfl hb41 rfl) ?_
            refine HList.vals (v := (.bool (decide (((Utf8.decode ss29 ps30).1 : Int) ≠ 10)))) rfl (HVal.move' rfl) ?_
            obtain ⟨hT, hF⟩ := h
            rcases Bool.eq_false_or_eq_true (decide (((Utf8.decode ss29 ps30).1 : Int) ≠ 10)) with hb43 | hb44
            · have h := hT hb43
              clear hT hF
              refine HList.gvals (v := (.int .i32 ((Utf8.decode ss29 ps30).1 : Int))) rfl rfl rfl rfl (congrArg Value.bool hb43) (HVal.move' rfl) ?_
              refine HList.gvals (v := (.bool (decide (((Utf8.decode ss29 ps30).1 : Int) ≠ 13)))) rfl rfl rfl rfl (congrArg Value.bool hb43) (HVal.neqI rfl rfl) ?_
              refine HList.vals (v := (.bool (decide (((Utf8.decode ss29 ps30).1 : Int) ≠ 13)))) rfl (HVal.pickT rfl hb43 rfl) ?_
              refine HList.nil ?_
              refine nt ?_
              exact ⟨(decide (((Utf8.decode ss29 ps30).1 : Int) ≠ 13)), ⟨rfl, rfl, rfl, rfl, trivial⟩, h⟩
            · have h := hF hb44
              clear hT hF
              refine HList.gskips rfl rfl rfl rfl (congrArg Value.bool hb44) ?_
              refine HList.gskips rfl rfl rfl rfl (congrArg Value.bool hb44) ?_
              refine HList.vals (v := (.bool false)) rfl (HVal.pickF rfl hb44 rfl) ?_
              refine HList.nil ?_
              refine nt ?_
              exact ⟨false, ⟨rfl, rfl, rfl, rfl, trivial⟩, h⟩
          · have h := hF hb42
            clear hT hF
            refine HList.gskips rfl rfl rfl rfl (congrArg Value.bool hb42) ?_
            refine HList.gskips rfl rfl rfl rfl (congrArg Value.bool hb42) ?_
            refine HList.vals (v := (.bool false)) rfl (HVal.pickF rfl hb42 rfl) ?_
            refine HList.vals (v := (.bool false)) rfl (HVal.move' rfl) ?_
            refine HList.gskips rfl rfl rfl rfl rfl ?_
            refine HList.gskips rfl rfl rfl rfl rfl ?_
            refine HList.vals (v := (.bool false)) rfl (HVal.pickF rfl rfl rfl) ?_
            refine HList.nil ?_
            refine nt ?_
            exact ⟨false, ⟨rfl, rfl, rfl, rfl, trivial⟩, h⟩
        · have h := hF hb40
          clear hT hF
          refine HList.gskips rfl rfl rfl rfl (congrArg Value.bool hb40) ?_
          refine HList.gskips rfl rfl rfl rfl (congrArg Value.bool hb40) ?_
          refine HList.vals (v := (.bool false)) rfl (HVal.pickF rfl hb40 rfl) ?_
          refine HList.vals (v := (.bool false)) rfl (HVal.move' rfl) ?_
          refine HList.gskips rfl rfl rfl rfl rfl ?_
          refine HList.gskips rfl rfl rfl rfl rfl ?_
          refine HList.vals (v := (.bool false)) rfl (HVal.pickF rfl rfl rfl) ?_
          refine HList.vals (v := (.bool false)) rfl (HVal.move' rfl) ?_
          refine HList.gskips rfl rfl rfl rfl rfl ?_
          refine HList.gskips rfl rfl rfl rfl rfl ?_
          refine HList.vals (v := (.bool false)) rfl (HVal.pickF rfl rfl rfl) ?_
          refine HList.nil ?_
          refine nt ?_
          exact ⟨false, ⟨rfl, rfl, rfl, rfl, trivial⟩, h⟩
      · rintro ρ H_3 ⟨y45, hI, h⟩
        obtain ⟨ρ0, rfl⟩ : ∃ ρ0, ρ = (Env.set (Env.set (Env.set (Env.set ρ0 39 (.bool y45)) 21 (.pointer (some ⟨H7.size, 0, none⟩))) 2 (.int .i64 (ps30 : Int))) 0 (.pointer p0)) := ⟨ρ, hI.eq⟩
        clear hI; unfold F60_3 at h
        obtain ⟨hT, hF⟩ := h
        refine HW.cond y45 rfl (fun hb46 => ?_) (fun hb46 => ?_)
        · have h := hT hb46
          clear hT hF
          refine HW.seq ?_
          refine HW.region ?_
          refine HList.vals (v := (.pointer p0)) rfl (HVal.move' rfl) ?_
          refine HList.vals (v := (.pointer p0)) rfl (HVal.move' rfl) ?_
          obtain ⟨a47, e48, h⟩ := h
          refine HList.vals (v := (.pointer (some a47))) rfl (HVal.nilCheck (congrArg Value.pointer e48)) ?_
          refine HList.vals (v := (.pointer (some (Addr.add a47 2)))) rfl (HVal.fieldAddr' Tryd.runUnderlying89 rfl rfl Tryd.sizeOf3 rfl) ?_
          obtain ⟨x50, c49, h⟩ := h
          refine HList.vals (v := (.int .i64 x50)) rfl (HVal.load1 Tryd.isAgg3 rfl c49) ?_
          refine HList.vals (v := (.int .i64 (ps30 : Int))) rfl (HVal.move' rfl) ?_
          refine HList.vals (v := (.int .i64 (IntKind.i64.wrap (x50 + (ps30 : Int))))) rfl (HVal.add rfl rfl) ?_
          obtain ⟨a51, e52, h⟩ := h
          refine HList.vals (v := (.pointer (some a51))) rfl (HVal.nilCheck (congrArg Value.pointer e52)) ?_
          refine HList.vals (v := (.pointer (some (Addr.add a51 1)))) rfl (HVal.fieldAddr' Tryd.runUnderlying89 rfl rfl Tryd.sizeOf3 rfl) ?_
          obtain ⟨z55, z56, h⟩ := h
          refine HList.opsn (HOp.store1 Tryd.sizeOf3 rfl rfl rfl z55 z56) ?_
          rintro _ H53 e54
          replace h := h H53 e54
          refine HList.nil ?_
          refine nt ?_
          refine HW.exit ?_
          refine bx rfl ?_
          refine te ?_
          refine be ?_
          refine nt ?_
          exact ⟨⟨rfl, trivial⟩, h⟩
        · have h := hF hb46
          clear hT hF
          refine HW.skip ?_
          refine nb ?_
          refine nt ?_
          exact (hX2 _).1 h _ ⟨rfl, rfl, trivial⟩
    · have h := hF hb33
      clear hT hF
      refine HList.ops' rfl (HOp.nextF rfl c31 hb33) ?_
      rintro _ H57 ⟨rfl, rfl⟩
      refine HList.vals (v := (.bool false)) rfl (HVal.extract rfl rfl) ?_
      refine HList.nil ?_
      refine nt ?_
      refine HW.seq ?_
      refine HW.condF false rfl rfl ?_
      refine HW.exit ?_
      refine te ?_
      refine te ?_
      refine be ?_
      refine nt ?_
      exact ⟨⟨rfl, trivial⟩, h⟩
  · rintro ρ H_1 ⟨hI, h⟩
    obtain ⟨ρ0, rfl⟩ : ∃ ρ0, ρ = (Env.set ρ0 0 (.pointer p0)) := ⟨ρ, hI.eq⟩
    clear hI; unfold F60_1 at h
    refine HW.seq ?_
    refine HW.region ?_
    refine HList.vals (v := (.pointer p0)) rfl (HVal.move' rfl) ?_
    refine HList.vals (v := (.pointer p0)) rfl (HVal.move' rfl) ?_
    obtain ⟨a59, e60, h⟩ := h
    refine HList.vals (v := (.pointer (some a59))) rfl (HVal.nilCheck (congrArg Value.pointer e60)) ?_
    refine HList.vals (v := (.pointer (some (Addr.add a59 1)))) rfl (HVal.fieldAddr' Tryd.runUnderlying89 rfl rfl Tryd.sizeOf3 rfl) ?_
    obtain ⟨x62, c61, h⟩ := h
    refine HList.vals (v := (.int .i64 x62)) rfl (HVal.load1 Tryd.isAgg3 rfl c61) ?_
    obtain ⟨a63, e64, h⟩ := h
    refine HList.vals (v := (.pointer (some a63))) rfl (HVal.nilCheck (congrArg Value.pointer e64)) ?_
    refine HList.vals (v := (.pointer (some (Addr.add a63 2)))) rfl (HVal.fieldAddr' Tryd.runUnderlying89 rfl rfl Tryd.sizeOf3 rfl) ?_
    obtain ⟨z67, z68, h⟩ := h
    refine HList.opsn (HOp.store1 Tryd.sizeOf3 rfl rfl rfl z67 z68) ?_
    rintro _ H65 e66
    replace h := h H65 e66
    refine HList.nil ?_
    refine nt ?_
    refine HW.cut (fun ρ H_4 => Env.Is ρ [(0, (.pointer p0))] ∧ F60_4 Q p0 H_4) ?_ ?_
    · refine HW.block ?_
      refine HW.loop' (fun L5 hL5 => ?_)
      obtain ⟨X5, hX5⟩ : ∃ X5 : Hp → Prop, ∀ (H_5 : Hp), X5 H_5 ↔ ∀ ρ, Env.Is ρ [(0, (.pointer p0))] → L5 ρ H_5 := ⟨_, fun _ => Iff.rfl⟩
      refine (hX5 _).1 (h X5 ?_) _ ?_
      rotate_left
      · exact ⟨rfl, trivial⟩
      clear h
      intro H_5 h
      refine (hX5 _).2 fun ρ hI => ?_
      obtain ⟨ρ0, rfl⟩ : ∃ ρ0, ρ = (Env.set ρ0 0 (.pointer p0)) := ⟨ρ, hI.eq⟩
      clear hI; unfold F60_L5b at h; refine hL5 _ _ ?_
      refine HW.seq ?_
      refine HW.seq ?_
      refine HW.draw mixed [(0, some []), (1, some []), (2, some []), (3, some []), (4, some []), (5, some []), (6, some []), (7, some []), (8, some []), (9, some []), (10, some []), (11, some []), (12, some []), (13, some []), (14, some []), (15, some []), (16, some []), (17, some []), (18, some []), (19, some []), (20, none), (21, some [])] rfl (by kernel_rfl) (by kernel_rfl) ?_
      refine HPlan.takev (v := (.pointer p0)) rfl rfl (fun _ => HVal.move' rfl) ?_
      obtain ⟨a71, e72, h⟩ := h
      refine HPlan.takev (v := (.pointer (some a71))) rfl rfl (fun _ => HVal.nilCheck (congrArg Value.pointer e72)) ?_
      refine HPlan.takev (v := (.pointer (some (Addr.add a71 2)))) rfl rfl (fun _ => HVal.fieldAddr' Tryd.runUnderlying89 rfl rfl Tryd.sizeOf3 rfl) ?_
      obtain ⟨x74, c73, h⟩ := h
      refine HPlan.takel (v := (.int .i64 x74)) (fun X => cell X (Addr.add a71 2) = some (.int .i64 x74)) rfl rfl (fun _ hX => HVal.load1 Tryd.isAgg3 rfl hX) c73 ?_
      refine HPlan.takev (v := (.pointer p0)) rfl rfl (fun _ => HVal.move' rfl) ?_
      obtain ⟨a75, e76, h⟩ := h
      refine HPlan.takev (v := (.pointer (some a75))) rfl rfl (fun _ => HVal.nilCheck (congrArg Value.pointer e76)) ?_
      refine HPlan.takev (v := (.pointer (some a75))) rfl rfl (fun _ => HVal.fieldAddr0 Tryd.runUnderlying89 rfl rfl Tryd.sizeOf9 rfl) ?_
      obtain ⟨x78, c77, h⟩ := h
      refine HPlan.takel (v := (.string x78)) (fun X => cell X a75 = some (.string x78)) rfl rfl (fun _ hX => HVal.load1 Tryd.isAgg9 rfl hX) c77 ?_
      refine HPlan.takev (v := (.int .i64 ((x78).size : Int))) rfl rfl (fun _ => HVal.lenS Tryd.runUnderlying9 rfl) ?_
      refine HPlan.takev (v := (.bool (decide (x74 < ((x78).size : Int))))) rfl rfl (fun _ => HVal.lss rfl rfl) ?_
      refine HPlan.takev (v := (.bool (decide (x74 < ((x78).size : Int))))) rfl rfl (fun _ => HVal.move' rfl) ?_
      obtain ⟨hT, hF⟩ := h
      rcases Bool.eq_false_or_eq_true (decide (x74 < ((x78).size : Int))) with hb79 | hb80
      · have h := hT hb79
        clear hT hF
        refine HPlan.gtakev (v := (.pointer p0)) rfl rfl rfl rfl rfl (congrArg Value.bool hb79) (fun _ => HVal.move' rfl) ?_
        obtain ⟨a81, e82, h⟩ := h
        refine HPlan.gtakev (v := (.pointer (some a81))) rfl rfl rfl rfl rfl (congrArg Value.bool hb79) (fun _ => HVal.nilCheck (congrArg Value.pointer e82)) ?_
        refine HPlan.gtakev (v := (.pointer (some a81))) rfl rfl rfl rfl rfl (congrArg Value.bool hb79) (fun _ => HVal.fieldAddr0 Tryd.runUnderlying89 rfl rfl Tryd.sizeOf9 rfl) ?_
        obtain ⟨x84, c83, h⟩ := h
        refine HPlan.gtakel (v := (.string x84)) (fun X => cell X a81 = some (.string x84)) rfl rfl rfl rfl rfl (congrArg Value.bool hb79) (fun _ hX => HVal.load1 Tryd.isAgg9 rfl hX) c83 ?_
        refine HPlan.gtakev (v := (.pointer p0)) rfl rfl rfl rfl rfl (congrArg Value.bool hb79) (fun _ => HVal.move' rfl) ?_
        obtain ⟨a85, e86, h⟩ := h
        refine HPlan.gtakev (v := (.pointer (some a85))) rfl rfl rfl rfl rfl (congrArg Value.bool hb79) (fun _ => HVal.nilCheck (congrArg Value.pointer e86)) ?_
        refine HPlan.gtakev (v := (.pointer (some (Addr.add a85 2)))) rfl rfl rfl rfl rfl (congrArg Value.bool hb79) (fun _ => HVal.fieldAddr' Tryd.runUnderlying89 rfl rfl Tryd.sizeOf3 rfl) ?_
        obtain ⟨x88, c87, h⟩ := h
        refine HPlan.gtakel (v := (.int .i64 x88)) (fun X => cell X (Addr.add a85 2) = some (.int .i64 x88)) rfl rfl rfl rfl rfl (congrArg Value.bool hb79) (fun _ hX => HVal.load1 Tryd.isAgg3 rfl hX) c87 ?_
        obtain ⟨b89, b90, h⟩ := h
        refine HPlan.gtakev (v := (.int .u8 (bt x84 x88.toNat))) rfl rfl rfl rfl rfl (congrArg Value.bool hb79) (fun _ => HVal.indexS' Tryd.runUnderlying9 rfl rfl b89 b90) ?_
        refine HPlan.gops rfl rfl rfl rfl rfl (congrArg Value.bool hb79) (HOp.call' 33 [(.int .u8 (bt x84 x88.toNat))] (cap := []) rfl rfl Tryd.call33 (walk33 h)) ?_
        rintro _ H91 ⟨r93, rfl, h⟩
        obtain ⟨s94, s95, s96, s97, h⟩ := h
        refine ⟨SC_of ⟨fun _ => s94, fun _ => s95, fun _ => s96, fun _ => s97, trivial⟩, ?_⟩
        refine HPlan.takev (v := (.bool r93)) rfl rfl (fun _ => HVal.pickT rfl hb79 rfl) ?_
        refine HPlan.done ?_
        refine nt ?_
        obtain ⟨hT, hF⟩ := h
        refine HW.cond r93 rfl (fun hb98 => ?_) (fun hb98 => ?_)
        · have h := hT hb98
          clear hT hF
          refine HW.skip ?_
          refine nt ?_
          refine HW.block ?_
          refine HW.region ?_
          refine HList.vals (v := (.pointer p0)) rfl (HVal.move' rfl) ?_
          obtain ⟨a99, e100, h⟩ := h
          refine HList.vals (v := (.pointer (some a99))) rfl (HVal.nilCheck (congrArg Value.pointer e100)) ?_
          refine HList.vals (v := (.pointer (some (Addr.add a99 2)))) rfl (HVal.fieldAddr' Tryd.runUnderlying89 rfl rfl Tryd.sizeOf3 rfl) ?_
          obtain ⟨x102, c101, h⟩ := h
          refine HList.vals (v := (.int .i64 x102)) rfl (HVal.load1 Tryd.isAgg3 rfl c101) ?_
          refine HList.vals (v := (.int .i64 (IntKind.i64.wrap (x102 + 1)))) rfl (HVal.add rfl rfl) ?_
          obtain ⟨a103, e104, h⟩ := h
          refine HList.vals (v := (.pointer (some a103))) rfl (HVal.nilCheck (congrArg Value.pointer e104)) ?_
          refine HList.vals (v := (.pointer (some (Addr.add a103 2)))) rfl (HVal.fieldAddr' Tryd.runUnderlying89 rfl rfl Tryd.sizeOf3 rfl) ?_
          obtain ⟨z107, z108, h⟩ := h
          refine HList.opsn (HOp.store1 Tryd.sizeOf3 rfl rfl rfl z107 z108) ?_
          rintro _ H105 e106
          replace h := h H105 e106
          refine HList.nil ?_
          refine nb ?_
          refine nt ?_
          exact (hX5 _).1 h _ ⟨rfl, trivial⟩
        · have h := hF hb98
          clear hT hF
          refine HW.exit ?_
          refine te ?_
          refine te ?_
          refine be ?_
          refine nt ?_
          exact ⟨⟨rfl, trivial⟩, h⟩
      · have h := hF hb80
        clear hT hF
        refine HPlan.takegskip rfl rfl rfl rfl (congrArg Value.bool hb80) ?_
        refine HPlan.takegskip rfl rfl rfl rfl (congrArg Value.bool hb80) ?_
        refine HPlan.takegskip rfl rfl rfl rfl (congrArg Value.bool hb80) ?_
        refine HPlan.takegskip rfl rfl rfl rfl (congrArg Value.bool hb80) ?_
        refine HPlan.takegskip rfl rfl rfl rfl (congrArg Value.bool hb80) ?_
        refine HPlan.takegskip rfl rfl rfl rfl (congrArg Value.bool hb80) ?_
        refine HPlan.takegskip rfl rfl rfl rfl (congrArg Value.bool hb80) ?_
        refine HPlan.takegskip rfl rfl rfl rfl (congrArg Value.bool hb80) ?_
        refine HPlan.takegskip rfl rfl rfl rfl (congrArg Value.bool hb80) ?_
        refine HPlan.opgskip rfl rfl rfl rfl (congrArg Value.bool hb80) ?_
        refine HPlan.takev (v := (.bool false)) rfl rfl (fun _ => HVal.pickF rfl hb80 rfl) ?_
        refine HPlan.done ?_
        refine nt ?_
        refine HW.condF false rfl rfl ?_
        refine HW.exit ?_
        refine te ?_
        refine te ?_
        refine be ?_
        refine nt ?_
        exact ⟨⟨rfl, trivial⟩, h⟩
    · rintro ρ H_4 ⟨hI, h⟩
      obtain ⟨ρ0, rfl⟩ : ∃ ρ0, ρ = (Env.set ρ0 0 (.pointer p0)) := ⟨ρ, hI.eq⟩
      clear hI; unfold F60_4 at h
      refine HW.cut (fun ρ H_6 => Env.Is ρ [(0, (.pointer p0))] ∧ F60_6 Q p0 H_6) ?_ ?_
      · refine HW.cut (fun ρ H_7 => ∃ (y150 : Bool), Env.Is ρ [(0, (.pointer p0)), (117, (.bool y150))] ∧ F60_7 Q p0 y150 H_7) ?_ ?_
        · refine HW.draw mixed [(0, some []), (1, some []), (2, some []), (3, some []), (4, some []), (5, some []), (6, some []), (7, some []), (8, some []), (9, some []), (10, some []), (11, some []), (12, some []), (13, some []), (14, some []), (15, some []), (16, some []), (17, some []), (18, some []), (19, some []), (20, some []), (21, some []), (22, some []), (23, some []), (24, some []), (25, some []), (26, some []), (27, some []), (28, some []), (29, some []), (30, some []), (31, none), (32, some [])] rfl (by kernel_rfl) (by kernel_rfl) ?_
          refine HPlan.takev (v := (.pointer p0)) rfl rfl (fun _ => HVal.move' rfl) ?_
          obtain ⟨a111, e112, h⟩ := h
          refine HPlan.takev (v := (.pointer (some a111))) rfl rfl (fun _ => HVal.nilCheck (congrArg Value.pointer e112)) ?_
          refine HPlan.takev (v := (.pointer (some (Addr.add a111 2)))) rfl rfl (fun _ => HVal.fieldAddr' Tryd.runUnderlying89 rfl rfl Tryd.sizeOf3 rfl) ?_
          obtain ⟨x114, c113, h⟩ := h
          refine HPlan.takel (v := (.int .i64 x114)) (fun X => cell X (Addr.add a111 2) = some (.int .i64 x114)) rfl rfl (fun _ hX => HVal.load1 Tryd.isAgg3 rfl hX) c113 ?_
          refine HPlan.takev (v := (.pointer p0)) rfl rfl (fun _ => HVal.move' rfl) ?_
          obtain ⟨a115, e116, h⟩ := h
          refine HPlan.takev (v := (.pointer (some a115))) rfl rfl (fun _ => HVal.nilCheck (congrArg Value.pointer e116)) ?_
          refine HPlan.takev (v := (.pointer (some (Addr.add a115 1)))) rfl rfl (fun _ => HVal.fieldAddr' Tryd.runUnderlying89 rfl rfl Tryd.sizeOf3 rfl) ?_
          obtain ⟨x118, c117, h⟩ := h
          refine HPlan.takel (v := (.int .i64 x118)) (fun X => cell X (Addr.add a115 1) = some (.int .i64 x118)) rfl rfl (fun _ hX => HVal.load1 Tryd.isAgg3 rfl hX) c117 ?_
          refine HPlan.takev (v := (.bool (decide (x114 = x118)))) rfl rfl (fun _ => HVal.eqlI rfl rfl) ?_
          refine HPlan.takev (v := (.bool (decide (x114 = x118)))) rfl rfl (fun _ => HVal.move' rfl) ?_
          obtain ⟨hT, hF⟩ := h
          rcases Bool.eq_false_or_eq_true (decide (x114 = x118)) with hb119 | hb120
          · have h := hT hb119
            clear hT hF
            refine HPlan.gtakev (v := (.pointer p0)) rfl rfl rfl rfl rfl (congrArg Value.bool hb119) (fun _ => HVal.move' rfl) ?_
            obtain ⟨a121, e122, h⟩ := h
            refine HPlan.gtakev (v := (.pointer (some a121))) rfl rfl rfl rfl rfl (congrArg Value.bool hb119) (fun _ => HVal.nilCheck (congrArg Value.pointer e122)) ?_
            refine HPlan.gtakev (v := (.pointer (some (Addr.add a121 1)))) rfl rfl rfl rfl rfl (congrArg Value.bool hb119) (fun _ => HVal.fieldAddr' Tryd.runUnderlying89 rfl rfl Tryd.sizeOf3 rfl) ?_
            obtain ⟨x124, c123, h⟩ := h
            refine HPlan.gtakel (v := (.int .i64 x124)) (fun X => cell X (Addr.add a121 1) = some (.int .i64 x124)) rfl rfl rfl rfl rfl (congrArg Value.bool hb119) (fun _ hX => HVal.load1 Tryd.isAgg3 rfl hX) c123 ?_
            refine HPlan.gtakev (v := (.pointer p0)) rfl rfl rfl rfl rfl (congrArg Value.bool hb119) (fun _ => HVal.move' rfl) ?_
            obtain ⟨a125, e126, h⟩ := h
            refine HPlan.gtakev (v := (.pointer (some a125))) rfl rfl rfl rfl rfl (congrArg Value.bool hb119) (fun _ => HVal.nilCheck (congrArg Value.pointer e126)) ?_
            refine HPlan.gtakev (v := (.pointer (some a125))) rfl rfl rfl rfl rfl (congrArg Value.bool hb119) (fun _ => HVal.fieldAddr0 Tryd.runUnderlying89 rfl rfl Tryd.sizeOf9 rfl) ?_
            obtain ⟨x128, c127, h⟩ := h
            refine HPlan.gtakel (v := (.string x128)) (fun X => cell X a125 = some (.string x128)) rfl rfl rfl rfl rfl (congrArg Value.bool hb119) (fun _ hX => HVal.load1 Tryd.isAgg9 rfl hX) c127 ?_
            refine HPlan.gtakev (v := (.int .i64 ((x128).size : Int))) rfl rfl rfl rfl rfl (congrArg Value.bool hb119) (fun _ => HVal.lenS Tryd.runUnderlying9 rfl) ?_
            refine HPlan.gtakev (v := (.bool (decide (x124 < ((x128).size : Int))))) rfl rfl rfl rfl rfl (congrArg Value.bool hb119) (fun _ => HVal.lss rfl rfl) ?_
            refine HPlan.takev (v := (.bool (decide (x124 < ((x128).size : Int))))) rfl rfl (fun _ => HVal.pickT rfl hb119 rfl) ?_
            refine HPlan.takev (v := (.bool (decide (x124 < ((x128).size : Int))))) rfl rfl (fun _ => HVal.move' rfl) ?_
            obtain ⟨hT, hF⟩ := h
            rcases Bool.eq_false_or_eq_true (decide (x124 < ((x128).size : Int))) with hb129 | hb130
            · have h := hT hb129
              clear hT hF
              refine HPlan.gtakev (v := (.pointer p0)) rfl rfl rfl rfl rfl (congrArg Value.bool hb129) (fun _ => HVal.move' rfl) ?_
              obtain ⟨a131, e132, h⟩ := h
              refine HPlan.gtakev (v := (.pointer (some a131))) rfl rfl rfl rfl rfl (congrArg Value.bool hb129) (fun _ => HVal.nilCheck (congrArg Value.pointer e132)) ?_
              refine HPlan.gtakev (v := (.pointer (some a131))) rfl rfl rfl rfl rfl (congrArg Value.bool hb129) (fun _ => HVal.fieldAddr0 Tryd.runUnderlying89 rfl rfl Tryd.sizeOf9 rfl) ?_
              obtain ⟨x134, c133, h⟩ := h
              refine HPlan.gtakel (v := (.string x134)) (fun X => cell X a131 = some (.string x134)) rfl rfl rfl rfl rfl (congrArg Value.bool hb129) (fun _ hX => HVal.load1 Tryd.isAgg9 rfl hX) c133 ?_
              refine HPlan.gtakev (v := (.pointer p0)) rfl rfl rfl rfl rfl (congrArg Value.bool hb129) (fun _ => HVal.move' rfl) ?_
              obtain ⟨a135, e136, h⟩ := h
              refine HPlan.gtakev (v := (.pointer (some a135))) rfl rfl rfl rfl rfl (congrArg Value.bool hb129) (fun _ => HVal.nilCheck (congrArg Value.pointer e136)) ?_
              refine HPlan.gtakev (v := (.pointer (some (Addr.add a135 1)))) rfl rfl rfl rfl rfl (congrArg Value.bool hb129) (fun _ => HVal.fieldAddr' Tryd.runUnderlying89 rfl rfl Tryd.sizeOf3 rfl) ?_
              obtain ⟨x138, c137, h⟩ := h
              refine HPlan.gtakel (v := (.int .i64 x138)) (fun X => cell X (Addr.add a135 1) = some (.int .i64 x138)) rfl rfl rfl rfl rfl (congrArg Value.bool hb129) (fun _ hX => HVal.load1 Tryd.isAgg3 rfl hX) c137 ?_
              obtain ⟨b139, b140, h⟩ := h
              refine HPlan.gtakev (v := (.int .u8 (bt x134 x138.toNat))) rfl rfl rfl rfl rfl (congrArg Value.bool hb129) (fun _ => HVal.indexS' Tryd.runUnderlying9 rfl rfl b139 b140) ?_
              refine HPlan.gops rfl rfl rfl rfl rfl (congrArg Value.bool hb129) (HOp.call' 80 [(.int .u8 (bt x134 x138.toNat))] (cap := []) rfl rfl Tryd.call80 (walk80 h)) ?_
              rintro _ H141 ⟨r143, rfl, h⟩
              obtain ⟨s144, s145, s146, s147, s148, s149, h⟩ := h
              refine ⟨SC_of ⟨fun _ => s144, fun _ => s145, fun _ => s146, fun _ => s147, fun _ => s148, fun _ => s149, trivial⟩, ?_⟩
              refine HPlan.takev (v := (.bool r143)) rfl rfl (fun _ => HVal.pickT rfl hb129 rfl) ?_
              refine HPlan.done ?_
              refine nt ?_
              exact ⟨r143, ⟨rfl, rfl, trivial⟩, h⟩
            · have h := hF hb130
              clear hT hF
              refine HPlan.takegskip rfl rfl rfl rfl (congrArg Value.bool hb130) ?_
              refine HPlan.takegskip rfl rfl rfl rfl (congrArg Value.bool hb130) ?_
              refine HPlan.takegskip rfl rfl rfl rfl (congrArg Value.bool hb130) ?_
              refine HPlan.takegskip rfl rfl rfl rfl (congrArg Value.bool hb130) ?_
              refine HPlan.takegskip rfl rfl rfl rfl (congrArg Value.bool hb130) ?_
              refine HPlan.takegskip rfl rfl rfl rfl (congrArg Value.bool hb130) ?_
              refine HPlan.takegskip rfl rfl rfl rfl (congrArg Value.bool hb130) ?_
              refine HPlan.takegskip rfl rfl rfl rfl (congrArg Value.bool hb130) ?_
              refine HPlan.takegskip rfl rfl rfl rfl (congrArg Value.bool hb130) ?_
              refine HPlan.opgskip rfl rfl rfl rfl (congrArg Value.bool hb130) ?_
              refine HPlan.takev (v := (.bool false)) rfl rfl (fun _ => HVal.pickF rfl hb130 rfl) ?_
              refine HPlan.done ?_
              refine nt ?_
              exact ⟨false, ⟨rfl, rfl, trivial⟩, h⟩
          · have h := hF hb120
            clear hT hF
            refine HPlan.takegskip rfl rfl rfl rfl (congrArg Value.bool hb120) ?_
            refine HPlan.takegskip rfl rfl rfl rfl (congrArg Value.bool hb120) ?_
            refine HPlan.takegskip rfl rfl rfl rfl (congrArg Value.bool hb120) ?_
            refine HPlan.takegskip rfl rfl rfl rfl (congrArg Value.bool hb120) ?_
            refine HPlan.takegskip rfl rfl rfl rfl (congrArg Value.bool hb120) ?_
            refine HPlan.takegskip rfl rfl rfl rfl (congrArg Value.bool hb120) ?_
            refine HPlan.takegskip rfl rfl rfl rfl (congrArg Value.bool hb120) ?_
            refine HPlan.takegskip rfl rfl rfl rfl (congrArg Value.bool hb120) ?_
            refine HPlan.takegskip rfl rfl rfl rfl (congrArg Value.bool hb120) ?_
            refine HPlan.takegskip rfl rfl rfl rfl (congrArg Value.bool hb120) ?_
            refine HPlan.takev (v := (.bool false)) rfl rfl (fun _ => HVal.pickF rfl hb120 rfl) ?_
            refine HPlan.takev (v := (.bool false)) rfl rfl (fun _ => HVal.move' rfl) ?_
            refine HPlan.takegskip rfl rfl rfl rfl rfl ?_
            refine HPlan.takegskip rfl rfl rfl rfl rfl ?_
            refine HPlan.takegskip rfl rfl rfl rfl rfl ?_
            refine HPlan.takegskip rfl rfl rfl rfl rfl ?_
            refine HPlan.takegskip rfl rfl rfl rfl rfl ?_
            refine HPlan.takegskip rfl rfl rfl rfl rfl ?_
            refine HPlan.takegskip rfl rfl rfl rfl rfl ?_
            refine HPlan.takegskip rfl rfl rfl rfl rfl ?_
            refine HPlan.takegskip rfl rfl rfl rfl rfl ?_
            refine HPlan.opgskip rfl rfl rfl rfl rfl ?_
            refine HPlan.takev (v := (.bool false)) rfl rfl (fun _ => HVal.pickF rfl rfl rfl) ?_
            refine HPlan.done ?_
            refine nt ?_
            exact ⟨false, ⟨rfl, rfl, trivial⟩, h⟩
        · rintro ρ H_7 ⟨y150, hI, h⟩
          obtain ⟨ρ0, rfl⟩ : ∃ ρ0, ρ = (Env.set (Env.set ρ0 117 (.bool y150)) 0 (.pointer p0)) := ⟨ρ, hI.eq⟩
          clear hI; unfold F60_7 at h
          obtain ⟨hT, hF⟩ := h
          refine HW.cond y150 rfl (fun hb151 => ?_) (fun hb151 => ?_)
          · have h := hT hb151
            clear hT hF
            refine HW.region ?_
            refine HList.vals (v := (.pointer p0)) rfl (HVal.move' rfl) ?_
            obtain ⟨a152, e153, h⟩ := h
            refine HList.vals (v := (.pointer (some a152))) rfl (HVal.nilCheck (congrArg Value.pointer e153)) ?_
            refine HList.vals (v := (.pointer (some (Addr.add a152 2)))) rfl (HVal.fieldAddr' Tryd.runUnderlying89 rfl rfl Tryd.sizeOf3 rfl) ?_
            obtain ⟨x155, c154, h⟩ := h
            refine HList.vals (v := (.int .i64 x155)) rfl (HVal.load1 Tryd.isAgg3 rfl c154) ?_
            refine HList.vals (v := (.int .i64 (IntKind.i64.wrap (x155 + 1)))) rfl (HVal.add rfl rfl) ?_
            obtain ⟨a156, e157, h⟩ := h
            refine HList.vals (v := (.pointer (some a156))) rfl (HVal.nilCheck (congrArg Value.pointer e157)) ?_
            refine HList.vals (v := (.pointer (some (Addr.add a156 2)))) rfl (HVal.fieldAddr' Tryd.runUnderlying89 rfl rfl Tryd.sizeOf3 rfl) ?_
            obtain ⟨z160, z161, h⟩ := h
            refine HList.opsn (HOp.store1 Tryd.sizeOf3 rfl rfl rfl z160 z161) ?_
            rintro _ H158 e159
            replace h := h H158 e159
            refine HList.nil ?_
            refine nt ?_
            exact ⟨⟨rfl, trivial⟩, h⟩
          · have h := hF hb151
            clear hT hF
            refine HW.skip ?_
            refine nt ?_
            exact ⟨⟨rfl, trivial⟩, h⟩
      · rintro ρ H_6 ⟨hI, h⟩
        obtain ⟨ρ0, rfl⟩ : ∃ ρ0, ρ = (Env.set ρ0 0 (.pointer p0)) := ⟨ρ, hI.eq⟩
        clear hI; unfold F60_6 at h
        refine HW.draw mixed [(0, some []), (1, some []), (2, some []), (3, some []), (4, some [16]), (5, some []), (6, some []), (7, some []), (8, some [16]), (9, some []), (10, some []), (11, some []), (12, some [16]), (13, some []), (14, some []), (15, some []), (16, none)] rfl (by kernel_rfl) (by kernel_rfl) ?_
        refine HPlan.takev (v := (.pointer p0)) rfl rfl (fun _ => HVal.move' rfl) ?_
        refine HPlan.takev (v := (.pointer p0)) rfl rfl (fun _ => HVal.move' rfl) ?_
        obtain ⟨a162, e163, h⟩ := h
        refine HPlan.takev (v := (.pointer (some a162))) rfl rfl (fun _ => HVal.nilCheck (congrArg Value.pointer e163)) ?_
        refine HPlan.takev (v := (.pointer (some a162))) rfl rfl (fun _ => HVal.fieldAddr0 Tryd.runUnderlying89 rfl rfl Tryd.sizeOf9 rfl) ?_
        obtain ⟨x165, c164, h⟩ := h
        refine HPlan.takel (v := (.string x165)) (fun X => cell X a162 = some (.string x165)) rfl rfl (fun _ hX => HVal.load1 Tryd.isAgg9 rfl hX) c164 ?_
        refine HPlan.takev (v := (.pointer p0)) rfl rfl (fun _ => HVal.move' rfl) ?_
        obtain ⟨a166, e167, h⟩ := h
        refine HPlan.takev (v := (.pointer (some a166))) rfl rfl (fun _ => HVal.nilCheck (congrArg Value.pointer e167)) ?_
        refine HPlan.takev (v := (.pointer (some (Addr.add a166 1)))) rfl rfl (fun _ => HVal.fieldAddr' Tryd.runUnderlying89 rfl rfl Tryd.sizeOf3 rfl) ?_
        obtain ⟨x169, c168, h⟩ := h
        refine HPlan.takel (v := (.int .i64 x169)) (fun X => cell X (Addr.add a166 1) = some (.int .i64 x169)) rfl rfl (fun _ hX => HVal.load1 Tryd.isAgg3 rfl hX) c168 ?_
        refine HPlan.takev (v := (.pointer p0)) rfl rfl (fun _ => HVal.move' rfl) ?_
        obtain ⟨a170, e171, h⟩ := h
        refine HPlan.takev (v := (.pointer (some a170))) rfl rfl (fun _ => HVal.nilCheck (congrArg Value.pointer e171)) ?_
        refine HPlan.takev (v := (.pointer (some (Addr.add a170 2)))) rfl rfl (fun _ => HVal.fieldAddr' Tryd.runUnderlying89 rfl rfl Tryd.sizeOf3 rfl) ?_
        obtain ⟨x173, c172, h⟩ := h
        refine HPlan.takel (v := (.int .i64 x173)) (fun X => cell X (Addr.add a170 2) = some (.int .i64 x173)) rfl rfl (fun _ hX => HVal.load1 Tryd.isAgg3 rfl hX) c172 ?_
        obtain ⟨z174, z175, z176, z177, h⟩ := h
        refine HPlan.takev (v := (.string ((x165).extract x169.toNat x173.toNat))) rfl rfl (fun _ => HVal.sliceS _ _ Tryd.runUnderlying9 rfl ⟨_, _, rfl, z174, rfl⟩ ⟨_, _, rfl, z175, rfl⟩ z176 z177) ?_
        obtain ⟨a178, e179, h⟩ := h
        refine HPlan.takev (v := (.pointer (some a178))) rfl rfl (fun _ => HVal.nilCheck (congrArg Value.pointer e179)) ?_
        refine HPlan.takev (v := (.pointer (some (Addr.add a178 3)))) rfl rfl (fun _ => HVal.fieldAddr' Tryd.runUnderlying89 rfl rfl Tryd.sizeOf9 rfl) ?_
        obtain ⟨z182, z183, h⟩ := h
        refine HPlan.opsn rfl (HOp.store1 Tryd.sizeOf9 rfl rfl rfl z182 z183) ?_
        rintro _ H180 e181
        replace h := h H180 e181
        refine ⟨SC_of ⟨fun e => absurd e (by decide), fun e => absurd e (by decide), fun e => absurd e (by decide), trivial⟩, ?_⟩
        refine HPlan.done ?_
        exact ⟨_, resOf0 rfl , ⟨rfl, h⟩⟩

def F61 (p0 : (Option Addr)) (p1 : ByteArray) (H : Hp) (Q : Bool → Hp → Prop) : Prop :=
∃ a1 : Addr, p0 = some a1 ∧ (
 ∃ x4 : ByteArray, cell H (Addr.add a1 3) = some (.string x4) ∧ (
 ((!(seq x4 p1)) = true → (Q false H)) ∧
 ((!(seq x4 p1)) = false → (F60 p0 H (fun (H6 : Hp) => 
 Q true H6)))))
set_option maxRecDepth 100000 in
set_option maxHeartbeats 4000000 in
theorem walk61 {w0 : World} {p0 : (Option Addr)} {p1 : ByteArray} {H : Hp} {Q : Bool → Hp → Prop} (h : F61 p0 p1 H Q) :
    Good Tryd.prog w0 61 #[(.pointer p0), (.string p1)] H (fun v H => ∃ (r0 : Bool) , v = (.bool r0) ∧ Q r0 H) := by
  unfold F61 at h
  refine Good.enter' (fn := Tryd.f61) Tryd.func61 rfl rfl rfl ?_
  refine HW.seq ?_
  refine HW.region ?_
  refine HList.vals (v := (.bool false)) rfl (HVal.assign' rfl) ?_
  refine HList.nil ?_
  refine nt ?_
  refine HW.seq ?_
  refine HW.seq ?_
  refine HW.region ?_
  refine HList.vals (v := (.pointer p0)) rfl (HVal.move' rfl) ?_
  obtain ⟨a1, e2, h⟩ := h
  refine HList.vals (v := (.pointer (some a1))) rfl (HVal.nilCheck (congrArg Value.pointer e2)) ?_
  refine HList.vals (v := (.pointer (some (Addr.add a1 3)))) rfl (HVal.fieldAddr' Tryd.runUnderlying89 rfl rfl Tryd.sizeOf9 rfl) ?_
  obtain ⟨x4, c3, h⟩ := h
  refine HList.vals (v := (.string x4)) rfl (HVal.load1 Tryd.isAgg9 rfl c3) ?_
  refine HList.vals (v := (.string p1)) rfl (HVal.move' rfl) ?_
  refine HList.vals (v := (.bool (!(seq x4 p1)))) rfl (HVal.neqS rfl rfl) ?_
  refine HList.nil ?_
  refine nt ?_
  obtain ⟨hT, hF⟩ := h
  refine HW.cond (!(seq x4 p1)) rfl (fun hb5 => ?_) (fun hb5 => ?_)
  · have h := hT hb5
    clear hT hF
    refine HW.seq ?_
    refine HW.region ?_
    refine HList.vals (v := (.bool false)) rfl (HVal.assign' rfl) ?_
    refine HList.nil ?_
    refine nt ?_
    refine HW.ret ?_
    refine tr ?_
    exact ⟨_, resOf1 rfl Res1.t, ⟨false, rfl, h⟩⟩
  · have h := hF hb5
    clear hT hF
    refine HW.skip ?_
    refine nt ?_
    refine HW.seq ?_
    refine HW.region ?_
    refine HList.vals (v := (.pointer p0)) rfl (HVal.move' rfl) ?_
    refine HList.ops' rfl (HOp.call' 60 [(.pointer p0)] (cap := []) rfl rfl Tryd.call60 (walk60 h)) ?_
    rintro _ H6 ⟨rfl, h⟩
    refine HList.nil ?_
    refine nt ?_
    refine HW.seq ?_
    refine HW.region ?_
    refine HList.vals (v := (.bool true)) rfl (HVal.assign' rfl) ?_
    refine HList.nil ?_
    refine nt ?_
    refine HW.ret ?_
    exact ⟨_, resOf1 rfl Res1.t, ⟨true, rfl, h⟩⟩

def F62 (p0 : (Option Addr)) (H : Hp) (Q : Bool → Hp → Prop) : Prop :=
∃ a1 : Addr, p0 = some a1 ∧ (
 ∃ x4 : ByteArray, cell H (Addr.add a1 3) = some (.string x4) ∧ (
 ((!(seq x4 (ByteArray.mk #[]))) = true → (∃ a7 : Addr, p0 = some a7 ∧ (
 ∃ x10 : ByteArray, cell H (Addr.add a7 3) = some (.string x10) ∧ (
 (0 : Int) ≤ 0 ∧ (0 : Int).toNat < (x10).size ∧ (
 F33 (bt x10 (0 : Int).toNat) H (fun (r15 : Bool) (H13 : Hp) => 
 Q r15 H13)))))) ∧
 ((!(seq x4 (ByteArray.mk #[]))) = false → (Q false H))))
set_option maxRecDepth 100000 in
set_option maxHeartbeats 4000000 in
theorem walk62 {w0 : World} {p0 : (Option Addr)} {H : Hp} {Q : Bool → Hp → Prop} (h : F62 p0 H Q) :
    Good Tryd.prog w0 62 #[(.pointer p0)] H (fun v H => ∃ (r0 : Bool) , v = (.bool r0) ∧ Q r0 H) := by
  unfold F62 at h
  refine Good.enter' (fn := Tryd.f62) Tryd.func62 rfl rfl rfl ?_
  refine HW.seq ?_
  refine HW.region ?_
  refine HList.vals (v := (.bool false)) rfl (HVal.assign' rfl) ?_
  refine HList.nil ?_
  refine nt ?_
  refine HW.seq ?_
  refine HW.region ?_
  refine HList.vals (v := (.pointer p0)) rfl (HVal.move' rfl) ?_
  obtain ⟨a1, e2, h⟩ := h
  refine HList.vals (v := (.pointer (some a1))) rfl (HVal.nilCheck (congrArg Value.pointer e2)) ?_
  refine HList.vals (v := (.pointer (some (Addr.add a1 3)))) rfl (HVal.fieldAddr' Tryd.runUnderlying89 rfl rfl Tryd.sizeOf9 rfl) ?_
  obtain ⟨x4, c3, h⟩ := h
  refine HList.vals (v := (.string x4)) rfl (HVal.load1 Tryd.isAgg9 rfl c3) ?_
  refine HList.vals (v := (.bool (!(seq x4 (ByteArray.mk #[]))))) rfl (HVal.neqS rfl rfl) ?_
  refine HList.vals (v := (.bool (!(seq x4 (ByteArray.mk #[]))))) rfl (HVal.move' rfl) ?_
  obtain ⟨hT, hF⟩ := h
  rcases Bool.eq_false_or_eq_true (!(seq x4 (ByteArray.mk #[]))) with hb5 | hb6
  · have h := hT hb5
    clear hT hF
    refine HList.gvals (v := (.pointer p0)) rfl rfl rfl rfl (congrArg Value.bool hb5) (HVal.move' rfl) ?_
    obtain ⟨a7, e8, h⟩ := h
    refine HList.gvals (v := (.pointer (some a7))) rfl rfl rfl rfl (congrArg Value.bool hb5) (HVal.nilCheck (congrArg Value.pointer e8)) ?_
    refine HList.gvals (v := (.pointer (some (Addr.add a7 3)))) rfl rfl rfl rfl (congrArg Value.bool hb5) (HVal.fieldAddr' Tryd.runUnderlying89 rfl rfl Tryd.sizeOf9 rfl) ?_
    obtain ⟨x10, c9, h⟩ := h
    refine HList.gvals (v := (.string x10)) rfl rfl rfl rfl (congrArg Value.bool hb5) (HVal.load1 Tryd.isAgg9 rfl c9) ?_
    obtain ⟨b11, b12, h⟩ := h
    refine HList.gvals (v := (.int .u8 (bt x10 (0 : Int).toNat))) rfl rfl rfl rfl (congrArg Value.bool hb5) (HVal.indexS' Tryd.runUnderlying9 rfl rfl b11 b12) ?_
    refine HList.gops rfl rfl rfl rfl (congrArg Value.bool hb5) (HOp.call' 33 [(.int .u8 (bt x10 (0 : Int).toNat))] (cap := []) rfl rfl Tryd.call33 (walk33 h)) ?_
    rintro _ H13 ⟨r15, rfl, h⟩
    refine HList.vals (v := (.bool r15)) rfl (HVal.pickT rfl hb5 rfl) ?_
    refine HList.vals (v := (.bool r15)) rfl (HVal.assign' rfl) ?_
    refine HList.nil ?_
    refine nt ?_
    refine HW.ret ?_
    exact ⟨_, resOf1 rfl Res1.t, ⟨r15, rfl, h⟩⟩
  · have h := hF hb6
    clear hT hF
    refine HList.gskips rfl rfl rfl rfl (congrArg Value.bool hb6) ?_
    refine HList.gskips rfl rfl rfl rfl (congrArg Value.bool hb6) ?_
    refine HList.gskips rfl rfl rfl rfl (congrArg Value.bool hb6) ?_
    refine HList.gskips rfl rfl rfl rfl (congrArg Value.bool hb6) ?_
    refine HList.gskips rfl rfl rfl rfl (congrArg Value.bool hb6) ?_
    refine HList.gskips rfl rfl rfl rfl (congrArg Value.bool hb6) ?_
    refine HList.vals (v := (.bool false)) rfl (HVal.pickF rfl hb6 rfl) ?_
    refine HList.vals (v := (.bool false)) rfl (HVal.assign' rfl) ?_
    refine HList.nil ?_
    refine nt ?_
    refine HW.ret ?_
    exact ⟨_, resOf1 rfl Res1.t, ⟨false, rfl, h⟩⟩

def F64 (p0 : (Option Addr)) (H : Hp) (Q : Bool → Hp → Prop) : Prop :=
∃ a1 : Addr, p0 = some a1 ∧ (
 ∃ x4 : Int, cell H (Addr.add a1 1) = some (.int .i64 x4) ∧ (
 ∃ a5 : Addr, p0 = some a5 ∧ (
 ∃ x8 : ByteArray, cell H a5 = some (.string x8) ∧ (
 Q (decide (x4 = ((x8).size : Int))) H))))
set_option maxRecDepth 100000 in
set_option maxHeartbeats 4000000 in
theorem walk64 {w0 : World} {p0 : (Option Addr)} {H : Hp} {Q : Bool → Hp → Prop} (h : F64 p0 H Q) :
    Good Tryd.prog w0 64 #[(.pointer p0)] H (fun v H => ∃ (r0 : Bool) , v = (.bool r0) ∧ Q r0 H) := by
  unfold F64 at h
  refine Good.enter' (fn := Tryd.f64) Tryd.func64 rfl rfl rfl ?_
  refine HW.seq ?_
  refine HW.region ?_
  refine HList.vals (v := (.bool false)) rfl (HVal.assign' rfl) ?_
  refine HList.nil ?_
  refine nt ?_
  refine HW.seq ?_
  refine HW.draw mixed [(0, some []), (1, some []), (2, some []), (3, some []), (4, some []), (5, some []), (6, some []), (7, some []), (8, some []), (9, some []), (10, some [])] rfl (by kernel_rfl) (by kernel_rfl) ?_
  refine HPlan.takev (v := (.pointer p0)) rfl rfl (fun _ => HVal.move' rfl) ?_
  obtain ⟨a1, e2, h⟩ := h
  refine HPlan.takev (v := (.pointer (some a1))) rfl rfl (fun _ => HVal.nilCheck (congrArg Value.pointer e2)) ?_
  refine HPlan.takev (v := (.pointer (some (Addr.add a1 1)))) rfl rfl (fun _ => HVal.fieldAddr' Tryd.runUnderlying89 rfl rfl Tryd.sizeOf3 rfl) ?_
  obtain ⟨x4, c3, h⟩ := h
  refine HPlan.takel (v := (.int .i64 x4)) (fun X => cell X (Addr.add a1 1) = some (.int .i64 x4)) rfl rfl (fun _ hX => HVal.load1 Tryd.isAgg3 rfl hX) c3 ?_
  refine HPlan.takev (v := (.pointer p0)) rfl rfl (fun _ => HVal.move' rfl) ?_
  obtain ⟨a5, e6, h⟩ := h
  refine HPlan.takev (v := (.pointer (some a5))) rfl rfl (fun _ => HVal.nilCheck (congrArg Value.pointer e6)) ?_
  refine HPlan.takev (v := (.pointer (some a5))) rfl rfl (fun _ => HVal.fieldAddr0 Tryd.runUnderlying89 rfl rfl Tryd.sizeOf9 rfl) ?_
  obtain ⟨x8, c7, h⟩ := h
  refine HPlan.takel (v := (.string x8)) (fun X => cell X a5 = some (.string x8)) rfl rfl (fun _ hX => HVal.load1 Tryd.isAgg9 rfl hX) c7 ?_
  refine HPlan.takev (v := (.int .i64 ((x8).size : Int))) rfl rfl (fun _ => HVal.lenS Tryd.runUnderlying9 rfl) ?_
  refine HPlan.takev (v := (.bool (decide (x4 = ((x8).size : Int))))) rfl rfl (fun _ => HVal.eqlI rfl rfl) ?_
  refine HPlan.takev (v := (.bool (decide (x4 = ((x8).size : Int))))) rfl rfl (fun _ => HVal.assign' rfl) ?_
  refine HPlan.done ?_
  refine nt ?_
  refine HW.ret ?_
  exact ⟨_, resOf1 rfl Res1.t, ⟨(decide (x4 = ((x8).size : Int))), rfl, h⟩⟩

def F15_L2b (Q : Bool → Hp → Prop) (X2 : Int → Hp → Prop) (y20 : Addr) (y21 : Addr) (y19 : Int) (H_2 : Hp) : Prop :=
∃ x23 : Sl, cell H_2 (Addr.add y20 1) = some (Sl.v x23) ∧ (
 ((decide (y19 < ((x23).n : Int))) = true → (∃ x26 : Sl, cell H_2 (Addr.add y20 1) = some (Sl.v x26) ∧ (
 ∃ a27 : Addr, (x26).b = some a27 ∧ (0 : Int) ≤ y19 ∧ y19 < ((x26).n : Int) ∧ (
 ∃ (x32 : ByteArray) (x33 : Int), cells H_2 (Addr.add a27 (y19.toNat * 2)) [(.string x32), (.int .i64 x33)] 0 ∧ (
 ∃ x35 : Sl, cell H_2 (Addr.add y21 1) = some (Sl.v x35) ∧ (
 ∃ a36 : Addr, (x35).b = some a36 ∧ (0 : Int) ≤ y19 ∧ y19 < ((x35).n : Int) ∧ (
 ∃ (x41 : ByteArray) (x42 : Int), cells H_2 (Addr.add a36 (y19.toNat * 2)) [(.string x41), (.int .i64 x42)] 0 ∧ (
 ((!(seq x32 x41 && decide (x33 = x42))) = true → (Q false H_2)) ∧
 ((!(seq x32 x41 && decide (x33 = x42))) = false → (X2 (IntKind.i64.wrap (y19 + 1)) H_2)))))))))) ∧
 ((decide (y19 < ((x23).n : Int))) = false → (Q true H_2)))
def F15_L2 (Q : Bool → Hp → Prop) (y20 : Addr) (y21 : Addr) (y19 : Int) (H_2 : Hp) : Prop :=
  ∀ X2 : Int → Hp → Prop, (∀ (y19 : Int) (H_2 : Hp), F15_L2b Q X2 y20 y21 y19 H_2 → X2 y19 H_2) → X2 y19 H_2
def F15_1 (Q : Bool → Hp → Prop) (y5 : Addr) (y6 : Addr) (y13 : Bool) (H_1 : Hp) : Prop :=
(y13 = true → (Q false H_1)) ∧
 (y13 = false → (F15_L2 Q y5 y6 0 H_1))
def F15 (p0_0 : ByteArray) (p0_1 : Sl) (p1_0 : ByteArray) (p1_1 : Sl) (H : Hp) (Q : Bool → Hp → Prop) : Prop :=
∀ H1 : Hp, H1 = Array.push H (.cells #[(.string p0_0), (Sl.v p0_1)] 27) → (
 ∀ H3 : Hp, H3 = Array.push H1 (.cells #[(.string p1_0), (Sl.v p1_1)] 27) → (
 ∃ x8 : ByteArray, cell H3 ⟨H.size, 0, none⟩ = some (.string x8) ∧ (
 ∃ x10 : ByteArray, cell H3 ⟨H1.size, 0, none⟩ = some (.string x10) ∧ (
 ((!(seq x8 x10)) = true → (F15_1 Q ⟨H.size, 0, none⟩ ⟨H1.size, 0, none⟩ true H3)) ∧
 ((!(seq x8 x10)) = false → (∃ x15 : Sl, cell H3 (Addr.add ⟨H.size, 0, none⟩ 1) = some (Sl.v x15) ∧ (
 ∃ x17 : Sl, cell H3 (Addr.add ⟨H1.size, 0, none⟩ 1) = some (Sl.v x17) ∧ (
 F15_1 Q ⟨H.size, 0, none⟩ ⟨H1.size, 0, none⟩ (decide (((x15).n : Int) ≠ ((x17).n : Int))) H3))))))))
set_option maxRecDepth 100000 in
set_option maxHeartbeats 4000000 in
theorem walk15 {w0 : World} {p0_0 : ByteArray} {p0_1 : Sl} {p1_0 : ByteArray} {p1_1 : Sl} {H : Hp} {Q : Bool → Hp → Prop} (h : F15 p0_0 p0_1 p1_0 p1_1 H Q) :
    Good Tryd.prog w0 15 #[(.agg #[(.string p0_0), (Sl.v p0_1)]), (.agg #[(.string p1_0), (Sl.v p1_1)])] H (fun v H => ∃ (r0 : Bool) , v = (.bool r0) ∧ Q r0 H) := by
  unfold F15 at h
  refine Good.enter' (fn := Tryd.f15) Tryd.func15 rfl rfl rfl ?_
  refine HW.seq ?_
  refine HW.region ?_
  refine HList.ops' rfl (HOp.box (v := (.agg #[(.string p0_0), (Sl.v p0_1)])) rfl) ?_
  rintro _ H1 ⟨rfl, e2⟩
  replace h := h H1 e2
  refine HList.ops' rfl (HOp.box (v := (.agg #[(.string p1_0), (Sl.v p1_1)])) rfl) ?_
  rintro _ H3 ⟨rfl, e4⟩
  replace h := h H3 e4
  refine HList.vals (v := (.bool false)) rfl (HVal.assign' rfl) ?_
  refine HList.nil ?_
  refine nt ?_
  refine HW.seq ?_
  refine HW.cut (fun ρ H_1 => ∃ (y13 : Bool), Env.Is ρ [(2, (.pointer (some ⟨H.size, 0, none⟩))), (3, (.pointer (some ⟨H1.size, 0, none⟩))), (19, (.bool y13))] ∧ F15_1 Q ⟨H.size, 0, none⟩ ⟨H1.size, 0, none⟩ y13 H_1) ?_ ?_
  · refine HW.region ?_
    refine HList.vals (v := (.pointer (some ⟨H.size, 0, none⟩))) rfl (HVal.fieldAddr0 Tryd.runUnderlying27 rfl rfl Tryd.sizeOf9 rfl) ?_
    obtain ⟨x8, c7, h⟩ := h
    refine HList.vals (v := (.string x8)) rfl (HVal.load1 Tryd.isAgg9 rfl c7) ?_
    refine HList.vals (v := (.pointer (some ⟨H1.size, 0, none⟩))) rfl (HVal.fieldAddr0 Tryd.runUnderlying27 rfl rfl Tryd.sizeOf9 rfl) ?_
    obtain ⟨x10, c9, h⟩ := h
    refine HList.vals (v := (.string x10)) rfl (HVal.load1 Tryd.isAgg9 rfl c9) ?_
    refine HList.vals (v := (.bool (!(seq x8 x10)))) rfl (HVal.neqS rfl rfl) ?_
    refine HList.vals (v := (.bool (!(seq x8 x10)))) rfl (HVal.move' rfl) ?_
    obtain ⟨hT, hF⟩ := h
    rcases Bool.eq_false_or_eq_true (!(seq x8 x10)) with hb11 | hb12
    · have h := hT hb11
      clear hT hF
      refine HList.gskips rfl rfl rfl rfl (congrArg Value.bool hb11) ?_
      refine HList.gskips rfl rfl rfl rfl (congrArg Value.bool hb11) ?_
      refine HList.gskips rfl rfl rfl rfl (congrArg Value.bool hb11) ?_
      refine HList.gskips rfl rfl rfl rfl (congrArg Value.bool hb11) ?_
      refine HList.gskips rfl rfl rfl rfl (congrArg Value.bool hb11) ?_
      refine HList.gskips rfl rfl rfl rfl (congrArg Value.bool hb11) ?_
      refine HList.gskips rfl rfl rfl rfl (congrArg Value.bool hb11) ?_
      refine HList.vals (v := (.bool true)) rfl (HVal.pickT rfl hb11 rfl) ?_
      refine HList.nil ?_
      refine nt ?_
      exact ⟨true, ⟨rfl, rfl, rfl, trivial⟩, h⟩
    · have h := hF hb12
      clear hT hF
      refine HList.gvals (v := (.pointer (some (Addr.add ⟨H.size, 0, none⟩ 1)))) rfl rfl rfl rfl (congrArg Value.bool hb12) (HVal.fieldAddr' Tryd.runUnderlying27 rfl rfl Tryd.sizeOf25 rfl) ?_
      obtain ⟨x15, c14, h⟩ := h
      refine HList.gvals (v := (Sl.v x15)) rfl rfl rfl rfl (congrArg Value.bool hb12) (HVal.load1 Tryd.isAgg25 rfl c14) ?_
      refine HList.gvals (v := (.int .i64 ((x15).n : Int))) rfl rfl rfl rfl (congrArg Value.bool hb12) (HVal.len Tryd.runUnderlying25 rfl) ?_
      refine HList.gvals (v := (.pointer (some (Addr.add ⟨H1.size, 0, none⟩ 1)))) rfl rfl rfl rfl (congrArg Value.bool hb12) (HVal.fieldAddr' Tryd.runUnderlying27 rfl rfl Tryd.sizeOf25 rfl) ?_
      obtain ⟨x17, c16, h⟩ := h
      refine HList.gvals (v := (Sl.v x17)) rfl rfl rfl rfl (congrArg Value.bool hb12) (HVal.load1 Tryd.isAgg25 rfl c16) ?_
      refine HList.gvals (v := (.int .i64 ((x17).n : Int))) rfl rfl rfl rfl (congrArg Value.bool hb12) (HVal.len Tryd.runUnderlying25 rfl) ?_
      refine HList.gvals (v := (.bool (decide (((x15).n : Int) ≠ ((x17).n : Int))))) rfl rfl rfl rfl (congrArg Value.bool hb12) (HVal.neqI rfl rfl) ?_
      refine HList.vals (v := (.bool (decide (((x15).n : Int) ≠ ((x17).n : Int))))) rfl (HVal.pickF rfl hb12 rfl) ?_
      refine HList.nil ?_
      refine nt ?_
      exact ⟨(decide (((x15).n : Int) ≠ ((x17).n : Int))), ⟨rfl, rfl, rfl, trivial⟩, h⟩
  · rintro ρ H_1 ⟨y13, hI, h⟩
    obtain ⟨ρ0, rfl⟩ : ∃ ρ0, ρ = (Env.set (Env.set (Env.set ρ0 19 (.bool y13)) 3 (.pointer (some ⟨H1.size, 0, none⟩))) 2 (.pointer (some ⟨H.size, 0, none⟩))) := ⟨ρ, hI.eq⟩
    clear hI; unfold F15_1 at h
    obtain ⟨hT, hF⟩ := h
    refine HW.cond y13 rfl (fun hb18 => ?_) (fun hb18 => ?_)
    · have h := hT hb18
      clear hT hF
      refine HW.seq ?_
      refine HW.region ?_
      refine HList.vals (v := (.bool false)) rfl (HVal.assign' rfl) ?_
      refine HList.nil ?_
      refine nt ?_
      refine HW.ret ?_
      refine tr ?_
      exact ⟨_, resOf1 rfl Res1.t, ⟨false, rfl, h⟩⟩
    · have h := hF hb18
      clear hT hF
      refine HW.skip ?_
      refine nt ?_
      refine HW.seq ?_
      refine HW.seq ?_
      refine HW.region ?_
      refine HList.vals (v := (.int .i64 0)) rfl (HVal.assign' rfl) ?_
      refine HList.nil ?_
      refine nt ?_
      refine HW.block ?_
      refine HW.loop' (fun L2 hL2 => ?_)
      obtain ⟨X2, hX2⟩ : ∃ X2 : Int → Hp → Prop, ∀ (y19 : Int) (H_2 : Hp), X2 y19 H_2 ↔ ∀ ρ, Env.Is ρ [(2, (.pointer (some ⟨H.size, 0, none⟩))), (3, (.pointer (some ⟨H1.size, 0, none⟩))), (5, (.int .i64 y19))] → L2 ρ H_2 := ⟨_, fun _ _ => Iff.rfl⟩
      refine (hX2 _ _).1 (h X2 ?_) _ ?_
      rotate_left
      · exact ⟨rfl, rfl, rfl, trivial⟩
      clear h
      intro y19 H_2 h
      refine (hX2 _ _).2 fun ρ hI => ?_
      obtain ⟨ρ0, rfl⟩ : ∃ ρ0, ρ = (Env.set (Env.set (Env.set ρ0 5 (.int .i64 y19)) 3 (.pointer (some ⟨H1.size, 0, none⟩))) 2 (.pointer (some ⟨H.size, 0, none⟩))) := ⟨ρ, hI.eq⟩
      clear hI; unfold F15_L2b at h; refine hL2 _ _ ?_
      refine HW.seq ?_
      refine HW.seq ?_
      refine HW.region ?_
      refine HList.vals (v := (.int .i64 y19)) rfl (HVal.move' rfl) ?_
      refine HList.vals (v := (.pointer (some (Addr.add ⟨H.size, 0, none⟩ 1)))) rfl (HVal.fieldAddr' Tryd.runUnderlying27 rfl rfl Tryd.sizeOf25 rfl) ?_
      obtain ⟨x23, c22, h⟩ := h
      refine HList.vals (v := (Sl.v x23)) rfl (HVal.load1 Tryd.isAgg25 rfl c22) ?_
      refine HList.vals (v := (.int .i64 ((x23).n : Int))) rfl (HVal.len Tryd.runUnderlying25 rfl) ?_
      refine HList.vals (v := (.bool (decide (y19 < ((x23).n : Int))))) rfl (HVal.lss rfl rfl) ?_
      refine HList.nil ?_
      refine nt ?_
      obtain ⟨hT, hF⟩ := h
      refine HW.cond (decide (y19 < ((x23).n : Int))) rfl (fun hb24 => ?_) (fun hb24 => ?_)
      · have h := hT hb24
        clear hT hF
        refine HW.skip ?_
        refine nt ?_
        refine HW.seq ?_
        refine HW.block ?_
        refine HW.seq ?_
        refine HW.draw mixed [(0, some []), (1, some []), (2, some []), (3, some []), (4, some []), (5, some []), (6, some []), (7, some []), (8, some []), (9, some []), (10, some [])] rfl (by kernel_rfl) (by kernel_rfl) ?_
        refine HPlan.takev (v := (.pointer (some (Addr.add ⟨H.size, 0, none⟩ 1)))) rfl rfl (fun _ => HVal.fieldAddr' Tryd.runUnderlying27 rfl rfl Tryd.sizeOf25 rfl) ?_
        obtain ⟨x26, c25, h⟩ := h
        refine HPlan.takel (v := (Sl.v x26)) (fun X => cell X (Addr.add ⟨H.size, 0, none⟩ 1) = some (Sl.v x26)) rfl rfl (fun _ hX => HVal.load1 Tryd.isAgg25 rfl hX) c25 ?_
        refine HPlan.takev (v := (.int .i64 y19)) rfl rfl (fun _ => HVal.move' rfl) ?_
        obtain ⟨a27, e28, b29, b30, h⟩ := h
        refine HPlan.takev (v := (.pointer (some (Addr.add a27 (y19.toNat * 2))))) rfl rfl (fun _ => HVal.indexAddr Tryd.runUnderlying25 Tryd.sizeOf38 (Sl.v_some rfl e28) rfl b29 b30) ?_
        obtain ⟨x32, x33, c31, h⟩ := h
        refine HPlan.takel (v := (.agg #[(.string x32), (.int .i64 x33)])) (fun X => cells X (Addr.add a27 (y19.toNat * 2)) [(.string x32), (.int .i64 x33)] 0) rfl rfl (fun _ hX => HVal.loadN [(.string x32), (.int .i64 x33)] Tryd.isAgg38 Tryd.sizeOf38 rfl hX) c31 ?_
        refine HPlan.takev (v := (.pointer (some (Addr.add ⟨H1.size, 0, none⟩ 1)))) rfl rfl (fun _ => HVal.fieldAddr' Tryd.runUnderlying27 rfl rfl Tryd.sizeOf25 rfl) ?_
        obtain ⟨x35, c34, h⟩ := h
        refine HPlan.takel (v := (Sl.v x35)) (fun X => cell X (Addr.add ⟨H1.size, 0, none⟩ 1) = some (Sl.v x35)) rfl rfl (fun _ hX => HVal.load1 Tryd.isAgg25 rfl hX) c34 ?_
        refine HPlan.takev (v := (.int .i64 y19)) rfl rfl (fun _ => HVal.move' rfl) ?_
        obtain ⟨a36, e37, b38, b39, h⟩ := h
        refine HPlan.takev (v := (.pointer (some (Addr.add a36 (y19.toNat * 2))))) rfl rfl (fun _ => HVal.indexAddr Tryd.runUnderlying25 Tryd.sizeOf38 (Sl.v_some rfl e37) rfl b38 b39) ?_
        obtain ⟨x41, x42, c40, h⟩ := h
        refine HPlan.takel (v := (.agg #[(.string x41), (.int .i64 x42)])) (fun X => cells X (Addr.add a36 (y19.toNat * 2)) [(.string x41), (.int .i64 x42)] 0) rfl rfl (fun _ hX => HVal.loadN [(.string x41), (.int .i64 x42)] Tryd.isAgg38 Tryd.sizeOf38 rfl hX) c40 ?_
        refine HPlan.takev (v := (.bool (!(seq x32 x41 && decide (x33 = x42))))) rfl rfl (fun _ => eqs38_neq rfl rfl) ?_
        refine HPlan.done ?_
        refine nt ?_
        obtain ⟨hT, hF⟩ := h
        refine HW.cond (!(seq x32 x41 && decide (x33 = x42))) rfl (fun hb43 => ?_) (fun hb43 => ?_)
        · have h := hT hb43
          clear hT hF
          refine HW.seq ?_
          refine HW.region ?_
          refine HList.vals (v := (.bool false)) rfl (HVal.assign' rfl) ?_
          refine HList.nil ?_
          refine nt ?_
          refine HW.ret ?_
          refine br ?_
          refine tr ?_
          refine tr ?_
          refine br ?_
          refine tr ?_
          exact ⟨_, resOf1 rfl Res1.t, ⟨false, rfl, h⟩⟩
        · have h := hF hb43
          clear hT hF
          refine HW.skip ?_
          refine nb ?_
          refine nt ?_
          refine HW.region ?_
          refine HList.vals (v := (.int .i64 y19)) rfl (HVal.move' rfl) ?_
          refine HList.vals (v := (.int .i64 (IntKind.i64.wrap (y19 + 1)))) rfl (HVal.add rfl rfl) ?_
          refine HList.vals (v := (.int .i64 (IntKind.i64.wrap (y19 + 1)))) rfl (HVal.assign' rfl) ?_
          refine HList.nil ?_
          refine nt ?_
          exact (hX2 _ _).1 h _ ⟨rfl, rfl, rfl, trivial⟩
      · have h := hF hb24
        clear hT hF
        refine HW.exit ?_
        refine te ?_
        refine te ?_
        refine be ?_
        refine nt ?_
        refine HW.seq ?_
        refine HW.region ?_
        refine HList.vals (v := (.bool true)) rfl (HVal.assign' rfl) ?_
        refine HList.nil ?_
        refine nt ?_
        refine HW.ret ?_
        exact ⟨_, resOf1 rfl Res1.t, ⟨true, rfl, h⟩⟩

def F16_2 (Q : ByteArray → Hp → Prop) (y24 : ByteArray) (H_2 : Hp) : Prop :=
Q y24 H_2
def F16_3 (Q : ByteArray → Hp → Prop) (y19 : ByteArray) (y22 : Bool) (H_3 : Hp) : Prop :=
(y22 = true → (F16_2 Q S_____ H_3)) ∧
 (y22 = false → (F16_2 Q y19 H_3))
def F16_1 (Q : ByteArray → Hp → Prop) (y6 : Bool) (y18 : ByteArray) (H_1 : Hp) : Prop :=
(y6 = true → (F16_3 Q y18 (seq y18 (ByteArray.mk #[])) H_1)) ∧
 (y6 = false → (F16_3 Q y18 false H_1))
def F16 (p0 : Sl) (p1 : Int) (p2 : Bool) (H : Hp) (Q : ByteArray → Hp → Prop) : Prop :=
∀ H1 : Hp, H1 = Array.push H (.cells #[(.string (ByteArray.mk #[])), (.string (ByteArray.mk #[])), (.string (ByteArray.mk #[])), (.string (ByteArray.mk #[])), (.string (ByteArray.mk #[])), (.string (ByteArray.mk #[]))] 92) → (
 mayw H1 ⟨H.size, 0, none⟩ 6 0 ∧ ∀ H3 : Hp, H3 = sets H1 ⟨H.size, 0, none⟩ [(.string (ByteArray.mk #[])), (.string S_____), (.string S______), (.string S_______), (.string S________), (.string S_________)] 0 → (
 ((decide (p1 < ((p0).n : Int))) = true → (∃ a8 : Addr, (p0).b = some a8 ∧ (0 : Int) ≤ p1 ∧ p1 < ((p0).n : Int) ∧ (
 ∃ x13 : Int, cell H3 (Addr.add a8 (p1.toNat * 1)) = some (.int .u8 x13) ∧ (
 (0 : Int) ≤ (Int.tmod (IntKind.i64.wrap x13) (6 : Int)) ∧ (Int.tmod (IntKind.i64.wrap x13) (6 : Int)) < ((6 : Nat) : Int) ∧ (
 ∃ x17 : ByteArray, cell H3 (Addr.add ⟨H.size, 0, none⟩ ((Int.tmod (IntKind.i64.wrap x13) (6 : Int)).toNat * 1)) = some (.string x17) ∧ (
 F16_1 Q p2 x17 H3)))))) ∧
 ((decide (p1 < ((p0).n : Int))) = false → (F16_1 Q p2 (ByteArray.mk #[]) H3))))
set_option maxRecDepth 100000 in
set_option maxHeartbeats 4000000 in
theorem walk16 {w0 : World} {p0 : Sl} {p1 : Int} {p2 : Bool} {H : Hp} {Q : ByteArray → Hp → Prop} (h : F16 p0 p1 p2 H Q) :
    Good Tryd.prog w0 16 #[(Sl.v p0), (.int .i64 p1), (.bool p2)] H (fun v H => ∃ (r0 : ByteArray) , v = (.string r0) ∧ Q r0 H) := by
  unfold F16 at h
  refine Good.enter' (fn := Tryd.f16) Tryd.func16 rfl rfl rfl ?_
  refine HW.seq ?_
  refine HW.region ?_
  refine HList.vals (v := (.string (ByteArray.mk #[]))) rfl (HVal.assign' rfl) ?_
  refine HList.nil ?_
  refine nt ?_
  refine HW.seq ?_
  refine HW.region ?_
  refine HList.vals (v := (.agg #[(.string (ByteArray.mk #[])), (.string S_____), (.string S______), (.string S_______), (.string S________), (.string S_________)])) rfl (HVal.buildA' (cs := [(.string (ByteArray.mk #[])), (.string S_____), (.string S______), (.string S_______), (.string S________), (.string S_________)]) Tryd.runUnderlying92 Tryd.zeroValue92 Tryd.sizeOf9 (by kernel_rfl)) ?_
  refine HList.ops' rfl (HOp.alloc Tryd.zeroValue92) ?_
  rintro _ H1 ⟨rfl, e2⟩
  replace h := h H1 e2
  obtain ⟨z5, h⟩ := h
  refine HList.opsn (HOp.storeN' (l := [(.string (ByteArray.mk #[])), (.string S_____), (.string S______), (.string S_______), (.string S________), (.string S_________)]) Tryd.sizeOf92 rfl rfl rfl z5) ?_
  rintro _ H3 e4
  replace h := h H3 e4
  refine HList.nil ?_
  refine nt ?_
  refine HW.seq ?_
  refine HW.region ?_
  refine HList.vals (v := (.string (ByteArray.mk #[]))) rfl (HVal.assign' rfl) ?_
  refine HList.nil ?_
  refine nt ?_
  refine HW.cut (fun ρ H_1 => ∃ (y18 : ByteArray), Env.Is ρ [(2, (.bool p2)), (8, (.string y18))] ∧ F16_1 Q p2 y18 H_1) ?_ ?_
  · refine HW.seq ?_
    refine HW.region ?_
    refine HList.vals (v := (.int .i64 p1)) rfl (HVal.move' rfl) ?_
    refine HList.vals (v := (Sl.v p0)) rfl (HVal.move' rfl) ?_
    refine HList.vals (v := (.int .i64 ((p0).n : Int))) rfl (HVal.len Tryd.runUnderlying43 rfl) ?_
    refine HList.vals (v := (.bool (decide (p1 < ((p0).n : Int))))) rfl (HVal.lss rfl rfl) ?_
    refine HList.nil ?_
    refine nt ?_
    obtain ⟨hT, hF⟩ := h
    refine HW.cond (decide (p1 < ((p0).n : Int))) rfl (fun hb7 => ?_) (fun hb7 => ?_)
    · have h := hT hb7
      clear hT hF
      refine HW.region ?_
      refine HList.vals (v := (Sl.v p0)) rfl (HVal.move' rfl) ?_
      refine HList.vals (v := (.int .i64 p1)) rfl (HVal.move' rfl) ?_
      obtain ⟨a8, e9, b10, b11, h⟩ := h
      refine HList.vals (v := (.pointer (some (Addr.add a8 (p1.toNat * 1))))) rfl (HVal.indexAddr Tryd.runUnderlying43 Tryd.sizeOf5 (Sl.v_some rfl e9) rfl b10 b11) ?_
      obtain ⟨x13, c12, h⟩ := h
      refine HList.vals (v := (.int .u8 x13)) rfl (HVal.load1 Tryd.isAgg5 rfl c12) ?_
      refine HList.vals (v := (.int .i64 (IntKind.i64.wrap x13))) rfl (HVal.convI Tryd.runUnderlying5 Tryd.runUnderlying3 rfl) ?_
      refine HList.vals (v := (.int .i64 (Int.tmod (IntKind.i64.wrap x13) (6 : Int)))) rfl (HVal.rem rfl rfl (by decide)) ?_
      obtain ⟨b14, b15, h⟩ := h
      refine HList.vals (v := (.pointer (some (Addr.add ⟨H.size, 0, none⟩ ((Int.tmod (IntKind.i64.wrap x13) (6 : Int)).toNat * 1))))) rfl (HVal.indexAddrA Tryd.runUnderlying92 Tryd.sizeOf9 rfl rfl b14 b15) ?_
      obtain ⟨x17, c16, h⟩ := h
      refine HList.vals (v := (.string x17)) rfl (HVal.load1 Tryd.isAgg9 rfl c16) ?_
      refine HList.vals (v := (.string x17)) rfl (HVal.assign' rfl) ?_
      refine HList.nil ?_
      refine nt ?_
      exact ⟨x17, ⟨rfl, rfl, trivial⟩, h⟩
    · have h := hF hb7
      clear hT hF
      refine HW.skip ?_
      refine nt ?_
      exact ⟨(ByteArray.mk #[]), ⟨rfl, rfl, trivial⟩, h⟩
  · rintro ρ H_1 ⟨y18, hI, h⟩
    obtain ⟨ρ0, rfl⟩ : ∃ ρ0, ρ = (Env.set (Env.set ρ0 8 (.string y18)) 2 (.bool p2)) := ⟨ρ, hI.eq⟩
    clear hI; unfold F16_1 at h
    refine HW.cut (fun ρ H_2 => ∃ (y24 : ByteArray), Env.Is ρ [(8, (.string y24))] ∧ F16_2 Q y24 H_2) ?_ ?_
    · refine HW.cut (fun ρ H_3 => ∃ (y22 : Bool), Env.Is ρ [(8, (.string y18)), (26, (.bool y22))] ∧ F16_3 Q y18 y22 H_3) ?_ ?_
      · refine HW.region ?_
        refine HList.vals (v := (.bool p2)) rfl (HVal.move' rfl) ?_
        refine HList.vals (v := (.bool p2)) rfl (HVal.move' rfl) ?_
        obtain ⟨hT, hF⟩ := h
        rcases Bool.eq_false_or_eq_true p2 with hb20 | hb21
        · have h := hT hb20
          clear hT hF
          refine HList.gvals (v := (.string y18)) rfl rfl rfl rfl (congrArg Value.bool hb20) (HVal.move' rfl) ?_
          refine HList.gvals (v := (.bool (seq y18 (ByteArray.mk #[])))) rfl rfl rfl rfl (congrArg Value.bool hb20) (HVal.eqlS rfl rfl) ?_
          refine HList.vals (v := (.bool (seq y18 (ByteArray.mk #[])))) rfl (HVal.pickT rfl hb20 rfl) ?_
          refine HList.nil ?_
          refine nt ?_
          exact ⟨(seq y18 (ByteArray.mk #[])), ⟨rfl, rfl, trivial⟩, h⟩
        · have h := hF hb21
          clear hT hF
          refine HList.gskips rfl rfl rfl rfl (congrArg Value.bool hb21) ?_
          refine HList.gskips rfl rfl rfl rfl (congrArg Value.bool hb21) ?_
          refine HList.vals (v := (.bool false)) rfl (HVal.pickF rfl hb21 rfl) ?_
          refine HList.nil ?_
          refine nt ?_
          exact ⟨false, ⟨rfl, rfl, trivial⟩, h⟩
      · rintro ρ H_3 ⟨y22, hI, h⟩
        obtain ⟨ρ0, rfl⟩ : ∃ ρ0, ρ = (Env.set (Env.set ρ0 26 (.bool y22)) 8 (.string y18)) := ⟨ρ, hI.eq⟩
        clear hI; unfold F16_3 at h
        obtain ⟨hT, hF⟩ := h
        refine HW.cond y22 rfl (fun hb23 => ?_) (fun hb23 => ?_)
        · have h := hT hb23
          clear hT hF
          refine HW.region ?_
          refine HList.vals (v := (.string S_____)) rfl (HVal.assign' rfl) ?_
          refine HList.nil ?_
          refine nt ?_
          exact ⟨S_____, ⟨rfl, trivial⟩, h⟩
        · have h := hF hb23
          clear hT hF
          refine HW.skip ?_
          refine nt ?_
          exact ⟨y18, ⟨rfl, trivial⟩, h⟩
    · rintro ρ H_2 ⟨y24, hI, h⟩
      obtain ⟨ρ0, rfl⟩ : ∃ ρ0, ρ = (Env.set ρ0 8 (.string y24)) := ⟨ρ, hI.eq⟩
      clear hI; unfold F16_2 at h
      refine HW.seq ?_
      refine HW.region ?_
      refine HList.vals (v := (.string y24)) rfl (HVal.move' rfl) ?_
      refine HList.vals (v := (.string y24)) rfl (HVal.assign' rfl) ?_
      refine HList.nil ?_
      refine nt ?_
      refine HW.ret ?_
      exact ⟨_, resOf1 rfl Res1.t, ⟨y24, rfl, h⟩⟩

def F35 (p0_0 : ByteArray) (p0_1 : Sl) (p1_0 : ByteArray) (p1_1 : Sl) (H : Hp) (Q : Int → Hp → Prop) : Prop :=
∀ H1 : Hp, H1 = Array.push H (.cells #[(.string p0_0), (Sl.v p0_1)] 27) → (
 ∀ H3 : Hp, H3 = Array.push H1 (.cells #[(.string p1_0), (Sl.v p1_1)] 27) → (
 ∃ x6 : ByteArray, cell H3 ⟨H.size, 0, none⟩ = some (.string x6) ∧ (
 ∃ x8 : ByteArray, cell H3 ⟨H1.size, 0, none⟩ = some (.string x8) ∧ (
 F36 x6 x8 H3 (fun (r11 : Int) (H9 : Hp) => 
 Q r11 H9)))))
set_option maxRecDepth 100000 in
set_option maxHeartbeats 4000000 in
theorem walk35 {w0 : World} {p0_0 : ByteArray} {p0_1 : Sl} {p1_0 : ByteArray} {p1_1 : Sl} {H : Hp} {Q : Int → Hp → Prop} (h : F35 p0_0 p0_1 p1_0 p1_1 H Q) :
    Good Tryd.prog w0 35 #[(.agg #[(.string p0_0), (Sl.v p0_1)]), (.agg #[(.string p1_0), (Sl.v p1_1)])] H (fun v H => ∃ (r0 : Int) , v = (.int .i64 r0) ∧ Q r0 H) := by
  unfold F35 at h
  refine Good.enter' (fn := Tryd.f35) Tryd.func35 rfl rfl rfl ?_
  refine HW.seq ?_
  refine HW.region ?_
  refine HList.ops' rfl (HOp.box (v := (.agg #[(.string p0_0), (Sl.v p0_1)])) rfl) ?_
  rintro _ H1 ⟨rfl, e2⟩
  replace h := h H1 e2
  refine HList.ops' rfl (HOp.box (v := (.agg #[(.string p1_0), (Sl.v p1_1)])) rfl) ?_
  rintro _ H3 ⟨rfl, e4⟩
  replace h := h H3 e4
  refine HList.vals (v := (.int .i64 0)) rfl (HVal.assign' rfl) ?_
  refine HList.nil ?_
  refine nt ?_
  refine HW.seq ?_
  refine HW.region ?_
  refine HList.vals (v := (.pointer (some ⟨H.size, 0, none⟩))) rfl (HVal.fieldAddr0 Tryd.runUnderlying27 rfl rfl Tryd.sizeOf9 rfl) ?_
  obtain ⟨x6, c5, h⟩ := h
  refine HList.vals (v := (.string x6)) rfl (HVal.load1 Tryd.isAgg9 rfl c5) ?_
  refine HList.vals (v := (.pointer (some ⟨H1.size, 0, none⟩))) rfl (HVal.fieldAddr0 Tryd.runUnderlying27 rfl rfl Tryd.sizeOf9 rfl) ?_
  obtain ⟨x8, c7, h⟩ := h
  refine HList.vals (v := (.string x8)) rfl (HVal.load1 Tryd.isAgg9 rfl c7) ?_
  refine HList.ops' rfl (HOp.call' 36 [(.string x6), (.string x8)] (cap := []) rfl rfl Tryd.call36 (walk36 h)) ?_
  rintro _ H9 ⟨r11, rfl, h⟩
  refine HList.vals (v := (.int .i64 r11)) rfl (HVal.assign' rfl) ?_
  refine HList.nil ?_
  refine nt ?_
  refine HW.ret ?_
  exact ⟨_, resOf1 rfl Res1.t, ⟨r11, rfl, h⟩⟩

def F18_1 (Q : Sl → Hp → Prop) (y31 : Sl) (H_1 : Hp) : Prop :=
F34_35 y31 H_1 (fun (H49 : Hp) => 
 Q y31 H49)
def F18_L2b (Q : Sl → Hp → Prop) (X2 : Sl → Hp → Prop) (y11 : Addr) (y10 : Sl) (H_2 : Hp) : Prop :=
∃ (m12 : Option Nat) (si13 : Nat) (se14 : List Nat) (la15 : Nat) (L16 : ML ByteArray (ByteArray × Sl)) (c17 : Nat), mIter H_2 y11 m12 si13 se14 la15 ∧ mapAt mk9 mv27 H_2 m12 L16 c17 ∧ MapWf L16 c17 ∧ (∀ e ∈ L16, e.2.2 < si13) ∧ si13 ≤ la15 ∧
 ((∀ e ∈ L16, e.2.2 ∈ se14) → (F18_1 Q y10 H_2)) ∧
 (∀ en23 ∈ L16, en23.2.2 ∉ se14 → ∀ H26 : Hp, H26 = seto H_2 y11.block (.mapIter m12 si13 (se14 ++ [en23.2.2]).toArray c17) → (∀ H32 : Hp, H32 = Array.push H26 (.cells #[(.string (ByteArray.mk #[])), (Sl.v Sl.nil)] 27) → (
 mayw H32 ⟨H26.size, 0, none⟩ 2 0 ∧ ∀ H34 : Hp, H34 = sets H32 ⟨H26.size, 0, none⟩ [(.string en23.2.1.1), (Sl.v en23.2.1.2)] 0 → (
 ∃ (x38 : ByteArray) (x39 : Sl), cells H34 ⟨H26.size, 0, none⟩ [(.string x38), (Sl.v x39)] 0 ∧ (
 F25 x38 x39 H34 (fun (r42 : ByteArray) (r43 : Sl) (H40 : Hp) => 
 ∀ H44 : Hp, H44 = Array.push H40 (.cells #[(.string r42), (Sl.v r43)] 27) → (
 AppendF H44 27 2 40 #[(.string (ByteArray.mk #[])), (Sl.v Sl.nil)] y10 ((Sl.mk (some ⟨H40.size, 0, none⟩) 1 1)).b ((Sl.mk (some ⟨H40.size, 0, none⟩) 1 1)).n (fun (r48 : Sl) (H46 : Hp) => 
 X2 r48 H46))))))))
def F18_L2 (Q : Sl → Hp → Prop) (y11 : Addr) (y10 : Sl) (H_2 : Hp) : Prop :=
  ∀ X2 : Sl → Hp → Prop, (∀ (y10 : Sl) (H_2 : Hp), F18_L2b Q X2 y11 y10 H_2 → X2 y10 H_2) → X2 y10 H_2
def F18 (p0 : (Option Addr)) (H : Hp) (Q : Sl → Hp → Prop) : Prop :=
∃ a1 : Addr, p0 = some a1 ∧ (
 ∃ x4 : (Option Nat), cell H a1 = some (.map x4) ∧ (
 ∃ (L7 : ML ByteArray (ByteArray × Sl)) (c8 : Nat), mapAt mk9 mv27 H x4 L7 c8 ∧ ∀ H5 : Hp, H5 = Array.push H (.mapIter x4 (clk x4 c8) #[] (clk x4 c8)) → (
 F18_L2 Q ⟨H.size, 0, none⟩ Sl.nil H5)))
set_option maxRecDepth 100000 in
set_option maxHeartbeats 4000000 in
theorem walk18 {w0 : World} {p0 : (Option Addr)} {H : Hp} {Q : Sl → Hp → Prop} (h : F18 p0 H Q) :
    Good Tryd.prog w0 18 #[(.pointer p0)] H (fun v H => ∃ (r0 : Sl) , v = (Sl.v r0) ∧ Q r0 H) := by
  unfold F18 at h
  refine Good.enter' (fn := Tryd.f18) Tryd.func18 rfl rfl rfl ?_
  refine HW.seq ?_
  refine HW.region ?_
  refine HList.vals (v := (Sl.v Sl.nil)) rfl (HVal.assign' rfl) ?_
  refine HList.nil ?_
  refine nt ?_
  refine HW.seq ?_
  refine HW.region ?_
  refine HList.vals (v := (Sl.v Sl.nil)) rfl (HVal.assign' rfl) ?_
  refine HList.nil ?_
  refine nt ?_
  refine HW.cut (fun ρ H_1 => ∃ (y31 : Sl), Env.Is ρ [(3, (Sl.v y31))] ∧ F18_1 Q y31 H_1) ?_ ?_
  · refine HW.seq ?_
    refine HW.region ?_
    refine HList.vals (v := (.pointer p0)) rfl (HVal.move' rfl) ?_
    obtain ⟨a1, e2, h⟩ := h
    refine HList.vals (v := (.pointer (some a1))) rfl (HVal.nilCheck (congrArg Value.pointer e2)) ?_
    refine HList.vals (v := (.pointer (some a1))) rfl (HVal.fieldAddr0 Tryd.runUnderlying72 rfl rfl Tryd.sizeOf70 rfl) ?_
    obtain ⟨x4, c3, h⟩ := h
    refine HList.vals (v := (.map x4)) rfl (HVal.load1 Tryd.isAgg70 rfl c3) ?_
    obtain ⟨L7, c8, c9, h⟩ := h
    refine HList.ops' rfl (HOp.rangeM (f := mk9) (g := mv27) Tryd.runUnderlying70 rfl c9) ?_
    rintro _ H5 ⟨rfl, e6⟩
    replace h := h H5 e6
    refine HList.nil ?_
    refine nt ?_
    refine HW.block ?_
    refine HW.loop' (fun L2 hL2 => ?_)
    obtain ⟨X2, hX2⟩ : ∃ X2 : Sl → Hp → Prop, ∀ (y10 : Sl) (H_2 : Hp), X2 y10 H_2 ↔ ∀ ρ, Env.Is ρ [(10, (.pointer (some ⟨H.size, 0, none⟩))), (3, (Sl.v y10))] → L2 ρ H_2 := ⟨_, fun _ _ => Iff.rfl⟩
    refine (hX2 _ _).1 (h X2 ?_) _ ?_
    rotate_left
    · exact ⟨rfl, rfl, trivial⟩
    clear h
    intro y10 H_2 h
    refine (hX2 _ _).2 fun ρ hI => ?_
    obtain ⟨ρ0, rfl⟩ : ∃ ρ0, ρ = (Env.set (Env.set ρ0 3 (Sl.v y10)) 10 (.pointer (some ⟨H.size, 0, none⟩))) := ⟨ρ, hI.eq⟩
    clear hI; unfold F18_L2b at h; refine hL2 _ _ ?_
    refine HW.seq ?_
    refine HW.region ?_
    obtain ⟨m12, si13, se14, la15, L16, c17, c18, c19, c20, c21, c22, hF, hT⟩ := h
    refine HList.ops' rfl (HOp.nextM (f := mk9) (g := mv27) rfl c18 c19 c21 c22) ?_
    rintro _ H26 (⟨rfl, rfl, c30⟩ | ⟨en23, c24, c25, rfl, e27⟩)
    · have h := hF c30
      clear hT hF
      refine HList.vals (v := (.bool false)) rfl (HVal.extract rfl rfl) ?_
      refine HList.nil ?_
      refine nt ?_
      refine HW.seq ?_
      refine HW.condF false rfl rfl ?_
      refine HW.exit ?_
      refine te ?_
      refine te ?_
      refine be ?_
      refine nt ?_
      exact ⟨y10, ⟨rfl, trivial⟩, h⟩
    · have h := hT en23 c24 c25 H26 e27
      obtain ⟨c28, c29⟩ := nextM_after c18 c19 c24 e27
      clear hT hF
      refine HList.vals (v := (.bool true)) rfl (HVal.extract rfl rfl) ?_
      refine HList.nil ?_
      refine nt ?_
      refine HW.seq ?_
      refine HW.condT true rfl rfl ?_
      refine HW.skip ?_
      refine nt ?_
      refine HW.block ?_
      refine HW.seq ?_
      refine HW.region ?_
      refine HList.vals (v := (.tuple #[(.string en23.1), (.agg #[(.string en23.2.1.1), (Sl.v en23.2.1.2)])])) rfl (HVal.entry (f := mk9) (g := mv27) rfl c28 c29 c24 c20.1) ?_
      refine HList.vals (v := (.agg #[(.string en23.2.1.1), (Sl.v en23.2.1.2)])) rfl (HVal.extract rfl rfl) ?_
      refine HList.ops' rfl (HOp.alloc Tryd.zeroValue27) ?_
      rintro _ H32 ⟨rfl, e33⟩
      replace h := h H32 e33
      obtain ⟨z36, h⟩ := h
      refine HList.opsn (HOp.storeN' (l := [(.string en23.2.1.1), (Sl.v en23.2.1.2)]) Tryd.sizeOf27 rfl rfl rfl z36) ?_
      rintro _ H34 e35
      replace h := h H34 e35
      refine HList.nil ?_
      refine nt ?_
      refine HW.region ?_
      refine HList.vals (v := (Sl.v y10)) rfl (HVal.move' rfl) ?_
      obtain ⟨x38, x39, c37, h⟩ := h
      refine HList.vals (v := (.agg #[(.string x38), (Sl.v x39)])) rfl (HVal.loadN [(.string x38), (Sl.v x39)] Tryd.isAgg27 Tryd.sizeOf27 rfl c37) ?_
      refine HList.ops' rfl (HOp.call' 25 [(.agg #[(.string x38), (Sl.v x39)])] (cap := []) rfl rfl Tryd.call25 (walk25 h)) ?_
      rintro _ H40 ⟨r42, r43, rfl, h⟩
      refine HList.ops' rfl (HOp.buildSlice' (zs := [(.string (ByteArray.mk #[])), (Sl.v Sl.nil)]) (cs := [(.string r42), (Sl.v r43)]) Tryd.runUnderlying54 Tryd.sizeOf27 Tryd.zeroValue27 (by decide) (by kernel_rfl) rfl (by decide)) ?_
      rintro _ H44 ⟨rfl, e45⟩
      replace h := h H44 e45
      refine HList.ops' rfl (HOp.append (k := 2) (b := 40) Tryd.runUnderlying54 Tryd.runUnderlying54 Tryd.typeInfo27 rfl rfl Tryd.zeroValue27 rfl rfl h) ?_
      rintro _ H46 ⟨r48, rfl, h⟩
      refine HList.vals (v := (Sl.v r48)) rfl (HVal.assign' rfl) ?_
      refine HList.nil ?_
      refine nb ?_
      refine nt ?_
      exact (hX2 _ _).1 h _ ⟨rfl, rfl, trivial⟩
  · rintro ρ H_1 ⟨y31, hI, h⟩
    obtain ⟨ρ0, rfl⟩ : ∃ ρ0, ρ = (Env.set ρ0 3 (Sl.v y31)) := ⟨ρ, hI.eq⟩
    clear hI; unfold F18_1 at h
    refine HW.seq ?_
    refine HW.region ?_
    refine HList.vals (v := (Sl.v y31)) rfl (HVal.move' rfl) ?_
    refine HList.ops' rfl (HOp.call' 34 [(Sl.v y31), (.func (.func 35) #[] #[])] (cap := []) rfl rfl Tryd.call34 (walk34_35 h)) ?_
    rintro _ H49 ⟨rfl, h⟩
    refine HList.nil ?_
    refine nt ?_
    refine HW.seq ?_
    refine HW.region ?_
    refine HList.vals (v := (Sl.v y31)) rfl (HVal.move' rfl) ?_
    refine HList.vals (v := (Sl.v y31)) rfl (HVal.assign' rfl) ?_
    refine HList.nil ?_
    refine nt ?_
    refine HW.ret ?_
    exact ⟨_, resOf1 rfl Res1.t, ⟨y31, rfl, h⟩⟩

def F38 (H : Hp) (Q : (Option Addr) → Hp → Prop) : Prop :=
∀ H1 : Hp, H1 = Array.push H (.cells #[(Sl.v Sl.nil)] 118) → (
 Q (some ⟨H.size, 0, none⟩) H1)
set_option maxRecDepth 100000 in
set_option maxHeartbeats 4000000 in
theorem walk38 {w0 : World} {H : Hp} {Q : (Option Addr) → Hp → Prop} (h : F38 H Q) :
    Good Tryd.prog w0 38 #[] H (fun v H => ∃ (r0 : (Option Addr)) , v = (.pointer r0) ∧ Q r0 H) := by
  unfold F38 at h
  refine Good.enter' (fn := Tryd.f38) Tryd.func38 rfl rfl rfl ?_
  refine HW.seq ?_
  refine HW.region ?_
  refine HList.vals (v := (.pointer none)) rfl (HVal.assign' rfl) ?_
  refine HList.nil ?_
  refine nt ?_
  refine HW.seq ?_
  refine HW.region ?_
  refine HList.vals (v := (.agg #[(Sl.v Sl.nil)])) rfl (HVal.build' (cs := [(Sl.v Sl.nil)]) Tryd.runUnderlying118 Tryd.zeroValue118 places118 rfl) ?_
  refine HList.ops' rfl (HOp.box (v := (.agg #[(Sl.v Sl.nil)])) rfl) ?_
  rintro _ H1 ⟨rfl, e2⟩
  replace h := h H1 e2
  refine HList.vals (v := (.pointer (some ⟨H.size, 0, none⟩))) rfl (HVal.assign' rfl) ?_
  refine HList.nil ?_
  refine nt ?_
  refine HW.ret ?_
  exact ⟨_, resOf1 rfl Res1.t, ⟨(some ⟨H.size, 0, none⟩), rfl, h⟩⟩

def F21 (p0 : (Option Addr)) (H : Hp) (Q : (Option Addr) → Bool → Hp → Prop) : Prop :=
F7 H (fun (r3 : (Option Addr)) (H1 : Hp) => 
 F38 H1 (fun (r6 : (Option Addr)) (H4 : Hp) => 
 ∀ H7 : Hp, H7 = Array.push H4 (.cells #[(.pointer r3), (.pointer r6), (.pointer p0)] 101) → (
 ∃ x10 : (Option Addr), cell H7 ⟨H4.size, 0, none⟩ = some (.pointer x10) ∧ (
 Q (some ⟨H4.size, 0, none⟩) (!x10.isNone) H7))))
set_option maxRecDepth 100000 in
set_option maxHeartbeats 4000000 in
theorem walk21 {w0 : World} {p0 : (Option Addr)} {H : Hp} {Q : (Option Addr) → Bool → Hp → Prop} (h : F21 p0 H Q) :
    Good Tryd.prog w0 21 #[(.pointer p0)] H (fun v H => ∃ (r0 : (Option Addr)) (r1 : Bool) , v = (.tuple #[(.pointer r0), (.bool r1)]) ∧ Q r0 r1 H) := by
  unfold F21 at h
  refine Good.enter' (fn := Tryd.f21) Tryd.func21 rfl rfl rfl ?_
  refine HW.seq ?_
  refine HW.region ?_
  refine HList.vals (v := (.pointer none)) rfl (HVal.assign' rfl) ?_
  refine HList.vals (v := (.bool false)) rfl (HVal.assign' rfl) ?_
  refine HList.nil ?_
  refine nt ?_
  refine HW.seq ?_
  refine HW.region ?_
  refine HList.ops' rfl (HOp.call' 7 [] (cap := []) rfl rfl Tryd.call7 (walk7 h)) ?_
  rintro _ H1 ⟨r3, rfl, h⟩
  refine HList.ops' rfl (HOp.call' 38 [] (cap := []) rfl rfl Tryd.call38 (walk38 h)) ?_
  rintro _ H4 ⟨r6, rfl, h⟩
  refine HList.vals (v := (.pointer p0)) rfl (HVal.move' rfl) ?_
  refine HList.vals (v := (.agg #[(.pointer r3), (.pointer r6), (.pointer p0)])) rfl (HVal.build' (cs := [(.pointer r3), (.pointer r6), (.pointer p0)]) Tryd.runUnderlying101 Tryd.zeroValue101 places101 rfl) ?_
  refine HList.ops' rfl (HOp.box (v := (.agg #[(.pointer r3), (.pointer r6), (.pointer p0)])) rfl) ?_
  rintro _ H7 ⟨rfl, e8⟩
  replace h := h H7 e8
  refine HList.vals (v := (.pointer (some ⟨H4.size, 0, none⟩))) rfl (HVal.assign' rfl) ?_
  refine HList.nil ?_
  refine nt ?_
  refine HW.seq ?_
  refine HW.draw mixed [(0, some []), (1, some []), (2, some []), (3, some []), (4, some []), (5, some []), (6, some []), (7, some [])] rfl (by kernel_rfl) (by kernel_rfl) ?_
  refine HPlan.takev (v := (.pointer (some ⟨H4.size, 0, none⟩))) rfl rfl (fun _ => HVal.move' rfl) ?_
  refine HPlan.takev (v := (.pointer (some ⟨H4.size, 0, none⟩))) rfl rfl (fun _ => HVal.move' rfl) ?_
  refine HPlan.takev (v := (.pointer (some ⟨H4.size, 0, none⟩))) rfl rfl (fun _ => HVal.nilCheck rfl) ?_
  refine HPlan.takev (v := (.pointer (some ⟨H4.size, 0, none⟩))) rfl rfl (fun _ => HVal.fieldAddr0 Tryd.runUnderlying101 rfl rfl Tryd.sizeOf23 rfl) ?_
  obtain ⟨x10, c9, h⟩ := h
  refine HPlan.takel (v := (.pointer x10)) (fun X => cell X ⟨H4.size, 0, none⟩ = some (.pointer x10)) rfl rfl (fun _ hX => HVal.load1 Tryd.isAgg23 rfl hX) c9 ?_
  refine HPlan.takev (v := (.bool (!x10.isNone))) rfl rfl (fun _ => HVal.neqPN Tryd.underlying23 rfl rfl) ?_
  refine HPlan.takev (v := (.pointer (some ⟨H4.size, 0, none⟩))) rfl rfl (fun _ => HVal.assign' rfl) ?_
  refine HPlan.takev (v := (.bool (!x10.isNone))) rfl rfl (fun _ => HVal.assign' rfl) ?_
  refine HPlan.done ?_
  refine nt ?_
  refine HW.ret ?_
  exact ⟨_, resOf2 rfl Res1.t Res1.t, ⟨(some ⟨H4.size, 0, none⟩), (!x10.isNone), rfl, h⟩⟩

end Go.Hw
