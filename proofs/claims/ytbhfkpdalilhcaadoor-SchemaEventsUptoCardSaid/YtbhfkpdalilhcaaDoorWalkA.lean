/- The walks of this seat, printed by a program of this session (wip/tools/gen.py): of each function what it does to the heap, and that it does so. -/
import Derived.Test.YtbhfkpdalilhcaaDoorHwS
import Derived.Test.YtbhfkpdalilhcaaDoorProg
import Derived.Test.YtbhfkpdalilhcaaDoorWAux
import Derived.Test.YtbhfkpdalilhcaaDoorWLib
set_option linter.unusedVariables false
set_option linter.unusedSimpArgs false
namespace Go.Hw
open Go Go.Proofs
def F7 (H : Hp) (Q : (Option Addr) → Hp → Prop) : Prop :=
∀ H1 : Hp, H1 = Array.push H (.map #[] 0) → (
 ∀ H3 : Hp, H3 = Array.push H1 (.cells #[(.map (some (Array.size H)))] 72) → (
 Q (some ⟨H1.size, 0, none⟩) H3))
set_option maxRecDepth 100000 in
set_option maxHeartbeats 4000000 in
theorem walk7 {w0 : World} {H : Hp} {Q : (Option Addr) → Hp → Prop} (h : F7 H Q) :
    Good Tryd.prog w0 7 #[] H (fun v H => ∃ (r0 : (Option Addr)) , v = (.pointer r0) ∧ Q r0 H) := by
  unfold F7 at h
  refine Good.enter' (fn := Tryd.f7) Tryd.func7 rfl rfl rfl ?_
  refine HW.seq ?_
  refine HW.region ?_
  refine HList.vals (v := (.pointer none)) rfl (HVal.assign' rfl) ?_
  refine HList.nil ?_
  refine nt ?_
  refine HW.seq ?_
  refine HW.region ?_
  refine HList.ops' rfl (HOp.makeMap) ?_
  rintro _ H1 ⟨rfl, e2⟩
  replace h := h H1 e2
  refine HList.vals (v := (.agg #[(.map (some (Array.size H)))])) rfl (HVal.build' (cs := [(.map (some (Array.size H)))]) Tryd.runUnderlying72 Tryd.zeroValue72 places72 rfl) ?_
  refine HList.ops' rfl (HOp.box (v := (.agg #[(.map (some (Array.size H)))])) rfl) ?_
  rintro _ H3 ⟨rfl, e4⟩
  replace h := h H3 e4
  refine HList.vals (v := (.pointer (some ⟨H1.size, 0, none⟩))) rfl (HVal.assign' rfl) ?_
  refine HList.nil ?_
  refine nt ?_
  refine HW.ret ?_
  exact ⟨_, resOf1 rfl Res1.t, ⟨(some ⟨H1.size, 0, none⟩), rfl, h⟩⟩

def F12_1 (Q : Int → Hp → Prop) (y3 : Int) (H_1 : Hp) : Prop :=
Q y3 H_1
def F12 (p0 : Int) (p1 : Int) (H : Hp) (Q : Int → Hp → Prop) : Prop :=
p1 ≠ 0 ∧ (
 ((decide ((Int.tmod p0 p1) < 0)) = true → (F12_1 Q (IntKind.i64.wrap ((Int.tmod p0 p1) + p1)) H)) ∧
 ((decide ((Int.tmod p0 p1) < 0)) = false → (F12_1 Q (Int.tmod p0 p1) H)))
set_option maxRecDepth 100000 in
set_option maxHeartbeats 4000000 in
theorem walk12 {w0 : World} {p0 : Int} {p1 : Int} {H : Hp} {Q : Int → Hp → Prop} (h : F12 p0 p1 H Q) :
    Good Tryd.prog w0 12 #[(.int .i64 p0), (.int .i64 p1)] H (fun v H => ∃ (r0 : Int) , v = (.int .i64 r0) ∧ Q r0 H) := by
  unfold F12 at h
  refine Good.enter' (fn := Tryd.f12) Tryd.func12 rfl rfl rfl ?_
  refine HW.seq ?_
  refine HW.region ?_
  refine HList.vals (v := (.int .i64 0)) rfl (HVal.assign' rfl) ?_
  refine HList.nil ?_
  refine nt ?_
  refine HW.seq ?_
  refine HW.region ?_
  refine HList.vals (v := (.int .i64 p0)) rfl (HVal.move' rfl) ?_
  refine HList.vals (v := (.int .i64 p1)) rfl (HVal.move' rfl) ?_
  obtain ⟨z1, h⟩ := h
  refine HList.vals (v := (.int .i64 (Int.tmod p0 p1))) rfl (HVal.rem rfl rfl z1) ?_
  refine HList.vals (v := (.int .i64 (Int.tmod p0 p1))) rfl (HVal.assign' rfl) ?_
  refine HList.nil ?_
  refine nt ?_
  refine HW.cut (fun ρ H_1 => ∃ (y3 : Int), Env.Is ρ [(0, (.int .i64 y3))] ∧ F12_1 Q y3 H_1) ?_ ?_
  · refine HW.seq ?_
    refine HW.region ?_
    refine HList.vals (v := (.int .i64 (Int.tmod p0 p1))) rfl (HVal.move' rfl) ?_
    refine HList.vals (v := (.bool (decide ((Int.tmod p0 p1) < 0)))) rfl (HVal.lss rfl rfl) ?_
    refine HList.nil ?_
    refine nt ?_
    obtain ⟨hT, hF⟩ := h
    refine HW.cond (decide ((Int.tmod p0 p1) < 0)) rfl (fun hb2 => ?_) (fun hb2 => ?_)
    · have h := hT hb2
      clear hT hF
      refine HW.region ?_
      refine HList.vals (v := (.int .i64 (Int.tmod p0 p1))) rfl (HVal.move' rfl) ?_
      refine HList.vals (v := (.int .i64 p1)) rfl (HVal.move' rfl) ?_
      refine HList.vals (v := (.int .i64 (IntKind.i64.wrap ((Int.tmod p0 p1) + p1)))) rfl (HVal.add rfl rfl) ?_
      refine HList.vals (v := (.int .i64 (IntKind.i64.wrap ((Int.tmod p0 p1) + p1)))) rfl (HVal.assign' rfl) ?_
      refine HList.nil ?_
      refine nt ?_
      exact ⟨(IntKind.i64.wrap ((Int.tmod p0 p1) + p1)), ⟨rfl, trivial⟩, h⟩
    · have h := hF hb2
      clear hT hF
      refine HW.skip ?_
      refine nt ?_
      exact ⟨(Int.tmod p0 p1), ⟨rfl, trivial⟩, h⟩
  · rintro ρ H_1 ⟨y3, hI, h⟩
    obtain ⟨ρ0, rfl⟩ : ∃ ρ0, ρ = (Env.set ρ0 0 (.int .i64 y3)) := ⟨ρ, hI.eq⟩
    clear hI; unfold F12_1 at h
    refine HW.seq ?_
    refine HW.region ?_
    refine HList.vals (v := (.int .i64 y3)) rfl (HVal.move' rfl) ?_
    refine HList.vals (v := (.int .i64 y3)) rfl (HVal.assign' rfl) ?_
    refine HList.nil ?_
    refine nt ?_
    refine HW.ret ?_
    exact ⟨_, resOf1 rfl Res1.t, ⟨y3, rfl, h⟩⟩

def F32 (p0 : Int) (H : Hp) (Q : Bool → Hp → Prop) : Prop :=
((decide ((97 : Int) ≤ p0)) = true → (((decide (p0 ≤ 122)) = true → (Q true H)) ∧
 ((decide (p0 ≤ 122)) = false → (((decide ((65 : Int) ≤ p0)) = true → (((decide (p0 ≤ 90)) = true → (Q true H)) ∧
 ((decide (p0 ≤ 90)) = false → (Q (decide (p0 = 95)) H)))) ∧
 ((decide ((65 : Int) ≤ p0)) = false → (Q (decide (p0 = 95)) H)))))) ∧
 ((decide ((97 : Int) ≤ p0)) = false → (((decide ((65 : Int) ≤ p0)) = true → (((decide (p0 ≤ 90)) = true → (Q true H)) ∧
 ((decide (p0 ≤ 90)) = false → (Q (decide (p0 = 95)) H)))) ∧
 ((decide ((65 : Int) ≤ p0)) = false → (Q (decide (p0 = 95)) H))))
set_option maxRecDepth 100000 in
set_option maxHeartbeats 4000000 in
theorem walk32 {w0 : World} {p0 : Int} {H : Hp} {Q : Bool → Hp → Prop} (h : F32 p0 H Q) :
    Good Tryd.prog w0 32 #[(.int .u8 p0)] H (fun v H => ∃ (r0 : Bool) , v = (.bool r0) ∧ Q r0 H) := by
  unfold F32 at h
  refine Good.enter' (fn := Tryd.f32) Tryd.func32 rfl rfl rfl ?_
  refine HW.seq ?_
  refine HW.region ?_
  refine HList.vals (v := (.bool false)) rfl (HVal.assign' rfl) ?_
  refine HList.nil ?_
  refine nt ?_
  refine HW.seq ?_
  refine HW.region ?_
  refine HList.vals (v := (.int .u8 p0)) rfl (HVal.move' rfl) ?_
  refine HList.vals (v := (.bool (decide ((97 : Int) ≤ p0)))) rfl (HVal.geq rfl rfl) ?_
  refine HList.vals (v := (.bool (decide ((97 : Int) ≤ p0)))) rfl (HVal.move' rfl) ?_
  obtain ⟨hT, hF⟩ := h
  rcases Bool.eq_false_or_eq_true (decide ((97 : Int) ≤ p0)) with hb1 | hb2
  · have h := hT hb1
    clear hT hF
    refine HList.gvals (v := (.int .u8 p0)) rfl rfl rfl rfl (congrArg Value.bool hb1) (HVal.move' rfl) ?_
    refine HList.gvals (v := (.bool (decide (p0 ≤ 122)))) rfl rfl rfl rfl (congrArg Value.bool hb1) (HVal.leq rfl rfl) ?_
    refine HList.vals (v := (.bool (decide (p0 ≤ 122)))) rfl (HVal.pickT rfl hb1 rfl) ?_
    refine HList.vals (v := (.bool (decide (p0 ≤ 122)))) rfl (HVal.move' rfl) ?_
    obtain ⟨hT, hF⟩ := h
    rcases Bool.eq_false_or_eq_true (decide (p0 ≤ 122)) with hb3 | hb4
    · have h := hT hb3
      clear hT hF
      refine HList.gskips rfl rfl rfl rfl (congrArg Value.bool hb3) ?_
      refine HList.gskips rfl rfl rfl rfl (congrArg Value.bool hb3) ?_
      refine HList.gskips rfl rfl rfl rfl (congrArg Value.bool hb3) ?_
      refine HList.uskips rfl rfl rfl rfl rfl ?_
      refine HList.uskips rfl rfl rfl rfl rfl ?_
      refine HList.gskips rfl rfl rfl rfl (congrArg Value.bool hb3) ?_
      refine HList.vals (v := (.bool true)) rfl (HVal.pickT rfl hb3 rfl) ?_
      refine HList.vals (v := (.bool true)) rfl (HVal.move' rfl) ?_
      refine HList.gskips rfl rfl rfl rfl rfl ?_
      refine HList.gskips rfl rfl rfl rfl rfl ?_
      refine HList.vals (v := (.bool true)) rfl (HVal.pickT rfl rfl rfl) ?_
      refine HList.vals (v := (.bool true)) rfl (HVal.assign' rfl) ?_
      refine HList.nil ?_
      refine nt ?_
      refine HW.ret ?_
      exact ⟨_, resOf1 rfl Res1.t, ⟨true, rfl, h⟩⟩
    · have h := hF hb4
      clear hT hF
      refine HList.gvals (v := (.int .u8 p0)) rfl rfl rfl rfl (congrArg Value.bool hb4) (HVal.move' rfl) ?_
      refine HList.gvals (v := (.bool (decide ((65 : Int) ≤ p0)))) rfl rfl rfl rfl (congrArg Value.bool hb4) (HVal.geq rfl rfl) ?_
      refine HList.gvals (v := (.bool (decide ((65 : Int) ≤ p0)))) rfl rfl rfl rfl (congrArg Value.bool hb4) (HVal.move' rfl) ?_
      obtain ⟨hT, hF⟩ := h
      rcases Bool.eq_false_or_eq_true (decide ((65 : Int) ≤ p0)) with hb5 | hb6
      · have h := hT hb5
        clear hT hF
        refine HList.gvals (v := (.int .u8 p0)) rfl rfl rfl rfl (congrArg Value.bool hb5) (HVal.move' rfl) ?_
        refine HList.gvals (v := (.bool (decide (p0 ≤ 90)))) rfl rfl rfl rfl (congrArg Value.bool hb5) (HVal.leq rfl rfl) ?_
        refine HList.gvals (v := (.bool (decide (p0 ≤ 90)))) rfl rfl rfl rfl (congrArg Value.bool hb4) (HVal.pickT rfl hb5 rfl) ?_
        refine HList.vals (v := (.bool (decide (p0 ≤ 90)))) rfl (HVal.pickF rfl hb4 rfl) ?_
        refine HList.vals (v := (.bool (decide (p0 ≤ 90)))) rfl (HVal.move' rfl) ?_
        obtain ⟨hT, hF⟩ := h
        rcases Bool.eq_false_or_eq_true (decide (p0 ≤ 90)) with hb7 | hb8
        · have h := hT hb7
          clear hT hF
          refine HList.gskips rfl rfl rfl rfl (congrArg Value.bool hb7) ?_
          refine HList.gskips rfl rfl rfl rfl (congrArg Value.bool hb7) ?_
          refine HList.vals (v := (.bool true)) rfl (HVal.pickT rfl hb7 rfl) ?_
          refine HList.vals (v := (.bool true)) rfl (HVal.assign' rfl) ?_
          refine HList.nil ?_
          refine nt ?_
          refine HW.ret ?_
          exact ⟨_, resOf1 rfl Res1.t, ⟨true, rfl, h⟩⟩
        · have h := hF hb8
          clear hT hF
          refine HList.gvals (v := (.int .u8 p0)) rfl rfl rfl rfl (congrArg Value.bool hb8) (HVal.move' rfl) ?_
          refine HList.gvals (v := (.bool (decide (p0 = 95)))) rfl rfl rfl rfl (congrArg Value.bool hb8) (HVal.eqlI rfl rfl) ?_
          refine HList.vals (v := (.bool (decide (p0 = 95)))) rfl (HVal.pickF rfl hb8 rfl) ?_
          refine HList.vals (v := (.bool (decide (p0 = 95)))) rfl (HVal.assign' rfl) ?_
          refine HList.nil ?_
          refine nt ?_
          refine HW.ret ?_
          exact ⟨_, resOf1 rfl Res1.t, ⟨(decide (p0 = 95)), rfl, h⟩⟩
      · have h := hF hb6
        clear hT hF
        refine HList.gskips rfl rfl rfl rfl (congrArg Value.bool hb6) ?_
        refine HList.gskips rfl rfl rfl rfl (congrArg Value.bool hb6) ?_
        refine HList.gvals (v := (.bool false)) rfl rfl rfl rfl (congrArg Value.bool hb4) (HVal.pickF rfl hb6 rfl) ?_
        refine HList.vals (v := (.bool false)) rfl (HVal.pickF rfl hb4 rfl) ?_
        refine HList.vals (v := (.bool false)) rfl (HVal.move' rfl) ?_
        refine HList.gvals (v := (.int .u8 p0)) rfl rfl rfl rfl rfl (HVal.move' rfl) ?_
        refine HList.gvals (v := (.bool (decide (p0 = 95)))) rfl rfl rfl rfl rfl (HVal.eqlI rfl rfl) ?_
        refine HList.vals (v := (.bool (decide (p0 = 95)))) rfl (HVal.pickF rfl rfl rfl) ?_
        refine HList.vals (v := (.bool (decide (p0 = 95)))) rfl (HVal.assign' rfl) ?_
        refine HList.nil ?_
        refine nt ?_
        refine HW.ret ?_
        exact ⟨_, resOf1 rfl Res1.t, ⟨(decide (p0 = 95)), rfl, h⟩⟩
  · have h := hF hb2
    clear hT hF
    refine HList.gskips rfl rfl rfl rfl (congrArg Value.bool hb2) ?_
    refine HList.gskips rfl rfl rfl rfl (congrArg Value.bool hb2) ?_
    refine HList.vals (v := (.bool false)) rfl (HVal.pickF rfl hb2 rfl) ?_
    refine HList.vals (v := (.bool false)) rfl (HVal.move' rfl) ?_
    refine HList.gvals (v := (.int .u8 p0)) rfl rfl rfl rfl rfl (HVal.move' rfl) ?_
    refine HList.gvals (v := (.bool (decide ((65 : Int) ≤ p0)))) rfl rfl rfl rfl rfl (HVal.geq rfl rfl) ?_
    refine HList.gvals (v := (.bool (decide ((65 : Int) ≤ p0)))) rfl rfl rfl rfl rfl (HVal.move' rfl) ?_
    obtain ⟨hT, hF⟩ := h
    rcases Bool.eq_false_or_eq_true (decide ((65 : Int) ≤ p0)) with hb9 | hb10
    · have h := hT hb9
      clear hT hF
      refine HList.gvals (v := (.int .u8 p0)) rfl rfl rfl rfl (congrArg Value.bool hb9) (HVal.move' rfl) ?_
      refine HList.gvals (v := (.bool (decide (p0 ≤ 90)))) rfl rfl rfl rfl (congrArg Value.bool hb9) (HVal.leq rfl rfl) ?_
      refine HList.gvals (v := (.bool (decide (p0 ≤ 90)))) rfl rfl rfl rfl rfl (HVal.pickT rfl hb9 rfl) ?_
      refine HList.vals (v := (.bool (decide (p0 ≤ 90)))) rfl (HVal.pickF rfl rfl rfl) ?_
      refine HList.vals (v := (.bool (decide (p0 ≤ 90)))) rfl (HVal.move' rfl) ?_
      obtain ⟨hT, hF⟩ := h
      rcases Bool.eq_false_or_eq_true (decide (p0 ≤ 90)) with hb11 | hb12
      · have h := hT hb11
        clear hT hF
        refine HList.gskips rfl rfl rfl rfl (congrArg Value.bool hb11) ?_
        refine HList.gskips rfl rfl rfl rfl (congrArg Value.bool hb11) ?_
        refine HList.vals (v := (.bool true)) rfl (HVal.pickT rfl hb11 rfl) ?_
        refine HList.vals (v := (.bool true)) rfl (HVal.assign' rfl) ?_
        refine HList.nil ?_
        refine nt ?_
        refine HW.ret ?_
        exact ⟨_, resOf1 rfl Res1.t, ⟨true, rfl, h⟩⟩
      · have h := hF hb12
        clear hT hF
        refine HList.gvals (v := (.int .u8 p0)) rfl rfl rfl rfl (congrArg Value.bool hb12) (HVal.move' rfl) ?_
        refine HList.gvals (v := (.bool (decide (p0 = 95)))) rfl rfl rfl rfl (congrArg Value.bool hb12) (HVal.eqlI rfl rfl) ?_
        refine HList.vals (v := (.bool (decide (p0 = 95)))) rfl (HVal.pickF rfl hb12 rfl) ?_
        refine HList.vals (v := (.bool (decide (p0 = 95)))) rfl (HVal.assign' rfl) ?_
        refine HList.nil ?_
        refine nt ?_
        refine HW.ret ?_
        exact ⟨_, resOf1 rfl Res1.t, ⟨(decide (p0 = 95)), rfl, h⟩⟩
    · have h := hF hb10
      clear hT hF
      refine HList.gskips rfl rfl rfl rfl (congrArg Value.bool hb10) ?_
      refine HList.gskips rfl rfl rfl rfl (congrArg Value.bool hb10) ?_
      refine HList.gvals (v := (.bool false)) rfl rfl rfl rfl rfl (HVal.pickF rfl hb10 rfl) ?_
      refine HList.vals (v := (.bool false)) rfl (HVal.pickF rfl rfl rfl) ?_
      refine HList.vals (v := (.bool false)) rfl (HVal.move' rfl) ?_
      refine HList.gvals (v := (.int .u8 p0)) rfl rfl rfl rfl rfl (HVal.move' rfl) ?_
      refine HList.gvals (v := (.bool (decide (p0 = 95)))) rfl rfl rfl rfl rfl (HVal.eqlI rfl rfl) ?_
      refine HList.vals (v := (.bool (decide (p0 = 95)))) rfl (HVal.pickF rfl rfl rfl) ?_
      refine HList.vals (v := (.bool (decide (p0 = 95)))) rfl (HVal.assign' rfl) ?_
      refine HList.nil ?_
      refine nt ?_
      refine HW.ret ?_
      exact ⟨_, resOf1 rfl Res1.t, ⟨(decide (p0 = 95)), rfl, h⟩⟩

def F33 (p0 : Int) (H : Hp) (Q : Bool → Hp → Prop) : Prop :=
F32 p0 H (fun (r3 : Bool) (H1 : Hp) => 
 (r3 = true → (Q true H1)) ∧
 (r3 = false → (((decide ((48 : Int) ≤ p0)) = true → (Q (decide (p0 ≤ 57)) H1)) ∧
 ((decide ((48 : Int) ≤ p0)) = false → (Q false H1)))))
set_option maxRecDepth 100000 in
set_option maxHeartbeats 4000000 in
theorem walk33 {w0 : World} {p0 : Int} {H : Hp} {Q : Bool → Hp → Prop} (h : F33 p0 H Q) :
    Good Tryd.prog w0 33 #[(.int .u8 p0)] H (fun v H => ∃ (r0 : Bool) , v = (.bool r0) ∧ Q r0 H) := by
  unfold F33 at h
  refine Good.enter' (fn := Tryd.f33) Tryd.func33 rfl rfl rfl ?_
  refine HW.seq ?_
  refine HW.region ?_
  refine HList.vals (v := (.bool false)) rfl (HVal.assign' rfl) ?_
  refine HList.nil ?_
  refine nt ?_
  refine HW.seq ?_
  refine HW.region ?_
  refine HList.vals (v := (.int .u8 p0)) rfl (HVal.move' rfl) ?_
  refine HList.ops' rfl (HOp.call' 32 [(.int .u8 p0)] (cap := []) rfl rfl Tryd.call32 (walk32 h)) ?_
  rintro _ H1 ⟨r3, rfl, h⟩
  refine HList.vals (v := (.bool r3)) rfl (HVal.move' rfl) ?_
  obtain ⟨hT, hF⟩ := h
  rcases Bool.eq_false_or_eq_true r3 with hb4 | hb5
  · have h := hT hb4
    clear hT hF
    refine HList.gskips rfl rfl rfl rfl (congrArg Value.bool hb4) ?_
    refine HList.gskips rfl rfl rfl rfl (congrArg Value.bool hb4) ?_
    refine HList.gskips rfl rfl rfl rfl (congrArg Value.bool hb4) ?_
    refine HList.uskips rfl rfl rfl rfl rfl ?_
    refine HList.uskips rfl rfl rfl rfl rfl ?_
    refine HList.gskips rfl rfl rfl rfl (congrArg Value.bool hb4) ?_
    refine HList.vals (v := (.bool true)) rfl (HVal.pickT rfl hb4 rfl) ?_
    refine HList.vals (v := (.bool true)) rfl (HVal.assign' rfl) ?_
    refine HList.nil ?_
    refine nt ?_
    refine HW.ret ?_
    exact ⟨_, resOf1 rfl Res1.t, ⟨true, rfl, h⟩⟩
  · have h := hF hb5
    clear hT hF
    refine HList.gvals (v := (.int .u8 p0)) rfl rfl rfl rfl (congrArg Value.bool hb5) (HVal.move' rfl) ?_
    refine HList.gvals (v := (.bool (decide ((48 : Int) ≤ p0)))) rfl rfl rfl rfl (congrArg Value.bool hb5) (HVal.geq rfl rfl) ?_
    refine HList.gvals (v := (.bool (decide ((48 : Int) ≤ p0)))) rfl rfl rfl rfl (congrArg Value.bool hb5) (HVal.move' rfl) ?_
    obtain ⟨hT, hF⟩ := h
    rcases Bool.eq_false_or_eq_true (decide ((48 : Int) ≤ p0)) with hb6 | hb7
    · have h := hT hb6
      clear hT hF
      refine HList.gvals (v := (.int .u8 p0)) rfl rfl rfl rfl (congrArg Value.bool hb6) (HVal.move' rfl) ?_
      refine HList.gvals (v := (.bool (decide (p0 ≤ 57)))) rfl rfl rfl rfl (congrArg Value.bool hb6) (HVal.leq rfl rfl) ?_
      refine HList.gvals (v := (.bool (decide (p0 ≤ 57)))) rfl rfl rfl rfl (congrArg Value.bool hb5) (HVal.pickT rfl hb6 rfl) ?_
      refine HList.vals (v := (.bool (decide (p0 ≤ 57)))) rfl (HVal.pickF rfl hb5 rfl) ?_
      refine HList.vals (v := (.bool (decide (p0 ≤ 57)))) rfl (HVal.assign' rfl) ?_
      refine HList.nil ?_
      refine nt ?_
      refine HW.ret ?_
      exact ⟨_, resOf1 rfl Res1.t, ⟨(decide (p0 ≤ 57)), rfl, h⟩⟩
    · have h := hF hb7
      clear hT hF
      refine HList.gskips rfl rfl rfl rfl (congrArg Value.bool hb7) ?_
      refine HList.gskips rfl rfl rfl rfl (congrArg Value.bool hb7) ?_
      refine HList.gvals (v := (.bool false)) rfl rfl rfl rfl (congrArg Value.bool hb5) (HVal.pickF rfl hb7 rfl) ?_
      refine HList.vals (v := (.bool false)) rfl (HVal.pickF rfl hb5 rfl) ?_
      refine HList.vals (v := (.bool false)) rfl (HVal.assign' rfl) ?_
      refine HList.nil ?_
      refine nt ?_
      refine HW.ret ?_
      exact ⟨_, resOf1 rfl Res1.t, ⟨false, rfl, h⟩⟩

def F17_L4b (Q : Bool → Hp → Prop) (X4 : Int → Hp → Prop) (y42 : ByteArray) (y43 : ByteArray) (y44 : ByteArray) (y45 : ByteArray) (y46 : ByteArray) (y47 : ByteArray) (y48 : ByteArray) (y49 : ByteArray) (y50 : ByteArray) (y51 : ByteArray) (y52 : ByteArray) (y53 : ByteArray) (y54 : ByteArray) (y55 : ByteArray) (y56 : ByteArray) (y57 : ByteArray) (y58 : ByteArray) (y41 : Int) (H_4 : Hp) : Prop :=
((decide (y41 < 16)) = true → ((0 : Int) ≤ y41 ∧ y41 < (16 : Int) ∧ ∃ y60 : ByteArray, ([y43, y44, y45, y46, y47, y48, y49, y50, y51, y52, y53, y54, y55, y56, y57, y58] : List ByteArray)[y41.toNat]? = some y60 ∧ (
 ((seq y42 y60) = true → (Q false H_4)) ∧
 ((seq y42 y60) = false → (X4 (IntKind.i64.wrap (y41 + 1)) H_4))))) ∧
 ((decide (y41 < 16)) = false → (Q true H_4))
def F17_L4 (Q : Bool → Hp → Prop) (y42 : ByteArray) (y43 : ByteArray) (y44 : ByteArray) (y45 : ByteArray) (y46 : ByteArray) (y47 : ByteArray) (y48 : ByteArray) (y49 : ByteArray) (y50 : ByteArray) (y51 : ByteArray) (y52 : ByteArray) (y53 : ByteArray) (y54 : ByteArray) (y55 : ByteArray) (y56 : ByteArray) (y57 : ByteArray) (y58 : ByteArray) (y41 : Int) (H_4 : Hp) : Prop :=
  ∀ X4 : Int → Hp → Prop, (∀ (y41 : Int) (H_4 : Hp), F17_L4b Q X4 y42 y43 y44 y45 y46 y47 y48 y49 y50 y51 y52 y53 y54 y55 y56 y57 y58 y41 H_4 → X4 y41 H_4) → X4 y41 H_4
def F17_2 (Q : Bool → Hp → Prop) (y13 : ByteArray) (H_2 : Hp) : Prop :=
∃ (x25 : ByteArray) (x26 : ByteArray) (x27 : ByteArray) (x28 : ByteArray) (x29 : ByteArray) (x30 : ByteArray) (x31 : ByteArray) (x32 : ByteArray) (x33 : ByteArray) (x34 : ByteArray) (x35 : ByteArray) (x36 : ByteArray) (x37 : ByteArray) (x38 : ByteArray) (x39 : ByteArray) (x40 : ByteArray), cells H_2 ⟨1, 0, none⟩ [(.string x25), (.string x26), (.string x27), (.string x28), (.string x29), (.string x30), (.string x31), (.string x32), (.string x33), (.string x34), (.string x35), (.string x36), (.string x37), (.string x38), (.string x39), (.string x40)] 0 ∧ (
 F17_L4 Q y13 x25 x26 x27 x28 x29 x30 x31 x32 x33 x34 x35 x36 x37 x38 x39 x40 0 H_2)
def F17_L3b (Q : Bool → Hp → Prop) (X3 : Int → Hp → Prop) (y15 : ByteArray) (y16 : Int) (y14 : Int) (H_3 : Hp) : Prop :=
((decide (y14 < y16)) = true → ((0 : Int) ≤ y14 ∧ y14.toNat < (y15).size ∧ (
 F33 (bt y15 y14.toNat) H_3 (fun (r22 : Bool) (H20 : Hp) => 
 ((!r22) = true → (Q false H20)) ∧
 ((!r22) = false → (X3 (IntKind.i64.wrap (y14 + 1)) H20)))))) ∧
 ((decide (y14 < y16)) = false → (F17_2 Q y15 H_3))
def F17_L3 (Q : Bool → Hp → Prop) (y15 : ByteArray) (y16 : Int) (y14 : Int) (H_3 : Hp) : Prop :=
  ∀ X3 : Int → Hp → Prop, (∀ (y14 : Int) (H_3 : Hp), F17_L3b Q X3 y15 y16 y14 H_3 → X3 y14 H_3) → X3 y14 H_3
def F17_1 (Q : Bool → Hp → Prop) (y1 : ByteArray) (y4 : Bool) (H_1 : Hp) : Prop :=
(y4 = true → (Q false H_1)) ∧
 (y4 = false → (F17_L3 Q y1 ((y1).size : Int) 0 H_1))
def F17 (p0 : ByteArray) (H : Hp) (Q : Bool → Hp → Prop) : Prop :=
((seq p0 (ByteArray.mk #[])) = true → (F17_1 Q p0 true H)) ∧
 ((seq p0 (ByteArray.mk #[])) = false → (((decide ((32 : Int) < ((p0).size : Int))) = true → (F17_1 Q p0 true H)) ∧
 ((decide ((32 : Int) < ((p0).size : Int))) = false → ((0 : Int) ≤ 0 ∧ (0 : Int).toNat < (p0).size ∧ (
 F32 (bt p0 (0 : Int).toNat) H (fun (r11 : Bool) (H9 : Hp) => 
 F17_1 Q p0 (!r11) H9))))))
set_option maxRecDepth 100000 in
set_option maxHeartbeats 4000000 in
theorem walk17 {w0 : World} {p0 : ByteArray} {H : Hp} {Q : Bool → Hp → Prop} (h : F17 p0 H Q) :
    Good Tryd.prog w0 17 #[(.string p0)] H (fun v H => ∃ (r0 : Bool) , v = (.bool r0) ∧ Q r0 H) := by
  unfold F17 at h
  refine Good.enter' (fn := Tryd.f17) Tryd.func17 rfl rfl rfl ?_
  refine HW.seq ?_
  refine HW.region ?_
  refine HList.vals (v := (.bool false)) rfl (HVal.assign' rfl) ?_
  refine HList.nil ?_
  refine nt ?_
  refine HW.seq ?_
  refine HW.cut (fun ρ H_1 => ∃ (y4 : Bool), Env.Is ρ [(0, (.string p0)), (18, (.bool y4))] ∧ F17_1 Q p0 y4 H_1) ?_ ?_
  · refine HW.region ?_
    refine HList.vals (v := (.string p0)) rfl (HVal.move' rfl) ?_
    refine HList.vals (v := (.bool (seq p0 (ByteArray.mk #[])))) rfl (HVal.eqlS rfl rfl) ?_
    refine HList.vals (v := (.bool (seq p0 (ByteArray.mk #[])))) rfl (HVal.move' rfl) ?_
    obtain ⟨hT, hF⟩ := h
    rcases Bool.eq_false_or_eq_true (seq p0 (ByteArray.mk #[])) with hb2 | hb3
    · have h := hT hb2
      clear hT hF
      refine HList.gskips rfl rfl rfl rfl (congrArg Value.bool hb2) ?_
      refine HList.gskips rfl rfl rfl rfl (congrArg Value.bool hb2) ?_
      refine HList.gskips rfl rfl rfl rfl (congrArg Value.bool hb2) ?_
      refine HList.vals (v := (.bool true)) rfl (HVal.pickT rfl hb2 rfl) ?_
      refine HList.vals (v := (.bool true)) rfl (HVal.move' rfl) ?_
      refine HList.gskips rfl rfl rfl rfl rfl ?_
      refine HList.gskips rfl rfl rfl rfl rfl ?_
      refine HList.gskips rfl rfl rfl rfl rfl ?_
      refine HList.gskips rfl rfl rfl rfl rfl ?_
      refine HList.vals (v := (.bool true)) rfl (HVal.pickT rfl rfl rfl) ?_
      refine HList.nil ?_
      refine nt ?_
      exact ⟨true, ⟨rfl, rfl, trivial⟩, h⟩
    · have h := hF hb3
      clear hT hF
      refine HList.gvals (v := (.string p0)) rfl rfl rfl rfl (congrArg Value.bool hb3) (HVal.move' rfl) ?_
      refine HList.gvals (v := (.int .i64 ((p0).size : Int))) rfl rfl rfl rfl (congrArg Value.bool hb3) (HVal.lenS Tryd.runUnderlying9 rfl) ?_
      refine HList.gvals (v := (.bool (decide ((32 : Int) < ((p0).size : Int))))) rfl rfl rfl rfl (congrArg Value.bool hb3) (HVal.gtr rfl rfl) ?_
      refine HList.vals (v := (.bool (decide ((32 : Int) < ((p0).size : Int))))) rfl (HVal.pickF rfl hb3 rfl) ?_
      refine HList.vals (v := (.bool (decide ((32 : Int) < ((p0).size : Int))))) rfl (HVal.move' rfl) ?_
      obtain ⟨hT, hF⟩ := h
      rcases Bool.eq_false_or_eq_true (decide ((32 : Int) < ((p0).size : Int))) with hb5 | hb6
      · have h := hT hb5
        clear hT hF
        refine HList.gskips rfl rfl rfl rfl (congrArg Value.bool hb5) ?_
        refine HList.gskips rfl rfl rfl rfl (congrArg Value.bool hb5) ?_
        refine HList.gskips rfl rfl rfl rfl (congrArg Value.bool hb5) ?_
        refine HList.gskips rfl rfl rfl rfl (congrArg Value.bool hb5) ?_
        refine HList.vals (v := (.bool true)) rfl (HVal.pickT rfl hb5 rfl) ?_
        refine HList.nil ?_
        refine nt ?_
        exact ⟨true, ⟨rfl, rfl, trivial⟩, h⟩
      · have h := hF hb6
        clear hT hF
        refine HList.gvals (v := (.string p0)) rfl rfl rfl rfl (congrArg Value.bool hb6) (HVal.move' rfl) ?_
        obtain ⟨b7, b8, h⟩ := h
        refine HList.gvals (v := (.int .u8 (bt p0 (0 : Int).toNat))) rfl rfl rfl rfl (congrArg Value.bool hb6) (HVal.indexS' Tryd.runUnderlying9 rfl rfl b7 b8) ?_
        refine HList.gops rfl rfl rfl rfl (congrArg Value.bool hb6) (HOp.call' 32 [(.int .u8 (bt p0 (0 : Int).toNat))] (cap := []) rfl rfl Tryd.call32 (walk32 h)) ?_
        rintro _ H9 ⟨r11, rfl, h⟩
        refine HList.gvals (v := (.bool (!r11))) rfl rfl rfl rfl (congrArg Value.bool hb6) (HVal.not rfl) ?_
        refine HList.vals (v := (.bool (!r11))) rfl (HVal.pickF rfl hb6 rfl) ?_
        refine HList.nil ?_
        refine nt ?_
        exact ⟨(!r11), ⟨rfl, rfl, trivial⟩, h⟩
  · rintro ρ H_1 ⟨y4, hI, h⟩
    obtain ⟨ρ0, rfl⟩ : ∃ ρ0, ρ = (Env.set (Env.set ρ0 18 (.bool y4)) 0 (.string p0)) := ⟨ρ, hI.eq⟩
    clear hI; unfold F17_1 at h
    obtain ⟨hT, hF⟩ := h
    refine HW.cond y4 rfl (fun hb12 => ?_) (fun hb12 => ?_)
    · have h := hT hb12
      clear hT hF
      refine HW.seq ?_
      refine HW.region ?_
      refine HList.vals (v := (.bool false)) rfl (HVal.assign' rfl) ?_
      refine HList.nil ?_
      refine nt ?_
      refine HW.ret ?_
      refine tr ?_
      exact ⟨_, resOf1 rfl Res1.t, ⟨false, rfl, h⟩⟩
    · have h := hF hb12
      clear hT hF
      refine HW.skip ?_
      refine nt ?_
      refine HW.cut (fun ρ H_2 => Env.Is ρ [(0, (.string p0))] ∧ F17_2 Q p0 H_2) ?_ ?_
      · refine HW.seq ?_
        refine HW.region ?_
        refine HList.vals (v := (.string p0)) rfl (HVal.move' rfl) ?_
        refine HList.vals (v := (.int .i64 ((p0).size : Int))) rfl (HVal.lenS Tryd.runUnderlying9 rfl) ?_
        refine HList.vals (v := (.int .i64 0)) rfl (HVal.move' rfl) ?_
        refine HList.nil ?_
        refine nt ?_
        refine HW.block ?_
        refine HW.loop' (fun L3 hL3 => ?_)
        obtain ⟨X3, hX3⟩ : ∃ X3 : Int → Hp → Prop, ∀ (y14 : Int) (H_3 : Hp), X3 y14 H_3 ↔ ∀ ρ, Env.Is ρ [(0, (.string p0)), (20, (.int .i64 ((p0).size : Int))), (21, (.int .i64 y14))] → L3 ρ H_3 := ⟨_, fun _ _ => Iff.rfl⟩
        refine (hX3 _ _).1 (h X3 ?_) _ ?_
        rotate_left
        · exact ⟨rfl, rfl, rfl, trivial⟩
        clear h
        intro y14 H_3 h
        refine (hX3 _ _).2 fun ρ hI => ?_
        obtain ⟨ρ0, rfl⟩ : ∃ ρ0, ρ = (Env.set (Env.set (Env.set ρ0 21 (.int .i64 y14)) 20 (.int .i64 ((p0).size : Int))) 0 (.string p0)) := ⟨ρ, hI.eq⟩
        clear hI; unfold F17_L3b at h; refine hL3 _ _ ?_
        refine HW.seq ?_
        refine HW.region ?_
        refine HList.vals (v := (.bool (decide (y14 < ((p0).size : Int))))) rfl (HVal.lss rfl rfl) ?_
        refine HList.nil ?_
        refine nt ?_
        refine HW.seq ?_
        obtain ⟨hT, hF⟩ := h
        refine HW.cond (decide (y14 < ((p0).size : Int))) rfl (fun hb17 => ?_) (fun hb17 => ?_)
        · have h := hT hb17
          clear hT hF
          refine HW.skip ?_
          refine nt ?_
          refine HW.seq ?_
          refine HW.block ?_
          refine HW.seq ?_
          refine HW.region ?_
          refine HList.vals (v := (.int .i64 y14)) rfl (HVal.move' rfl) ?_
          refine HList.vals (v := (.int .i64 y14)) rfl (HVal.assign' rfl) ?_
          refine HList.nil ?_
          refine nt ?_
          refine HW.seq ?_
          refine HW.region ?_
          refine HList.vals (v := (.string p0)) rfl (HVal.move' rfl) ?_
          refine HList.vals (v := (.int .i64 y14)) rfl (HVal.move' rfl) ?_
          obtain ⟨b18, b19, h⟩ := h
          refine HList.vals (v := (.int .u8 (bt p0 y14.toNat))) rfl (HVal.indexS' Tryd.runUnderlying9 rfl rfl b18 b19) ?_
          refine HList.ops' rfl (HOp.call' 33 [(.int .u8 (bt p0 y14.toNat))] (cap := []) rfl rfl Tryd.call33 (walk33 h)) ?_
          rintro _ H20 ⟨r22, rfl, h⟩
          refine HList.vals (v := (.bool (!r22))) rfl (HVal.not rfl) ?_
          refine HList.nil ?_
          refine nt ?_
          obtain ⟨hT, hF⟩ := h
          refine HW.cond (!r22) rfl (fun hb23 => ?_) (fun hb23 => ?_)
          · have h := hT hb23
            clear hT hF
            refine HW.seq ?_
            refine HW.region ?_
            refine HList.vals (v := (.bool false)) rfl (HVal.assign' rfl) ?_
            refine HList.nil ?_
            refine nt ?_
            refine HW.ret ?_
            refine br ?_
            refine tr ?_
            refine tr ?_
            refine br ?_
            refine tr ?_
            exact ⟨_, resOf1 rfl Res1.t, ⟨false, rfl, h⟩⟩
          · have h := hF hb23
            clear hT hF
            refine HW.skip ?_
            refine nb ?_
            refine nt ?_
            refine HW.region ?_
            refine HList.vals (v := (.int .i64 (IntKind.i64.wrap (y14 + 1)))) rfl (HVal.add rfl rfl) ?_
            refine HList.vals (v := (.int .i64 (IntKind.i64.wrap (y14 + 1)))) rfl (HVal.move' rfl) ?_
            refine HList.nil ?_
            refine nt ?_
            exact (hX3 _ _).1 h _ ⟨rfl, rfl, rfl, trivial⟩
        · have h := hF hb17
          clear hT hF
          refine HW.exit ?_
          refine te ?_
          refine te ?_
          refine be ?_
          refine nt ?_
          exact ⟨⟨rfl, trivial⟩, h⟩
      · rintro ρ H_2 ⟨hI, h⟩
        obtain ⟨ρ0, rfl⟩ : ∃ ρ0, ρ = (Env.set ρ0 0 (.string p0)) := ⟨ρ, hI.eq⟩
        clear hI; unfold F17_2 at h
        refine HW.seq ?_
        refine HW.seq ?_
        refine HW.region ?_
        obtain ⟨x25, x26, x27, x28, x29, x30, x31, x32, x33, x34, x35, x36, x37, x38, x39, x40, c24, h⟩ := h
        refine HList.vals (v := (.agg #[(.string x25), (.string x26), (.string x27), (.string x28), (.string x29), (.string x30), (.string x31), (.string x32), (.string x33), (.string x34), (.string x35), (.string x36), (.string x37), (.string x38), (.string x39), (.string x40)])) rfl (HVal.loadN [(.string x25), (.string x26), (.string x27), (.string x28), (.string x29), (.string x30), (.string x31), (.string x32), (.string x33), (.string x34), (.string x35), (.string x36), (.string x37), (.string x38), (.string x39), (.string x40)] Tryd.isAgg52 Tryd.sizeOf52 rfl c24) ?_
        refine HList.vals (v := (.int .i64 0)) rfl (HVal.move' rfl) ?_
        refine HList.nil ?_
        refine nt ?_
        refine HW.block ?_
        refine HW.loop' (fun L4 hL4 => ?_)
        obtain ⟨X4, hX4⟩ : ∃ X4 : Int → Hp → Prop, ∀ (y41 : Int) (H_4 : Hp), X4 y41 H_4 ↔ ∀ ρ, Env.Is ρ [(0, (.string p0)), (30, (.agg #[(.string x25), (.string x26), (.string x27), (.string x28), (.string x29), (.string x30), (.string x31), (.string x32), (.string x33), (.string x34), (.string x35), (.string x36), (.string x37), (.string x38), (.string x39), (.string x40)])), (31, (.int .i64 y41))] → L4 ρ H_4 := ⟨_, fun _ _ => Iff.rfl⟩
        refine (hX4 _ _).1 (h X4 ?_) _ ?_
        rotate_left
        · exact ⟨rfl, rfl, rfl, trivial⟩
        clear h
        intro y41 H_4 h
        refine (hX4 _ _).2 fun ρ hI => ?_
        obtain ⟨ρ0, rfl⟩ : ∃ ρ0, ρ = (Env.set (Env.set (Env.set ρ0 31 (.int .i64 y41)) 30 (.agg #[(.string x25), (.string x26), (.string x27), (.string x28), (.string x29), (.string x30), (.string x31), (.string x32), (.string x33), (.string x34), (.string x35), (.string x36), (.string x37), (.string x38), (.string x39), (.string x40)])) 0 (.string p0)) := ⟨ρ, hI.eq⟩
        clear hI; unfold F17_L4b at h; refine hL4 _ _ ?_
        refine HW.seq ?_
        refine HW.region ?_
        refine HList.vals (v := (.bool (decide (y41 < 16)))) rfl (HVal.lss rfl rfl) ?_
        refine HList.nil ?_
        refine nt ?_
        refine HW.seq ?_
        obtain ⟨hT, hF⟩ := h
        refine HW.cond (decide (y41 < 16)) rfl (fun hb59 => ?_) (fun hb59 => ?_)
        · have h := hT hb59
          clear hT hF
          refine HW.skip ?_
          refine nt ?_
          refine HW.seq ?_
          refine HW.block ?_
          refine HW.seq ?_
          refine HW.region ?_
          obtain ⟨b61, b62, y60, b63, h⟩ := h
          refine HList.vals (v := (.string y60)) rfl (HVal.indexA Value.string [x25, x26, x27, x28, x29, x30, x31, x32, x33, x34, x35, x36, x37, x38, x39, x40] Tryd.runUnderlying52 Tryd.isAgg9 Tryd.sizeOf9 rfl rfl b61 b62 b63) ?_
          refine HList.vals (v := (.string y60)) rfl (HVal.assign' rfl) ?_
          refine HList.nil ?_
          refine nt ?_
          refine HW.seq ?_
          refine HW.region ?_
          refine HList.vals (v := (.string p0)) rfl (HVal.move' rfl) ?_
          refine HList.vals (v := (.string y60)) rfl (HVal.move' rfl) ?_
          refine HList.vals (v := (.bool (seq p0 y60))) rfl (HVal.eqlS rfl rfl) ?_
          refine HList.nil ?_
          refine nt ?_
          obtain ⟨hT, hF⟩ := h
          refine HW.cond (seq p0 y60) rfl (fun hb64 => ?_) (fun hb64 => ?_)
          · have h := hT hb64
            clear hT hF
            refine HW.seq ?_
            refine HW.region ?_
            refine HList.vals (v := (.bool false)) rfl (HVal.assign' rfl) ?_
            refine HList.nil ?_
            refine nt ?_
            refine HW.ret ?_
            refine br ?_
            refine tr ?_
            refine tr ?_
            refine br ?_
            refine tr ?_
            exact ⟨_, resOf1 rfl Res1.t, ⟨false, rfl, h⟩⟩
          · have h := hF hb64
            clear hT hF
            refine HW.skip ?_
            refine nb ?_
            refine nt ?_
            refine HW.region ?_
            refine HList.vals (v := (.int .i64 (IntKind.i64.wrap (y41 + 1)))) rfl (HVal.add rfl rfl) ?_
            refine HList.vals (v := (.int .i64 (IntKind.i64.wrap (y41 + 1)))) rfl (HVal.move' rfl) ?_
            refine HList.nil ?_
            refine nt ?_
            exact (hX4 _ _).1 h _ ⟨rfl, rfl, rfl, trivial⟩
        · have h := hF hb59
          clear hT hF
          refine HW.exit ?_
          refine te ?_
          refine te ?_
          refine be ?_
          refine nt ?_
          refine HW.seq ?_
          refine HW.region ?_
          refine HList.vals (v := (.bool true)) rfl (HVal.assign' rfl) ?_
          refine HList.nil ?_
          refine nt ?_
          refine HW.ret ?_
          exact ⟨_, resOf1 rfl Res1.t, ⟨true, rfl, h⟩⟩

def F23b (X : Int → Hp → (ByteArray → Hp → Prop) → Prop) (p0 : Int) (H : Hp) (Q : ByteArray → Hp → Prop) : Prop :=
∀ H1 : Hp, H1 = Array.push H (.cells #[(.int .u8 (IntKind.u8.wrap (IntKind.i64.wrap (48 + (Int.tmod p0 (10 : Int))))))] 5) → (
 ∃ L3 : List Int, (rds H1 ((Sl.mk (some ⟨H.size, 0, none⟩) 1 1)).b (L3.map (Value.int .u8)) ∧ L3.length = ((Sl.mk (some ⟨H.size, 0, none⟩) 1 1)).n) ∧ (
 ((decide ((10 : Int) ≤ p0)) = true → (X (IntKind.i64.wrap (Int.tdiv p0 (10 : Int))) H1 (fun (r8 : ByteArray) (H6 : Hp) => 
 (r8).size + ((bst L3)).size ≤ 9223372036854775807 ∧ (
 Q (r8 ++ (bst L3)) H6)))) ∧
 ((decide ((10 : Int) ≤ p0)) = false → (Q (bst L3) H1))))
def F23 (p0 : Int) (H : Hp) (Q : ByteArray → Hp → Prop) : Prop :=
  ∀ X : Int → Hp → (ByteArray → Hp → Prop) → Prop, (∀ (p0 : Int) (H : Hp) (Q : ByteArray → Hp → Prop), F23b X p0 H Q → X p0 H Q) → X p0 H Q
set_option maxRecDepth 100000 in
set_option maxHeartbeats 4000000 in
theorem walk23 {w0 : World} {p0 : Int} {H : Hp} {Q : ByteArray → Hp → Prop} (h : F23 p0 H Q) :
    Good Tryd.prog w0 23 #[(.int .i64 p0)] H (fun v H => ∃ (r0 : ByteArray) , v = (.string r0) ∧ Q r0 H) := by
  obtain ⟨X, hX⟩ : ∃ X : Int → Hp → (ByteArray → Hp → Prop) → Prop, ∀ (p0 : Int) (H : Hp) (Q : ByteArray → Hp → Prop), X p0 H Q ↔ Good Tryd.prog w0 23 #[(.int .i64 p0)] H (fun v H => ∃ (r0 : ByteArray) , v = (.string r0) ∧ Q r0 H) := ⟨_, fun _ _ _ => Iff.rfl⟩
  refine (hX _ _ _).1 (h X ?_)
  clear h
  intro p0 H Q h
  refine (hX _ _ _).2 ?_
  unfold F23b at h
  refine Good.enter' (fn := Tryd.f23) Tryd.func23 rfl rfl rfl ?_
  refine HW.seq ?_
  refine HW.region ?_
  refine HList.vals (v := (.string (ByteArray.mk #[]))) rfl (HVal.assign' rfl) ?_
  refine HList.nil ?_
  refine nt ?_
  refine HW.seq ?_
  refine HW.region ?_
  refine HList.vals (v := (.int .i64 p0)) rfl (HVal.move' rfl) ?_
  refine HList.vals (v := (.int .i64 (Int.tmod p0 (10 : Int)))) rfl (HVal.rem rfl rfl (by decide)) ?_
  refine HList.vals (v := (.int .i64 (IntKind.i64.wrap (48 + (Int.tmod p0 (10 : Int)))))) rfl (HVal.add rfl rfl) ?_
  refine HList.vals (v := (.int .u8 (IntKind.u8.wrap (IntKind.i64.wrap (48 + (Int.tmod p0 (10 : Int))))))) rfl (HVal.convI Tryd.runUnderlying3 Tryd.runUnderlying5 rfl) ?_
  refine HList.ops' rfl (HOp.buildSlice' (zs := [(.int .u8 0)]) (cs := [(.int .u8 (IntKind.u8.wrap (IntKind.i64.wrap (48 + (Int.tmod p0 (10 : Int))))))]) Tryd.runUnderlying43 Tryd.sizeOf5 Tryd.zeroValue5 (by decide) (by kernel_rfl) rfl (by decide)) ?_
  rintro _ H1 ⟨rfl, e2⟩
  replace h := h H1 e2
  obtain ⟨L3, c4, h⟩ := h
  refine HList.vals (v := (.string (bst L3))) rfl (HVal.convBS (L := L3) Tryd.runUnderlying43 Tryd.runUnderlying9 Tryd.runUnderlying5 rfl c4) ?_
  refine HList.vals (v := (.string (bst L3))) rfl (HVal.assign' rfl) ?_
  refine HList.nil ?_
  refine nt ?_
  refine HW.seq ?_
  refine HW.seq ?_
  refine HW.region ?_
  refine HList.vals (v := (.int .i64 p0)) rfl (HVal.move' rfl) ?_
  refine HList.vals (v := (.bool (decide ((10 : Int) ≤ p0)))) rfl (HVal.geq rfl rfl) ?_
  refine HList.nil ?_
  refine nt ?_
  obtain ⟨hT, hF⟩ := h
  refine HW.cond (decide ((10 : Int) ≤ p0)) rfl (fun hb5 => ?_) (fun hb5 => ?_)
  · have h := hT hb5
    clear hT hF
    refine HW.seq ?_
    refine HW.region ?_
    refine HList.vals (v := (.int .i64 p0)) rfl (HVal.move' rfl) ?_
    refine HList.vals (v := (.int .i64 (IntKind.i64.wrap (Int.tdiv p0 (10 : Int))))) rfl (HVal.quo rfl rfl (by decide)) ?_
    refine HList.ops' rfl (HOp.call' 23 [(.int .i64 (IntKind.i64.wrap (Int.tdiv p0 (10 : Int))))] (cap := []) rfl rfl Tryd.call23 ((hX _ _ _).1 h)) ?_
    rintro _ H6 ⟨r8, rfl, h⟩
    refine HList.vals (v := (.string r8)) rfl (HVal.assign' rfl) ?_
    refine HList.nil ?_
    refine nt ?_
    refine HW.seq ?_
    refine HW.region ?_
    refine HList.vals (v := (.string r8)) rfl (HVal.move' rfl) ?_
    refine HList.vals (v := (.string (bst L3))) rfl (HVal.move' rfl) ?_
    obtain ⟨z9, h⟩ := h
    refine HList.vals (v := (.string (r8 ++ (bst L3)))) rfl (HVal.addS rfl rfl z9) ?_
    refine HList.vals (v := (.string (r8 ++ (bst L3)))) rfl (HVal.assign' rfl) ?_
    refine HList.nil ?_
    refine nt ?_
    refine HW.ret ?_
    refine tr ?_
    exact ⟨_, resOf1 rfl Res1.t, ⟨(r8 ++ (bst L3)), rfl, h⟩⟩
  · have h := hF hb5
    clear hT hF
    refine HW.skip ?_
    refine nt ?_
    refine HW.seq ?_
    refine HW.region ?_
    refine HList.vals (v := (.string (bst L3))) rfl (HVal.move' rfl) ?_
    refine HList.vals (v := (.string (bst L3))) rfl (HVal.assign' rfl) ?_
    refine HList.nil ?_
    refine nt ?_
    refine HW.ret ?_
    exact ⟨_, resOf1 rfl Res1.t, ⟨(bst L3), rfl, h⟩⟩

def F8_2 (Q : ByteArray → Sl → Hp → Prop) (y16 : Addr) (y17 : Addr) (H_2 : Hp) : Prop :=
∃ (x144 : ByteArray) (x145 : Sl), cells H_2 y17 [(.string x144), (Sl.v x145)] 0 ∧ (
 mayw H_2 y16 2 0 ∧ ∀ H146 : Hp, H146 = sets H_2 y16 [(.string x144), (Sl.v x145)] 0 → (
 ∃ (x149 : ByteArray) (x150 : Sl), cells H146 y16 [(.string x149), (Sl.v x150)] 0 ∧ (
 Q x149 x150 H146)))
def F8_6 (Q : ByteArray → Sl → Hp → Prop) (X3 : Int → Hp → Prop) (y87 : Sl) (y88 : Sl) (y89 : Addr) (y90 : Addr) (y91 : Int) (y120 : ByteArray) (H_6 : Hp) : Prop :=
∃ x122 : Sl, cell H_6 (Addr.add y90 1) = some (Sl.v x122) ∧ (
 ∃ a123 : Addr, (y88).b = some a123 ∧ (0 : Int) ≤ y91 ∧ y91 < ((y88).n : Int) ∧ (
 ∃ x128 : Int, cell H_6 (Addr.add a123 (y91.toNat * 1)) = some (.int .i64 x128) ∧ (
 F12 x128 3 H_6 (fun (r131 : Int) (H129 : Hp) => 
 cell H129 (Addr.add y90 1) = some (Sl.v x122) ∧ (
 ∀ H133 : Hp, H133 = Array.push H129 (.cells #[(.string y120), (.int .i64 (IntKind.i64.wrap (1 + r131)))] 38) → (
 cell H133 (Addr.add y90 1) = some (Sl.v x122) ∧ (
 AppendF H133 38 2 24 #[(.string (ByteArray.mk #[])), (.int .i64 0)] x122 ((Sl.mk (some ⟨H129.size, 0, none⟩) 1 1)).b ((Sl.mk (some ⟨H129.size, 0, none⟩) 1 1)).n (fun (r138 : Sl) (H136 : Hp) => 
 (cell H136 (Addr.add y90 1)).isSome = true ∧ frz H136 (Addr.add y90 1) = false ∧ ∀ H139 : Hp, H139 = setc H136 (Addr.add y90 1) (Sl.v r138) → (
 X3 (IntKind.i64.wrap (y91 + 1)) H139)))))))))
def F8_8 (Q : ByteArray → Sl → Hp → Prop) (X3 : Int → Hp → Prop) (X7 : ByteArray → Int → Hp → Prop) (y100 : Sl) (y101 : Sl) (y102 : Addr) (y103 : Addr) (y104 : Int) (y105 : Int) (y119 : ByteArray) (H_8 : Hp) : Prop :=
X7 y119 (IntKind.i64.wrap (y105 + 1)) H_8
def F8_L7b (Q : ByteArray → Sl → Hp → Prop) (X3 : Int → Hp → Prop) (X7 : ByteArray → Int → Hp → Prop) (y94 : Sl) (y95 : Sl) (y96 : Addr) (y97 : Addr) (y98 : Int) (y92 : ByteArray) (y93 : Int) (H_7 : Hp) : Prop :=
((decide (y93 < y98)) = true → (∃ x107 : Sl, cell H_7 (Addr.add y97 1) = some (Sl.v x107) ∧ (
 ∃ a108 : Addr, (x107).b = some a108 ∧ (0 : Int) ≤ y93 ∧ y93 < ((x107).n : Int) ∧ (
 ∃ x113 : ByteArray, cell H_7 (Addr.add a108 (y93.toNat * 2)) = some (.string x113) ∧ (
 ((seq x113 y92) = true → (F23 y98 H_7 (fun (r117 : ByteArray) (H115 : Hp) => 
 (S_a).size + (r117).size ≤ 9223372036854775807 ∧ (
 F8_8 Q X3 X7 y94 y95 y96 y97 y98 y93 (S_a ++ r117) H115)))) ∧
 ((seq x113 y92) = false → (F8_8 Q X3 X7 y94 y95 y96 y97 y98 y93 y92 H_7))))))) ∧
 ((decide (y93 < y98)) = false → (F8_6 Q X3 y94 y95 y96 y97 y98 y92 H_7))
def F8_L7 (Q : ByteArray → Sl → Hp → Prop) (X3 : Int → Hp → Prop) (y94 : Sl) (y95 : Sl) (y96 : Addr) (y97 : Addr) (y98 : Int) (y92 : ByteArray) (y93 : Int) (H_7 : Hp) : Prop :=
  ∀ X7 : ByteArray → Int → Hp → Prop, (∀ (y92 : ByteArray) (y93 : Int) (H_7 : Hp), F8_L7b Q X3 X7 y94 y95 y96 y97 y98 y92 y93 H_7 → X7 y92 y93 H_7) → X7 y92 y93 H_7
def F8_4 (Q : ByteArray → Sl → Hp → Prop) (X3 : Int → Hp → Prop) (y30 : Sl) (y31 : Sl) (y32 : Addr) (y33 : Addr) (y34 : Int) (y86 : ByteArray) (H_4 : Hp) : Prop :=
F8_L7 Q X3 y30 y31 y32 y33 y34 y86 0 H_4
def F8_5 (Q : ByteArray → Sl → Hp → Prop) (X3 : Int → Hp → Prop) (y35 : Sl) (y36 : Sl) (y37 : Addr) (y38 : Addr) (y39 : Int) (y40 : ByteArray) (y78 : Bool) (H_5 : Hp) : Prop :=
(y78 = true → (∃ a80 : Addr, (y35).b = some a80 ∧ (0 : Int) ≤ y39 ∧ y39 < ((y35).n : Int) ∧ (
 ∃ x85 : ByteArray, cell H_5 (Addr.add a80 (y39.toNat * 1)) = some (.string x85) ∧ (
 F8_4 Q X3 y35 y36 y37 y38 y39 x85 H_5)))) ∧
 (y78 = false → (F8_4 Q X3 y35 y36 y37 y38 y39 y40 H_5))
def F8_L3b (Q : ByteArray → Sl → Hp → Prop) (X3 : Int → Hp → Prop) (y19 : Sl) (y20 : Sl) (y21 : Addr) (y22 : Addr) (y18 : Int) (H_3 : Hp) : Prop :=
((decide (y18 < ((y20).n : Int))) = true → (((decide (y18 < 16)) = true → (F23 y18 H_3 (fun (r28 : ByteArray) (H26 : Hp) => 
 (S_a).size + (r28).size ≤ 9223372036854775807 ∧ (
 ((decide (y18 < ((y19).n : Int))) = true → (∃ a43 : Addr, (y19).b = some a43 ∧ (0 : Int) ≤ y18 ∧ y18 < ((y19).n : Int) ∧ (
 ∃ x48 : ByteArray, cell H26 (Addr.add a43 (y18.toNat * 1)) = some (.string x48) ∧ (
 F17 x48 H26 (fun (r51 : Bool) (H49 : Hp) => 
 (r51 = true → (∃ a54 : Addr, (y19).b = some a54 ∧ (0 : Int) ≤ y18 ∧ y18 < ((y19).n : Int) ∧ (
 ∃ x59 : ByteArray, cell H49 (Addr.add a54 (y18.toNat * 1)) = some (.string x59) ∧ (
 ((decide ((0 : Int) < ((x59).size : Int))) = true → (∃ a62 : Addr, (y19).b = some a62 ∧ (0 : Int) ≤ y18 ∧ y18 < ((y19).n : Int) ∧ (
 ∃ x67 : ByteArray, cell H49 (Addr.add a62 (y18.toNat * 1)) = some (.string x67) ∧ (
 (0 : Int) ≤ 0 ∧ (0 : Int).toNat < (x67).size ∧ (
 ((decide ((98 : Int) ≤ (bt x67 (0 : Int).toNat))) = true → (∃ a72 : Addr, (y19).b = some a72 ∧ (0 : Int) ≤ y18 ∧ y18 < ((y19).n : Int) ∧ (
 ∃ x77 : ByteArray, cell H49 (Addr.add a72 (y18.toNat * 1)) = some (.string x77) ∧ (
 F8_5 Q X3 y19 y20 y21 y22 y18 (S_a ++ r28) (!(seq x77 S_time)) H49)))) ∧
 ((decide ((98 : Int) ≤ (bt x67 (0 : Int).toNat))) = false → (F8_5 Q X3 y19 y20 y21 y22 y18 (S_a ++ r28) false H49))))))) ∧
 ((decide ((0 : Int) < ((x59).size : Int))) = false → (F8_5 Q X3 y19 y20 y21 y22 y18 (S_a ++ r28) false H49)))))) ∧
 (r51 = false → (F8_5 Q X3 y19 y20 y21 y22 y18 (S_a ++ r28) false H49))))))) ∧
 ((decide (y18 < ((y19).n : Int))) = false → (F8_5 Q X3 y19 y20 y21 y22 y18 (S_a ++ r28) false H26)))))) ∧
 ((decide (y18 < 16)) = false → (F8_2 Q y21 y22 H_3)))) ∧
 ((decide (y18 < ((y20).n : Int))) = false → (F8_2 Q y21 y22 H_3))
def F8_L3 (Q : ByteArray → Sl → Hp → Prop) (y19 : Sl) (y20 : Sl) (y21 : Addr) (y22 : Addr) (y18 : Int) (H_3 : Hp) : Prop :=
  ∀ X3 : Int → Hp → Prop, (∀ (y18 : Int) (H_3 : Hp), F8_L3b Q X3 y19 y20 y21 y22 y18 H_3 → X3 y18 H_3) → X3 y18 H_3
def F8_1 (Q : ByteArray → Sl → Hp → Prop) (y3 : Sl) (y4 : Sl) (y5 : Addr) (y10 : ByteArray) (H_1 : Hp) : Prop :=
∀ H11 : Hp, H11 = Array.push H_1 (.cells #[(.string (ByteArray.mk #[])), (Sl.v Sl.nil)] 27) → (
 mayw H11 ⟨H_1.size, 0, none⟩ 2 0 ∧ ∀ H13 : Hp, H13 = sets H11 ⟨H_1.size, 0, none⟩ [(.string y10), (Sl.v Sl.nil)] 0 → (
 F8_L3 Q y3 y4 y5 ⟨H_1.size, 0, none⟩ 0 H13))
def F8 (p0 : ByteArray) (p1 : Sl) (p2 : Sl) (H : Hp) (Q : ByteArray → Sl → Hp → Prop) : Prop :=
∀ H1 : Hp, H1 = Array.push H (.cells #[(.string (ByteArray.mk #[])), (Sl.v Sl.nil)] 27) → (
 F17 p0 H1 (fun (r8 : Bool) (H6 : Hp) => 
 ((!r8) = true → (F8_1 Q p1 p2 ⟨H.size, 0, none⟩ S_T H6)) ∧
 ((!r8) = false → (F8_1 Q p1 p2 ⟨H.size, 0, none⟩ p0 H6))))
set_option maxRecDepth 100000 in
set_option maxHeartbeats 4000000 in
theorem walk8 {w0 : World} {p0 : ByteArray} {p1 : Sl} {p2 : Sl} {H : Hp} {Q : ByteArray → Sl → Hp → Prop} (h : F8 p0 p1 p2 H Q) :
    Good Tryd.prog w0 8 #[(.string p0), (Sl.v p1), (Sl.v p2)] H (fun v H => ∃ (r0 : ByteArray) (r1 : Sl) , v = (.agg #[(.string r0), (Sl.v r1)]) ∧ Q r0 r1 H) := by
  unfold F8 at h
  refine Good.enter' (fn := Tryd.f8) Tryd.func8 rfl rfl rfl ?_
  refine HW.seq ?_
  refine HW.region ?_
  refine HList.ops' rfl (HOp.alloc Tryd.zeroValue27) ?_
  rintro _ H1 ⟨rfl, e2⟩
  replace h := h H1 e2
  refine HList.nil ?_
  refine nt ?_
  refine HW.cut (fun ρ H_1 => ∃ (y10 : ByteArray), Env.Is ρ [(1, (Sl.v p1)), (2, (Sl.v p2)), (6, (.pointer (some ⟨H.size, 0, none⟩))), (0, (.string y10))] ∧ F8_1 Q p1 p2 ⟨H.size, 0, none⟩ y10 H_1) ?_ ?_
  · refine HW.seq ?_
    refine HW.region ?_
    refine HList.vals (v := (.string p0)) rfl (HVal.move' rfl) ?_
    refine HList.ops' rfl (HOp.call' 17 [(.string p0)] (cap := []) rfl rfl Tryd.call17 (walk17 h)) ?_
    rintro _ H6 ⟨r8, rfl, h⟩
    refine HList.vals (v := (.bool (!r8))) rfl (HVal.not rfl) ?_
    refine HList.nil ?_
    refine nt ?_
    obtain ⟨hT, hF⟩ := h
    refine HW.cond (!r8) rfl (fun hb9 => ?_) (fun hb9 => ?_)
    · have h := hT hb9
      clear hT hF
      refine HW.region ?_
      refine HList.vals (v := (.string S_T)) rfl (HVal.assign' rfl) ?_
      refine HList.nil ?_
      refine nt ?_
      exact ⟨S_T, ⟨rfl, rfl, rfl, rfl, trivial⟩, h⟩
    · have h := hF hb9
      clear hT hF
      refine HW.skip ?_
      refine nt ?_
      exact ⟨p0, ⟨rfl, rfl, rfl, rfl, trivial⟩, h⟩
  · rintro ρ H_1 ⟨y10, hI, h⟩
    obtain ⟨ρ0, rfl⟩ : ∃ ρ0, ρ = (Env.set (Env.set (Env.set (Env.set ρ0 0 (.string y10)) 6 (.pointer (some ⟨H.size, 0, none⟩))) 2 (Sl.v p2)) 1 (Sl.v p1)) := ⟨ρ, hI.eq⟩
    clear hI; unfold F8_1 at h
    refine HW.seq ?_
    refine HW.region ?_
    refine HList.vals (v := (.string y10)) rfl (HVal.move' rfl) ?_
    refine HList.vals (v := (.agg #[(.string y10), (Sl.v Sl.nil)])) rfl (HVal.build' (cs := [(.string y10), (Sl.v Sl.nil)]) Tryd.runUnderlying27 Tryd.zeroValue27 places27 rfl) ?_
    refine HList.ops' rfl (HOp.alloc Tryd.zeroValue27) ?_
    rintro _ H11 ⟨rfl, e12⟩
    replace h := h H11 e12
    obtain ⟨z15, h⟩ := h
    refine HList.opsn (HOp.storeN' (l := [(.string y10), (Sl.v Sl.nil)]) Tryd.sizeOf27 rfl rfl rfl z15) ?_
    rintro _ H13 e14
    replace h := h H13 e14
    refine HList.nil ?_
    refine nt ?_
    refine HW.cut (fun ρ H_2 => Env.Is ρ [(6, (.pointer (some ⟨H.size, 0, none⟩))), (7, (.pointer (some ⟨H_1.size, 0, none⟩)))] ∧ F8_2 Q ⟨H.size, 0, none⟩ ⟨H_1.size, 0, none⟩ H_2) ?_ ?_
    · refine HW.seq ?_
      refine HW.region ?_
      refine HList.vals (v := (.int .i64 0)) rfl (HVal.assign' rfl) ?_
      refine HList.nil ?_
      refine nt ?_
      refine HW.block ?_
      refine HW.loop' (fun L3 hL3 => ?_)
      obtain ⟨X3, hX3⟩ : ∃ X3 : Int → Hp → Prop, ∀ (y18 : Int) (H_3 : Hp), X3 y18 H_3 ↔ ∀ ρ, Env.Is ρ [(1, (Sl.v p1)), (2, (Sl.v p2)), (6, (.pointer (some ⟨H.size, 0, none⟩))), (7, (.pointer (some ⟨H_1.size, 0, none⟩))), (8, (.int .i64 y18))] → L3 ρ H_3 := ⟨_, fun _ _ => Iff.rfl⟩
      refine (hX3 _ _).1 (h X3 ?_) _ ?_
      rotate_left
      · exact ⟨rfl, rfl, rfl, rfl, rfl, trivial⟩
      clear h
      intro y18 H_3 h
      refine (hX3 _ _).2 fun ρ hI => ?_
      obtain ⟨ρ0, rfl⟩ : ∃ ρ0, ρ = (Env.set (Env.set (Env.set (Env.set (Env.set ρ0 8 (.int .i64 y18)) 7 (.pointer (some ⟨H_1.size, 0, none⟩))) 6 (.pointer (some ⟨H.size, 0, none⟩))) 2 (Sl.v p2)) 1 (Sl.v p1)) := ⟨ρ, hI.eq⟩
      clear hI; unfold F8_L3b at h; refine hL3 _ _ ?_
      refine HW.seq ?_
      refine HW.seq ?_
      refine HW.region ?_
      refine HList.vals (v := (.int .i64 y18)) rfl (HVal.move' rfl) ?_
      refine HList.vals (v := (Sl.v p2)) rfl (HVal.move' rfl) ?_
      refine HList.vals (v := (.int .i64 ((p2).n : Int))) rfl (HVal.len Tryd.runUnderlying22 rfl) ?_
      refine HList.vals (v := (.bool (decide (y18 < ((p2).n : Int))))) rfl (HVal.lss rfl rfl) ?_
      refine HList.vals (v := (.bool (decide (y18 < ((p2).n : Int))))) rfl (HVal.move' rfl) ?_
      obtain ⟨hT, hF⟩ := h
      rcases Bool.eq_false_or_eq_true (decide (y18 < ((p2).n : Int))) with hb23 | hb24
      · have h := hT hb23
        clear hT hF
        refine HList.gvals (v := (.int .i64 y18)) rfl rfl rfl rfl (congrArg Value.bool hb23) (HVal.move' rfl) ?_
        refine HList.gvals (v := (.bool (decide (y18 < 16)))) rfl rfl rfl rfl (congrArg Value.bool hb23) (HVal.lss rfl rfl) ?_
        refine HList.vals (v := (.bool (decide (y18 < 16)))) rfl (HVal.pickT rfl hb23 rfl) ?_
        refine HList.nil ?_
        refine nt ?_
        obtain ⟨hT, hF⟩ := h
        refine HW.cond (decide (y18 < 16)) rfl (fun hb25 => ?_) (fun hb25 => ?_)
        · have h := hT hb25
          clear hT hF
          refine HW.skip ?_
          refine nt ?_
          refine HW.seq ?_
          refine HW.block ?_
          refine HW.seq ?_
          refine HW.region ?_
          refine HList.vals (v := (.int .i64 y18)) rfl (HVal.move' rfl) ?_
          refine HList.ops' rfl (HOp.call' 23 [(.int .i64 y18)] (cap := []) rfl rfl Tryd.call23 (walk23 h)) ?_
          rintro _ H26 ⟨r28, rfl, h⟩
          obtain ⟨z29, h⟩ := h
          refine HList.vals (v := (.string (S_a ++ r28))) rfl (HVal.addS rfl rfl z29) ?_
          refine HList.vals (v := (.string (S_a ++ r28))) rfl (HVal.assign' rfl) ?_
          refine HList.nil ?_
          refine nt ?_
          refine HW.cut (fun ρ H_4 => ∃ (y86 : ByteArray), Env.Is ρ [(1, (Sl.v p1)), (2, (Sl.v p2)), (6, (.pointer (some ⟨H.size, 0, none⟩))), (7, (.pointer (some ⟨H_1.size, 0, none⟩))), (8, (.int .i64 y18)), (9, (.string y86))] ∧ F8_4 Q X3 p1 p2 ⟨H.size, 0, none⟩ ⟨H_1.size, 0, none⟩ y18 y86 H_4) ?_ ?_
          · refine HW.cut (fun ρ H_5 => ∃ (y78 : Bool), Env.Is ρ [(1, (Sl.v p1)), (2, (Sl.v p2)), (6, (.pointer (some ⟨H.size, 0, none⟩))), (7, (.pointer (some ⟨H_1.size, 0, none⟩))), (8, (.int .i64 y18)), (9, (.string (S_a ++ r28))), (62, (.bool y78))] ∧ F8_5 Q X3 p1 p2 ⟨H.size, 0, none⟩ ⟨H_1.size, 0, none⟩ y18 (S_a ++ r28) y78 H_5) ?_ ?_
            · refine HW.region ?_
              refine HList.vals (v := (.int .i64 y18)) rfl (HVal.move' rfl) ?_
              refine HList.vals (v := (Sl.v p1)) rfl (HVal.move' rfl) ?_
              refine HList.vals (v := (.int .i64 ((p1).n : Int))) rfl (HVal.len Tryd.runUnderlying42 rfl) ?_
              refine HList.vals (v := (.bool (decide (y18 < ((p1).n : Int))))) rfl (HVal.lss rfl rfl) ?_
              refine HList.vals (v := (.bool (decide (y18 < ((p1).n : Int))))) rfl (HVal.move' rfl) ?_
              obtain ⟨hT, hF⟩ := h
              rcases Bool.eq_false_or_eq_true (decide (y18 < ((p1).n : Int))) with hb41 | hb42
              · have h := hT hb41
                clear hT hF
                refine HList.gvals (v := (Sl.v p1)) rfl rfl rfl rfl (congrArg Value.bool hb41) (HVal.move' rfl) ?_
                refine HList.gvals (v := (.int .i64 y18)) rfl rfl rfl rfl (congrArg Value.bool hb41) (HVal.move' rfl) ?_
                obtain ⟨a43, e44, b45, b46, h⟩ := h
                refine HList.gvals (v := (.pointer (some (Addr.add a43 (y18.toNat * 1))))) rfl rfl rfl rfl (congrArg Value.bool hb41) (HVal.indexAddr Tryd.runUnderlying42 Tryd.sizeOf9 (Sl.v_some rfl e44) rfl b45 b46) ?_
                obtain ⟨x48, c47, h⟩ := h
                refine HList.gvals (v := (.string x48)) rfl rfl rfl rfl (congrArg Value.bool hb41) (HVal.load1 Tryd.isAgg9 rfl c47) ?_
                refine HList.gops rfl rfl rfl rfl (congrArg Value.bool hb41) (HOp.call' 17 [(.string x48)] (cap := []) rfl rfl Tryd.call17 (walk17 h)) ?_
                rintro _ H49 ⟨r51, rfl, h⟩
                refine HList.vals (v := (.bool r51)) rfl (HVal.pickT rfl hb41 rfl) ?_
                refine HList.vals (v := (.bool r51)) rfl (HVal.move' rfl) ?_
                obtain ⟨hT, hF⟩ := h
                rcases Bool.eq_false_or_eq_true r51 with hb52 | hb53
                · have h := hT hb52
                  clear hT hF
                  refine HList.gvals (v := (Sl.v p1)) rfl rfl rfl rfl (congrArg Value.bool hb52) (HVal.move' rfl) ?_
                  refine HList.gvals (v := (.int .i64 y18)) rfl rfl rfl rfl (congrArg Value.bool hb52) (HVal.move' rfl) ?_
                  obtain ⟨a54, e55, b56, b57, h⟩ := h
                  refine HList.gvals (v := (.pointer (some (Addr.add a54 (y18.toNat * 1))))) rfl rfl rfl rfl (congrArg Value.bool hb52) (HVal.indexAddr Tryd.runUnderlying42 Tryd.sizeOf9 (Sl.v_some rfl e55) rfl b56 b57) ?_
                  obtain ⟨x59, c58, h⟩ := h
                  refine HList.gvals (v := (.string x59)) rfl rfl rfl rfl (congrArg Value.bool hb52) (HVal.load1 Tryd.isAgg9 rfl c58) ?_
                  refine HList.gvals (v := (.int .i64 ((x59).size : Int))) rfl rfl rfl rfl (congrArg Value.bool hb52) (HVal.lenS Tryd.runUnderlying9 rfl) ?_
                  refine HList.gvals (v := (.bool (decide ((0 : Int) < ((x59).size : Int))))) rfl rfl rfl rfl (congrArg Value.bool hb52) (HVal.gtr rfl rfl) ?_
                  refine HList.vals (v := (.bool (decide ((0 : Int) < ((x59).size : Int))))) rfl (HVal.pickT rfl hb52 rfl) ?_
                  refine HList.vals (v := (.bool (decide ((0 : Int) < ((x59).size : Int))))) rfl (HVal.move' rfl) ?_
                  obtain ⟨hT, hF⟩ := h
                  rcases Bool.eq_false_or_eq_true (decide ((0 : Int) < ((x59).size : Int))) with hb60 | hb61
                  · have h := hT hb60
                    clear hT hF
                    refine HList.gvals (v := (Sl.v p1)) rfl rfl rfl rfl (congrArg Value.bool hb60) (HVal.move' rfl) ?_
                    refine HList.gvals (v := (.int .i64 y18)) rfl rfl rfl rfl (congrArg Value.bool hb60) (HVal.move' rfl) ?_
                    obtain ⟨a62, e63, b64, b65, h⟩ := h
                    refine HList.gvals (v := (.pointer (some (Addr.add a62 (y18.toNat * 1))))) rfl rfl rfl rfl (congrArg Value.bool hb60) (HVal.indexAddr Tryd.runUnderlying42 Tryd.sizeOf9 (Sl.v_some rfl e63) rfl b64 b65) ?_
                    obtain ⟨x67, c66, h⟩ := h
                    refine HList.gvals (v := (.string x67)) rfl rfl rfl rfl (congrArg Value.bool hb60) (HVal.load1 Tryd.isAgg9 rfl c66) ?_
                    obtain ⟨b68, b69, h⟩ := h
                    refine HList.gvals (v := (.int .u8 (bt x67 (0 : Int).toNat))) rfl rfl rfl rfl (congrArg Value.bool hb60) (HVal.indexS' Tryd.runUnderlying9 rfl rfl b68 b69) ?_
                    refine HList.gvals (v := (.bool (decide ((98 : Int) ≤ (bt x67 (0 : Int).toNat))))) rfl rfl rfl rfl (congrArg Value.bool hb60) (HVal.geq rfl rfl) ?_
                    refine HList.vals (v := (.bool (decide ((98 : Int) ≤ (bt x67 (0 : Int).toNat))))) rfl (HVal.pickT rfl hb60 rfl) ?_
                    refine HList.vals (v := (.bool (decide ((98 : Int) ≤ (bt x67 (0 : Int).toNat))))) rfl (HVal.move' rfl) ?_
                    obtain ⟨hT, hF⟩ := h
                    rcases Bool.eq_false_or_eq_true (decide ((98 : Int) ≤ (bt x67 (0 : Int).toNat))) with hb70 | hb71
                    · have h := hT hb70
                      clear hT hF
                      refine HList.gvals (v := (Sl.v p1)) rfl rfl rfl rfl (congrArg Value.bool hb70) (HVal.move' rfl) ?_
                      refine HList.gvals (v := (.int .i64 y18)) rfl rfl rfl rfl (congrArg Value.bool hb70) (HVal.move' rfl) ?_
                      obtain ⟨a72, e73, b74, b75, h⟩ := h
                      refine HList.gvals (v := (.pointer (some (Addr.add a72 (y18.toNat * 1))))) rfl rfl rfl rfl (congrArg Value.bool hb70) (HVal.indexAddr Tryd.runUnderlying42 Tryd.sizeOf9 (Sl.v_some rfl e73) rfl b74 b75) ?_
                      obtain ⟨x77, c76, h⟩ := h
                      refine HList.gvals (v := (.string x77)) rfl rfl rfl rfl (congrArg Value.bool hb70) (HVal.load1 Tryd.isAgg9 rfl c76) ?_
                      refine HList.gvals (v := (.bool (!(seq x77 S_time)))) rfl rfl rfl rfl (congrArg Value.bool hb70) (HVal.neqS rfl rfl) ?_
                      refine HList.vals (v := (.bool (!(seq x77 S_time)))) rfl (HVal.pickT rfl hb70 rfl) ?_
                      refine HList.nil ?_
                      refine nt ?_
                      exact ⟨(!(seq x77 S_time)), ⟨rfl, rfl, rfl, rfl, rfl, rfl, rfl, trivial⟩, h⟩
                    · have h := hF hb71
                      clear hT hF
                      refine HList.gskips rfl rfl rfl rfl (congrArg Value.bool hb71) ?_
                      refine HList.gskips rfl rfl rfl rfl (congrArg Value.bool hb71) ?_
                      refine HList.gskips rfl rfl rfl rfl (congrArg Value.bool hb71) ?_
                      refine HList.gskips rfl rfl rfl rfl (congrArg Value.bool hb71) ?_
                      refine HList.gskips rfl rfl rfl rfl (congrArg Value.bool hb71) ?_
                      refine HList.vals (v := (.bool false)) rfl (HVal.pickF rfl hb71 rfl) ?_
                      refine HList.nil ?_
                      refine nt ?_
                      exact ⟨false, ⟨rfl, rfl, rfl, rfl, rfl, rfl, rfl, trivial⟩, h⟩
                  · have h := hF hb61
                    clear hT hF
                    refine HList.gskips rfl rfl rfl rfl (congrArg Value.bool hb61) ?_
                    refine HList.gskips rfl rfl rfl rfl (congrArg Value.bool hb61) ?_
                    refine HList.gskips rfl rfl rfl rfl (congrArg Value.bool hb61) ?_
                    refine HList.gskips rfl rfl rfl rfl (congrArg Value.bool hb61) ?_
                    refine HList.gskips rfl rfl rfl rfl (congrArg Value.bool hb61) ?_
                    refine HList.gskips rfl rfl rfl rfl (congrArg Value.bool hb61) ?_
                    refine HList.vals (v := (.bool false)) rfl (HVal.pickF rfl hb61 rfl) ?_
                    refine HList.vals (v := (.bool false)) rfl (HVal.move' rfl) ?_
                    refine HList.gskips rfl rfl rfl rfl rfl ?_
                    refine HList.gskips rfl rfl rfl rfl rfl ?_
                    refine HList.gskips rfl rfl rfl rfl rfl ?_
                    refine HList.gskips rfl rfl rfl rfl rfl ?_
                    refine HList.gskips rfl rfl rfl rfl rfl ?_
                    refine HList.vals (v := (.bool false)) rfl (HVal.pickF rfl rfl rfl) ?_
                    refine HList.nil ?_
                    refine nt ?_
                    exact ⟨false, ⟨rfl, rfl, rfl, rfl, rfl, rfl, rfl, trivial⟩, h⟩
                · have h := hF hb53
                  clear hT hF
                  refine HList.gskips rfl rfl rfl rfl (congrArg Value.bool hb53) ?_
                  refine HList.gskips rfl rfl rfl rfl (congrArg Value.bool hb53) ?_
                  refine HList.gskips rfl rfl rfl rfl (congrArg Value.bool hb53) ?_
                  refine HList.gskips rfl rfl rfl rfl (congrArg Value.bool hb53) ?_
                  refine HList.gskips rfl rfl rfl rfl (congrArg Value.bool hb53) ?_
                  refine HList.gskips rfl rfl rfl rfl (congrArg Value.bool hb53) ?_
                  refine HList.vals (v := (.bool false)) rfl (HVal.pickF rfl hb53 rfl) ?_
                  refine HList.vals (v := (.bool false)) rfl (HVal.move' rfl) ?_
                  refine HList.gskips rfl rfl rfl rfl rfl ?_
                  refine HList.gskips rfl rfl rfl rfl rfl ?_
                  refine HList.gskips rfl rfl rfl rfl rfl ?_
                  refine HList.gskips rfl rfl rfl rfl rfl ?_
                  refine HList.gskips rfl rfl rfl rfl rfl ?_
                  refine HList.gskips rfl rfl rfl rfl rfl ?_
                  refine HList.vals (v := (.bool false)) rfl (HVal.pickF rfl rfl rfl) ?_
                  refine HList.vals (v := (.bool false)) rfl (HVal.move' rfl) ?_
                  refine HList.gskips rfl rfl rfl rfl rfl ?_
                  refine HList.gskips rfl rfl rfl rfl rfl ?_
                  refine HList.gskips rfl rfl rfl rfl rfl ?_
                  refine HList.gskips rfl rfl rfl rfl rfl ?_
                  refine HList.gskips rfl rfl rfl rfl rfl ?_
                  refine HList.vals (v := (.bool false)) rfl (HVal.pickF rfl rfl rfl) ?_
                  refine HList.nil ?_
                  refine nt ?_
                  exact ⟨false, ⟨rfl, rfl, rfl, rfl, rfl, rfl, rfl, trivial⟩, h⟩
              · have h := hF hb42
                clear hT hF
                refine HList.gskips rfl rfl rfl rfl (congrArg Value.bool hb42) ?_
                refine HList.gskips rfl rfl rfl rfl (congrArg Value.bool hb42) ?_
                refine HList.gskips rfl rfl rfl rfl (congrArg Value.bool hb42) ?_
                refine HList.gskips rfl rfl rfl rfl (congrArg Value.bool hb42) ?_
                refine HList.gskips rfl rfl rfl rfl (congrArg Value.bool hb42) ?_
                refine HList.vals (v := (.bool false)) rfl (HVal.pickF rfl hb42 rfl) ?_
                refine HList.vals (v := (.bool false)) rfl (HVal.move' rfl) ?_
                refine HList.gskips rfl rfl rfl rfl rfl ?_
                refine HList.gskips rfl rfl rfl rfl rfl ?_
                refine HList.gskips rfl rfl rfl rfl rfl ?_
                refine HList.gskips rfl rfl rfl rfl rfl ?_
                refine HList.gskips rfl rfl rfl rfl rfl ?_
                refine HList.gskips rfl rfl rfl rfl rfl ?_
                refine HList.vals (v := (.bool false)) rfl (HVal.pickF rfl rfl rfl) ?_
                refine HList.vals (v := (.bool false)) rfl (HVal.move' rfl) ?_
                refine HList.gskips rfl rfl rfl rfl rfl ?_
                refine HList.gskips rfl rfl rfl rfl rfl ?_
                refine HList.gskips rfl rfl rfl rfl rfl ?_
                refine HList.gskips rfl rfl rfl rfl rfl ?_
                refine HList.gskips rfl rfl rfl rfl rfl ?_
                refine HList.gskips rfl rfl rfl rfl rfl ?_
                refine HList.vals (v := (.bool false)) rfl (HVal.pickF rfl rfl rfl) ?_
                refine HList.vals (v := (.bool false)) rfl (HVal.move' rfl) ?_
                refine HList.gskips rfl rfl rfl rfl rfl ?_
                refine HList.gskips rfl rfl rfl rfl rfl ?_
                refine HList.gskips rfl rfl rfl rfl rfl ?_
                refine HList.gskips rfl rfl rfl rfl rfl ?_
                refine HList.gskips rfl rfl rfl rfl rfl ?_
                refine HList.vals (v := (.bool false)) rfl (HVal.pickF rfl rfl rfl) ?_
                refine HList.nil ?_
                refine nt ?_
                exact ⟨false, ⟨rfl, rfl, rfl, rfl, rfl, rfl, rfl, trivial⟩, h⟩
            · rintro ρ H_5 ⟨y78, hI, h⟩
              obtain ⟨ρ0, rfl⟩ : ∃ ρ0, ρ = (Env.set (Env.set (Env.set (Env.set (Env.set (Env.set (Env.set ρ0 62 (.bool y78)) 9 (.string (S_a ++ r28))) 8 (.int .i64 y18)) 7 (.pointer (some ⟨H_1.size, 0, none⟩))) 6 (.pointer (some ⟨H.size, 0, none⟩))) 2 (Sl.v p2)) 1 (Sl.v p1)) := ⟨ρ, hI.eq⟩
              clear hI; unfold F8_5 at h
              obtain ⟨hT, hF⟩ := h
              refine HW.cond y78 rfl (fun hb79 => ?_) (fun hb79 => ?_)
              · have h := hT hb79
                clear hT hF
                refine HW.region ?_
                refine HList.vals (v := (Sl.v p1)) rfl (HVal.move' rfl) ?_
                refine HList.vals (v := (.int .i64 y18)) rfl (HVal.move' rfl) ?_
                obtain ⟨a80, e81, b82, b83, h⟩ := h
                refine HList.vals (v := (.pointer (some (Addr.add a80 (y18.toNat * 1))))) rfl (HVal.indexAddr Tryd.runUnderlying42 Tryd.sizeOf9 (Sl.v_some rfl e81) rfl b82 b83) ?_
                obtain ⟨x85, c84, h⟩ := h
                refine HList.vals (v := (.string x85)) rfl (HVal.load1 Tryd.isAgg9 rfl c84) ?_
                refine HList.vals (v := (.string x85)) rfl (HVal.assign' rfl) ?_
                refine HList.nil ?_
                refine nt ?_
                exact ⟨x85, ⟨rfl, rfl, rfl, rfl, rfl, rfl, trivial⟩, h⟩
              · have h := hF hb79
                clear hT hF
                refine HW.skip ?_
                refine nt ?_
                exact ⟨(S_a ++ r28), ⟨rfl, rfl, rfl, rfl, rfl, rfl, trivial⟩, h⟩
          · rintro ρ H_4 ⟨y86, hI, h⟩
            obtain ⟨ρ0, rfl⟩ : ∃ ρ0, ρ = (Env.set (Env.set (Env.set (Env.set (Env.set (Env.set ρ0 9 (.string y86)) 8 (.int .i64 y18)) 7 (.pointer (some ⟨H_1.size, 0, none⟩))) 6 (.pointer (some ⟨H.size, 0, none⟩))) 2 (Sl.v p2)) 1 (Sl.v p1)) := ⟨ρ, hI.eq⟩
            clear hI; unfold F8_4 at h
            refine HW.cut (fun ρ H_6 => ∃ (y120 : ByteArray), Env.Is ρ [(1, (Sl.v p1)), (2, (Sl.v p2)), (6, (.pointer (some ⟨H.size, 0, none⟩))), (7, (.pointer (some ⟨H_1.size, 0, none⟩))), (8, (.int .i64 y18)), (9, (.string y120))] ∧ F8_6 Q X3 p1 p2 ⟨H.size, 0, none⟩ ⟨H_1.size, 0, none⟩ y18 y120 H_6) ?_ ?_
            · refine HW.seq ?_
              refine HW.region ?_
              refine HList.vals (v := (.int .i64 0)) rfl (HVal.assign' rfl) ?_
              refine HList.nil ?_
              refine nt ?_
              refine HW.block ?_
              refine HW.loop' (fun L7 hL7 => ?_)
              obtain ⟨X7, hX7⟩ : ∃ X7 : ByteArray → Int → Hp → Prop, ∀ (y92 : ByteArray) (y93 : Int) (H_7 : Hp), X7 y92 y93 H_7 ↔ ∀ ρ, Env.Is ρ [(1, (Sl.v p1)), (2, (Sl.v p2)), (6, (.pointer (some ⟨H.size, 0, none⟩))), (7, (.pointer (some ⟨H_1.size, 0, none⟩))), (8, (.int .i64 y18)), (9, (.string y92)), (10, (.int .i64 y93))] → L7 ρ H_7 := ⟨_, fun _ _ _ => Iff.rfl⟩
              refine (hX7 _ _ _).1 (h X7 ?_) _ ?_
              rotate_left
              · exact ⟨rfl, rfl, rfl, rfl, rfl, rfl, rfl, trivial⟩
              clear h
              intro y92 y93 H_7 h
              refine (hX7 _ _ _).2 fun ρ hI => ?_
              obtain ⟨ρ0, rfl⟩ : ∃ ρ0, ρ = (Env.set (Env.set (Env.set (Env.set (Env.set (Env.set (Env.set ρ0 10 (.int .i64 y93)) 9 (.string y92)) 8 (.int .i64 y18)) 7 (.pointer (some ⟨H_1.size, 0, none⟩))) 6 (.pointer (some ⟨H.size, 0, none⟩))) 2 (Sl.v p2)) 1 (Sl.v p1)) := ⟨ρ, hI.eq⟩
              clear hI; unfold F8_L7b at h; refine hL7 _ _ ?_
              refine HW.seq ?_
              refine HW.seq ?_
              refine HW.region ?_
              refine HList.vals (v := (.int .i64 y93)) rfl (HVal.move' rfl) ?_
              refine HList.vals (v := (.int .i64 y18)) rfl (HVal.move' rfl) ?_
              refine HList.vals (v := (.bool (decide (y93 < y18)))) rfl (HVal.lss rfl rfl) ?_
              refine HList.nil ?_
              refine nt ?_
              obtain ⟨hT, hF⟩ := h
              refine HW.cond (decide (y93 < y18)) rfl (fun hb99 => ?_) (fun hb99 => ?_)
              · have h := hT hb99
                clear hT hF
                refine HW.skip ?_
                refine nt ?_
                refine HW.cut (fun ρ H_8 => ∃ (y119 : ByteArray), Env.Is ρ [(1, (Sl.v p1)), (2, (Sl.v p2)), (6, (.pointer (some ⟨H.size, 0, none⟩))), (7, (.pointer (some ⟨H_1.size, 0, none⟩))), (8, (.int .i64 y18)), (10, (.int .i64 y93)), (9, (.string y119))] ∧ F8_8 Q X3 X7 p1 p2 ⟨H.size, 0, none⟩ ⟨H_1.size, 0, none⟩ y18 y93 y119 H_8) ?_ ?_
                · refine HW.block ?_
                  refine HW.seq ?_
                  refine HW.region ?_
                  refine HList.vals (v := (.pointer (some (Addr.add ⟨H_1.size, 0, none⟩ 1)))) rfl (HVal.fieldAddr' Tryd.runUnderlying27 rfl rfl Tryd.sizeOf25 rfl) ?_
                  obtain ⟨x107, c106, h⟩ := h
                  refine HList.vals (v := (Sl.v x107)) rfl (HVal.load1 Tryd.isAgg25 rfl c106) ?_
                  refine HList.vals (v := (.int .i64 y93)) rfl (HVal.move' rfl) ?_
                  obtain ⟨a108, e109, b110, b111, h⟩ := h
                  refine HList.vals (v := (.pointer (some (Addr.add a108 (y93.toNat * 2))))) rfl (HVal.indexAddr Tryd.runUnderlying25 Tryd.sizeOf38 (Sl.v_some rfl e109) rfl b110 b111) ?_
                  refine HList.vals (v := (.pointer (some (Addr.add a108 (y93.toNat * 2))))) rfl (HVal.fieldAddr0 Tryd.runUnderlying38 rfl rfl Tryd.sizeOf9 rfl) ?_
                  obtain ⟨x113, c112, h⟩ := h
                  refine HList.vals (v := (.string x113)) rfl (HVal.load1 Tryd.isAgg9 rfl c112) ?_
                  refine HList.vals (v := (.string y92)) rfl (HVal.move' rfl) ?_
                  refine HList.vals (v := (.bool (seq x113 y92))) rfl (HVal.eqlS rfl rfl) ?_
                  refine HList.nil ?_
                  refine nt ?_
                  obtain ⟨hT, hF⟩ := h
                  refine HW.cond (seq x113 y92) rfl (fun hb114 => ?_) (fun hb114 => ?_)
                  · have h := hT hb114
                    clear hT hF
                    refine HW.region ?_
                    refine HList.vals (v := (.int .i64 y18)) rfl (HVal.move' rfl) ?_
                    refine HList.ops' rfl (HOp.call' 23 [(.int .i64 y18)] (cap := []) rfl rfl Tryd.call23 (walk23 h)) ?_
                    rintro _ H115 ⟨r117, rfl, h⟩
                    obtain ⟨z118, h⟩ := h
                    refine HList.vals (v := (.string (S_a ++ r117))) rfl (HVal.addS rfl rfl z118) ?_
                    refine HList.vals (v := (.string (S_a ++ r117))) rfl (HVal.assign' rfl) ?_
                    refine HList.nil ?_
                    refine nb ?_
                    refine nt ?_
                    exact ⟨(S_a ++ r117), ⟨rfl, rfl, rfl, rfl, rfl, rfl, rfl, trivial⟩, h⟩
                  · have h := hF hb114
                    clear hT hF
                    refine HW.skip ?_
                    refine nb ?_
                    refine nt ?_
                    exact ⟨y92, ⟨rfl, rfl, rfl, rfl, rfl, rfl, rfl, trivial⟩, h⟩
                · rintro ρ H_8 ⟨y119, hI, h⟩
                  obtain ⟨ρ0, rfl⟩ : ∃ ρ0, ρ = (Env.set (Env.set (Env.set (Env.set (Env.set (Env.set (Env.set ρ0 9 (.string y119)) 10 (.int .i64 y93)) 8 (.int .i64 y18)) 7 (.pointer (some ⟨H_1.size, 0, none⟩))) 6 (.pointer (some ⟨H.size, 0, none⟩))) 2 (Sl.v p2)) 1 (Sl.v p1)) := ⟨ρ, hI.eq⟩
                  clear hI; unfold F8_8 at h
                  refine HW.region ?_
                  refine HList.vals (v := (.int .i64 y93)) rfl (HVal.move' rfl) ?_
                  refine HList.vals (v := (.int .i64 (IntKind.i64.wrap (y93 + 1)))) rfl (HVal.add rfl rfl) ?_
                  refine HList.vals (v := (.int .i64 (IntKind.i64.wrap (y93 + 1)))) rfl (HVal.assign' rfl) ?_
                  refine HList.nil ?_
                  refine nt ?_
                  exact (hX7 _ _ _).1 h _ ⟨rfl, rfl, rfl, rfl, rfl, rfl, rfl, trivial⟩
              · have h := hF hb99
                clear hT hF
                refine HW.exit ?_
                refine te ?_
                refine te ?_
                refine be ?_
                refine nt ?_
                exact ⟨y92, ⟨rfl, rfl, rfl, rfl, rfl, rfl, trivial⟩, h⟩
            · rintro ρ H_6 ⟨y120, hI, h⟩
              obtain ⟨ρ0, rfl⟩ : ∃ ρ0, ρ = (Env.set (Env.set (Env.set (Env.set (Env.set (Env.set ρ0 9 (.string y120)) 8 (.int .i64 y18)) 7 (.pointer (some ⟨H_1.size, 0, none⟩))) 6 (.pointer (some ⟨H.size, 0, none⟩))) 2 (Sl.v p2)) 1 (Sl.v p1)) := ⟨ρ, hI.eq⟩
              clear hI; unfold F8_6 at h
              refine HW.draw mixed [(0, some []), (1, some [11, 13]), (2, some []), (3, some []), (4, some []), (5, some []), (6, some [7, 13]), (7, none), (8, some []), (9, some []), (10, none), (11, none), (12, some []), (13, none)] rfl (by kernel_rfl) (by kernel_rfl) ?_
              refine HPlan.takev (v := (.pointer (some (Addr.add ⟨H_1.size, 0, none⟩ 1)))) rfl rfl (fun _ => HVal.fieldAddr' Tryd.runUnderlying27 rfl rfl Tryd.sizeOf25 rfl) ?_
              obtain ⟨x122, c121, h⟩ := h
              refine HPlan.takel (v := (Sl.v x122)) (fun X => cell X (Addr.add ⟨H_1.size, 0, none⟩ 1) = some (Sl.v x122)) rfl rfl (fun _ hX => HVal.load1 Tryd.isAgg25 rfl hX) c121 ?_
              refine HPlan.takev (v := (.string y120)) rfl rfl (fun _ => HVal.move' rfl) ?_
              refine HPlan.takev (v := (Sl.v p2)) rfl rfl (fun _ => HVal.move' rfl) ?_
              refine HPlan.takev (v := (.int .i64 y18)) rfl rfl (fun _ => HVal.move' rfl) ?_
              obtain ⟨a123, e124, b125, b126, h⟩ := h
              refine HPlan.takev (v := (.pointer (some (Addr.add a123 (y18.toNat * 1))))) rfl rfl (fun _ => HVal.indexAddr Tryd.runUnderlying22 Tryd.sizeOf3 (Sl.v_some rfl e124) rfl b125 b126) ?_
              obtain ⟨x128, c127, h⟩ := h
              refine HPlan.takel (v := (.int .i64 x128)) (fun X => cell X (Addr.add a123 (y18.toNat * 1)) = some (.int .i64 x128)) rfl rfl (fun _ hX => HVal.load1 Tryd.isAgg3 rfl hX) c127 ?_
              refine HPlan.ops' rfl rfl (HOp.call' 12 [(.int .i64 x128), (.int .i64 3)] (cap := []) rfl rfl Tryd.call12 (walk12 h)) ?_
              rintro _ H129 ⟨r131, rfl, h⟩
              obtain ⟨s132, h⟩ := h
              refine ⟨SC_of ⟨fun e => absurd e (by decide), fun _ => s132, trivial⟩, ?_⟩
              refine HPlan.takev (v := (.int .i64 (IntKind.i64.wrap (1 + r131)))) rfl rfl (fun _ => HVal.add rfl rfl) ?_
              refine HPlan.takev (v := (.agg #[(.string y120), (.int .i64 (IntKind.i64.wrap (1 + r131)))])) rfl rfl (fun _ => HVal.build' (cs := [(.string y120), (.int .i64 (IntKind.i64.wrap (1 + r131)))]) Tryd.runUnderlying38 Tryd.zeroValue38 places38 rfl) ?_
              refine HPlan.ops' rfl rfl (HOp.buildSlice' (zs := [(.string (ByteArray.mk #[])), (.int .i64 0)]) (cs := [(.string y120), (.int .i64 (IntKind.i64.wrap (1 + r131)))]) Tryd.runUnderlying25 Tryd.sizeOf38 Tryd.zeroValue38 (by decide) (by kernel_rfl) rfl (by decide)) ?_
              rintro _ H133 ⟨rfl, e134⟩
              replace h := h H133 e134
              obtain ⟨s135, h⟩ := h
              refine ⟨SC_of ⟨fun e => absurd e (by decide), fun _ => s135, trivial⟩, ?_⟩
              refine HPlan.ops' rfl rfl (HOp.append (k := 2) (b := 24) Tryd.runUnderlying25 Tryd.runUnderlying25 Tryd.typeInfo38 rfl rfl Tryd.zeroValue38 rfl rfl h) ?_
              rintro _ H136 ⟨r138, rfl, h⟩
              refine ⟨SC_of ⟨fun e => absurd e (by decide), fun e => absurd e (by decide), trivial⟩, ?_⟩
              refine HPlan.takev (v := (.pointer (some (Addr.add ⟨H_1.size, 0, none⟩ 1)))) rfl rfl (fun _ => HVal.fieldAddr' Tryd.runUnderlying27 rfl rfl Tryd.sizeOf25 rfl) ?_
              obtain ⟨z141, z142, h⟩ := h
              refine HPlan.opsn rfl (HOp.store1 Tryd.sizeOf25 rfl rfl rfl z141 z142) ?_
              rintro _ H139 e140
              replace h := h H139 e140
              refine ⟨SC_of ⟨fun e => absurd e (by decide), fun e => absurd e (by decide), trivial⟩, ?_⟩
              refine HPlan.done ?_
              refine nb ?_
              refine nt ?_
              refine HW.region ?_
              refine HList.vals (v := (.int .i64 y18)) rfl (HVal.move' rfl) ?_
              refine HList.vals (v := (.int .i64 (IntKind.i64.wrap (y18 + 1)))) rfl (HVal.add rfl rfl) ?_
              refine HList.vals (v := (.int .i64 (IntKind.i64.wrap (y18 + 1)))) rfl (HVal.assign' rfl) ?_
              refine HList.nil ?_
              refine nt ?_
              exact (hX3 _ _).1 h _ ⟨rfl, rfl, rfl, rfl, rfl, trivial⟩
        · have h := hF hb25
          clear hT hF
          refine HW.exit ?_
          refine te ?_
          refine te ?_
          refine be ?_
          refine nt ?_
          exact ⟨⟨rfl, rfl, trivial⟩, h⟩
      · have h := hF hb24
        clear hT hF
        refine HList.gskips rfl rfl rfl rfl (congrArg Value.bool hb24) ?_
        refine HList.gskips rfl rfl rfl rfl (congrArg Value.bool hb24) ?_
        refine HList.vals (v := (.bool false)) rfl (HVal.pickF rfl hb24 rfl) ?_
        refine HList.nil ?_
        refine nt ?_
        refine HW.condF false rfl rfl ?_
        refine HW.exit ?_
        refine te ?_
        refine te ?_
        refine be ?_
        refine nt ?_
        exact ⟨⟨rfl, rfl, trivial⟩, h⟩
    · rintro ρ H_2 ⟨hI, h⟩
      obtain ⟨ρ0, rfl⟩ : ∃ ρ0, ρ = (Env.set (Env.set ρ0 7 (.pointer (some ⟨H_1.size, 0, none⟩))) 6 (.pointer (some ⟨H.size, 0, none⟩))) := ⟨ρ, hI.eq⟩
      clear hI; unfold F8_2 at h
      refine HW.seq ?_
      refine HW.region ?_
      obtain ⟨x144, x145, c143, h⟩ := h
      refine HList.vals (v := (.agg #[(.string x144), (Sl.v x145)])) rfl (HVal.loadN [(.string x144), (Sl.v x145)] Tryd.isAgg27 Tryd.sizeOf27 rfl c143) ?_
      obtain ⟨z148, h⟩ := h
      refine HList.opsn (HOp.storeN' (l := [(.string x144), (Sl.v x145)]) Tryd.sizeOf27 rfl rfl rfl z148) ?_
      rintro _ H146 e147
      replace h := h H146 e147
      refine HList.nil ?_
      refine nt ?_
      refine HW.ret ?_
      obtain ⟨x149, x150, c151, h⟩ := h
      exact ⟨_, resOf1 rfl (Res1.n [(.string x149), (Sl.v x150)] Tryd.isAgg27 Tryd.sizeOf27 rfl c151), ⟨x149, x150, rfl, h⟩⟩

def F52 (p0 : ByteArray) (H : Hp) (Q : Bool → Hp → Prop) : Prop :=
F17 p0 H (fun (r3 : Bool) (H1 : Hp) => 
 (r3 = true → (Q (!(seq p0 S_time)) H1)) ∧
 (r3 = false → (Q false H1)))
set_option maxRecDepth 100000 in
set_option maxHeartbeats 4000000 in
theorem walk52 {w0 : World} {p0 : ByteArray} {H : Hp} {Q : Bool → Hp → Prop} (h : F52 p0 H Q) :
    Good Tryd.prog w0 52 #[(.string p0)] H (fun v H => ∃ (r0 : Bool) , v = (.bool r0) ∧ Q r0 H) := by
  unfold F52 at h
  refine Good.enter' (fn := Tryd.f52) Tryd.func52 rfl rfl rfl ?_
  refine HW.seq ?_
  refine HW.region ?_
  refine HList.vals (v := (.bool false)) rfl (HVal.assign' rfl) ?_
  refine HList.nil ?_
  refine nt ?_
  refine HW.seq ?_
  refine HW.region ?_
  refine HList.vals (v := (.string p0)) rfl (HVal.move' rfl) ?_
  refine HList.ops' rfl (HOp.call' 17 [(.string p0)] (cap := []) rfl rfl Tryd.call17 (walk17 h)) ?_
  rintro _ H1 ⟨r3, rfl, h⟩
  refine HList.vals (v := (.bool r3)) rfl (HVal.move' rfl) ?_
  obtain ⟨hT, hF⟩ := h
  rcases Bool.eq_false_or_eq_true r3 with hb4 | hb5
  · have h := hT hb4
    clear hT hF
    refine HList.gvals (v := (.string p0)) rfl rfl rfl rfl (congrArg Value.bool hb4) (HVal.move' rfl) ?_
    refine HList.gvals (v := (.bool (!(seq p0 S_time)))) rfl rfl rfl rfl (congrArg Value.bool hb4) (HVal.neqS rfl rfl) ?_
    refine HList.vals (v := (.bool (!(seq p0 S_time)))) rfl (HVal.pickT rfl hb4 rfl) ?_
    refine HList.vals (v := (.bool (!(seq p0 S_time)))) rfl (HVal.assign' rfl) ?_
    refine HList.nil ?_
    refine nt ?_
    refine HW.ret ?_
    exact ⟨_, resOf1 rfl Res1.t, ⟨(!(seq p0 S_time)), rfl, h⟩⟩
  · have h := hF hb5
    clear hT hF
    refine HList.gskips rfl rfl rfl rfl (congrArg Value.bool hb5) ?_
    refine HList.gskips rfl rfl rfl rfl (congrArg Value.bool hb5) ?_
    refine HList.vals (v := (.bool false)) rfl (HVal.pickF rfl hb5 rfl) ?_
    refine HList.vals (v := (.bool false)) rfl (HVal.assign' rfl) ?_
    refine HList.nil ?_
    refine nt ?_
    refine HW.ret ?_
    exact ⟨_, resOf1 rfl Res1.t, ⟨false, rfl, h⟩⟩

def F53 (p0 : Int) (H : Hp) (Q : Bool → Hp → Prop) : Prop :=
((decide ((0 : Int) < p0)) = true → (Q (decide (p0 < 4)) H)) ∧
 ((decide ((0 : Int) < p0)) = false → (Q false H))
set_option maxRecDepth 100000 in
set_option maxHeartbeats 4000000 in
theorem walk53 {w0 : World} {p0 : Int} {H : Hp} {Q : Bool → Hp → Prop} (h : F53 p0 H Q) :
    Good Tryd.prog w0 53 #[(.int .i64 p0)] H (fun v H => ∃ (r0 : Bool) , v = (.bool r0) ∧ Q r0 H) := by
  unfold F53 at h
  refine Good.enter' (fn := Tryd.f53) Tryd.func53 rfl rfl rfl ?_
  refine HW.seq ?_
  refine HW.region ?_
  refine HList.vals (v := (.bool false)) rfl (HVal.assign' rfl) ?_
  refine HList.nil ?_
  refine nt ?_
  refine HW.seq ?_
  refine HW.region ?_
  refine HList.vals (v := (.int .i64 p0)) rfl (HVal.move' rfl) ?_
  refine HList.vals (v := (.bool (decide ((0 : Int) < p0)))) rfl (HVal.gtr rfl rfl) ?_
  refine HList.vals (v := (.bool (decide ((0 : Int) < p0)))) rfl (HVal.move' rfl) ?_
  obtain ⟨hT, hF⟩ := h
  rcases Bool.eq_false_or_eq_true (decide ((0 : Int) < p0)) with hb1 | hb2
  · have h := hT hb1
    clear hT hF
    refine HList.gvals (v := (.int .i64 p0)) rfl rfl rfl rfl (congrArg Value.bool hb1) (HVal.move' rfl) ?_
    refine HList.gvals (v := (.bool (decide (p0 < 4)))) rfl rfl rfl rfl (congrArg Value.bool hb1) (HVal.lss rfl rfl) ?_
    refine HList.vals (v := (.bool (decide (p0 < 4)))) rfl (HVal.pickT rfl hb1 rfl) ?_
    refine HList.vals (v := (.bool (decide (p0 < 4)))) rfl (HVal.assign' rfl) ?_
    refine HList.nil ?_
    refine nt ?_
    refine HW.ret ?_
    exact ⟨_, resOf1 rfl Res1.t, ⟨(decide (p0 < 4)), rfl, h⟩⟩
  · have h := hF hb2
    clear hT hF
    refine HList.gskips rfl rfl rfl rfl (congrArg Value.bool hb2) ?_
    refine HList.gskips rfl rfl rfl rfl (congrArg Value.bool hb2) ?_
    refine HList.vals (v := (.bool false)) rfl (HVal.pickF rfl hb2 rfl) ?_
    refine HList.vals (v := (.bool false)) rfl (HVal.assign' rfl) ?_
    refine HList.nil ?_
    refine nt ?_
    refine HW.ret ?_
    exact ⟨_, resOf1 rfl Res1.t, ⟨false, rfl, h⟩⟩

def F25 (p0_0 : ByteArray) (p0_1 : Sl) (H : Hp) (Q : ByteArray → Sl → Hp → Prop) : Prop :=
∀ H1 : Hp, H1 = Array.push H (.cells #[(.string p0_0), (Sl.v p0_1)] 27) → (
 ∀ H3 : Hp, H3 = Array.push H1 (.cells #[(.string (ByteArray.mk #[])), (Sl.v Sl.nil)] 27) → (
 ∃ x6 : Sl, cell H3 (Addr.add ⟨H.size, 0, none⟩ 1) = some (Sl.v x6) ∧ (
 AppendF H3 38 2 24 #[(.string (ByteArray.mk #[])), (.int .i64 0)] Sl.nil (x6).b (x6).n (fun (r9 : Sl) (H7 : Hp) => 
 (cell H7 (Addr.add ⟨H.size, 0, none⟩ 1)).isSome = true ∧ frz H7 (Addr.add ⟨H.size, 0, none⟩ 1) = false ∧ ∀ H10 : Hp, H10 = setc H7 (Addr.add ⟨H.size, 0, none⟩ 1) (Sl.v r9) → (
 ∃ (x15 : ByteArray) (x16 : Sl), cells H10 ⟨H.size, 0, none⟩ [(.string x15), (Sl.v x16)] 0 ∧ (
 mayw H10 ⟨H1.size, 0, none⟩ 2 0 ∧ ∀ H17 : Hp, H17 = sets H10 ⟨H1.size, 0, none⟩ [(.string x15), (Sl.v x16)] 0 → (
 ∃ (x20 : ByteArray) (x21 : Sl), cells H17 ⟨H1.size, 0, none⟩ [(.string x20), (Sl.v x21)] 0 ∧ (
 Q x20 x21 H17))))))))
set_option maxRecDepth 100000 in
set_option maxHeartbeats 4000000 in
theorem walk25 {w0 : World} {p0_0 : ByteArray} {p0_1 : Sl} {H : Hp} {Q : ByteArray → Sl → Hp → Prop} (h : F25 p0_0 p0_1 H Q) :
    Good Tryd.prog w0 25 #[(.agg #[(.string p0_0), (Sl.v p0_1)])] H (fun v H => ∃ (r0 : ByteArray) (r1 : Sl) , v = (.agg #[(.string r0), (Sl.v r1)]) ∧ Q r0 r1 H) := by
  unfold F25 at h
  refine Good.enter' (fn := Tryd.f25) Tryd.func25 rfl rfl rfl ?_
  refine HW.seq ?_
  refine HW.region ?_
  refine HList.ops' rfl (HOp.box (v := (.agg #[(.string p0_0), (Sl.v p0_1)])) rfl) ?_
  rintro _ H1 ⟨rfl, e2⟩
  replace h := h H1 e2
  refine HList.ops' rfl (HOp.alloc Tryd.zeroValue27) ?_
  rintro _ H3 ⟨rfl, e4⟩
  replace h := h H3 e4
  refine HList.nil ?_
  refine nt ?_
  refine HW.seq ?_
  refine HW.region ?_
  refine HList.vals (v := (.pointer (some (Addr.add ⟨H.size, 0, none⟩ 1)))) rfl (HVal.fieldAddr' Tryd.runUnderlying27 rfl rfl Tryd.sizeOf25 rfl) ?_
  obtain ⟨x6, c5, h⟩ := h
  refine HList.vals (v := (Sl.v x6)) rfl (HVal.load1 Tryd.isAgg25 rfl c5) ?_
  refine HList.ops' rfl (HOp.append (k := 2) (b := 24) Tryd.runUnderlying25 Tryd.runUnderlying25 Tryd.typeInfo38 rfl rfl Tryd.zeroValue38 rfl rfl h) ?_
  rintro _ H7 ⟨r9, rfl, h⟩
  refine HList.vals (v := (.pointer (some (Addr.add ⟨H.size, 0, none⟩ 1)))) rfl (HVal.fieldAddr' Tryd.runUnderlying27 rfl rfl Tryd.sizeOf25 rfl) ?_
  obtain ⟨z12, z13, h⟩ := h
  refine HList.opsn (HOp.store1 Tryd.sizeOf25 rfl rfl rfl z12 z13) ?_
  rintro _ H10 e11
  replace h := h H10 e11
  refine HList.nil ?_
  refine nt ?_
  refine HW.seq ?_
  refine HW.region ?_
  obtain ⟨x15, x16, c14, h⟩ := h
  refine HList.vals (v := (.agg #[(.string x15), (Sl.v x16)])) rfl (HVal.loadN [(.string x15), (Sl.v x16)] Tryd.isAgg27 Tryd.sizeOf27 rfl c14) ?_
  obtain ⟨z19, h⟩ := h
  refine HList.opsn (HOp.storeN' (l := [(.string x15), (Sl.v x16)]) Tryd.sizeOf27 rfl rfl rfl z19) ?_
  rintro _ H17 e18
  replace h := h H17 e18
  refine HList.nil ?_
  refine nt ?_
  refine HW.ret ?_
  obtain ⟨x20, x21, c22, h⟩ := h
  exact ⟨_, resOf1 rfl (Res1.n [(.string x20), (Sl.v x21)] Tryd.isAgg27 Tryd.sizeOf27 rfl c22), ⟨x20, x21, rfl, h⟩⟩

def F26 (p0 : ByteArray) (H : Hp) (Q : ByteArray → Hp → Prop) : Prop :=
F55 p0 H (fun (r3 : ByteArray) (H1 : Hp) => 
 Q r3 H1)
set_option maxRecDepth 100000 in
set_option maxHeartbeats 4000000 in
theorem walk26 {w0 : World} {p0 : ByteArray} {H : Hp} {Q : ByteArray → Hp → Prop} (h : F26 p0 H Q) :
    Good Tryd.prog w0 26 #[(.string p0)] H (fun v H => ∃ (r0 : ByteArray) , v = (.string r0) ∧ Q r0 H) := by
  unfold F26 at h
  refine Good.enter' (fn := Tryd.f26) Tryd.func26 rfl rfl rfl ?_
  refine HW.seq ?_
  refine HW.region ?_
  refine HList.vals (v := (.string (ByteArray.mk #[]))) rfl (HVal.assign' rfl) ?_
  refine HList.nil ?_
  refine nt ?_
  refine HW.seq ?_
  refine HW.region ?_
  refine HList.vals (v := (.string p0)) rfl (HVal.move' rfl) ?_
  refine HList.ops' rfl (HOp.call' 55 [(.string p0)] (cap := []) rfl rfl Tryd.call55 (walk55 h)) ?_
  rintro _ H1 ⟨r3, rfl, h⟩
  refine HList.vals (v := (.string r3)) rfl (HVal.assign' rfl) ?_
  refine HList.nil ?_
  refine nt ?_
  refine HW.ret ?_
  exact ⟨_, resOf1 rfl Res1.t, ⟨r3, rfl, h⟩⟩

def F10_1 (Q : Int → Int → ByteArray → Bool → Hp → Prop) (y3 : Int) (y4 : Int) (y5 : Addr) (y9 : ByteArray) (H_1 : Hp) : Prop :=
((decide (y3 = 1)) = true → (mayw H_1 y5 4 0 ∧ ∀ H11 : Hp, H11 = sets H_1 y5 [(.int .i64 1), (.int .i64 y4), (.string (ByteArray.mk #[])), (.bool false)] 0 → (
 ∃ (x14 : Int) (x15 : Int) (x16 : ByteArray) (x17 : Bool), cells H11 y5 [(.int .i64 x14), (.int .i64 x15), (.string x16), (.bool x17)] 0 ∧ (
 Q x14 x15 x16 x17 H11)))) ∧
 ((decide (y3 = 1)) = false → (((decide (y3 = 2)) = true → (mayw H_1 y5 4 0 ∧ ∀ H20 : Hp, H20 = sets H_1 y5 [(.int .i64 2), (.int .i64 0), (.string y9), (.bool false)] 0 → (
 ∃ (x23 : Int) (x24 : Int) (x25 : ByteArray) (x26 : Bool), cells H20 y5 [(.int .i64 x23), (.int .i64 x24), (.string x25), (.bool x26)] 0 ∧ (
 Q x23 x24 x25 x26 H20)))) ∧
 ((decide (y3 = 2)) = false → (mayw H_1 y5 4 0 ∧ ∀ H28 : Hp, H28 = sets H_1 y5 [(.int .i64 3), (.int .i64 0), (.string (ByteArray.mk #[])), (.bool (decide ((Int.tmod y4 (2 : Int)) ≠ 0)))] 0 → (
 ∃ (x31 : Int) (x32 : Int) (x33 : ByteArray) (x34 : Bool), cells H28 y5 [(.int .i64 x31), (.int .i64 x32), (.string x33), (.bool x34)] 0 ∧ (
 Q x31 x32 x33 x34 H28))))))
def F10 (p0 : Int) (p1 : Int) (p2 : ByteArray) (H : Hp) (Q : Int → Int → ByteArray → Bool → Hp → Prop) : Prop :=
∀ H1 : Hp, H1 = Array.push H (.cells #[(.int .i64 0), (.int .i64 0), (.string (ByteArray.mk #[])), (.bool false)] 35) → (
 ((decide ((256 : Int) < ((p2).size : Int))) = true → (0 ≤ (256 : Int).toNat ∧ (256 : Int).toNat ≤ (p2).size ∧ (
 F10_1 Q p0 p1 ⟨H.size, 0, none⟩ ((p2).extract 0 ((256 : Int).toNat)) H1))) ∧
 ((decide ((256 : Int) < ((p2).size : Int))) = false → (F10_1 Q p0 p1 ⟨H.size, 0, none⟩ p2 H1)))
set_option maxRecDepth 100000 in
set_option maxHeartbeats 4000000 in
theorem walk10 {w0 : World} {p0 : Int} {p1 : Int} {p2 : ByteArray} {H : Hp} {Q : Int → Int → ByteArray → Bool → Hp → Prop} (h : F10 p0 p1 p2 H Q) :
    Good Tryd.prog w0 10 #[(.int .i64 p0), (.int .i64 p1), (.string p2)] H (fun v H => ∃ (r0 : Int) (r1 : Int) (r2 : ByteArray) (r3 : Bool) , v = (.agg #[(.int .i64 r0), (.int .i64 r1), (.string r2), (.bool r3)]) ∧ Q r0 r1 r2 r3 H) := by
  unfold F10 at h
  refine Good.enter' (fn := Tryd.f10) Tryd.func10 rfl rfl rfl ?_
  refine HW.seq ?_
  refine HW.region ?_
  refine HList.ops' rfl (HOp.alloc Tryd.zeroValue35) ?_
  rintro _ H1 ⟨rfl, e2⟩
  replace h := h H1 e2
  refine HList.nil ?_
  refine nt ?_
  refine HW.cut (fun ρ H_1 => ∃ (y9 : ByteArray), Env.Is ρ [(0, (.int .i64 p0)), (1, (.int .i64 p1)), (6, (.pointer (some ⟨H.size, 0, none⟩))), (2, (.string y9))] ∧ F10_1 Q p0 p1 ⟨H.size, 0, none⟩ y9 H_1) ?_ ?_
  · refine HW.seq ?_
    refine HW.region ?_
    refine HList.vals (v := (.string p2)) rfl (HVal.move' rfl) ?_
    refine HList.vals (v := (.int .i64 ((p2).size : Int))) rfl (HVal.lenS Tryd.runUnderlying9 rfl) ?_
    refine HList.vals (v := (.bool (decide ((256 : Int) < ((p2).size : Int))))) rfl (HVal.gtr rfl rfl) ?_
    refine HList.nil ?_
    refine nt ?_
    obtain ⟨hT, hF⟩ := h
    refine HW.cond (decide ((256 : Int) < ((p2).size : Int))) rfl (fun hb6 => ?_) (fun hb6 => ?_)
    · have h := hT hb6
      clear hT hF
      refine HW.region ?_
      refine HList.vals (v := (.string p2)) rfl (HVal.move' rfl) ?_
      obtain ⟨z7, z8, h⟩ := h
      refine HList.vals (v := (.string ((p2).extract 0 ((256 : Int).toNat)))) rfl (HVal.sliceS _ _ Tryd.runUnderlying9 rfl rfl ⟨_, _, rfl, by decide, rfl⟩ z7 z8) ?_
      refine HList.vals (v := (.string ((p2).extract 0 ((256 : Int).toNat)))) rfl (HVal.assign' rfl) ?_
      refine HList.nil ?_
      refine nt ?_
      exact ⟨((p2).extract 0 ((256 : Int).toNat)), ⟨rfl, rfl, rfl, rfl, trivial⟩, h⟩
    · have h := hF hb6
      clear hT hF
      refine HW.skip ?_
      refine nt ?_
      exact ⟨p2, ⟨rfl, rfl, rfl, rfl, trivial⟩, h⟩
  · rintro ρ H_1 ⟨y9, hI, h⟩
    obtain ⟨ρ0, rfl⟩ : ∃ ρ0, ρ = (Env.set (Env.set (Env.set (Env.set ρ0 2 (.string y9)) 6 (.pointer (some ⟨H.size, 0, none⟩))) 1 (.int .i64 p1)) 0 (.int .i64 p0)) := ⟨ρ, hI.eq⟩
    clear hI; unfold F10_1 at h
    refine HW.seq ?_
    refine HW.seq ?_
    refine HW.region ?_
    refine HList.vals (v := (.int .i64 p0)) rfl (HVal.move' rfl) ?_
    refine HList.nil ?_
    refine nt ?_
    refine HW.block ?_
    refine HW.seq ?_
    refine HW.region ?_
    refine HList.vals (v := (.bool (decide (p0 = 1)))) rfl (HVal.eqlI rfl rfl) ?_
    refine HList.vals (v := (.bool (decide (p0 = 1)))) rfl (HVal.assign' rfl) ?_
    refine HList.nil ?_
    refine nt ?_
    obtain ⟨hT, hF⟩ := h
    refine HW.cond (decide (p0 = 1)) rfl (fun hb10 => ?_) (fun hb10 => ?_)
    · have h := hT hb10
      clear hT hF
      refine HW.seq ?_
      refine HW.region ?_
      refine HList.vals (v := (.int .i64 p1)) rfl (HVal.move' rfl) ?_
      refine HList.vals (v := (.agg #[(.int .i64 1), (.int .i64 p1), (.string (ByteArray.mk #[])), (.bool false)])) rfl (HVal.build' (cs := [(.int .i64 1), (.int .i64 p1), (.string (ByteArray.mk #[])), (.bool false)]) Tryd.runUnderlying35 Tryd.zeroValue35 places35 rfl) ?_
      obtain ⟨z13, h⟩ := h
      refine HList.opsn (HOp.storeN' (l := [(.int .i64 1), (.int .i64 p1), (.string (ByteArray.mk #[])), (.bool false)]) Tryd.sizeOf35 rfl rfl rfl z13) ?_
      rintro _ H11 e12
      replace h := h H11 e12
      refine HList.nil ?_
      refine nt ?_
      refine HW.ret ?_
      refine br ?_
      refine tr ?_
      obtain ⟨x14, x15, x16, x17, c18, h⟩ := h
      exact ⟨_, resOf1 rfl (Res1.n [(.int .i64 x14), (.int .i64 x15), (.string x16), (.bool x17)] Tryd.isAgg35 Tryd.sizeOf35 rfl c18), ⟨x14, x15, x16, x17, rfl, h⟩⟩
    · have h := hF hb10
      clear hT hF
      refine HW.seq ?_
      refine HW.region ?_
      refine HList.vals (v := (.bool (decide (p0 = 2)))) rfl (HVal.eqlI rfl rfl) ?_
      refine HList.vals (v := (.bool (decide (p0 = 2)))) rfl (HVal.assign' rfl) ?_
      refine HList.nil ?_
      refine nt ?_
      obtain ⟨hT, hF⟩ := h
      refine HW.cond (decide (p0 = 2)) rfl (fun hb19 => ?_) (fun hb19 => ?_)
      · have h := hT hb19
        clear hT hF
        refine HW.seq ?_
        refine HW.region ?_
        refine HList.vals (v := (.string y9)) rfl (HVal.move' rfl) ?_
        refine HList.vals (v := (.agg #[(.int .i64 2), (.int .i64 0), (.string y9), (.bool false)])) rfl (HVal.build' (cs := [(.int .i64 2), (.int .i64 0), (.string y9), (.bool false)]) Tryd.runUnderlying35 Tryd.zeroValue35 places35 rfl) ?_
        obtain ⟨z22, h⟩ := h
        refine HList.opsn (HOp.storeN' (l := [(.int .i64 2), (.int .i64 0), (.string y9), (.bool false)]) Tryd.sizeOf35 rfl rfl rfl z22) ?_
        rintro _ H20 e21
        replace h := h H20 e21
        refine HList.nil ?_
        refine nt ?_
        refine HW.ret ?_
        refine br ?_
        refine tr ?_
        obtain ⟨x23, x24, x25, x26, c27, h⟩ := h
        exact ⟨_, resOf1 rfl (Res1.n [(.int .i64 x23), (.int .i64 x24), (.string x25), (.bool x26)] Tryd.isAgg35 Tryd.sizeOf35 rfl c27), ⟨x23, x24, x25, x26, rfl, h⟩⟩
      · have h := hF hb19
        clear hT hF
        refine HW.skip ?_
        refine nb ?_
        refine nt ?_
        refine HW.seq ?_
        refine HW.region ?_
        refine HList.vals (v := (.int .i64 p1)) rfl (HVal.move' rfl) ?_
        refine HList.vals (v := (.int .i64 (Int.tmod p1 (2 : Int)))) rfl (HVal.rem rfl rfl (by decide)) ?_
        refine HList.vals (v := (.bool (decide ((Int.tmod p1 (2 : Int)) ≠ 0)))) rfl (HVal.neqI rfl rfl) ?_
        refine HList.vals (v := (.agg #[(.int .i64 3), (.int .i64 0), (.string (ByteArray.mk #[])), (.bool (decide ((Int.tmod p1 (2 : Int)) ≠ 0)))])) rfl (HVal.build' (cs := [(.int .i64 3), (.int .i64 0), (.string (ByteArray.mk #[])), (.bool (decide ((Int.tmod p1 (2 : Int)) ≠ 0)))]) Tryd.runUnderlying35 Tryd.zeroValue35 places35 rfl) ?_
        obtain ⟨z30, h⟩ := h
        refine HList.opsn (HOp.storeN' (l := [(.int .i64 3), (.int .i64 0), (.string (ByteArray.mk #[])), (.bool (decide ((Int.tmod p1 (2 : Int)) ≠ 0)))]) Tryd.sizeOf35 rfl rfl rfl z30) ?_
        rintro _ H28 e29
        replace h := h H28 e29
        refine HList.nil ?_
        refine nt ?_
        refine HW.ret ?_
        obtain ⟨x31, x32, x33, x34, c35, h⟩ := h
        exact ⟨_, resOf1 rfl (Res1.n [(.int .i64 x31), (.int .i64 x32), (.string x33), (.bool x34)] Tryd.isAgg35 Tryd.sizeOf35 rfl c35), ⟨x31, x32, x33, x34, rfl, h⟩⟩

def F56 (p0 : Int) (H : Hp) (Q : Int → Int → ByteArray → Bool → Hp → Prop) : Prop :=
∀ H1 : Hp, H1 = Array.push H (.cells #[(.int .i64 0), (.int .i64 0), (.string (ByteArray.mk #[])), (.bool false)] 35) → (
 mayw H1 ⟨H.size, 0, none⟩ 4 0 ∧ ∀ H3 : Hp, H3 = sets H1 ⟨H.size, 0, none⟩ [(.int .i64 1), (.int .i64 p0), (.string (ByteArray.mk #[])), (.bool false)] 0 → (
 ∃ (x6 : Int) (x7 : Int) (x8 : ByteArray) (x9 : Bool), cells H3 ⟨H.size, 0, none⟩ [(.int .i64 x6), (.int .i64 x7), (.string x8), (.bool x9)] 0 ∧ (
 Q x6 x7 x8 x9 H3)))
set_option maxRecDepth 100000 in
set_option maxHeartbeats 4000000 in
theorem walk56 {w0 : World} {p0 : Int} {H : Hp} {Q : Int → Int → ByteArray → Bool → Hp → Prop} (h : F56 p0 H Q) :
    Good Tryd.prog w0 56 #[(.int .i64 p0)] H (fun v H => ∃ (r0 : Int) (r1 : Int) (r2 : ByteArray) (r3 : Bool) , v = (.agg #[(.int .i64 r0), (.int .i64 r1), (.string r2), (.bool r3)]) ∧ Q r0 r1 r2 r3 H) := by
  unfold F56 at h
  refine Good.enter' (fn := Tryd.f56) Tryd.func56 rfl rfl rfl ?_
  refine HW.seq ?_
  refine HW.region ?_
  refine HList.ops' rfl (HOp.alloc Tryd.zeroValue35) ?_
  rintro _ H1 ⟨rfl, e2⟩
  replace h := h H1 e2
  refine HList.nil ?_
  refine nt ?_
  refine HW.seq ?_
  refine HW.region ?_
  refine HList.vals (v := (.int .i64 p0)) rfl (HVal.move' rfl) ?_
  refine HList.vals (v := (.agg #[(.int .i64 1), (.int .i64 p0), (.string (ByteArray.mk #[])), (.bool false)])) rfl (HVal.build' (cs := [(.int .i64 1), (.int .i64 p0), (.string (ByteArray.mk #[])), (.bool false)]) Tryd.runUnderlying35 Tryd.zeroValue35 places35 rfl) ?_
  obtain ⟨z5, h⟩ := h
  refine HList.opsn (HOp.storeN' (l := [(.int .i64 1), (.int .i64 p0), (.string (ByteArray.mk #[])), (.bool false)]) Tryd.sizeOf35 rfl rfl rfl z5) ?_
  rintro _ H3 e4
  replace h := h H3 e4
  refine HList.nil ?_
  refine nt ?_
  refine HW.ret ?_
  obtain ⟨x6, x7, x8, x9, c10, h⟩ := h
  exact ⟨_, resOf1 rfl (Res1.n [(.int .i64 x6), (.int .i64 x7), (.string x8), (.bool x9)] Tryd.isAgg35 Tryd.sizeOf35 rfl c10), ⟨x6, x7, x8, x9, rfl, h⟩⟩

def F57 (p0 : ByteArray) (H : Hp) (Q : Int → Int → ByteArray → Bool → Hp → Prop) : Prop :=
∀ H1 : Hp, H1 = Array.push H (.cells #[(.int .i64 0), (.int .i64 0), (.string (ByteArray.mk #[])), (.bool false)] 35) → (
 mayw H1 ⟨H.size, 0, none⟩ 4 0 ∧ ∀ H3 : Hp, H3 = sets H1 ⟨H.size, 0, none⟩ [(.int .i64 2), (.int .i64 0), (.string p0), (.bool false)] 0 → (
 ∃ (x6 : Int) (x7 : Int) (x8 : ByteArray) (x9 : Bool), cells H3 ⟨H.size, 0, none⟩ [(.int .i64 x6), (.int .i64 x7), (.string x8), (.bool x9)] 0 ∧ (
 Q x6 x7 x8 x9 H3)))
set_option maxRecDepth 100000 in
set_option maxHeartbeats 4000000 in
theorem walk57 {w0 : World} {p0 : ByteArray} {H : Hp} {Q : Int → Int → ByteArray → Bool → Hp → Prop} (h : F57 p0 H Q) :
    Good Tryd.prog w0 57 #[(.string p0)] H (fun v H => ∃ (r0 : Int) (r1 : Int) (r2 : ByteArray) (r3 : Bool) , v = (.agg #[(.int .i64 r0), (.int .i64 r1), (.string r2), (.bool r3)]) ∧ Q r0 r1 r2 r3 H) := by
  unfold F57 at h
  refine Good.enter' (fn := Tryd.f57) Tryd.func57 rfl rfl rfl ?_
  refine HW.seq ?_
  refine HW.region ?_
  refine HList.ops' rfl (HOp.alloc Tryd.zeroValue35) ?_
  rintro _ H1 ⟨rfl, e2⟩
  replace h := h H1 e2
  refine HList.nil ?_
  refine nt ?_
  refine HW.seq ?_
  refine HW.region ?_
  refine HList.vals (v := (.string p0)) rfl (HVal.move' rfl) ?_
  refine HList.vals (v := (.agg #[(.int .i64 2), (.int .i64 0), (.string p0), (.bool false)])) rfl (HVal.build' (cs := [(.int .i64 2), (.int .i64 0), (.string p0), (.bool false)]) Tryd.runUnderlying35 Tryd.zeroValue35 places35 rfl) ?_
  obtain ⟨z5, h⟩ := h
  refine HList.opsn (HOp.storeN' (l := [(.int .i64 2), (.int .i64 0), (.string p0), (.bool false)]) Tryd.sizeOf35 rfl rfl rfl z5) ?_
  rintro _ H3 e4
  replace h := h H3 e4
  refine HList.nil ?_
  refine nt ?_
  refine HW.ret ?_
  obtain ⟨x6, x7, x8, x9, c10, h⟩ := h
  exact ⟨_, resOf1 rfl (Res1.n [(.int .i64 x6), (.int .i64 x7), (.string x8), (.bool x9)] Tryd.isAgg35 Tryd.sizeOf35 rfl c10), ⟨x6, x7, x8, x9, rfl, h⟩⟩

def F58 (p0 : Bool) (H : Hp) (Q : Int → Int → ByteArray → Bool → Hp → Prop) : Prop :=
∀ H1 : Hp, H1 = Array.push H (.cells #[(.int .i64 0), (.int .i64 0), (.string (ByteArray.mk #[])), (.bool false)] 35) → (
 mayw H1 ⟨H.size, 0, none⟩ 4 0 ∧ ∀ H3 : Hp, H3 = sets H1 ⟨H.size, 0, none⟩ [(.int .i64 3), (.int .i64 0), (.string (ByteArray.mk #[])), (.bool p0)] 0 → (
 ∃ (x6 : Int) (x7 : Int) (x8 : ByteArray) (x9 : Bool), cells H3 ⟨H.size, 0, none⟩ [(.int .i64 x6), (.int .i64 x7), (.string x8), (.bool x9)] 0 ∧ (
 Q x6 x7 x8 x9 H3)))
set_option maxRecDepth 100000 in
set_option maxHeartbeats 4000000 in
theorem walk58 {w0 : World} {p0 : Bool} {H : Hp} {Q : Int → Int → ByteArray → Bool → Hp → Prop} (h : F58 p0 H Q) :
    Good Tryd.prog w0 58 #[(.bool p0)] H (fun v H => ∃ (r0 : Int) (r1 : Int) (r2 : ByteArray) (r3 : Bool) , v = (.agg #[(.int .i64 r0), (.int .i64 r1), (.string r2), (.bool r3)]) ∧ Q r0 r1 r2 r3 H) := by
  unfold F58 at h
  refine Good.enter' (fn := Tryd.f58) Tryd.func58 rfl rfl rfl ?_
  refine HW.seq ?_
  refine HW.region ?_
  refine HList.ops' rfl (HOp.alloc Tryd.zeroValue35) ?_
  rintro _ H1 ⟨rfl, e2⟩
  replace h := h H1 e2
  refine HList.nil ?_
  refine nt ?_
  refine HW.seq ?_
  refine HW.region ?_
  refine HList.vals (v := (.bool p0)) rfl (HVal.move' rfl) ?_
  refine HList.vals (v := (.agg #[(.int .i64 3), (.int .i64 0), (.string (ByteArray.mk #[])), (.bool p0)])) rfl (HVal.build' (cs := [(.int .i64 3), (.int .i64 0), (.string (ByteArray.mk #[])), (.bool p0)]) Tryd.runUnderlying35 Tryd.zeroValue35 places35 rfl) ?_
  obtain ⟨z5, h⟩ := h
  refine HList.opsn (HOp.storeN' (l := [(.int .i64 3), (.int .i64 0), (.string (ByteArray.mk #[])), (.bool p0)]) Tryd.sizeOf35 rfl rfl rfl z5) ?_
  rintro _ H3 e4
  replace h := h H3 e4
  refine HList.nil ?_
  refine nt ?_
  refine HW.ret ?_
  obtain ⟨x6, x7, x8, x9, c10, h⟩ := h
  exact ⟨_, resOf1 rfl (Res1.n [(.int .i64 x6), (.int .i64 x7), (.string x8), (.bool x9)] Tryd.isAgg35 Tryd.sizeOf35 rfl c10), ⟨x6, x7, x8, x9, rfl, h⟩⟩

def F27 (p0_0 : Int) (p0_1 : Int) (p0_2 : ByteArray) (p0_3 : Bool) (H : Hp) (Q : Bool → Hp → Prop) : Prop :=
∀ H1 : Hp, H1 = Array.push H (.cells #[(.int .i64 p0_0), (.int .i64 p0_1), (.string p0_2), (.bool p0_3)] 35) → (
 ∃ x4 : Int, cell H1 ⟨H.size, 0, none⟩ = some (.int .i64 x4) ∧ (
 ((decide (x4 = 1)) = true → (∃ (x7 : Int) (x8 : Int) (x9 : ByteArray) (x10 : Bool), cells H1 ⟨H.size, 0, none⟩ [(.int .i64 x7), (.int .i64 x8), (.string x9), (.bool x10)] 0 ∧ (
 ∃ x12 : Int, cell H1 (Addr.add ⟨H.size, 0, none⟩ 1) = some (.int .i64 x12) ∧ (
 F56 x12 H1 (fun (r15 : Int) (r16 : Int) (r17 : ByteArray) (r18 : Bool) (H13 : Hp) => 
 cells H13 ⟨H.size, 0, none⟩ [(.int .i64 x7), (.int .i64 x8), (.string x9), (.bool x10)] 0 ∧ (
 Q (decide (x7 = r15) && (decide (x8 = r16) && (seq x9 r17 && (x10 == r18)))) H13)))))) ∧
 ((decide (x4 = 1)) = false → (((decide (x4 = 2)) = true → (∃ (x22 : Int) (x23 : Int) (x24 : ByteArray) (x25 : Bool), cells H1 ⟨H.size, 0, none⟩ [(.int .i64 x22), (.int .i64 x23), (.string x24), (.bool x25)] 0 ∧ (
 ∃ x27 : ByteArray, cell H1 (Addr.add ⟨H.size, 0, none⟩ 2) = some (.string x27) ∧ (
 F57 x27 H1 (fun (r30 : Int) (r31 : Int) (r32 : ByteArray) (r33 : Bool) (H28 : Hp) => 
 cells H28 ⟨H.size, 0, none⟩ [(.int .i64 x22), (.int .i64 x23), (.string x24), (.bool x25)] 0 ∧ (
 ((decide (x22 = r30) && (decide (x23 = r31) && (seq x24 r32 && (x25 == r33)))) = true → (∃ x38 : ByteArray, cell H28 (Addr.add ⟨H.size, 0, none⟩ 2) = some (.string x38) ∧ (
 Q (decide (((x38).size : Int) ≤ 256)) H28))) ∧
 ((decide (x22 = r30) && (decide (x23 = r31) && (seq x24 r32 && (x25 == r33)))) = false → (Q false H28)))))))) ∧
 ((decide (x4 = 2)) = false → (((decide (x4 = 3)) = true → (∃ (x41 : Int) (x42 : Int) (x43 : ByteArray) (x44 : Bool), cells H1 ⟨H.size, 0, none⟩ [(.int .i64 x41), (.int .i64 x42), (.string x43), (.bool x44)] 0 ∧ (
 ∃ x46 : Bool, cell H1 (Addr.add ⟨H.size, 0, none⟩ 3) = some (.bool x46) ∧ (
 F58 x46 H1 (fun (r49 : Int) (r50 : Int) (r51 : ByteArray) (r52 : Bool) (H47 : Hp) => 
 cells H47 ⟨H.size, 0, none⟩ [(.int .i64 x41), (.int .i64 x42), (.string x43), (.bool x44)] 0 ∧ (
 Q (decide (x41 = r49) && (decide (x42 = r50) && (seq x43 r51 && (x44 == r52)))) H47)))))) ∧
 ((decide (x4 = 3)) = false → (Q false H1))))))))
set_option maxRecDepth 100000 in
set_option maxHeartbeats 4000000 in
theorem walk27 {w0 : World} {p0_0 : Int} {p0_1 : Int} {p0_2 : ByteArray} {p0_3 : Bool} {H : Hp} {Q : Bool → Hp → Prop} (h : F27 p0_0 p0_1 p0_2 p0_3 H Q) :
    Good Tryd.prog w0 27 #[(.agg #[(.int .i64 p0_0), (.int .i64 p0_1), (.string p0_2), (.bool p0_3)])] H (fun v H => ∃ (r0 : Bool) , v = (.bool r0) ∧ Q r0 H) := by
  unfold F27 at h
  refine Good.enter' (fn := Tryd.f27) Tryd.func27 rfl rfl rfl ?_
  refine HW.seq ?_
  refine HW.region ?_
  refine HList.ops' rfl (HOp.box (v := (.agg #[(.int .i64 p0_0), (.int .i64 p0_1), (.string p0_2), (.bool p0_3)])) rfl) ?_
  rintro _ H1 ⟨rfl, e2⟩
  replace h := h H1 e2
  refine HList.vals (v := (.bool false)) rfl (HVal.assign' rfl) ?_
  refine HList.nil ?_
  refine nt ?_
  refine HW.seq ?_
  refine HW.seq ?_
  refine HW.region ?_
  refine HList.vals (v := (.pointer (some ⟨H.size, 0, none⟩))) rfl (HVal.fieldAddr0 Tryd.runUnderlying35 rfl rfl Tryd.sizeOf3 rfl) ?_
  obtain ⟨x4, c3, h⟩ := h
  refine HList.vals (v := (.int .i64 x4)) rfl (HVal.load1 Tryd.isAgg3 rfl c3) ?_
  refine HList.nil ?_
  refine nt ?_
  refine HW.block ?_
  refine HW.seq ?_
  refine HW.region ?_
  refine HList.vals (v := (.bool (decide (x4 = 1)))) rfl (HVal.eqlI rfl rfl) ?_
  refine HList.vals (v := (.bool (decide (x4 = 1)))) rfl (HVal.assign' rfl) ?_
  refine HList.nil ?_
  refine nt ?_
  obtain ⟨hT, hF⟩ := h
  refine HW.cond (decide (x4 = 1)) rfl (fun hb5 => ?_) (fun hb5 => ?_)
  · have h := hT hb5
    clear hT hF
    refine HW.seq ?_
    refine HW.draw mixed [(0, some []), (1, some []), (2, some [3]), (3, none), (4, some []), (5, some [])] rfl (by kernel_rfl) (by kernel_rfl) ?_
    obtain ⟨x7, x8, x9, x10, c6, h⟩ := h
    refine HPlan.takel (v := (.agg #[(.int .i64 x7), (.int .i64 x8), (.string x9), (.bool x10)])) (fun X => cells X ⟨H.size, 0, none⟩ [(.int .i64 x7), (.int .i64 x8), (.string x9), (.bool x10)] 0) rfl rfl (fun _ hX => HVal.loadN [(.int .i64 x7), (.int .i64 x8), (.string x9), (.bool x10)] Tryd.isAgg35 Tryd.sizeOf35 rfl hX) c6 ?_
    refine HPlan.takev (v := (.pointer (some (Addr.add ⟨H.size, 0, none⟩ 1)))) rfl rfl (fun _ => HVal.fieldAddr' Tryd.runUnderlying35 rfl rfl Tryd.sizeOf2 rfl) ?_
    obtain ⟨x12, c11, h⟩ := h
    refine HPlan.takel (v := (.int .i64 x12)) (fun X => cell X (Addr.add ⟨H.size, 0, none⟩ 1) = some (.int .i64 x12)) rfl rfl (fun _ hX => HVal.load1 Tryd.isAgg2 rfl hX) c11 ?_
    refine HPlan.ops' rfl rfl (HOp.call' 56 [(.int .i64 x12)] (cap := []) rfl rfl Tryd.call56 (walk56 h)) ?_
    rintro _ H13 ⟨r15, r16, r17, r18, rfl, h⟩
    obtain ⟨s19, h⟩ := h
    refine ⟨SC_of ⟨fun e => absurd e (by decide), fun _ => s19, trivial⟩, ?_⟩
    refine HPlan.takev (v := (.bool (decide (x7 = r15) && (decide (x8 = r16) && (seq x9 r17 && (x10 == r18)))))) rfl rfl (fun _ => eqs35_eql rfl rfl) ?_
    refine HPlan.takev (v := (.bool (decide (x7 = r15) && (decide (x8 = r16) && (seq x9 r17 && (x10 == r18)))))) rfl rfl (fun _ => HVal.assign' rfl) ?_
    refine HPlan.done ?_
    refine nt ?_
    refine HW.ret ?_
    refine br ?_
    refine tr ?_
    exact ⟨_, resOf1 rfl Res1.t, ⟨(decide (x7 = r15) && (decide (x8 = r16) && (seq x9 r17 && (x10 == r18)))), rfl, h⟩⟩
  · have h := hF hb5
    clear hT hF
    refine HW.seq ?_
    refine HW.region ?_
    refine HList.vals (v := (.bool (decide (x4 = 2)))) rfl (HVal.eqlI rfl rfl) ?_
    refine HList.vals (v := (.bool (decide (x4 = 2)))) rfl (HVal.assign' rfl) ?_
    refine HList.nil ?_
    refine nt ?_
    obtain ⟨hT, hF⟩ := h
    refine HW.cond (decide (x4 = 2)) rfl (fun hb20 => ?_) (fun hb20 => ?_)
    · have h := hT hb20
      clear hT hF
      refine HW.seq ?_
      refine HW.draw mixed [(0, some []), (1, some []), (2, some [3]), (3, none), (4, some []), (5, some []), (6, some []), (7, some []), (8, some []), (9, some []), (10, some []), (11, some [])] rfl (by kernel_rfl) (by kernel_rfl) ?_
      obtain ⟨x22, x23, x24, x25, c21, h⟩ := h
      refine HPlan.takel (v := (.agg #[(.int .i64 x22), (.int .i64 x23), (.string x24), (.bool x25)])) (fun X => cells X ⟨H.size, 0, none⟩ [(.int .i64 x22), (.int .i64 x23), (.string x24), (.bool x25)] 0) rfl rfl (fun _ hX => HVal.loadN [(.int .i64 x22), (.int .i64 x23), (.string x24), (.bool x25)] Tryd.isAgg35 Tryd.sizeOf35 rfl hX) c21 ?_
      refine HPlan.takev (v := (.pointer (some (Addr.add ⟨H.size, 0, none⟩ 2)))) rfl rfl (fun _ => HVal.fieldAddr' Tryd.runUnderlying35 rfl rfl Tryd.sizeOf9 rfl) ?_
      obtain ⟨x27, c26, h⟩ := h
      refine HPlan.takel (v := (.string x27)) (fun X => cell X (Addr.add ⟨H.size, 0, none⟩ 2) = some (.string x27)) rfl rfl (fun _ hX => HVal.load1 Tryd.isAgg9 rfl hX) c26 ?_
      refine HPlan.ops' rfl rfl (HOp.call' 57 [(.string x27)] (cap := []) rfl rfl Tryd.call57 (walk57 h)) ?_
      rintro _ H28 ⟨r30, r31, r32, r33, rfl, h⟩
      obtain ⟨s34, h⟩ := h
      refine ⟨SC_of ⟨fun e => absurd e (by decide), fun _ => s34, trivial⟩, ?_⟩
      refine HPlan.takev (v := (.bool (decide (x22 = r30) && (decide (x23 = r31) && (seq x24 r32 && (x25 == r33)))))) rfl rfl (fun _ => eqs35_eql rfl rfl) ?_
      refine HPlan.takev (v := (.bool (decide (x22 = r30) && (decide (x23 = r31) && (seq x24 r32 && (x25 == r33)))))) rfl rfl (fun _ => HVal.move' rfl) ?_
      obtain ⟨hT, hF⟩ := h
      rcases Bool.eq_false_or_eq_true (decide (x22 = r30) && (decide (x23 = r31) && (seq x24 r32 && (x25 == r33)))) with hb35 | hb36
      · have h := hT hb35
        clear hT hF
        refine HPlan.gtakev (v := (.pointer (some (Addr.add ⟨H.size, 0, none⟩ 2)))) rfl rfl rfl rfl rfl (congrArg Value.bool hb35) (fun _ => HVal.fieldAddr' Tryd.runUnderlying35 rfl rfl Tryd.sizeOf9 rfl) ?_
        obtain ⟨x38, c37, h⟩ := h
        refine HPlan.gtakel (v := (.string x38)) (fun X => cell X (Addr.add ⟨H.size, 0, none⟩ 2) = some (.string x38)) rfl rfl rfl rfl rfl (congrArg Value.bool hb35) (fun _ hX => HVal.load1 Tryd.isAgg9 rfl hX) c37 ?_
        refine HPlan.gtakev (v := (.int .i64 ((x38).size : Int))) rfl rfl rfl rfl rfl (congrArg Value.bool hb35) (fun _ => HVal.lenS Tryd.runUnderlying9 rfl) ?_
        refine HPlan.gtakev (v := (.bool (decide (((x38).size : Int) ≤ 256)))) rfl rfl rfl rfl rfl (congrArg Value.bool hb35) (fun _ => HVal.leq rfl rfl) ?_
        refine HPlan.takev (v := (.bool (decide (((x38).size : Int) ≤ 256)))) rfl rfl (fun _ => HVal.pickT rfl hb35 rfl) ?_
        refine HPlan.takev (v := (.bool (decide (((x38).size : Int) ≤ 256)))) rfl rfl (fun _ => HVal.assign' rfl) ?_
        refine HPlan.done ?_
        refine nt ?_
        refine HW.ret ?_
        refine br ?_
        refine tr ?_
        exact ⟨_, resOf1 rfl Res1.t, ⟨(decide (((x38).size : Int) ≤ 256)), rfl, h⟩⟩
      · have h := hF hb36
        clear hT hF
        refine HPlan.takegskip rfl rfl rfl rfl (congrArg Value.bool hb36) ?_
        refine HPlan.takegskip rfl rfl rfl rfl (congrArg Value.bool hb36) ?_
        refine HPlan.takegskip rfl rfl rfl rfl (congrArg Value.bool hb36) ?_
        refine HPlan.takegskip rfl rfl rfl rfl (congrArg Value.bool hb36) ?_
        refine HPlan.takev (v := (.bool false)) rfl rfl (fun _ => HVal.pickF rfl hb36 rfl) ?_
        refine HPlan.takev (v := (.bool false)) rfl rfl (fun _ => HVal.assign' rfl) ?_
        refine HPlan.done ?_
        refine nt ?_
        refine HW.ret ?_
        refine br ?_
        refine tr ?_
        exact ⟨_, resOf1 rfl Res1.t, ⟨false, rfl, h⟩⟩
    · have h := hF hb20
      clear hT hF
      refine HW.seq ?_
      refine HW.region ?_
      refine HList.vals (v := (.bool (decide (x4 = 3)))) rfl (HVal.eqlI rfl rfl) ?_
      refine HList.vals (v := (.bool (decide (x4 = 3)))) rfl (HVal.assign' rfl) ?_
      refine HList.nil ?_
      refine nt ?_
      obtain ⟨hT, hF⟩ := h
      refine HW.cond (decide (x4 = 3)) rfl (fun hb39 => ?_) (fun hb39 => ?_)
      · have h := hT hb39
        clear hT hF
        refine HW.seq ?_
        refine HW.draw mixed [(0, some []), (1, some []), (2, some [3]), (3, none), (4, some []), (5, some [])] rfl (by kernel_rfl) (by kernel_rfl) ?_
        obtain ⟨x41, x42, x43, x44, c40, h⟩ := h
        refine HPlan.takel (v := (.agg #[(.int .i64 x41), (.int .i64 x42), (.string x43), (.bool x44)])) (fun X => cells X ⟨H.size, 0, none⟩ [(.int .i64 x41), (.int .i64 x42), (.string x43), (.bool x44)] 0) rfl rfl (fun _ hX => HVal.loadN [(.int .i64 x41), (.int .i64 x42), (.string x43), (.bool x44)] Tryd.isAgg35 Tryd.sizeOf35 rfl hX) c40 ?_
        refine HPlan.takev (v := (.pointer (some (Addr.add ⟨H.size, 0, none⟩ 3)))) rfl rfl (fun _ => HVal.fieldAddr' Tryd.runUnderlying35 rfl rfl Tryd.sizeOf4 rfl) ?_
        obtain ⟨x46, c45, h⟩ := h
        refine HPlan.takel (v := (.bool x46)) (fun X => cell X (Addr.add ⟨H.size, 0, none⟩ 3) = some (.bool x46)) rfl rfl (fun _ hX => HVal.load1 Tryd.isAgg4 rfl hX) c45 ?_
        refine HPlan.ops' rfl rfl (HOp.call' 58 [(.bool x46)] (cap := []) rfl rfl Tryd.call58 (walk58 h)) ?_
        rintro _ H47 ⟨r49, r50, r51, r52, rfl, h⟩
        obtain ⟨s53, h⟩ := h
        refine ⟨SC_of ⟨fun e => absurd e (by decide), fun _ => s53, trivial⟩, ?_⟩
        refine HPlan.takev (v := (.bool (decide (x41 = r49) && (decide (x42 = r50) && (seq x43 r51 && (x44 == r52)))))) rfl rfl (fun _ => eqs35_eql rfl rfl) ?_
        refine HPlan.takev (v := (.bool (decide (x41 = r49) && (decide (x42 = r50) && (seq x43 r51 && (x44 == r52)))))) rfl rfl (fun _ => HVal.assign' rfl) ?_
        refine HPlan.done ?_
        refine nt ?_
        refine HW.ret ?_
        refine br ?_
        refine tr ?_
        exact ⟨_, resOf1 rfl Res1.t, ⟨(decide (x41 = r49) && (decide (x42 = r50) && (seq x43 r51 && (x44 == r52)))), rfl, h⟩⟩
      · have h := hF hb39
        clear hT hF
        refine HW.skip ?_
        refine nb ?_
        refine nt ?_
        refine HW.seq ?_
        refine HW.region ?_
        refine HList.vals (v := (.bool false)) rfl (HVal.assign' rfl) ?_
        refine HList.nil ?_
        refine nt ?_
        refine HW.ret ?_
        exact ⟨_, resOf1 rfl Res1.t, ⟨false, rfl, h⟩⟩

def F11_L2b (Q : Int → Hp → Prop) (X2 : Int → Hp → Prop) (y39 : Addr) (y40 : Sl) (y41 : Int) (y38 : Int) (H_2 : Hp) : Prop :=
((decide (y38 < y41)) = true → (∃ a43 : Addr, (y40).b = some a43 ∧ (0 : Int) ≤ y38 ∧ y38 < ((y40).n : Int) ∧ (
 ∃ (x48 : Int) (x49 : Int) (x50 : ByteArray) (x51 : Bool), cells H_2 (Addr.add a43 (y38.toNat * 4)) [(.int .i64 x48), (.int .i64 x49), (.string x50), (.bool x51)] 0 ∧ (
 ∀ H52 : Hp, H52 = Array.push H_2 (.cells #[(.int .i64 0), (.int .i64 0), (.string (ByteArray.mk #[])), (.bool false)] 35) → (
 mayw H52 ⟨H_2.size, 0, none⟩ 4 0 ∧ ∀ H54 : Hp, H54 = sets H52 ⟨H_2.size, 0, none⟩ [(.int .i64 x48), (.int .i64 x49), (.string x50), (.bool x51)] 0 → (
 ∃ x58 : Int, cell H54 ⟨H_2.size, 0, none⟩ = some (.int .i64 x58) ∧ (
 ∃ x60 : Sl, cell H54 (Addr.add y39 1) = some (Sl.v x60) ∧ (
 ∃ a61 : Addr, (x60).b = some a61 ∧ (0 : Int) ≤ y38 ∧ y38 < ((x60).n : Int) ∧ (
 ∃ x66 : Int, cell H54 (Addr.add (Addr.add a61 (y38.toNat * 2)) 1) = some (.int .i64 x66) ∧ (
 ((decide (x58 ≠ x66)) = true → (Q 10 H54)) ∧
 ((decide (x58 ≠ x66)) = false → (∃ (x69 : Int) (x70 : Int) (x71 : ByteArray) (x72 : Bool), cells H54 ⟨H_2.size, 0, none⟩ [(.int .i64 x69), (.int .i64 x70), (.string x71), (.bool x72)] 0 ∧ (
 F27 x69 x70 x71 x72 H54 (fun (r75 : Bool) (H73 : Hp) => 
 ((!r75) = true → (Q 12 H73)) ∧
 ((!r75) = false → (X2 (IntKind.i64.wrap (y38 + 1)) H73)))))))))))))))) ∧
 ((decide (y38 < y41)) = false → (Q 0 H_2))
def F11_L2 (Q : Int → Hp → Prop) (y39 : Addr) (y40 : Sl) (y41 : Int) (y38 : Int) (H_2 : Hp) : Prop :=
  ∀ X2 : Int → Hp → Prop, (∀ (y38 : Int) (H_2 : Hp), F11_L2b Q X2 y39 y40 y41 y38 H_2 → X2 y38 H_2) → X2 y38 H_2
def F11_1 (Q : Int → Hp → Prop) (y21 : Addr) (y22 : Addr) (y27 : Bool) (H_1 : Hp) : Prop :=
(y27 = true → (Q 23 H_1)) ∧
 (y27 = false → (∃ x32 : Sl, cell H_1 (Addr.add y21 2) = some (Sl.v x32) ∧ (
 ∃ x34 : Sl, cell H_1 (Addr.add y22 1) = some (Sl.v x34) ∧ (
 ((decide (((x32).n : Int) ≠ ((x34).n : Int))) = true → (Q 22 H_1)) ∧
 ((decide (((x32).n : Int) ≠ ((x34).n : Int))) = false → (∃ x37 : Sl, cell H_1 (Addr.add y21 2) = some (Sl.v x37) ∧ (
 F11_L2 Q y22 x37 ((x37).n : Int) 0 H_1)))))))
def F11 (p0 : (Option Addr)) (p1_0 : ByteArray) (p1_1 : Int) (p1_2 : Sl) (H : Hp) (Q : Int → Hp → Prop) : Prop :=
∀ H1 : Hp, H1 = Array.push H (.cells #[(.string p1_0), (.int .i64 p1_1), (Sl.v p1_2)] 33) → (
 ∃ a3 : Addr, p0 = some a3 ∧ (
 ∃ x6 : (Option Nat), cell H1 a3 = some (.map x6) ∧ (
 ∃ x8 : ByteArray, cell H1 ⟨H.size, 0, none⟩ = some (.string x8) ∧ (
 ∃ (L9 : ML ByteArray (ByteArray × Sl)) (c10 : Nat), MapK mk9 mv27 Always H1 x6 L9 c10 x8 ∧ (
 ∀ H12 : Hp, H12 = Array.push H1 (.cells #[(.string (ByteArray.mk #[])), (Sl.v Sl.nil)] 27) → (
 MapK mk9 mv27 Always H12 x6 L9 c10 x8 ∧ cell H12 ⟨H.size, 0, none⟩ = some (.string x8) ∧ cell H12 a3 = some (.map x6) ∧ (
 mayw H12 ⟨H1.size, 0, none⟩ 2 0 ∧ ∀ H17 : Hp, H17 = sets H12 ⟨H1.size, 0, none⟩ [(.string ((mget L9 x8).getD ((ByteArray.mk #[]), Sl.nil)).1), (Sl.v ((mget L9 x8).getD ((ByteArray.mk #[]), Sl.nil)).2)] 0 → (
 ((!((mget L9 x8).isSome)) = true → (Q 21 H17)) ∧
 ((!((mget L9 x8).isSome)) = false → (∃ x24 : Int, cell H17 (Addr.add ⟨H.size, 0, none⟩ 1) = some (.int .i64 x24) ∧ (
 ((decide (x24 < 0)) = true → (F11_1 Q ⟨H.size, 0, none⟩ ⟨H1.size, 0, none⟩ true H17)) ∧
 ((decide (x24 < 0)) = false → (∃ x29 : Int, cell H17 (Addr.add ⟨H.size, 0, none⟩ 1) = some (.int .i64 x29) ∧ (
 F11_1 Q ⟨H.size, 0, none⟩ ⟨H1.size, 0, none⟩ (decide ((4611686018427387904 : Int) < x29)) H17))))))))))))))
set_option maxRecDepth 100000 in
set_option maxHeartbeats 4000000 in
theorem walk11 {w0 : World} {p0 : (Option Addr)} {p1_0 : ByteArray} {p1_1 : Int} {p1_2 : Sl} {H : Hp} {Q : Int → Hp → Prop} (h : F11 p0 p1_0 p1_1 p1_2 H Q) :
    Good Tryd.prog w0 11 #[(.pointer p0), (.agg #[(.string p1_0), (.int .i64 p1_1), (Sl.v p1_2)])] H (fun v H => ∃ (r0 : Int) , v = (.int .i64 r0) ∧ Q r0 H) := by
  unfold F11 at h
  refine Good.enter' (fn := Tryd.f11) Tryd.func11 rfl rfl rfl ?_
  refine HW.seq ?_
  refine HW.region ?_
  refine HList.ops' rfl (HOp.box (v := (.agg #[(.string p1_0), (.int .i64 p1_1), (Sl.v p1_2)])) rfl) ?_
  rintro _ H1 ⟨rfl, e2⟩
  replace h := h H1 e2
  refine HList.vals (v := (.int .i64 0)) rfl (HVal.assign' rfl) ?_
  refine HList.nil ?_
  refine nt ?_
  refine HW.seq ?_
  refine HW.draw mixed [(0, some []), (1, some []), (2, some []), (3, some [11]), (4, some []), (5, some [11]), (6, some [11]), (7, some []), (8, some []), (9, some []), (10, none), (11, none), (12, some [])] rfl (by kernel_rfl) (by kernel_rfl) ?_
  refine HPlan.takev (v := (.pointer p0)) rfl rfl (fun _ => HVal.move' rfl) ?_
  obtain ⟨a3, e4, h⟩ := h
  refine HPlan.takev (v := (.pointer (some a3))) rfl rfl (fun _ => HVal.nilCheck (congrArg Value.pointer e4)) ?_
  refine HPlan.takev (v := (.pointer (some a3))) rfl rfl (fun _ => HVal.fieldAddr0 Tryd.runUnderlying72 rfl rfl Tryd.sizeOf70 rfl) ?_
  obtain ⟨x6, c5, h⟩ := h
  refine HPlan.takel (v := (.map x6)) (fun X => cell X a3 = some (.map x6)) rfl rfl (fun _ hX => HVal.load1 Tryd.isAgg70 rfl hX) c5 ?_
  refine HPlan.takev (v := (.pointer (some ⟨H.size, 0, none⟩))) rfl rfl (fun _ => HVal.fieldAddr0 Tryd.runUnderlying33 rfl rfl Tryd.sizeOf9 rfl) ?_
  obtain ⟨x8, c7, h⟩ := h
  refine HPlan.takel (v := (.string x8)) (fun X => cell X ⟨H.size, 0, none⟩ = some (.string x8)) rfl rfl (fun _ hX => HVal.load1 Tryd.isAgg9 rfl hX) c7 ?_
  obtain ⟨L9, c10, c11, h⟩ := h
  refine HPlan.takel (v := (.tuple #[(.agg #[(.string ((mget L9 x8).getD ((ByteArray.mk #[]), Sl.nil)).1), (Sl.v ((mget L9 x8).getD ((ByteArray.mk #[]), Sl.nil)).2)]), (.bool ((mget L9 x8).isSome))])) (fun X => MapK mk9 mv27 Always X x6 L9 c10 x8) rfl rfl (fun _ hX => HVal.lookupOk (f := mk9) (g := mv27) (k := x8) (z := ((ByteArray.mk #[]), Sl.nil)) Tryd.runUnderlying70 mkk9 Tryd.zeroValue27 rfl rfl hX) c11 ?_
  refine HPlan.takev (v := (.tuple #[(.agg #[(.string ((mget L9 x8).getD ((ByteArray.mk #[]), Sl.nil)).1), (Sl.v ((mget L9 x8).getD ((ByteArray.mk #[]), Sl.nil)).2)]), (.bool ((mget L9 x8).isSome))])) rfl rfl (fun _ => HVal.move' rfl) ?_
  refine HPlan.takev (v := (.agg #[(.string ((mget L9 x8).getD ((ByteArray.mk #[]), Sl.nil)).1), (Sl.v ((mget L9 x8).getD ((ByteArray.mk #[]), Sl.nil)).2)])) rfl rfl (fun _ => HVal.extract rfl rfl) ?_
  refine HPlan.takev (v := (.bool ((mget L9 x8).isSome))) rfl rfl (fun _ => HVal.extract rfl rfl) ?_
  refine HPlan.ops' rfl rfl (HOp.alloc Tryd.zeroValue27) ?_
  rintro _ H12 ⟨rfl, e13⟩
  replace h := h H12 e13
  obtain ⟨s14, s15, s16, h⟩ := h
  refine ⟨SC_of ⟨fun _ => s14, fun _ => s15, fun _ => s16, trivial⟩, ?_⟩
  obtain ⟨z19, h⟩ := h
  refine HPlan.opsn rfl (HOp.storeN' (l := [(.string ((mget L9 x8).getD ((ByteArray.mk #[]), Sl.nil)).1), (Sl.v ((mget L9 x8).getD ((ByteArray.mk #[]), Sl.nil)).2)]) Tryd.sizeOf27 rfl rfl rfl z19) ?_
  rintro _ H17 e18
  replace h := h H17 e18
  refine ⟨SC_of ⟨fun e => absurd e (by decide), fun e => absurd e (by decide), fun e => absurd e (by decide), trivial⟩, ?_⟩
  refine HPlan.takev (v := (.bool ((mget L9 x8).isSome))) rfl rfl (fun _ => HVal.assign' rfl) ?_
  refine HPlan.done ?_
  refine nt ?_
  refine HW.seq ?_
  refine HW.block ?_
  refine HW.seq ?_
  refine HW.region ?_
  refine HList.vals (v := (.bool ((mget L9 x8).isSome))) rfl (HVal.move' rfl) ?_
  refine HList.vals (v := (.bool (!((mget L9 x8).isSome)))) rfl (HVal.not rfl) ?_
  refine HList.vals (v := (.bool (!((mget L9 x8).isSome)))) rfl (HVal.assign' rfl) ?_
  refine HList.nil ?_
  refine nt ?_
  obtain ⟨hT, hF⟩ := h
  refine HW.cond (!((mget L9 x8).isSome)) rfl (fun hb20 => ?_) (fun hb20 => ?_)
  · have h := hT hb20
    clear hT hF
    refine HW.seq ?_
    refine HW.region ?_
    refine HList.vals (v := (.int .i64 21)) rfl (HVal.assign' rfl) ?_
    refine HList.nil ?_
    refine nt ?_
    refine HW.ret ?_
    refine br ?_
    refine tr ?_
    exact ⟨_, resOf1 rfl Res1.t, ⟨21, rfl, h⟩⟩
  · have h := hF hb20
    clear hT hF
    refine HW.cut (fun ρ H_1 => ∃ (y27 : Bool), Env.Is ρ [(3, (.pointer (some ⟨H.size, 0, none⟩))), (5, (.pointer (some ⟨H1.size, 0, none⟩))), (22, (.bool y27))] ∧ F11_1 Q ⟨H.size, 0, none⟩ ⟨H1.size, 0, none⟩ y27 H_1) ?_ ?_
    · refine HW.region ?_
      refine HList.vals (v := (.pointer (some (Addr.add ⟨H.size, 0, none⟩ 1)))) rfl (HVal.fieldAddr' Tryd.runUnderlying33 rfl rfl Tryd.sizeOf2 rfl) ?_
      obtain ⟨x24, c23, h⟩ := h
      refine HList.vals (v := (.int .i64 x24)) rfl (HVal.load1 Tryd.isAgg2 rfl c23) ?_
      refine HList.vals (v := (.bool (decide (x24 < 0)))) rfl (HVal.lss rfl rfl) ?_
      refine HList.vals (v := (.bool (decide (x24 < 0)))) rfl (HVal.move' rfl) ?_
      obtain ⟨hT, hF⟩ := h
      rcases Bool.eq_false_or_eq_true (decide (x24 < 0)) with hb25 | hb26
      · have h := hT hb25
        clear hT hF
        refine HList.gskips rfl rfl rfl rfl (congrArg Value.bool hb25) ?_
        refine HList.gskips rfl rfl rfl rfl (congrArg Value.bool hb25) ?_
        refine HList.gskips rfl rfl rfl rfl (congrArg Value.bool hb25) ?_
        refine HList.vals (v := (.bool true)) rfl (HVal.pickT rfl hb25 rfl) ?_
        refine HList.vals (v := (.bool true)) rfl (HVal.assign' rfl) ?_
        refine HList.nil ?_
        refine nt ?_
        exact ⟨true, ⟨rfl, rfl, rfl, trivial⟩, h⟩
      · have h := hF hb26
        clear hT hF
        refine HList.gvals (v := (.pointer (some (Addr.add ⟨H.size, 0, none⟩ 1)))) rfl rfl rfl rfl (congrArg Value.bool hb26) (HVal.fieldAddr' Tryd.runUnderlying33 rfl rfl Tryd.sizeOf2 rfl) ?_
        obtain ⟨x29, c28, h⟩ := h
        refine HList.gvals (v := (.int .i64 x29)) rfl rfl rfl rfl (congrArg Value.bool hb26) (HVal.load1 Tryd.isAgg2 rfl c28) ?_
        refine HList.gvals (v := (.bool (decide ((4611686018427387904 : Int) < x29)))) rfl rfl rfl rfl (congrArg Value.bool hb26) (HVal.gtr rfl rfl) ?_
        refine HList.vals (v := (.bool (decide ((4611686018427387904 : Int) < x29)))) rfl (HVal.pickF rfl hb26 rfl) ?_
        refine HList.vals (v := (.bool (decide ((4611686018427387904 : Int) < x29)))) rfl (HVal.assign' rfl) ?_
        refine HList.nil ?_
        refine nt ?_
        exact ⟨(decide ((4611686018427387904 : Int) < x29)), ⟨rfl, rfl, rfl, trivial⟩, h⟩
    · rintro ρ H_1 ⟨y27, hI, h⟩
      obtain ⟨ρ0, rfl⟩ : ∃ ρ0, ρ = (Env.set (Env.set (Env.set ρ0 22 (.bool y27)) 5 (.pointer (some ⟨H1.size, 0, none⟩))) 3 (.pointer (some ⟨H.size, 0, none⟩))) := ⟨ρ, hI.eq⟩
      clear hI; unfold F11_1 at h
      obtain ⟨hT, hF⟩ := h
      refine HW.cond y27 rfl (fun hb30 => ?_) (fun hb30 => ?_)
      · have h := hT hb30
        clear hT hF
        refine HW.seq ?_
        refine HW.region ?_
        refine HList.vals (v := (.int .i64 23)) rfl (HVal.assign' rfl) ?_
        refine HList.nil ?_
        refine nt ?_
        refine HW.ret ?_
        refine br ?_
        refine tr ?_
        exact ⟨_, resOf1 rfl Res1.t, ⟨23, rfl, h⟩⟩
      · have h := hF hb30
        clear hT hF
        refine HW.seq ?_
        refine HW.region ?_
        refine HList.vals (v := (.pointer (some (Addr.add ⟨H.size, 0, none⟩ 2)))) rfl (HVal.fieldAddr' Tryd.runUnderlying33 rfl rfl Tryd.sizeOf31 rfl) ?_
        obtain ⟨x32, c31, h⟩ := h
        refine HList.vals (v := (Sl.v x32)) rfl (HVal.load1 Tryd.isAgg31 rfl c31) ?_
        refine HList.vals (v := (.int .i64 ((x32).n : Int))) rfl (HVal.len Tryd.runUnderlying31 rfl) ?_
        refine HList.vals (v := (.pointer (some (Addr.add ⟨H1.size, 0, none⟩ 1)))) rfl (HVal.fieldAddr' Tryd.runUnderlying27 rfl rfl Tryd.sizeOf25 rfl) ?_
        obtain ⟨x34, c33, h⟩ := h
        refine HList.vals (v := (Sl.v x34)) rfl (HVal.load1 Tryd.isAgg25 rfl c33) ?_
        refine HList.vals (v := (.int .i64 ((x34).n : Int))) rfl (HVal.len Tryd.runUnderlying25 rfl) ?_
        refine HList.vals (v := (.bool (decide (((x32).n : Int) ≠ ((x34).n : Int))))) rfl (HVal.neqI rfl rfl) ?_
        refine HList.vals (v := (.bool (decide (((x32).n : Int) ≠ ((x34).n : Int))))) rfl (HVal.assign' rfl) ?_
        refine HList.nil ?_
        refine nt ?_
        obtain ⟨hT, hF⟩ := h
        refine HW.cond (decide (((x32).n : Int) ≠ ((x34).n : Int))) rfl (fun hb35 => ?_) (fun hb35 => ?_)
        · have h := hT hb35
          clear hT hF
          refine HW.seq ?_
          refine HW.region ?_
          refine HList.vals (v := (.int .i64 22)) rfl (HVal.assign' rfl) ?_
          refine HList.nil ?_
          refine nt ?_
          refine HW.ret ?_
          refine br ?_
          refine tr ?_
          exact ⟨_, resOf1 rfl Res1.t, ⟨22, rfl, h⟩⟩
        · have h := hF hb35
          clear hT hF
          refine HW.skip ?_
          refine nb ?_
          refine nt ?_
          refine HW.seq ?_
          refine HW.seq ?_
          refine HW.region ?_
          refine HList.vals (v := (.pointer (some (Addr.add ⟨H.size, 0, none⟩ 2)))) rfl (HVal.fieldAddr' Tryd.runUnderlying33 rfl rfl Tryd.sizeOf31 rfl) ?_
          obtain ⟨x37, c36, h⟩ := h
          refine HList.vals (v := (Sl.v x37)) rfl (HVal.load1 Tryd.isAgg31 rfl c36) ?_
          refine HList.vals (v := (.int .i64 ((x37).n : Int))) rfl (HVal.len Tryd.runUnderlying31 rfl) ?_
          refine HList.vals (v := (.int .i64 0)) rfl (HVal.move' rfl) ?_
          refine HList.nil ?_
          refine nt ?_
          refine HW.block ?_
          refine HW.loop' (fun L2 hL2 => ?_)
          obtain ⟨X2, hX2⟩ : ∃ X2 : Int → Hp → Prop, ∀ (y38 : Int) (H_2 : Hp), X2 y38 H_2 ↔ ∀ ρ, Env.Is ρ [(5, (.pointer (some ⟨H1.size, 0, none⟩))), (40, (Sl.v x37)), (41, (.int .i64 ((x37).n : Int))), (42, (.int .i64 y38))] → L2 ρ H_2 := ⟨_, fun _ _ => Iff.rfl⟩
          refine (hX2 _ _).1 (h X2 ?_) _ ?_
          rotate_left
          · exact ⟨rfl, rfl, rfl, rfl, trivial⟩
          clear h
          intro y38 H_2 h
          refine (hX2 _ _).2 fun ρ hI => ?_
          obtain ⟨ρ0, rfl⟩ : ∃ ρ0, ρ = (Env.set (Env.set (Env.set (Env.set ρ0 42 (.int .i64 y38)) 41 (.int .i64 ((x37).n : Int))) 40 (Sl.v x37)) 5 (.pointer (some ⟨H1.size, 0, none⟩))) := ⟨ρ, hI.eq⟩
          clear hI; unfold F11_L2b at h; refine hL2 _ _ ?_
          refine HW.seq ?_
          refine HW.region ?_
          refine HList.vals (v := (.bool (decide (y38 < ((x37).n : Int))))) rfl (HVal.lss rfl rfl) ?_
          refine HList.nil ?_
          refine nt ?_
          refine HW.seq ?_
          obtain ⟨hT, hF⟩ := h
          refine HW.cond (decide (y38 < ((x37).n : Int))) rfl (fun hb42 => ?_) (fun hb42 => ?_)
          · have h := hT hb42
            clear hT hF
            refine HW.skip ?_
            refine nt ?_
            refine HW.seq ?_
            refine HW.block ?_
            refine HW.seq ?_
            refine HW.region ?_
            refine HList.vals (v := (.int .i64 y38)) rfl (HVal.move' rfl) ?_
            obtain ⟨a43, e44, b45, b46, h⟩ := h
            refine HList.vals (v := (.pointer (some (Addr.add a43 (y38.toNat * 4))))) rfl (HVal.indexAddr Tryd.runUnderlying31 Tryd.sizeOf35 (Sl.v_some rfl e44) rfl b45 b46) ?_
            obtain ⟨x48, x49, x50, x51, c47, h⟩ := h
            refine HList.vals (v := (.agg #[(.int .i64 x48), (.int .i64 x49), (.string x50), (.bool x51)])) rfl (HVal.loadN [(.int .i64 x48), (.int .i64 x49), (.string x50), (.bool x51)] Tryd.isAgg35 Tryd.sizeOf35 rfl c47) ?_
            refine HList.ops' rfl (HOp.alloc Tryd.zeroValue35) ?_
            rintro _ H52 ⟨rfl, e53⟩
            replace h := h H52 e53
            refine HList.vals (v := (.int .i64 y38)) rfl (HVal.assign' rfl) ?_
            obtain ⟨z56, h⟩ := h
            refine HList.opsn (HOp.storeN' (l := [(.int .i64 x48), (.int .i64 x49), (.string x50), (.bool x51)]) Tryd.sizeOf35 rfl rfl rfl z56) ?_
            rintro _ H54 e55
            replace h := h H54 e55
            refine HList.nil ?_
            refine nt ?_
            refine HW.seq ?_
            refine HW.seq ?_
            refine HW.draw mixed [(0, some []), (1, some []), (2, some []), (3, some []), (4, some []), (5, some []), (6, some []), (7, some []), (8, some [])] rfl (by kernel_rfl) (by kernel_rfl) ?_
            refine HPlan.takev (v := (.pointer (some ⟨H_2.size, 0, none⟩))) rfl rfl (fun _ => HVal.fieldAddr0 Tryd.runUnderlying35 rfl rfl Tryd.sizeOf3 rfl) ?_
            obtain ⟨x58, c57, h⟩ := h
            refine HPlan.takel (v := (.int .i64 x58)) (fun X => cell X ⟨H_2.size, 0, none⟩ = some (.int .i64 x58)) rfl rfl (fun _ hX => HVal.load1 Tryd.isAgg3 rfl hX) c57 ?_
            refine HPlan.takev (v := (.pointer (some (Addr.add ⟨H1.size, 0, none⟩ 1)))) rfl rfl (fun _ => HVal.fieldAddr' Tryd.runUnderlying27 rfl rfl Tryd.sizeOf25 rfl) ?_
            obtain ⟨x60, c59, h⟩ := h
            refine HPlan.takel (v := (Sl.v x60)) (fun X => cell X (Addr.add ⟨H1.size, 0, none⟩ 1) = some (Sl.v x60)) rfl rfl (fun _ hX => HVal.load1 Tryd.isAgg25 rfl hX) c59 ?_
            refine HPlan.takev (v := (.int .i64 y38)) rfl rfl (fun _ => HVal.move' rfl) ?_
            obtain ⟨a61, e62, b63, b64, h⟩ := h
            refine HPlan.takev (v := (.pointer (some (Addr.add a61 (y38.toNat * 2))))) rfl rfl (fun _ => HVal.indexAddr Tryd.runUnderlying25 Tryd.sizeOf38 (Sl.v_some rfl e62) rfl b63 b64) ?_
            refine HPlan.takev (v := (.pointer (some (Addr.add (Addr.add a61 (y38.toNat * 2)) 1)))) rfl rfl (fun _ => HVal.fieldAddr' Tryd.runUnderlying38 rfl rfl Tryd.sizeOf3 rfl) ?_
            obtain ⟨x66, c65, h⟩ := h
            refine HPlan.takel (v := (.int .i64 x66)) (fun X => cell X (Addr.add (Addr.add a61 (y38.toNat * 2)) 1) = some (.int .i64 x66)) rfl rfl (fun _ hX => HVal.load1 Tryd.isAgg3 rfl hX) c65 ?_
            refine HPlan.takev (v := (.bool (decide (x58 ≠ x66)))) rfl rfl (fun _ => HVal.neqI rfl rfl) ?_
            refine HPlan.done ?_
            refine nt ?_
            obtain ⟨hT, hF⟩ := h
            refine HW.cond (decide (x58 ≠ x66)) rfl (fun hb67 => ?_) (fun hb67 => ?_)
            · have h := hT hb67
              clear hT hF
              refine HW.seq ?_
              refine HW.region ?_
              refine HList.vals (v := (.int .i64 10)) rfl (HVal.assign' rfl) ?_
              refine HList.nil ?_
              refine nt ?_
              refine HW.ret ?_
              refine tr ?_
              refine br ?_
              refine tr ?_
              refine tr ?_
              refine br ?_
              refine tr ?_
              exact ⟨_, resOf1 rfl Res1.t, ⟨10, rfl, h⟩⟩
            · have h := hF hb67
              clear hT hF
              refine HW.skip ?_
              refine nt ?_
              refine HW.seq ?_
              refine HW.region ?_
              obtain ⟨x69, x70, x71, x72, c68, h⟩ := h
              refine HList.vals (v := (.agg #[(.int .i64 x69), (.int .i64 x70), (.string x71), (.bool x72)])) rfl (HVal.loadN [(.int .i64 x69), (.int .i64 x70), (.string x71), (.bool x72)] Tryd.isAgg35 Tryd.sizeOf35 rfl c68) ?_
              refine HList.ops' rfl (HOp.call' 27 [(.agg #[(.int .i64 x69), (.int .i64 x70), (.string x71), (.bool x72)])] (cap := []) rfl rfl Tryd.call27 (walk27 h)) ?_
              rintro _ H73 ⟨r75, rfl, h⟩
              refine HList.vals (v := (.bool (!r75))) rfl (HVal.not rfl) ?_
              refine HList.nil ?_
              refine nt ?_
              obtain ⟨hT, hF⟩ := h
              refine HW.cond (!r75) rfl (fun hb76 => ?_) (fun hb76 => ?_)
              · have h := hT hb76
                clear hT hF
                refine HW.seq ?_
                refine HW.region ?_
                refine HList.vals (v := (.int .i64 12)) rfl (HVal.assign' rfl) ?_
                refine HList.nil ?_
                refine nt ?_
                refine HW.ret ?_
                refine br ?_
                refine tr ?_
                refine tr ?_
                refine br ?_
                refine tr ?_
                exact ⟨_, resOf1 rfl Res1.t, ⟨12, rfl, h⟩⟩
              · have h := hF hb76
                clear hT hF
                refine HW.skip ?_
                refine nb ?_
                refine nt ?_
                refine HW.region ?_
                refine HList.vals (v := (.int .i64 (IntKind.i64.wrap (y38 + 1)))) rfl (HVal.add rfl rfl) ?_
                refine HList.vals (v := (.int .i64 (IntKind.i64.wrap (y38 + 1)))) rfl (HVal.move' rfl) ?_
                refine HList.nil ?_
                refine nt ?_
                exact (hX2 _ _).1 h _ ⟨rfl, rfl, rfl, rfl, trivial⟩
          · have h := hF hb42
            clear hT hF
            refine HW.exit ?_
            refine te ?_
            refine te ?_
            refine be ?_
            refine nt ?_
            refine HW.seq ?_
            refine HW.region ?_
            refine HList.vals (v := (.int .i64 0)) rfl (HVal.assign' rfl) ?_
            refine HList.nil ?_
            refine nt ?_
            refine HW.ret ?_
            exact ⟨_, resOf1 rfl Res1.t, ⟨0, rfl, h⟩⟩

def F78 (p0_0 : ByteArray) (p0_1 : Int) (p1 : Addr) (H : Hp) (Q : Bool → Hp → Prop) : Prop :=
∀ H1 : Hp, H1 = Array.push H (.cells #[(.string p0_0), (.int .i64 p0_1)] 38) → (
 ∃ x4 : ByteArray, cell H1 ⟨H.size, 0, none⟩ = some (.string x4) ∧ (
 ∃ x6 : ByteArray, cell H1 p1 = some (.string x6) ∧ (
 Q (seq x4 x6) H1)))
set_option maxRecDepth 100000 in
set_option maxHeartbeats 4000000 in
theorem walk78 {w0 : World} {p0_0 : ByteArray} {p0_1 : Int} {p1 : Addr} {H : Hp} {Q : Bool → Hp → Prop} (h : F78 p0_0 p0_1 p1 H Q) :
    Good Tryd.prog w0 78 #[(.agg #[(.string p0_0), (.int .i64 p0_1)]), (.pointer (some p1))] H (fun v H => ∃ (r0 : Bool) , v = (.bool r0) ∧ Q r0 H) := by
  unfold F78 at h
  refine Good.enter' (fn := Tryd.f78) Tryd.func78 rfl rfl rfl ?_
  refine HW.seq ?_
  refine HW.region ?_
  refine HList.ops' rfl (HOp.box (v := (.agg #[(.string p0_0), (.int .i64 p0_1)])) rfl) ?_
  rintro _ H1 ⟨rfl, e2⟩
  replace h := h H1 e2
  refine HList.vals (v := (.bool false)) rfl (HVal.assign' rfl) ?_
  refine HList.nil ?_
  refine nt ?_
  refine HW.seq ?_
  refine HW.region ?_
  refine HList.vals (v := (.pointer (some ⟨H.size, 0, none⟩))) rfl (HVal.fieldAddr0 Tryd.runUnderlying38 rfl rfl Tryd.sizeOf9 rfl) ?_
  obtain ⟨x4, c3, h⟩ := h
  refine HList.vals (v := (.string x4)) rfl (HVal.load1 Tryd.isAgg9 rfl c3) ?_
  obtain ⟨x6, c5, h⟩ := h
  refine HList.vals (v := (.string x6)) rfl (HVal.load1 Tryd.isAgg9 rfl c5) ?_
  refine HList.vals (v := (.bool (seq x4 x6))) rfl (HVal.eqlS rfl rfl) ?_
  refine HList.vals (v := (.bool (seq x4 x6))) rfl (HVal.assign' rfl) ?_
  refine HList.nil ?_
  refine nt ?_
  refine HW.ret ?_
  exact ⟨_, resOf1 rfl Res1.t, ⟨(seq x4 x6), rfl, h⟩⟩

def F94_78_L1b (Q : Int → Hp → Prop) (X1 : Int → Hp → Prop) (y2 : Sl) (y3 : Addr) (y4 : Int) (y1 : Int) (H_1 : Hp) : Prop :=
((decide (y1 < y4)) = true → (∃ a6 : Addr, (y2).b = some a6 ∧ (0 : Int) ≤ y1 ∧ y1 < ((y2).n : Int) ∧ (
 ∃ (x11 : ByteArray) (x12 : Int), cells H_1 (Addr.add a6 (y1.toNat * 2)) [(.string x11), (.int .i64 x12)] 0 ∧ (
 F78 x11 x12 y3 H_1 (fun (r15 : Bool) (H13 : Hp) => 
 (r15 = true → (Q y1 H13)) ∧
 (r15 = false → (X1 (IntKind.i64.wrap (y1 + 1)) H13))))))) ∧
 ((decide (y1 < y4)) = false → (Q (-1) H_1))
def F94_78_L1 (Q : Int → Hp → Prop) (y2 : Sl) (y3 : Addr) (y4 : Int) (y1 : Int) (H_1 : Hp) : Prop :=
  ∀ X1 : Int → Hp → Prop, (∀ (y1 : Int) (H_1 : Hp), F94_78_L1b Q X1 y2 y3 y4 y1 H_1 → X1 y1 H_1) → X1 y1 H_1
def F94_78 (p0 : Sl) (p1 : Addr) (H : Hp) (Q : Int → Hp → Prop) : Prop :=
F94_78_L1 Q p0 p1 ((p0).n : Int) 0 H
set_option maxRecDepth 100000 in
set_option maxHeartbeats 4000000 in
theorem walk94_78 {w0 : World} {p0 : Sl} {p1 : Addr} {H : Hp} {Q : Int → Hp → Prop} (h : F94_78 p0 p1 H Q) :
    Good Tryd.prog w0 94 #[(Sl.v p0), (.func (.func 78) #[] #[(.pointer (some p1))])] H (fun v H => ∃ (r0 : Int) , v = (.int .i64 r0) ∧ Q r0 H) := by
  unfold F94_78 at h
  refine Good.enter' (fn := Tryd.f94) Tryd.func94 rfl rfl rfl ?_
  refine HW.seq ?_
  refine HW.region ?_
  refine HList.vals (v := (.int .i64 0)) rfl (HVal.assign' rfl) ?_
  refine HList.nil ?_
  refine nt ?_
  refine HW.seq ?_
  refine HW.seq ?_
  refine HW.region ?_
  refine HList.vals (v := (Sl.v p0)) rfl (HVal.move' rfl) ?_
  refine HList.vals (v := (.int .i64 ((p0).n : Int))) rfl (HVal.len Tryd.runUnderlying25 rfl) ?_
  refine HList.vals (v := (.int .i64 0)) rfl (HVal.move' rfl) ?_
  refine HList.nil ?_
  refine nt ?_
  refine HW.block ?_
  refine HW.loop' (fun L1 hL1 => ?_)
  obtain ⟨X1, hX1⟩ : ∃ X1 : Int → Hp → Prop, ∀ (y1 : Int) (H_1 : Hp), X1 y1 H_1 ↔ ∀ ρ, Env.Is ρ [(0, (Sl.v p0)), (1, (.func (.func 78) #[] #[(.pointer (some p1))])), (7, (.int .i64 ((p0).n : Int))), (8, (.int .i64 y1))] → L1 ρ H_1 := ⟨_, fun _ _ => Iff.rfl⟩
  refine (hX1 _ _).1 (h X1 ?_) _ ?_
  rotate_left
  · exact ⟨rfl, rfl, rfl, rfl, trivial⟩
  clear h
  intro y1 H_1 h
  refine (hX1 _ _).2 fun ρ hI => ?_
  obtain ⟨ρ0, rfl⟩ : ∃ ρ0, ρ = (Env.set (Env.set (Env.set (Env.set ρ0 8 (.int .i64 y1)) 7 (.int .i64 ((p0).n : Int))) 1 (.func (.func 78) #[] #[(.pointer (some p1))])) 0 (Sl.v p0)) := ⟨ρ, hI.eq⟩
  clear hI; unfold F94_78_L1b at h; refine hL1 _ _ ?_
  refine HW.seq ?_
  refine HW.region ?_
  refine HList.vals (v := (.bool (decide (y1 < ((p0).n : Int))))) rfl (HVal.lss rfl rfl) ?_
  refine HList.nil ?_
  refine nt ?_
  refine HW.seq ?_
  obtain ⟨hT, hF⟩ := h
  refine HW.cond (decide (y1 < ((p0).n : Int))) rfl (fun hb5 => ?_) (fun hb5 => ?_)
  · have h := hT hb5
    clear hT hF
    refine HW.skip ?_
    refine nt ?_
    refine HW.seq ?_
    refine HW.block ?_
    refine HW.seq ?_
    refine HW.region ?_
    refine HList.vals (v := (.int .i64 y1)) rfl (HVal.move' rfl) ?_
    refine HList.vals (v := (.int .i64 y1)) rfl (HVal.assign' rfl) ?_
    refine HList.nil ?_
    refine nt ?_
    refine HW.seq ?_
    refine HW.region ?_
    refine HList.vals (v := (.func (.func 78) #[] #[(.pointer (some p1))])) rfl (HVal.move' rfl) ?_
    refine HList.vals (v := (Sl.v p0)) rfl (HVal.move' rfl) ?_
    refine HList.vals (v := (.int .i64 y1)) rfl (HVal.move' rfl) ?_
    obtain ⟨a6, e7, b8, b9, h⟩ := h
    refine HList.vals (v := (.pointer (some (Addr.add a6 (y1.toNat * 2))))) rfl (HVal.indexAddr Tryd.runUnderlying25 Tryd.sizeOf38 (Sl.v_some rfl e7) rfl b8 b9) ?_
    obtain ⟨x11, x12, c10, h⟩ := h
    refine HList.vals (v := (.agg #[(.string x11), (.int .i64 x12)])) rfl (HVal.loadN [(.string x11), (.int .i64 x12)] Tryd.isAgg38 Tryd.sizeOf38 rfl c10) ?_
    refine HList.ops' rfl (HOp.call' 78 [(.agg #[(.string x11), (.int .i64 x12)]), (.pointer (some p1))] (cap := [(.pointer (some p1))]) rfl rfl Tryd.call78 (walk78 h)) ?_
    rintro _ H13 ⟨r15, rfl, h⟩
    refine HList.nil ?_
    refine nt ?_
    obtain ⟨hT, hF⟩ := h
    refine HW.cond r15 rfl (fun hb16 => ?_) (fun hb16 => ?_)
    · have h := hT hb16
      clear hT hF
      refine HW.seq ?_
      refine HW.region ?_
      refine HList.vals (v := (.int .i64 y1)) rfl (HVal.move' rfl) ?_
      refine HList.vals (v := (.int .i64 y1)) rfl (HVal.assign' rfl) ?_
      refine HList.nil ?_
      refine nt ?_
      refine HW.ret ?_
      refine br ?_
      refine tr ?_
      refine tr ?_
      refine br ?_
      refine tr ?_
      exact ⟨_, resOf1 rfl Res1.t, ⟨y1, rfl, h⟩⟩
    · have h := hF hb16
      clear hT hF
      refine HW.skip ?_
      refine nb ?_
      refine nt ?_
      refine HW.region ?_
      refine HList.vals (v := (.int .i64 (IntKind.i64.wrap (y1 + 1)))) rfl (HVal.add rfl rfl) ?_
      refine HList.vals (v := (.int .i64 (IntKind.i64.wrap (y1 + 1)))) rfl (HVal.move' rfl) ?_
      refine HList.nil ?_
      refine nt ?_
      exact (hX1 _ _).1 h _ ⟨rfl, rfl, rfl, rfl, trivial⟩
  · have h := hF hb5
    clear hT hF
    refine HW.exit ?_
    refine te ?_
    refine te ?_
    refine be ?_
    refine nt ?_
    refine HW.seq ?_
    refine HW.region ?_
    refine HList.vals (v := (.int .i64 (-1))) rfl (HVal.assign' rfl) ?_
    refine HList.nil ?_
    refine nt ?_
    refine HW.ret ?_
    exact ⟨_, resOf1 rfl Res1.t, ⟨(-1), rfl, h⟩⟩

def F77_78 (p0 : Sl) (p1 : Addr) (H : Hp) (Q : Bool → Hp → Prop) : Prop :=
F94_78 p0 p1 H (fun (r3 : Int) (H1 : Hp) => 
 Q (decide ((0 : Int) ≤ r3)) H1)
set_option maxRecDepth 100000 in
set_option maxHeartbeats 4000000 in
theorem walk77_78 {w0 : World} {p0 : Sl} {p1 : Addr} {H : Hp} {Q : Bool → Hp → Prop} (h : F77_78 p0 p1 H Q) :
    Good Tryd.prog w0 77 #[(Sl.v p0), (.func (.func 78) #[] #[(.pointer (some p1))])] H (fun v H => ∃ (r0 : Bool) , v = (.bool r0) ∧ Q r0 H) := by
  unfold F77_78 at h
  refine Good.enter' (fn := Tryd.f77) Tryd.func77 rfl rfl rfl ?_
  refine HW.seq ?_
  refine HW.region ?_
  refine HList.vals (v := (.bool false)) rfl (HVal.assign' rfl) ?_
  refine HList.nil ?_
  refine nt ?_
  refine HW.seq ?_
  refine HW.region ?_
  refine HList.vals (v := (Sl.v p0)) rfl (HVal.move' rfl) ?_
  refine HList.vals (v := (.func (.func 78) #[] #[(.pointer (some p1))])) rfl (HVal.move' rfl) ?_
  refine HList.ops' rfl (HOp.call' 94 [(Sl.v p0), (.func (.func 78) #[] #[(.pointer (some p1))])] (cap := []) rfl rfl Tryd.call94 (walk94_78 h)) ?_
  rintro _ H1 ⟨r3, rfl, h⟩
  refine HList.vals (v := (.bool (decide ((0 : Int) ≤ r3)))) rfl (HVal.geq rfl rfl) ?_
  refine HList.vals (v := (.bool (decide ((0 : Int) ≤ r3)))) rfl (HVal.assign' rfl) ?_
  refine HList.nil ?_
  refine nt ?_
  refine HW.ret ?_
  exact ⟨_, resOf1 rfl Res1.t, ⟨(decide ((0 : Int) ≤ r3)), rfl, h⟩⟩

def F54 (p0 : Sl) (p1 : ByteArray) (H : Hp) (Q : Bool → Hp → Prop) : Prop :=
∀ H1 : Hp, H1 = Array.push H (.cells #[(.string p1)] 9) → (
 F77_78 p0 ⟨H.size, 0, none⟩ H1 (fun (r5 : Bool) (H3 : Hp) => 
 Q r5 H3))
set_option maxRecDepth 100000 in
set_option maxHeartbeats 4000000 in
theorem walk54 {w0 : World} {p0 : Sl} {p1 : ByteArray} {H : Hp} {Q : Bool → Hp → Prop} (h : F54 p0 p1 H Q) :
    Good Tryd.prog w0 54 #[(Sl.v p0), (.string p1)] H (fun v H => ∃ (r0 : Bool) , v = (.bool r0) ∧ Q r0 H) := by
  unfold F54 at h
  refine Good.enter' (fn := Tryd.f54) Tryd.func54 rfl rfl rfl ?_
  refine HW.seq ?_
  refine HW.region ?_
  refine HList.ops' rfl (HOp.box (v := (.string p1)) rfl) ?_
  rintro _ H1 ⟨rfl, e2⟩
  replace h := h H1 e2
  refine HList.vals (v := (.bool false)) rfl (HVal.assign' rfl) ?_
  refine HList.nil ?_
  refine nt ?_
  refine HW.seq ?_
  refine HW.region ?_
  refine HList.vals (v := (Sl.v p0)) rfl (HVal.move' rfl) ?_
  refine HList.vals (v := (.func (.func 78) #[] #[(.pointer (some ⟨H.size, 0, none⟩))])) rfl (HVal.makeFuncL rfl) ?_
  refine HList.ops' rfl (HOp.call' 77 [(Sl.v p0), (.func (.func 78) #[] #[(.pointer (some ⟨H.size, 0, none⟩))])] (cap := []) rfl rfl Tryd.call77 (walk77_78 h)) ?_
  rintro _ H3 ⟨r5, rfl, h⟩
  refine HList.vals (v := (.bool r5)) rfl (HVal.assign' rfl) ?_
  refine HList.nil ?_
  refine nt ?_
  refine HW.ret ?_
  exact ⟨_, resOf1 rfl Res1.t, ⟨r5, rfl, h⟩⟩

def F24_L1b (Q : Int → Hp → Prop) (X1 : Int → Hp → Prop) (y15 : Addr) (y16 : Sl) (y17 : Int) (y14 : Int) (H_1 : Hp) : Prop :=
((decide (y14 < y17)) = true → (∃ a19 : Addr, (y16).b = some a19 ∧ (0 : Int) ≤ y14 ∧ y14 < ((y16).n : Int) ∧ (
 ∃ (x24 : ByteArray) (x25 : Int), cells H_1 (Addr.add a19 (y14.toNat * 2)) [(.string x24), (.int .i64 x25)] 0 ∧ (
 ∀ H26 : Hp, H26 = Array.push H_1 (.cells #[(.string (ByteArray.mk #[])), (.int .i64 0)] 38) → (
 mayw H26 ⟨H_1.size, 0, none⟩ 2 0 ∧ ∀ H28 : Hp, H28 = sets H26 ⟨H_1.size, 0, none⟩ [(.string x24), (.int .i64 x25)] 0 → (
 ∃ x32 : ByteArray, cell H28 ⟨H_1.size, 0, none⟩ = some (.string x32) ∧ (
 F52 x32 H28 (fun (r35 : Bool) (H33 : Hp) => 
 ((!r35) = true → (Q 20 H33)) ∧
 ((!r35) = false → (∃ x38 : Int, cell H33 (Addr.add ⟨H_1.size, 0, none⟩ 1) = some (.int .i64 x38) ∧ (
 F53 x38 H33 (fun (r41 : Bool) (H39 : Hp) => 
 ((!r41) = true → (Q 24 H39)) ∧
 ((!r41) = false → (∃ x44 : Sl, cell H39 (Addr.add y15 1) = some (Sl.v x44) ∧ (
 (0 : Int) ≤ y14 ∧ 0 ≤ y14.toNat ∧ y14.toNat ≤ (x44).c ∧ (x44).c ≤ (x44).c ∧ (
 ∃ x50 : ByteArray, cell H39 ⟨H_1.size, 0, none⟩ = some (.string x50) ∧ (
 F54 (Sl.cut x44 2 0 y14.toNat ((x44).c)) x50 H39 (fun (r53 : Bool) (H51 : Hp) => 
 cell H51 (Addr.add y15 1) = some (Sl.v x44) ∧ (
 (r53 = true → (Q 5 H51)) ∧
 (r53 = false → (X1 (IntKind.i64.wrap (y14 + 1)) H51))))))))))))))))))))) ∧
 ((decide (y14 < y17)) = false → (Q 0 H_1))
def F24_L1 (Q : Int → Hp → Prop) (y15 : Addr) (y16 : Sl) (y17 : Int) (y14 : Int) (H_1 : Hp) : Prop :=
  ∀ X1 : Int → Hp → Prop, (∀ (y14 : Int) (H_1 : Hp), F24_L1b Q X1 y15 y16 y17 y14 H_1 → X1 y14 H_1) → X1 y14 H_1
def F24 (p0_0 : ByteArray) (p0_1 : Sl) (H : Hp) (Q : Int → Hp → Prop) : Prop :=
∀ H1 : Hp, H1 = Array.push H (.cells #[(.string p0_0), (Sl.v p0_1)] 27) → (
 ∃ x4 : ByteArray, cell H1 ⟨H.size, 0, none⟩ = some (.string x4) ∧ (
 F17 x4 H1 (fun (r7 : Bool) (H5 : Hp) => 
 ((!r7) = true → (Q 20 H5)) ∧
 ((!r7) = false → (∃ x10 : Sl, cell H5 (Addr.add ⟨H.size, 0, none⟩ 1) = some (Sl.v x10) ∧ (
 ((decide ((16 : Int) < ((x10).n : Int))) = true → (Q 2 H5)) ∧
 ((decide ((16 : Int) < ((x10).n : Int))) = false → (∃ x13 : Sl, cell H5 (Addr.add ⟨H.size, 0, none⟩ 1) = some (Sl.v x13) ∧ (
 F24_L1 Q ⟨H.size, 0, none⟩ x13 ((x13).n : Int) 0 H5)))))))))
set_option maxRecDepth 100000 in
set_option maxHeartbeats 4000000 in
theorem walk24 {w0 : World} {p0_0 : ByteArray} {p0_1 : Sl} {H : Hp} {Q : Int → Hp → Prop} (h : F24 p0_0 p0_1 H Q) :
    Good Tryd.prog w0 24 #[(.agg #[(.string p0_0), (Sl.v p0_1)])] H (fun v H => ∃ (r0 : Int) , v = (.int .i64 r0) ∧ Q r0 H) := by
  unfold F24 at h
  refine Good.enter' (fn := Tryd.f24) Tryd.func24 rfl rfl rfl ?_
  refine HW.seq ?_
  refine HW.region ?_
  refine HList.ops' rfl (HOp.box (v := (.agg #[(.string p0_0), (Sl.v p0_1)])) rfl) ?_
  rintro _ H1 ⟨rfl, e2⟩
  replace h := h H1 e2
  refine HList.vals (v := (.int .i64 0)) rfl (HVal.assign' rfl) ?_
  refine HList.nil ?_
  refine nt ?_
  refine HW.seq ?_
  refine HW.seq ?_
  refine HW.region ?_
  refine HList.vals (v := (.pointer (some ⟨H.size, 0, none⟩))) rfl (HVal.fieldAddr0 Tryd.runUnderlying27 rfl rfl Tryd.sizeOf9 rfl) ?_
  obtain ⟨x4, c3, h⟩ := h
  refine HList.vals (v := (.string x4)) rfl (HVal.load1 Tryd.isAgg9 rfl c3) ?_
  refine HList.ops' rfl (HOp.call' 17 [(.string x4)] (cap := []) rfl rfl Tryd.call17 (walk17 h)) ?_
  rintro _ H5 ⟨r7, rfl, h⟩
  refine HList.vals (v := (.bool (!r7))) rfl (HVal.not rfl) ?_
  refine HList.nil ?_
  refine nt ?_
  obtain ⟨hT, hF⟩ := h
  refine HW.cond (!r7) rfl (fun hb8 => ?_) (fun hb8 => ?_)
  · have h := hT hb8
    clear hT hF
    refine HW.seq ?_
    refine HW.region ?_
    refine HList.vals (v := (.int .i64 20)) rfl (HVal.assign' rfl) ?_
    refine HList.nil ?_
    refine nt ?_
    refine HW.ret ?_
    refine tr ?_
    exact ⟨_, resOf1 rfl Res1.t, ⟨20, rfl, h⟩⟩
  · have h := hF hb8
    clear hT hF
    refine HW.skip ?_
    refine nt ?_
    refine HW.seq ?_
    refine HW.seq ?_
    refine HW.region ?_
    refine HList.vals (v := (.pointer (some (Addr.add ⟨H.size, 0, none⟩ 1)))) rfl (HVal.fieldAddr' Tryd.runUnderlying27 rfl rfl Tryd.sizeOf25 rfl) ?_
    obtain ⟨x10, c9, h⟩ := h
    refine HList.vals (v := (Sl.v x10)) rfl (HVal.load1 Tryd.isAgg25 rfl c9) ?_
    refine HList.vals (v := (.int .i64 ((x10).n : Int))) rfl (HVal.len Tryd.runUnderlying25 rfl) ?_
    refine HList.vals (v := (.bool (decide ((16 : Int) < ((x10).n : Int))))) rfl (HVal.gtr rfl rfl) ?_
    refine HList.nil ?_
    refine nt ?_
    obtain ⟨hT, hF⟩ := h
    refine HW.cond (decide ((16 : Int) < ((x10).n : Int))) rfl (fun hb11 => ?_) (fun hb11 => ?_)
    · have h := hT hb11
      clear hT hF
      refine HW.seq ?_
      refine HW.region ?_
      refine HList.vals (v := (.int .i64 2)) rfl (HVal.assign' rfl) ?_
      refine HList.nil ?_
      refine nt ?_
      refine HW.ret ?_
      refine tr ?_
      exact ⟨_, resOf1 rfl Res1.t, ⟨2, rfl, h⟩⟩
    · have h := hF hb11
      clear hT hF
      refine HW.skip ?_
      refine nt ?_
      refine HW.seq ?_
      refine HW.seq ?_
      refine HW.region ?_
      refine HList.vals (v := (.pointer (some (Addr.add ⟨H.size, 0, none⟩ 1)))) rfl (HVal.fieldAddr' Tryd.runUnderlying27 rfl rfl Tryd.sizeOf25 rfl) ?_
      obtain ⟨x13, c12, h⟩ := h
      refine HList.vals (v := (Sl.v x13)) rfl (HVal.load1 Tryd.isAgg25 rfl c12) ?_
      refine HList.vals (v := (.int .i64 ((x13).n : Int))) rfl (HVal.len Tryd.runUnderlying25 rfl) ?_
      refine HList.vals (v := (.int .i64 0)) rfl (HVal.move' rfl) ?_
      refine HList.nil ?_
      refine nt ?_
      refine HW.block ?_
      refine HW.loop' (fun L1 hL1 => ?_)
      obtain ⟨X1, hX1⟩ : ∃ X1 : Int → Hp → Prop, ∀ (y14 : Int) (H_1 : Hp), X1 y14 H_1 ↔ ∀ ρ, Env.Is ρ [(1, (.pointer (some ⟨H.size, 0, none⟩))), (14, (Sl.v x13)), (15, (.int .i64 ((x13).n : Int))), (16, (.int .i64 y14))] → L1 ρ H_1 := ⟨_, fun _ _ => Iff.rfl⟩
      refine (hX1 _ _).1 (h X1 ?_) _ ?_
      rotate_left
      · exact ⟨rfl, rfl, rfl, rfl, trivial⟩
      clear h
      intro y14 H_1 h
      refine (hX1 _ _).2 fun ρ hI => ?_
      obtain ⟨ρ0, rfl⟩ : ∃ ρ0, ρ = (Env.set (Env.set (Env.set (Env.set ρ0 16 (.int .i64 y14)) 15 (.int .i64 ((x13).n : Int))) 14 (Sl.v x13)) 1 (.pointer (some ⟨H.size, 0, none⟩))) := ⟨ρ, hI.eq⟩
      clear hI; unfold F24_L1b at h; refine hL1 _ _ ?_
      refine HW.seq ?_
      refine HW.region ?_
      refine HList.vals (v := (.bool (decide (y14 < ((x13).n : Int))))) rfl (HVal.lss rfl rfl) ?_
      refine HList.nil ?_
      refine nt ?_
      refine HW.seq ?_
      obtain ⟨hT, hF⟩ := h
      refine HW.cond (decide (y14 < ((x13).n : Int))) rfl (fun hb18 => ?_) (fun hb18 => ?_)
      · have h := hT hb18
        clear hT hF
        refine HW.skip ?_
        refine nt ?_
        refine HW.seq ?_
        refine HW.block ?_
        refine HW.seq ?_
        refine HW.region ?_
        refine HList.vals (v := (.int .i64 y14)) rfl (HVal.move' rfl) ?_
        obtain ⟨a19, e20, b21, b22, h⟩ := h
        refine HList.vals (v := (.pointer (some (Addr.add a19 (y14.toNat * 2))))) rfl (HVal.indexAddr Tryd.runUnderlying25 Tryd.sizeOf38 (Sl.v_some rfl e20) rfl b21 b22) ?_
        obtain ⟨x24, x25, c23, h⟩ := h
        refine HList.vals (v := (.agg #[(.string x24), (.int .i64 x25)])) rfl (HVal.loadN [(.string x24), (.int .i64 x25)] Tryd.isAgg38 Tryd.sizeOf38 rfl c23) ?_
        refine HList.ops' rfl (HOp.alloc Tryd.zeroValue38) ?_
        rintro _ H26 ⟨rfl, e27⟩
        replace h := h H26 e27
        refine HList.vals (v := (.int .i64 y14)) rfl (HVal.assign' rfl) ?_
        obtain ⟨z30, h⟩ := h
        refine HList.opsn (HOp.storeN' (l := [(.string x24), (.int .i64 x25)]) Tryd.sizeOf38 rfl rfl rfl z30) ?_
        rintro _ H28 e29
        replace h := h H28 e29
        refine HList.nil ?_
        refine nt ?_
        refine HW.block ?_
        refine HW.seq ?_
        refine HW.region ?_
        refine HList.vals (v := (.pointer (some ⟨H_1.size, 0, none⟩))) rfl (HVal.fieldAddr0 Tryd.runUnderlying38 rfl rfl Tryd.sizeOf9 rfl) ?_
        obtain ⟨x32, c31, h⟩ := h
        refine HList.vals (v := (.string x32)) rfl (HVal.load1 Tryd.isAgg9 rfl c31) ?_
        refine HList.ops' rfl (HOp.call' 52 [(.string x32)] (cap := []) rfl rfl Tryd.call52 (walk52 h)) ?_
        rintro _ H33 ⟨r35, rfl, h⟩
        refine HList.vals (v := (.bool (!r35))) rfl (HVal.not rfl) ?_
        refine HList.vals (v := (.bool (!r35))) rfl (HVal.assign' rfl) ?_
        refine HList.nil ?_
        refine nt ?_
        obtain ⟨hT, hF⟩ := h
        refine HW.cond (!r35) rfl (fun hb36 => ?_) (fun hb36 => ?_)
        · have h := hT hb36
          clear hT hF
          refine HW.seq ?_
          refine HW.region ?_
          refine HList.vals (v := (.int .i64 20)) rfl (HVal.assign' rfl) ?_
          refine HList.nil ?_
          refine nt ?_
          refine HW.ret ?_
          refine br ?_
          refine br ?_
          refine tr ?_
          refine tr ?_
          refine br ?_
          refine tr ?_
          exact ⟨_, resOf1 rfl Res1.t, ⟨20, rfl, h⟩⟩
        · have h := hF hb36
          clear hT hF
          refine HW.seq ?_
          refine HW.region ?_
          refine HList.vals (v := (.pointer (some (Addr.add ⟨H_1.size, 0, none⟩ 1)))) rfl (HVal.fieldAddr' Tryd.runUnderlying38 rfl rfl Tryd.sizeOf3 rfl) ?_
          obtain ⟨x38, c37, h⟩ := h
          refine HList.vals (v := (.int .i64 x38)) rfl (HVal.load1 Tryd.isAgg3 rfl c37) ?_
          refine HList.ops' rfl (HOp.call' 53 [(.int .i64 x38)] (cap := []) rfl rfl Tryd.call53 (walk53 h)) ?_
          rintro _ H39 ⟨r41, rfl, h⟩
          refine HList.vals (v := (.bool (!r41))) rfl (HVal.not rfl) ?_
          refine HList.vals (v := (.bool (!r41))) rfl (HVal.assign' rfl) ?_
          refine HList.nil ?_
          refine nt ?_
          obtain ⟨hT, hF⟩ := h
          refine HW.cond (!r41) rfl (fun hb42 => ?_) (fun hb42 => ?_)
          · have h := hT hb42
            clear hT hF
            refine HW.seq ?_
            refine HW.region ?_
            refine HList.vals (v := (.int .i64 24)) rfl (HVal.assign' rfl) ?_
            refine HList.nil ?_
            refine nt ?_
            refine HW.ret ?_
            refine br ?_
            refine br ?_
            refine tr ?_
            refine tr ?_
            refine br ?_
            refine tr ?_
            exact ⟨_, resOf1 rfl Res1.t, ⟨24, rfl, h⟩⟩
          · have h := hF hb42
            clear hT hF
            refine HW.seq ?_
            refine HW.draw mixed [(0, some []), (1, some []), (2, some []), (3, some []), (4, some []), (5, some [6]), (6, none), (7, some [])] rfl (by kernel_rfl) (by kernel_rfl) ?_
            refine HPlan.takev (v := (.pointer (some (Addr.add ⟨H.size, 0, none⟩ 1)))) rfl rfl (fun _ => HVal.fieldAddr' Tryd.runUnderlying27 rfl rfl Tryd.sizeOf25 rfl) ?_
            obtain ⟨x44, c43, h⟩ := h
            refine HPlan.takel (v := (Sl.v x44)) (fun X => cell X (Addr.add ⟨H.size, 0, none⟩ 1) = some (Sl.v x44)) rfl rfl (fun _ hX => HVal.load1 Tryd.isAgg25 rfl hX) c43 ?_
            refine HPlan.takev (v := (.int .i64 y14)) rfl rfl (fun _ => HVal.move' rfl) ?_
            obtain ⟨z45, z46, z47, z48, h⟩ := h
            refine HPlan.takev (v := (Sl.v (Sl.cut x44 2 0 y14.toNat ((x44).c)))) rfl rfl (fun _ => HVal.slice _ _ _ Tryd.runUnderlying25 Tryd.sizeOf38 rfl rfl ⟨_, _, rfl, z45, rfl⟩ rfl (by decide) z46 z47 z48) ?_
            refine HPlan.takev (v := (.pointer (some ⟨H_1.size, 0, none⟩))) rfl rfl (fun _ => HVal.fieldAddr0 Tryd.runUnderlying38 rfl rfl Tryd.sizeOf9 rfl) ?_
            obtain ⟨x50, c49, h⟩ := h
            refine HPlan.takel (v := (.string x50)) (fun X => cell X ⟨H_1.size, 0, none⟩ = some (.string x50)) rfl rfl (fun _ hX => HVal.load1 Tryd.isAgg9 rfl hX) c49 ?_
            refine HPlan.ops' rfl rfl (HOp.call' 54 [(Sl.v (Sl.cut x44 2 0 y14.toNat ((x44).c))), (.string x50)] (cap := []) rfl rfl Tryd.call54 (walk54 h)) ?_
            rintro _ H51 ⟨r53, rfl, h⟩
            obtain ⟨s54, h⟩ := h
            refine ⟨SC_of ⟨fun e => absurd e (by decide), fun _ => s54, trivial⟩, ?_⟩
            refine HPlan.takev (v := (.bool r53)) rfl rfl (fun _ => HVal.assign' rfl) ?_
            refine HPlan.done ?_
            refine nt ?_
            obtain ⟨hT, hF⟩ := h
            refine HW.cond r53 rfl (fun hb55 => ?_) (fun hb55 => ?_)
            · have h := hT hb55
              clear hT hF
              refine HW.seq ?_
              refine HW.region ?_
              refine HList.vals (v := (.int .i64 5)) rfl (HVal.assign' rfl) ?_
              refine HList.nil ?_
              refine nt ?_
              refine HW.ret ?_
              refine br ?_
              refine br ?_
              refine tr ?_
              refine tr ?_
              refine br ?_
              refine tr ?_
              exact ⟨_, resOf1 rfl Res1.t, ⟨5, rfl, h⟩⟩
            · have h := hF hb55
              clear hT hF
              refine HW.skip ?_
              refine nb ?_
              refine nb ?_
              refine nt ?_
              refine HW.region ?_
              refine HList.vals (v := (.int .i64 (IntKind.i64.wrap (y14 + 1)))) rfl (HVal.add rfl rfl) ?_
              refine HList.vals (v := (.int .i64 (IntKind.i64.wrap (y14 + 1)))) rfl (HVal.move' rfl) ?_
              refine HList.nil ?_
              refine nt ?_
              exact (hX1 _ _).1 h _ ⟨rfl, rfl, rfl, rfl, trivial⟩
      · have h := hF hb18
        clear hT hF
        refine HW.exit ?_
        refine te ?_
        refine te ?_
        refine be ?_
        refine nt ?_
        refine HW.seq ?_
        refine HW.region ?_
        refine HList.vals (v := (.int .i64 0)) rfl (HVal.assign' rfl) ?_
        refine HList.nil ?_
        refine nt ?_
        refine HW.ret ?_
        exact ⟨_, resOf1 rfl Res1.t, ⟨0, rfl, h⟩⟩

def F9 (p0 : (Option Addr)) (p1_0 : ByteArray) (p1_1 : Sl) (H : Hp) (Q : Int → Hp → Prop) : Prop :=
∀ H1 : Hp, H1 = Array.push H (.cells #[(.string p1_0), (Sl.v p1_1)] 27) → (
 ∃ (x4 : ByteArray) (x5 : Sl), cells H1 ⟨H.size, 0, none⟩ [(.string x4), (Sl.v x5)] 0 ∧ (
 F24 x4 x5 H1 (fun (r8 : Int) (H6 : Hp) => 
 ((decide (r8 ≠ 0)) = true → (Q r8 H6)) ∧
 ((decide (r8 ≠ 0)) = false → (∃ a10 : Addr, p0 = some a10 ∧ (
 ∃ x13 : (Option Nat), cell H6 a10 = some (.map x13) ∧ (
 ∃ x15 : ByteArray, cell H6 ⟨H.size, 0, none⟩ = some (.string x15) ∧ (
 ∃ (L16 : ML ByteArray (ByteArray × Sl)) (c17 : Nat), MapK mk9 mv27 Always H6 x13 L16 c17 x15 ∧ (
 ∀ H19 : Hp, H19 = Array.push H6 (.cells #[(.string (ByteArray.mk #[])), (Sl.v Sl.nil)] 27) → (
 MapK mk9 mv27 Always H19 x13 L16 c17 x15 ∧ cell H19 ⟨H.size, 0, none⟩ = some (.string x15) ∧ cell H19 a10 = some (.map x13) ∧ (
 mayw H19 ⟨H6.size, 0, none⟩ 2 0 ∧ ∀ H24 : Hp, H24 = sets H19 ⟨H6.size, 0, none⟩ [(.string ((mget L16 x15).getD ((ByteArray.mk #[]), Sl.nil)).1), (Sl.v ((mget L16 x15).getD ((ByteArray.mk #[]), Sl.nil)).2)] 0 → (
 (((mget L16 x15).isSome) = true → (Q 5 H24)) ∧
 (((mget L16 x15).isSome) = false → (∃ a28 : Addr, p0 = some a28 ∧ (
 ∃ x31 : (Option Nat), cell H24 a28 = some (.map x31) ∧ (
 ∃ (L32 : ML ByteArray (ByteArray × Sl)) (c33 : Nat), mapAt mk9 mv27 H24 x31 L32 c33 ∧ (
 ((decide ((64 : Int) ≤ ((L32).length : Int))) = true → (Q 4 H24)) ∧
 ((decide ((64 : Int) ≤ ((L32).length : Int))) = false → (∃ a36 : Addr, p0 = some a36 ∧ (
 ∃ x39 : (Option Nat), cell H24 a36 = some (.map x39) ∧ (
 ∃ x41 : ByteArray, cell H24 ⟨H.size, 0, none⟩ = some (.string x41) ∧ (
 ∃ (x43 : ByteArray) (x44 : Sl), cells H24 ⟨H.size, 0, none⟩ [(.string x43), (Sl.v x44)] 0 ∧ (
 F26 x41 H24 (fun (r47 : ByteArray) (H45 : Hp) => 
 cells H45 ⟨H.size, 0, none⟩ [(.string x43), (Sl.v x44)] 0 ∧ cell H45 a36 = some (.map x39) ∧ (
 F25 x43 x44 H45 (fun (r52 : ByteArray) (r53 : Sl) (H50 : Hp) => 
 cell H50 a36 = some (.map x39) ∧ (
 ∃ (r57 : Nat) (L58 : ML ByteArray (ByteArray × Sl)) (c59 : Nat), x39 = some r57 ∧ MapK mk9 mv27 Always H50 (some r57) L58 c59 r47 ∧ ∀ H55 : Hp, H55 = seto H50 r57 (mapo mk9 mv27 (mput L58 c59 r47 (r52, r53)).1 (mput L58 c59 r47 (r52, r53)).2) → (
 Q 0 H55))))))))))))))))))))))))))))
set_option maxRecDepth 100000 in
set_option maxHeartbeats 4000000 in
theorem walk9 {w0 : World} {p0 : (Option Addr)} {p1_0 : ByteArray} {p1_1 : Sl} {H : Hp} {Q : Int → Hp → Prop} (h : F9 p0 p1_0 p1_1 H Q) :
    Good Tryd.prog w0 9 #[(.pointer p0), (.agg #[(.string p1_0), (Sl.v p1_1)])] H (fun v H => ∃ (r0 : Int) , v = (.int .i64 r0) ∧ Q r0 H) := by
  unfold F9 at h
  refine Good.enter' (fn := Tryd.f9) Tryd.func9 rfl rfl rfl ?_
  refine HW.seq ?_
  refine HW.region ?_
  refine HList.ops' rfl (HOp.box (v := (.agg #[(.string p1_0), (Sl.v p1_1)])) rfl) ?_
  rintro _ H1 ⟨rfl, e2⟩
  replace h := h H1 e2
  refine HList.vals (v := (.int .i64 0)) rfl (HVal.assign' rfl) ?_
  refine HList.nil ?_
  refine nt ?_
  refine HW.seq ?_
  refine HW.seq ?_
  refine HW.region ?_
  obtain ⟨x4, x5, c3, h⟩ := h
  refine HList.vals (v := (.agg #[(.string x4), (Sl.v x5)])) rfl (HVal.loadN [(.string x4), (Sl.v x5)] Tryd.isAgg27 Tryd.sizeOf27 rfl c3) ?_
  refine HList.ops' rfl (HOp.call' 24 [(.agg #[(.string x4), (Sl.v x5)])] (cap := []) rfl rfl Tryd.call24 (walk24 h)) ?_
  rintro _ H6 ⟨r8, rfl, h⟩
  refine HList.vals (v := (.int .i64 r8)) rfl (HVal.assign' rfl) ?_
  refine HList.nil ?_
  refine nt ?_
  refine HW.seq ?_
  refine HW.region ?_
  refine HList.vals (v := (.int .i64 r8)) rfl (HVal.move' rfl) ?_
  refine HList.vals (v := (.bool (decide (r8 ≠ 0)))) rfl (HVal.neqI rfl rfl) ?_
  refine HList.nil ?_
  refine nt ?_
  obtain ⟨hT, hF⟩ := h
  refine HW.cond (decide (r8 ≠ 0)) rfl (fun hb9 => ?_) (fun hb9 => ?_)
  · have h := hT hb9
    clear hT hF
    refine HW.seq ?_
    refine HW.region ?_
    refine HList.vals (v := (.int .i64 r8)) rfl (HVal.move' rfl) ?_
    refine HList.vals (v := (.int .i64 r8)) rfl (HVal.assign' rfl) ?_
    refine HList.nil ?_
    refine nt ?_
    refine HW.ret ?_
    refine tr ?_
    exact ⟨_, resOf1 rfl Res1.t, ⟨r8, rfl, h⟩⟩
  · have h := hF hb9
    clear hT hF
    refine HW.skip ?_
    refine nt ?_
    refine HW.seq ?_
    refine HW.seq ?_
    refine HW.draw mixed [(0, some []), (1, some []), (2, some []), (3, some [11]), (4, some []), (5, some [11]), (6, some [11]), (7, some []), (8, some []), (9, some []), (10, none), (11, none), (12, some [])] rfl (by kernel_rfl) (by kernel_rfl) ?_
    refine HPlan.takev (v := (.pointer p0)) rfl rfl (fun _ => HVal.move' rfl) ?_
    obtain ⟨a10, e11, h⟩ := h
    refine HPlan.takev (v := (.pointer (some a10))) rfl rfl (fun _ => HVal.nilCheck (congrArg Value.pointer e11)) ?_
    refine HPlan.takev (v := (.pointer (some a10))) rfl rfl (fun _ => HVal.fieldAddr0 Tryd.runUnderlying72 rfl rfl Tryd.sizeOf70 rfl) ?_
    obtain ⟨x13, c12, h⟩ := h
    refine HPlan.takel (v := (.map x13)) (fun X => cell X a10 = some (.map x13)) rfl rfl (fun _ hX => HVal.load1 Tryd.isAgg70 rfl hX) c12 ?_
    refine HPlan.takev (v := (.pointer (some ⟨H.size, 0, none⟩))) rfl rfl (fun _ => HVal.fieldAddr0 Tryd.runUnderlying27 rfl rfl Tryd.sizeOf9 rfl) ?_
    obtain ⟨x15, c14, h⟩ := h
    refine HPlan.takel (v := (.string x15)) (fun X => cell X ⟨H.size, 0, none⟩ = some (.string x15)) rfl rfl (fun _ hX => HVal.load1 Tryd.isAgg9 rfl hX) c14 ?_
    obtain ⟨L16, c17, c18, h⟩ := h
    refine HPlan.takel (v := (.tuple #[(.agg #[(.string ((mget L16 x15).getD ((ByteArray.mk #[]), Sl.nil)).1), (Sl.v ((mget L16 x15).getD ((ByteArray.mk #[]), Sl.nil)).2)]), (.bool ((mget L16 x15).isSome))])) (fun X => MapK mk9 mv27 Always X x13 L16 c17 x15) rfl rfl (fun _ hX => HVal.lookupOk (f := mk9) (g := mv27) (k := x15) (z := ((ByteArray.mk #[]), Sl.nil)) Tryd.runUnderlying70 mkk9 Tryd.zeroValue27 rfl rfl hX) c18 ?_
    refine HPlan.takev (v := (.tuple #[(.agg #[(.string ((mget L16 x15).getD ((ByteArray.mk #[]), Sl.nil)).1), (Sl.v ((mget L16 x15).getD ((ByteArray.mk #[]), Sl.nil)).2)]), (.bool ((mget L16 x15).isSome))])) rfl rfl (fun _ => HVal.move' rfl) ?_
    refine HPlan.takev (v := (.agg #[(.string ((mget L16 x15).getD ((ByteArray.mk #[]), Sl.nil)).1), (Sl.v ((mget L16 x15).getD ((ByteArray.mk #[]), Sl.nil)).2)])) rfl rfl (fun _ => HVal.extract rfl rfl) ?_
    refine HPlan.takev (v := (.bool ((mget L16 x15).isSome))) rfl rfl (fun _ => HVal.extract rfl rfl) ?_
    refine HPlan.ops' rfl rfl (HOp.alloc Tryd.zeroValue27) ?_
    rintro _ H19 ⟨rfl, e20⟩
    replace h := h H19 e20
    obtain ⟨s21, s22, s23, h⟩ := h
    refine ⟨SC_of ⟨fun _ => s21, fun _ => s22, fun _ => s23, trivial⟩, ?_⟩
    obtain ⟨z26, h⟩ := h
    refine HPlan.opsn rfl (HOp.storeN' (l := [(.string ((mget L16 x15).getD ((ByteArray.mk #[]), Sl.nil)).1), (Sl.v ((mget L16 x15).getD ((ByteArray.mk #[]), Sl.nil)).2)]) Tryd.sizeOf27 rfl rfl rfl z26) ?_
    rintro _ H24 e25
    replace h := h H24 e25
    refine ⟨SC_of ⟨fun e => absurd e (by decide), fun e => absurd e (by decide), fun e => absurd e (by decide), trivial⟩, ?_⟩
    refine HPlan.takev (v := (.bool ((mget L16 x15).isSome))) rfl rfl (fun _ => HVal.assign' rfl) ?_
    refine HPlan.done ?_
    refine nt ?_
    refine HW.seq ?_
    refine HW.region ?_
    refine HList.vals (v := (.bool ((mget L16 x15).isSome))) rfl (HVal.move' rfl) ?_
    refine HList.nil ?_
    refine nt ?_
    obtain ⟨hT, hF⟩ := h
    refine HW.cond ((mget L16 x15).isSome) rfl (fun hb27 => ?_) (fun hb27 => ?_)
    · have h := hT hb27
      clear hT hF
      refine HW.seq ?_
      refine HW.region ?_
      refine HList.vals (v := (.int .i64 5)) rfl (HVal.assign' rfl) ?_
      refine HList.nil ?_
      refine nt ?_
      refine HW.ret ?_
      refine tr ?_
      exact ⟨_, resOf1 rfl Res1.t, ⟨5, rfl, h⟩⟩
    · have h := hF hb27
      clear hT hF
      refine HW.skip ?_
      refine nt ?_
      refine HW.seq ?_
      refine HW.seq ?_
      refine HW.region ?_
      refine HList.vals (v := (.pointer p0)) rfl (HVal.move' rfl) ?_
      obtain ⟨a28, e29, h⟩ := h
      refine HList.vals (v := (.pointer (some a28))) rfl (HVal.nilCheck (congrArg Value.pointer e29)) ?_
      refine HList.vals (v := (.pointer (some a28))) rfl (HVal.fieldAddr0 Tryd.runUnderlying72 rfl rfl Tryd.sizeOf70 rfl) ?_
      obtain ⟨x31, c30, h⟩ := h
      refine HList.vals (v := (.map x31)) rfl (HVal.load1 Tryd.isAgg70 rfl c30) ?_
      obtain ⟨L32, c33, c34, h⟩ := h
      refine HList.vals (v := (.int .i64 ((L32).length : Int))) rfl (HVal.lenM (f := mk9) (g := mv27) Tryd.runUnderlying70 rfl c34) ?_
      refine HList.vals (v := (.bool (decide ((64 : Int) ≤ ((L32).length : Int))))) rfl (HVal.geq rfl rfl) ?_
      refine HList.nil ?_
      refine nt ?_
      obtain ⟨hT, hF⟩ := h
      refine HW.cond (decide ((64 : Int) ≤ ((L32).length : Int))) rfl (fun hb35 => ?_) (fun hb35 => ?_)
      · have h := hT hb35
        clear hT hF
        refine HW.seq ?_
        refine HW.region ?_
        refine HList.vals (v := (.int .i64 4)) rfl (HVal.assign' rfl) ?_
        refine HList.nil ?_
        refine nt ?_
        refine HW.ret ?_
        refine tr ?_
        exact ⟨_, resOf1 rfl Res1.t, ⟨4, rfl, h⟩⟩
      · have h := hF hb35
        clear hT hF
        refine HW.skip ?_
        refine nt ?_
        refine HW.seq ?_
        refine HW.draw mixed [(0, some []), (1, some []), (2, some []), (3, some [9]), (4, some []), (5, some [6, 9]), (7, some [8, 9]), (6, none), (8, none), (9, none)] rfl (by kernel_rfl) (by kernel_rfl) ?_
        refine HPlan.takev (v := (.pointer p0)) rfl rfl (fun _ => HVal.move' rfl) ?_
        obtain ⟨a36, e37, h⟩ := h
        refine HPlan.takev (v := (.pointer (some a36))) rfl rfl (fun _ => HVal.nilCheck (congrArg Value.pointer e37)) ?_
        refine HPlan.takev (v := (.pointer (some a36))) rfl rfl (fun _ => HVal.fieldAddr0 Tryd.runUnderlying72 rfl rfl Tryd.sizeOf70 rfl) ?_
        obtain ⟨x39, c38, h⟩ := h
        refine HPlan.takel (v := (.map x39)) (fun X => cell X a36 = some (.map x39)) rfl rfl (fun _ hX => HVal.load1 Tryd.isAgg70 rfl hX) c38 ?_
        refine HPlan.takev (v := (.pointer (some ⟨H.size, 0, none⟩))) rfl rfl (fun _ => HVal.fieldAddr0 Tryd.runUnderlying27 rfl rfl Tryd.sizeOf9 rfl) ?_
        obtain ⟨x41, c40, h⟩ := h
        refine HPlan.takel (v := (.string x41)) (fun X => cell X ⟨H.size, 0, none⟩ = some (.string x41)) rfl rfl (fun _ hX => HVal.load1 Tryd.isAgg9 rfl hX) c40 ?_
        obtain ⟨x43, x44, c42, h⟩ := h
        refine HPlan.takel (v := (.agg #[(.string x43), (Sl.v x44)])) (fun X => cells X ⟨H.size, 0, none⟩ [(.string x43), (Sl.v x44)] 0) rfl rfl (fun _ hX => HVal.loadN [(.string x43), (Sl.v x44)] Tryd.isAgg27 Tryd.sizeOf27 rfl hX) c42 ?_
        refine HPlan.ops' rfl rfl (HOp.call' 26 [(.string x41)] (cap := []) rfl rfl Tryd.call26 (walk26 h)) ?_
        rintro _ H45 ⟨r47, rfl, h⟩
        obtain ⟨s48, s49, h⟩ := h
        refine ⟨SC_of ⟨fun _ => s48, fun e => absurd e (by decide), fun _ => s49, trivial⟩, ?_⟩
        refine HPlan.ops' rfl rfl (HOp.call' 25 [(.agg #[(.string x43), (Sl.v x44)])] (cap := []) rfl rfl Tryd.call25 (walk25 h)) ?_
        rintro _ H50 ⟨r52, r53, rfl, h⟩
        obtain ⟨s54, h⟩ := h
        refine ⟨SC_of ⟨fun e => absurd e (by decide), fun e => absurd e (by decide), fun _ => s54, trivial⟩, ?_⟩
        obtain ⟨r57, L58, c59, e61, c60, h⟩ := h
        refine HPlan.opsn rfl (HOp.mapUpdate (f := mk9) (g := mv27) (k := r47) (v := (r52, r53)) Tryd.runUnderlying70 mkk9 (congrArg Value.map e61) rfl rfl c60) ?_
        rintro _ H55 e56
        replace h := h H55 e56
        refine ⟨SC_of ⟨fun e => absurd e (by decide), fun e => absurd e (by decide), fun e => absurd e (by decide), trivial⟩, ?_⟩
        refine HPlan.done ?_
        refine nt ?_
        refine HW.seq ?_
        refine HW.region ?_
        refine HList.vals (v := (.int .i64 0)) rfl (HVal.assign' rfl) ?_
        refine HList.nil ?_
        refine nt ?_
        refine HW.ret ?_
        exact ⟨_, resOf1 rfl Res1.t, ⟨0, rfl, h⟩⟩

def F3_6 (Q : Bool → Hp → Prop) (y209 : (Option Addr)) (y210 : Addr) (H_6 : Hp) : Prop :=
∃ (x233 : ByteArray) (x234 : Int) (x235 : Sl), cells H_6 y210 [(.string x233), (.int .i64 x234), (Sl.v x235)] 0 ∧ (
 F11 y209 x233 x234 x235 H_6 (fun (r238 : Int) (H236 : Hp) => 
 Q (decide (r238 = 12)) H236))
def F3_5 (Q : Bool → Hp → Prop) (y93 : Int) (y94 : Int) (y95 : (Option Addr)) (y96 : Addr) (y106 : Bool) (H_5 : Hp) : Prop :=
(y106 = true → (Q false H_5)) ∧
 (y106 = false → (∃ x116 : Int, cell H_5 (Addr.add y96 1) = some (.int .i64 x116) ∧ (
 (cell H_5 (Addr.add y96 1)).isSome = true ∧ frz H_5 (Addr.add y96 1) = false ∧ ∀ H117 : Hp, H117 = setc H_5 (Addr.add y96 1) (.int .i64 (IntKind.i64.wrap ((-1) - x116))) → (
 ∃ (x122 : ByteArray) (x123 : Int) (x124 : Sl), cells H117 y96 [(.string x122), (.int .i64 x123), (Sl.v x124)] 0 ∧ (
 F11 y95 x122 x123 x124 H117 (fun (r127 : Int) (H125 : Hp) => 
 ((decide (r127 ≠ 23)) = true → (Q false H125)) ∧
 ((decide (r127 ≠ 23)) = false → ((cell H125 (Addr.add y96 1)).isSome = true ∧ frz H125 (Addr.add y96 1) = false ∧ ∀ H129 : Hp, H129 = setc H125 (Addr.add y96 1) (.int .i64 4611686018427387905) → (
 ∃ (x134 : ByteArray) (x135 : Int) (x136 : Sl), cells H129 y96 [(.string x134), (.int .i64 x135), (Sl.v x136)] 0 ∧ (
 F11 y95 x134 x135 x136 H129 (fun (r139 : Int) (H137 : Hp) => 
 ((decide (r139 ≠ 23)) = true → (Q false H137)) ∧
 ((decide (r139 ≠ 23)) = false → ((cell H137 (Addr.add y96 1)).isSome = true ∧ frz H137 (Addr.add y96 1) = false ∧ ∀ H141 : Hp, H141 = setc H137 (Addr.add y96 1) (.int .i64 0) → (
 ∃ x146 : Sl, cell H141 (Addr.add y96 2) = some (Sl.v x146) ∧ (
 AppendF H141 35 4 40 #[(.int .i64 0), (.int .i64 0), (.string (ByteArray.mk #[])), (.bool false)] Sl.nil (x146).b (x146).n (fun (r149 : Sl) (H147 : Hp) => 
 ∀ H150 : Hp, H150 = Array.push H147 (.cells #[(.int .i64 1), (.int .i64 0), (.string (ByteArray.mk #[])), (.bool false)] 35) → (
 AppendF H150 35 4 40 #[(.int .i64 0), (.int .i64 0), (.string (ByteArray.mk #[])), (.bool false)] r149 ((Sl.mk (some ⟨H147.size, 0, none⟩) 1 1)).b ((Sl.mk (some ⟨H147.size, 0, none⟩) 1 1)).n (fun (r154 : Sl) (H152 : Hp) => 
 F11 y95 S_T 0 r154 H152 (fun (r157 : Int) (H155 : Hp) => 
 ((decide (r157 ≠ 22)) = true → (Q false H155)) ∧
 ((decide (r157 ≠ 22)) = false → (∃ x160 : Sl, cell H155 (Addr.add y96 2) = some (Sl.v x160) ∧ (
 ((decide (((x160).n : Int) = 0)) = true → (Q true H155)) ∧
 ((decide (((x160).n : Int) = 0)) = false → (∃ x163 : Sl, cell H155 (Addr.add y96 2) = some (Sl.v x163) ∧ (
 (0 : Int) ≤ (IntKind.i64.wrap (((x163).n : Int) - 1)) ∧ 0 ≤ (IntKind.i64.wrap (((x163).n : Int) - 1)).toNat ∧ (IntKind.i64.wrap (((x163).n : Int) - 1)).toNat ≤ (r154).c ∧ (r154).c ≤ (r154).c ∧ (
 F11 y95 S_T 0 (Sl.cut r154 4 0 ((IntKind.i64.wrap (((x163).n : Int) - 1)).toNat) ((r154).c)) H155 (fun (r170 : Int) (H168 : Hp) => 
 ((decide (r170 ≠ 22)) = true → (Q false H168)) ∧
 ((decide (r170 ≠ 22)) = false → (∃ x173 : Sl, cell H168 (Addr.add y96 2) = some (Sl.v x173) ∧ (
 F12 y93 ((x173).n : Int) H168 (fun (r176 : Int) (H174 : Hp) => 
 ∃ x178 : Sl, cell H174 (Addr.add y96 2) = some (Sl.v x178) ∧ (
 ∃ a179 : Addr, (x178).b = some a179 ∧ (0 : Int) ≤ r176 ∧ r176 < ((x178).n : Int) ∧ (
 ∃ x184 : Int, cell H174 (Addr.add a179 (r176.toNat * 4)) = some (.int .i64 x184) ∧ (
 ((decide ((Int.tmod y94 (2 : Int)) = 0)) = true → (∃ x187 : Sl, cell H174 (Addr.add y96 2) = some (Sl.v x187) ∧ (
 F10 (IntKind.i64.wrap (1 + (Int.tmod (IntKind.i64.wrap (x184 + (Int.tmod (IntKind.i64.wrap (Int.tdiv (IntKind.i64.wrap y94) (2 : Int))) (2 : Int)))) (3 : Int)))) 0 (ByteArray.mk #[]) H174 (fun (r190 : Int) (r191 : Int) (r192 : ByteArray) (r193 : Bool) (H188 : Hp) => 
 cell H188 (Addr.add y96 2) = some (Sl.v x187) ∧ (
 ∃ a195 : Addr, (x187).b = some a195 ∧ (0 : Int) ≤ r176 ∧ r176 < ((x187).n : Int) ∧ (
 mayw H188 (Addr.add a195 (r176.toNat * 4)) 4 0 ∧ ∀ H199 : Hp, H199 = sets H188 (Addr.add a195 (r176.toNat * 4)) [(.int .i64 r190), (.int .i64 r191), (.string r192), (.bool r193)] 0 → (
 ∃ (x203 : ByteArray) (x204 : Int) (x205 : Sl), cells H199 y96 [(.string x203), (.int .i64 x204), (Sl.v x205)] 0 ∧ (
 F11 y95 x203 x204 x205 H199 (fun (r208 : Int) (H206 : Hp) => 
 Q (decide (r208 = 10)) H206))))))))) ∧
 ((decide ((Int.tmod y94 (2 : Int)) = 0)) = false → (((decide (x184 = 1)) = true → (∃ x213 : Sl, cell H174 (Addr.add y96 2) = some (Sl.v x213) ∧ (
 ∃ a214 : Addr, (x213).b = some a214 ∧ (0 : Int) ≤ r176 ∧ r176 < ((x213).n : Int) ∧ (
 (cell H174 (Addr.add (Addr.add a214 (r176.toNat * 4)) 2)).isSome = true ∧ frz H174 (Addr.add (Addr.add a214 (r176.toNat * 4)) 2) = false ∧ ∀ H218 : Hp, H218 = setc H174 (Addr.add (Addr.add a214 (r176.toNat * 4)) 2) (.string S_x) → (
 F3_6 Q y95 y96 H218))))) ∧
 ((decide (x184 = 1)) = false → (∃ x223 : Sl, cell H174 (Addr.add y96 2) = some (Sl.v x223) ∧ (
 ∃ a224 : Addr, (x223).b = some a224 ∧ (0 : Int) ≤ r176 ∧ r176 < ((x223).n : Int) ∧ (
 (cell H174 (Addr.add (Addr.add a224 (r176.toNat * 4)) 1)).isSome = true ∧ frz H174 (Addr.add (Addr.add a224 (r176.toNat * 4)) 1) = false ∧ ∀ H228 : Hp, H228 = setc H174 (Addr.add (Addr.add a224 (r176.toNat * 4)) 1) (.int .i64 5) → (
 F3_6 Q y95 y96 H228)))))))))))))))))))))))))))))))))))))))))
def F3_3 (Q : Bool → Hp → Prop) (y43 : Int) (y44 : Int) (y45 : (Option Addr)) (y46 : Addr) (H_3 : Hp) : Prop :=
∃ (x98 : ByteArray) (x99 : Int) (x100 : Sl), cells H_3 y46 [(.string x98), (.int .i64 x99), (Sl.v x100)] 0 ∧ (
 F11 y45 x98 x99 x100 H_3 (fun (r103 : Int) (H101 : Hp) => 
 ((decide (r103 ≠ 0)) = true → (F3_5 Q y43 y44 y45 y46 true H101)) ∧
 ((decide (r103 ≠ 0)) = false → (∃ x108 : Int, cell H101 (Addr.add y46 1) = some (.int .i64 x108) ∧ (
 ∃ x110 : Sl, cell H101 (Addr.add y46 2) = some (Sl.v x110) ∧ (
 F11 y45 S_t x108 x110 H101 (fun (r113 : Int) (H111 : Hp) => 
 F3_5 Q y43 y44 y45 y46 (decide (r113 ≠ 21)) H111)))))))
def F3_L4b (Q : Bool → Hp → Prop) (X4 : Int → Hp → Prop) (y48 : Int) (y49 : ByteArray) (y50 : Int) (y51 : Int) (y52 : (Option Addr)) (y53 : Addr) (y54 : Addr) (y47 : Int) (H_4 : Hp) : Prop :=
∃ x56 : Sl, cell H_4 (Addr.add y53 1) = some (Sl.v x56) ∧ (
 ((decide (y47 < ((x56).n : Int))) = true → (∃ x59 : Sl, cell H_4 (Addr.add y53 1) = some (Sl.v x59) ∧ (
 ∃ a60 : Addr, (x59).b = some a60 ∧ (0 : Int) ≤ y47 ∧ y47 < ((x59).n : Int) ∧ (
 ∃ x65 : Int, cell H_4 (Addr.add (Addr.add a60 (y47.toNat * 2)) 1) = some (.int .i64 x65) ∧ (
 F10 x65 (IntKind.i64.wrap (y48 + y47)) y49 H_4 (fun (r68 : Int) (r69 : Int) (r70 : ByteArray) (r71 : Bool) (H66 : Hp) => 
 ∀ H72 : Hp, H72 = Array.push H66 (.cells #[(.int .i64 0), (.int .i64 0), (.string (ByteArray.mk #[])), (.bool false)] 35) → (
 mayw H72 ⟨H66.size, 0, none⟩ 4 0 ∧ ∀ H74 : Hp, H74 = sets H72 ⟨H66.size, 0, none⟩ [(.int .i64 r68), (.int .i64 r69), (.string r70), (.bool r71)] 0 → (
 ∃ x78 : Sl, cell H74 (Addr.add y54 2) = some (Sl.v x78) ∧ (
 ∃ (x80 : Int) (x81 : Int) (x82 : ByteArray) (x83 : Bool), cells H74 ⟨H66.size, 0, none⟩ [(.int .i64 x80), (.int .i64 x81), (.string x82), (.bool x83)] 0 ∧ (
 ∀ H84 : Hp, H84 = Array.push H74 (.cells #[(.int .i64 x80), (.int .i64 x81), (.string x82), (.bool x83)] 35) → (
 AppendF H84 35 4 40 #[(.int .i64 0), (.int .i64 0), (.string (ByteArray.mk #[])), (.bool false)] x78 ((Sl.mk (some ⟨H74.size, 0, none⟩) 1 1)).b ((Sl.mk (some ⟨H74.size, 0, none⟩) 1 1)).n (fun (r88 : Sl) (H86 : Hp) => 
 (cell H86 (Addr.add y54 2)).isSome = true ∧ frz H86 (Addr.add y54 2) = false ∧ ∀ H89 : Hp, H89 = setc H86 (Addr.add y54 2) (Sl.v r88) → (
 X4 (IntKind.i64.wrap (y47 + 1)) H89))))))))))))) ∧
 ((decide (y47 < ((x56).n : Int))) = false → (F3_3 Q y50 y51 y52 y54 H_4)))
def F3_L4 (Q : Bool → Hp → Prop) (y48 : Int) (y49 : ByteArray) (y50 : Int) (y51 : Int) (y52 : (Option Addr)) (y53 : Addr) (y54 : Addr) (y47 : Int) (H_4 : Hp) : Prop :=
  ∀ X4 : Int → Hp → Prop, (∀ (y47 : Int) (H_4 : Hp), F3_L4b Q X4 y48 y49 y50 y51 y52 y53 y54 y47 H_4 → X4 y47 H_4) → X4 y47 H_4
def F3_2 (Q : Bool → Hp → Prop) (y30 : Int) (y31 : ByteArray) (y32 : Int) (y33 : Int) (y34 : (Option Addr)) (y35 : Addr) (y37 : Int) (H_2 : Hp) : Prop :=
∀ H38 : Hp, H38 = Array.push H_2 (.cells #[(.string (ByteArray.mk #[])), (.int .i64 0), (Sl.v Sl.nil)] 33) → (
 mayw H38 ⟨H_2.size, 0, none⟩ 3 0 ∧ ∀ H40 : Hp, H40 = sets H38 ⟨H_2.size, 0, none⟩ [(.string S_T), (.int .i64 (Int.tmod y37 (4611686018427387905 : Int))), (Sl.v Sl.nil)] 0 → (
 F3_L4 Q y30 y31 y32 y33 y34 y35 ⟨H_2.size, 0, none⟩ 0 H40))
def F3_1 (Q : Bool → Hp → Prop) (y13 : Int) (y14 : ByteArray) (y15 : Int) (y16 : Int) (y17 : Int) (y18 : (Option Addr)) (y19 : Addr) (y22 : Bool) (H_1 : Hp) : Prop :=
(y22 = true → (Q false H_1)) ∧
 (y22 = false → (((decide (y15 < 0)) = true → (F3_2 Q y13 y14 y16 y17 y18 y19 (IntKind.i64.wrap ((-1) - y15)) H_1)) ∧
 ((decide (y15 < 0)) = false → (F3_2 Q y13 y14 y16 y17 y18 y19 y15 H_1))))
def F3 (p0 : Sl) (p1 : Int) (p2 : ByteArray) (p3 : Int) (p4 : Int) (p5 : Int) (H : Hp) (Q : Bool → Hp → Prop) : Prop :=
F7 H (fun (r3 : (Option Addr)) (H1 : Hp) => 
 F8 S_T Sl.nil p0 H1 (fun (r6 : ByteArray) (r7 : Sl) (H4 : Hp) => 
 ∀ H8 : Hp, H8 = Array.push H4 (.cells #[(.string (ByteArray.mk #[])), (Sl.v Sl.nil)] 27) → (
 mayw H8 ⟨H4.size, 0, none⟩ 2 0 ∧ ∀ H10 : Hp, H10 = sets H8 ⟨H4.size, 0, none⟩ [(.string r6), (Sl.v r7)] 0 → (
 ((r3.isNone) = true → (F3_1 Q p1 p2 p3 p4 p5 r3 ⟨H4.size, 0, none⟩ true H10)) ∧
 ((r3.isNone) = false → (∃ (x24 : ByteArray) (x25 : Sl), cells H10 ⟨H4.size, 0, none⟩ [(.string x24), (Sl.v x25)] 0 ∧ (
 F9 r3 x24 x25 H10 (fun (r28 : Int) (H26 : Hp) => 
 F3_1 Q p1 p2 p3 p4 p5 r3 ⟨H4.size, 0, none⟩ (decide (r28 ≠ 0)) H26))))))))
set_option maxRecDepth 100000 in
set_option maxHeartbeats 4000000 in
theorem walk3 {w0 : World} {p0 : Sl} {p1 : Int} {p2 : ByteArray} {p3 : Int} {p4 : Int} {p5 : Int} {H : Hp} {Q : Bool → Hp → Prop} (h : F3 p0 p1 p2 p3 p4 p5 H Q) :
    Good Tryd.prog w0 3 #[(Sl.v p0), (.int .i64 p1), (.string p2), (.int .i64 p3), (.int .i64 p4), (.int .u8 p5)] H (fun v H => ∃ (r0 : Bool) , v = (.bool r0) ∧ Q r0 H) := by
  unfold F3 at h
  refine Good.enter' (fn := Tryd.f3) Tryd.func3 rfl rfl rfl ?_
  refine HW.seq ?_
  refine HW.region ?_
  refine HList.vals (v := (.bool false)) rfl (HVal.assign' rfl) ?_
  refine HList.nil ?_
  refine nt ?_
  refine HW.seq ?_
  refine HW.region ?_
  refine HList.ops' rfl (HOp.call' 7 [] (cap := []) rfl rfl Tryd.call7 (walk7 h)) ?_
  rintro _ H1 ⟨r3, rfl, h⟩
  refine HList.vals (v := (.pointer r3)) rfl (HVal.assign' rfl) ?_
  refine HList.nil ?_
  refine nt ?_
  refine HW.seq ?_
  refine HW.region ?_
  refine HList.vals (v := (Sl.v p0)) rfl (HVal.move' rfl) ?_
  refine HList.ops' rfl (HOp.call' 8 [(.string S_T), (Sl.v Sl.nil), (Sl.v p0)] (cap := []) rfl rfl Tryd.call8 (walk8 h)) ?_
  rintro _ H4 ⟨r6, r7, rfl, h⟩
  refine HList.ops' rfl (HOp.alloc Tryd.zeroValue27) ?_
  rintro _ H8 ⟨rfl, e9⟩
  replace h := h H8 e9
  obtain ⟨z12, h⟩ := h
  refine HList.opsn (HOp.storeN' (l := [(.string r6), (Sl.v r7)]) Tryd.sizeOf27 rfl rfl rfl z12) ?_
  rintro _ H10 e11
  replace h := h H10 e11
  refine HList.nil ?_
  refine nt ?_
  refine HW.seq ?_
  refine HW.cut (fun ρ H_1 => ∃ (y22 : Bool), Env.Is ρ [(1, (.int .i64 p1)), (2, (.string p2)), (3, (.int .i64 p3)), (4, (.int .i64 p4)), (5, (.int .u8 p5)), (13, (.pointer r3)), (14, (.pointer (some ⟨H4.size, 0, none⟩))), (30, (.bool y22))] ∧ F3_1 Q p1 p2 p3 p4 p5 r3 ⟨H4.size, 0, none⟩ y22 H_1) ?_ ?_
  · refine HW.region ?_
    refine HList.vals (v := (.pointer r3)) rfl (HVal.move' rfl) ?_
    refine HList.vals (v := (.bool (r3.isNone))) rfl (HVal.eqlPN Tryd.underlying23 rfl rfl) ?_
    refine HList.vals (v := (.bool (r3.isNone))) rfl (HVal.move' rfl) ?_
    obtain ⟨hT, hF⟩ := h
    rcases Bool.eq_false_or_eq_true (r3.isNone) with hb20 | hb21
    · have h := hT hb20
      clear hT hF
      refine HList.gskips rfl rfl rfl rfl (congrArg Value.bool hb20) ?_
      refine HList.gskips rfl rfl rfl rfl (congrArg Value.bool hb20) ?_
      refine HList.gskips rfl rfl rfl rfl (congrArg Value.bool hb20) ?_
      refine HList.gskips rfl rfl rfl rfl (congrArg Value.bool hb20) ?_
      refine HList.vals (v := (.bool true)) rfl (HVal.pickT rfl hb20 rfl) ?_
      refine HList.nil ?_
      refine nt ?_
      exact ⟨true, ⟨rfl, rfl, rfl, rfl, rfl, rfl, rfl, rfl, trivial⟩, h⟩
    · have h := hF hb21
      clear hT hF
      refine HList.gvals (v := (.pointer r3)) rfl rfl rfl rfl (congrArg Value.bool hb21) (HVal.move' rfl) ?_
      obtain ⟨x24, x25, c23, h⟩ := h
      refine HList.gvals (v := (.agg #[(.string x24), (Sl.v x25)])) rfl rfl rfl rfl (congrArg Value.bool hb21) (HVal.loadN [(.string x24), (Sl.v x25)] Tryd.isAgg27 Tryd.sizeOf27 rfl c23) ?_
      refine HList.gops rfl rfl rfl rfl (congrArg Value.bool hb21) (HOp.call' 9 [(.pointer r3), (.agg #[(.string x24), (Sl.v x25)])] (cap := []) rfl rfl Tryd.call9 (walk9 h)) ?_
      rintro _ H26 ⟨r28, rfl, h⟩
      refine HList.gvals (v := (.bool (decide (r28 ≠ 0)))) rfl rfl rfl rfl (congrArg Value.bool hb21) (HVal.neqI rfl rfl) ?_
      refine HList.vals (v := (.bool (decide (r28 ≠ 0)))) rfl (HVal.pickF rfl hb21 rfl) ?_
      refine HList.nil ?_
      refine nt ?_
      exact ⟨(decide (r28 ≠ 0)), ⟨rfl, rfl, rfl, rfl, rfl, rfl, rfl, rfl, trivial⟩, h⟩
  · rintro ρ H_1 ⟨y22, hI, h⟩
    obtain ⟨ρ0, rfl⟩ : ∃ ρ0, ρ = (Env.set (Env.set (Env.set (Env.set (Env.set (Env.set (Env.set (Env.set ρ0 30 (.bool y22)) 14 (.pointer (some ⟨H4.size, 0, none⟩))) 13 (.pointer r3)) 5 (.int .u8 p5)) 4 (.int .i64 p4)) 3 (.int .i64 p3)) 2 (.string p2)) 1 (.int .i64 p1)) := ⟨ρ, hI.eq⟩
    clear hI; unfold F3_1 at h
    obtain ⟨hT, hF⟩ := h
    refine HW.cond y22 rfl (fun hb29 => ?_) (fun hb29 => ?_)
    · have h := hT hb29
      clear hT hF
      refine HW.seq ?_
      refine HW.region ?_
      refine HList.vals (v := (.bool false)) rfl (HVal.assign' rfl) ?_
      refine HList.nil ?_
      refine nt ?_
      refine HW.ret ?_
      refine tr ?_
      exact ⟨_, resOf1 rfl Res1.t, ⟨false, rfl, h⟩⟩
    · have h := hF hb29
      clear hT hF
      refine HW.skip ?_
      refine nt ?_
      refine HW.cut (fun ρ H_2 => ∃ (y37 : Int), Env.Is ρ [(1, (.int .i64 p1)), (2, (.string p2)), (4, (.int .i64 p4)), (5, (.int .u8 p5)), (13, (.pointer r3)), (14, (.pointer (some ⟨H4.size, 0, none⟩))), (3, (.int .i64 y37))] ∧ F3_2 Q p1 p2 p4 p5 r3 ⟨H4.size, 0, none⟩ y37 H_2) ?_ ?_
      · refine HW.seq ?_
        refine HW.region ?_
        refine HList.vals (v := (.int .i64 p3)) rfl (HVal.move' rfl) ?_
        refine HList.vals (v := (.bool (decide (p3 < 0)))) rfl (HVal.lss rfl rfl) ?_
        refine HList.nil ?_
        refine nt ?_
        obtain ⟨hT, hF⟩ := h
        refine HW.cond (decide (p3 < 0)) rfl (fun hb36 => ?_) (fun hb36 => ?_)
        · have h := hT hb36
          clear hT hF
          refine HW.region ?_
          refine HList.vals (v := (.int .i64 p3)) rfl (HVal.move' rfl) ?_
          refine HList.vals (v := (.int .i64 (IntKind.i64.wrap ((-1) - p3)))) rfl (HVal.sub rfl rfl) ?_
          refine HList.vals (v := (.int .i64 (IntKind.i64.wrap ((-1) - p3)))) rfl (HVal.assign' rfl) ?_
          refine HList.nil ?_
          refine nt ?_
          exact ⟨(IntKind.i64.wrap ((-1) - p3)), ⟨rfl, rfl, rfl, rfl, rfl, rfl, rfl, trivial⟩, h⟩
        · have h := hF hb36
          clear hT hF
          refine HW.skip ?_
          refine nt ?_
          exact ⟨p3, ⟨rfl, rfl, rfl, rfl, rfl, rfl, rfl, trivial⟩, h⟩
      · rintro ρ H_2 ⟨y37, hI, h⟩
        obtain ⟨ρ0, rfl⟩ : ∃ ρ0, ρ = (Env.set (Env.set (Env.set (Env.set (Env.set (Env.set (Env.set ρ0 3 (.int .i64 y37)) 14 (.pointer (some ⟨H4.size, 0, none⟩))) 13 (.pointer r3)) 5 (.int .u8 p5)) 4 (.int .i64 p4)) 2 (.string p2)) 1 (.int .i64 p1)) := ⟨ρ, hI.eq⟩
        clear hI; unfold F3_2 at h
        refine HW.seq ?_
        refine HW.region ?_
        refine HList.vals (v := (.int .i64 y37)) rfl (HVal.move' rfl) ?_
        refine HList.vals (v := (.int .i64 (Int.tmod y37 (4611686018427387905 : Int)))) rfl (HVal.rem rfl rfl (by decide)) ?_
        refine HList.vals (v := (.agg #[(.string S_T), (.int .i64 (Int.tmod y37 (4611686018427387905 : Int))), (Sl.v Sl.nil)])) rfl (HVal.build' (cs := [(.string S_T), (.int .i64 (Int.tmod y37 (4611686018427387905 : Int))), (Sl.v Sl.nil)]) Tryd.runUnderlying33 Tryd.zeroValue33 places33 rfl) ?_
        refine HList.ops' rfl (HOp.alloc Tryd.zeroValue33) ?_
        rintro _ H38 ⟨rfl, e39⟩
        replace h := h H38 e39
        obtain ⟨z42, h⟩ := h
        refine HList.opsn (HOp.storeN' (l := [(.string S_T), (.int .i64 (Int.tmod y37 (4611686018427387905 : Int))), (Sl.v Sl.nil)]) Tryd.sizeOf33 rfl rfl rfl z42) ?_
        rintro _ H40 e41
        replace h := h H40 e41
        refine HList.nil ?_
        refine nt ?_
        refine HW.cut (fun ρ H_3 => Env.Is ρ [(4, (.int .i64 p4)), (5, (.int .u8 p5)), (13, (.pointer r3)), (15, (.pointer (some ⟨H_2.size, 0, none⟩)))] ∧ F3_3 Q p4 p5 r3 ⟨H_2.size, 0, none⟩ H_3) ?_ ?_
        · refine HW.seq ?_
          refine HW.region ?_
          refine HList.vals (v := (.int .i64 0)) rfl (HVal.assign' rfl) ?_
          refine HList.nil ?_
          refine nt ?_
          refine HW.block ?_
          refine HW.loop' (fun L4 hL4 => ?_)
          obtain ⟨X4, hX4⟩ : ∃ X4 : Int → Hp → Prop, ∀ (y47 : Int) (H_4 : Hp), X4 y47 H_4 ↔ ∀ ρ, Env.Is ρ [(1, (.int .i64 p1)), (2, (.string p2)), (4, (.int .i64 p4)), (5, (.int .u8 p5)), (13, (.pointer r3)), (14, (.pointer (some ⟨H4.size, 0, none⟩))), (15, (.pointer (some ⟨H_2.size, 0, none⟩))), (16, (.int .i64 y47))] → L4 ρ H_4 := ⟨_, fun _ _ => Iff.rfl⟩
          refine (hX4 _ _).1 (h X4 ?_) _ ?_
          rotate_left
          · exact ⟨rfl, rfl, rfl, rfl, rfl, rfl, rfl, rfl, trivial⟩
          clear h
          intro y47 H_4 h
          refine (hX4 _ _).2 fun ρ hI => ?_
          obtain ⟨ρ0, rfl⟩ : ∃ ρ0, ρ = (Env.set (Env.set (Env.set (Env.set (Env.set (Env.set (Env.set (Env.set ρ0 16 (.int .i64 y47)) 15 (.pointer (some ⟨H_2.size, 0, none⟩))) 14 (.pointer (some ⟨H4.size, 0, none⟩))) 13 (.pointer r3)) 5 (.int .u8 p5)) 4 (.int .i64 p4)) 2 (.string p2)) 1 (.int .i64 p1)) := ⟨ρ, hI.eq⟩
          clear hI; unfold F3_L4b at h; refine hL4 _ _ ?_
          refine HW.seq ?_
          refine HW.seq ?_
          refine HW.region ?_
          refine HList.vals (v := (.int .i64 y47)) rfl (HVal.move' rfl) ?_
          refine HList.vals (v := (.pointer (some (Addr.add ⟨H4.size, 0, none⟩ 1)))) rfl (HVal.fieldAddr' Tryd.runUnderlying27 rfl rfl Tryd.sizeOf25 rfl) ?_
          obtain ⟨x56, c55, h⟩ := h
          refine HList.vals (v := (Sl.v x56)) rfl (HVal.load1 Tryd.isAgg25 rfl c55) ?_
          refine HList.vals (v := (.int .i64 ((x56).n : Int))) rfl (HVal.len Tryd.runUnderlying25 rfl) ?_
          refine HList.vals (v := (.bool (decide (y47 < ((x56).n : Int))))) rfl (HVal.lss rfl rfl) ?_
          refine HList.nil ?_
          refine nt ?_
          obtain ⟨hT, hF⟩ := h
          refine HW.cond (decide (y47 < ((x56).n : Int))) rfl (fun hb57 => ?_) (fun hb57 => ?_)
          · have h := hT hb57
            clear hT hF
            refine HW.skip ?_
            refine nt ?_
            refine HW.seq ?_
            refine HW.block ?_
            refine HW.seq ?_
            refine HW.region ?_
            refine HList.vals (v := (.pointer (some (Addr.add ⟨H4.size, 0, none⟩ 1)))) rfl (HVal.fieldAddr' Tryd.runUnderlying27 rfl rfl Tryd.sizeOf25 rfl) ?_
            obtain ⟨x59, c58, h⟩ := h
            refine HList.vals (v := (Sl.v x59)) rfl (HVal.load1 Tryd.isAgg25 rfl c58) ?_
            refine HList.vals (v := (.int .i64 y47)) rfl (HVal.move' rfl) ?_
            obtain ⟨a60, e61, b62, b63, h⟩ := h
            refine HList.vals (v := (.pointer (some (Addr.add a60 (y47.toNat * 2))))) rfl (HVal.indexAddr Tryd.runUnderlying25 Tryd.sizeOf38 (Sl.v_some rfl e61) rfl b62 b63) ?_
            refine HList.vals (v := (.pointer (some (Addr.add (Addr.add a60 (y47.toNat * 2)) 1)))) rfl (HVal.fieldAddr' Tryd.runUnderlying38 rfl rfl Tryd.sizeOf3 rfl) ?_
            obtain ⟨x65, c64, h⟩ := h
            refine HList.vals (v := (.int .i64 x65)) rfl (HVal.load1 Tryd.isAgg3 rfl c64) ?_
            refine HList.vals (v := (.int .i64 p1)) rfl (HVal.move' rfl) ?_
            refine HList.vals (v := (.int .i64 y47)) rfl (HVal.move' rfl) ?_
            refine HList.vals (v := (.int .i64 (IntKind.i64.wrap (p1 + y47)))) rfl (HVal.add rfl rfl) ?_
            refine HList.vals (v := (.string p2)) rfl (HVal.move' rfl) ?_
            refine HList.ops' rfl (HOp.call' 10 [(.int .i64 x65), (.int .i64 (IntKind.i64.wrap (p1 + y47))), (.string p2)] (cap := []) rfl rfl Tryd.call10 (walk10 h)) ?_
            rintro _ H66 ⟨r68, r69, r70, r71, rfl, h⟩
            refine HList.ops' rfl (HOp.alloc Tryd.zeroValue35) ?_
            rintro _ H72 ⟨rfl, e73⟩
            replace h := h H72 e73
            obtain ⟨z76, h⟩ := h
            refine HList.opsn (HOp.storeN' (l := [(.int .i64 r68), (.int .i64 r69), (.string r70), (.bool r71)]) Tryd.sizeOf35 rfl rfl rfl z76) ?_
            rintro _ H74 e75
            replace h := h H74 e75
            refine HList.nil ?_
            refine nt ?_
            refine HW.region ?_
            refine HList.vals (v := (.pointer (some (Addr.add ⟨H_2.size, 0, none⟩ 2)))) rfl (HVal.fieldAddr' Tryd.runUnderlying33 rfl rfl Tryd.sizeOf31 rfl) ?_
            obtain ⟨x78, c77, h⟩ := h
            refine HList.vals (v := (Sl.v x78)) rfl (HVal.load1 Tryd.isAgg31 rfl c77) ?_
            obtain ⟨x80, x81, x82, x83, c79, h⟩ := h
            refine HList.vals (v := (.agg #[(.int .i64 x80), (.int .i64 x81), (.string x82), (.bool x83)])) rfl (HVal.loadN [(.int .i64 x80), (.int .i64 x81), (.string x82), (.bool x83)] Tryd.isAgg35 Tryd.sizeOf35 rfl c79) ?_
            refine HList.ops' rfl (HOp.buildSlice' (zs := [(.int .i64 0), (.int .i64 0), (.string (ByteArray.mk #[])), (.bool false)]) (cs := [(.int .i64 x80), (.int .i64 x81), (.string x82), (.bool x83)]) Tryd.runUnderlying31 Tryd.sizeOf35 Tryd.zeroValue35 (by decide) (by kernel_rfl) rfl (by decide)) ?_
            rintro _ H84 ⟨rfl, e85⟩
            replace h := h H84 e85
            refine HList.ops' rfl (HOp.append (k := 4) (b := 40) Tryd.runUnderlying31 Tryd.runUnderlying31 Tryd.typeInfo35 rfl rfl Tryd.zeroValue35 rfl rfl h) ?_
            rintro _ H86 ⟨r88, rfl, h⟩
            refine HList.vals (v := (.pointer (some (Addr.add ⟨H_2.size, 0, none⟩ 2)))) rfl (HVal.fieldAddr' Tryd.runUnderlying33 rfl rfl Tryd.sizeOf31 rfl) ?_
            obtain ⟨z91, z92, h⟩ := h
            refine HList.opsn (HOp.store1 Tryd.sizeOf31 rfl rfl rfl z91 z92) ?_
            rintro _ H89 e90
            replace h := h H89 e90
            refine HList.nil ?_
            refine nb ?_
            refine nt ?_
            refine HW.region ?_
            refine HList.vals (v := (.int .i64 y47)) rfl (HVal.move' rfl) ?_
            refine HList.vals (v := (.int .i64 (IntKind.i64.wrap (y47 + 1)))) rfl (HVal.add rfl rfl) ?_
            refine HList.vals (v := (.int .i64 (IntKind.i64.wrap (y47 + 1)))) rfl (HVal.assign' rfl) ?_
            refine HList.nil ?_
            refine nt ?_
            exact (hX4 _ _).1 h _ ⟨rfl, rfl, rfl, rfl, rfl, rfl, rfl, rfl, trivial⟩
          · have h := hF hb57
            clear hT hF
            refine HW.exit ?_
            refine te ?_
            refine te ?_
            refine be ?_
            refine nt ?_
            exact ⟨⟨rfl, rfl, rfl, rfl, trivial⟩, h⟩
        · rintro ρ H_3 ⟨hI, h⟩
          obtain ⟨ρ0, rfl⟩ : ∃ ρ0, ρ = (Env.set (Env.set (Env.set (Env.set ρ0 15 (.pointer (some ⟨H_2.size, 0, none⟩))) 13 (.pointer r3)) 5 (.int .u8 p5)) 4 (.int .i64 p4)) := ⟨ρ, hI.eq⟩
          clear hI; unfold F3_3 at h
          refine HW.seq ?_
          refine HW.cut (fun ρ H_5 => ∃ (y106 : Bool), Env.Is ρ [(4, (.int .i64 p4)), (5, (.int .u8 p5)), (13, (.pointer r3)), (15, (.pointer (some ⟨H_2.size, 0, none⟩))), (75, (.bool y106))] ∧ F3_5 Q p4 p5 r3 ⟨H_2.size, 0, none⟩ y106 H_5) ?_ ?_
          · refine HW.region ?_
            refine HList.vals (v := (.pointer r3)) rfl (HVal.move' rfl) ?_
            obtain ⟨x98, x99, x100, c97, h⟩ := h
            refine HList.vals (v := (.agg #[(.string x98), (.int .i64 x99), (Sl.v x100)])) rfl (HVal.loadN [(.string x98), (.int .i64 x99), (Sl.v x100)] Tryd.isAgg33 Tryd.sizeOf33 rfl c97) ?_
            refine HList.ops' rfl (HOp.call' 11 [(.pointer r3), (.agg #[(.string x98), (.int .i64 x99), (Sl.v x100)])] (cap := []) rfl rfl Tryd.call11 (walk11 h)) ?_
            rintro _ H101 ⟨r103, rfl, h⟩
            refine HList.vals (v := (.bool (decide (r103 ≠ 0)))) rfl (HVal.neqI rfl rfl) ?_
            refine HList.vals (v := (.bool (decide (r103 ≠ 0)))) rfl (HVal.move' rfl) ?_
            obtain ⟨hT, hF⟩ := h
            rcases Bool.eq_false_or_eq_true (decide (r103 ≠ 0)) with hb104 | hb105
            · have h := hT hb104
              clear hT hF
              refine HList.gskips rfl rfl rfl rfl (congrArg Value.bool hb104) ?_
              refine HList.gskips rfl rfl rfl rfl (congrArg Value.bool hb104) ?_
              refine HList.gskips rfl rfl rfl rfl (congrArg Value.bool hb104) ?_
              refine HList.gskips rfl rfl rfl rfl (congrArg Value.bool hb104) ?_
              refine HList.gskips rfl rfl rfl rfl (congrArg Value.bool hb104) ?_
              refine HList.gskips rfl rfl rfl rfl (congrArg Value.bool hb104) ?_
              refine HList.gskips rfl rfl rfl rfl (congrArg Value.bool hb104) ?_
              refine HList.gskips rfl rfl rfl rfl (congrArg Value.bool hb104) ?_
              refine HList.vals (v := (.bool true)) rfl (HVal.pickT rfl hb104 rfl) ?_
              refine HList.nil ?_
              refine nt ?_
              exact ⟨true, ⟨rfl, rfl, rfl, rfl, rfl, trivial⟩, h⟩
            · have h := hF hb105
              clear hT hF
              refine HList.gvals (v := (.pointer r3)) rfl rfl rfl rfl (congrArg Value.bool hb105) (HVal.move' rfl) ?_
              refine HList.gvals (v := (.pointer (some (Addr.add ⟨H_2.size, 0, none⟩ 1)))) rfl rfl rfl rfl (congrArg Value.bool hb105) (HVal.fieldAddr' Tryd.runUnderlying33 rfl rfl Tryd.sizeOf2 rfl) ?_
              obtain ⟨x108, c107, h⟩ := h
              refine HList.gvals (v := (.int .i64 x108)) rfl rfl rfl rfl (congrArg Value.bool hb105) (HVal.load1 Tryd.isAgg2 rfl c107) ?_
              refine HList.gvals (v := (.pointer (some (Addr.add ⟨H_2.size, 0, none⟩ 2)))) rfl rfl rfl rfl (congrArg Value.bool hb105) (HVal.fieldAddr' Tryd.runUnderlying33 rfl rfl Tryd.sizeOf31 rfl) ?_
              obtain ⟨x110, c109, h⟩ := h
              refine HList.gvals (v := (Sl.v x110)) rfl rfl rfl rfl (congrArg Value.bool hb105) (HVal.load1 Tryd.isAgg31 rfl c109) ?_
              refine HList.gvals (v := (.agg #[(.string S_t), (.int .i64 x108), (Sl.v x110)])) rfl rfl rfl rfl (congrArg Value.bool hb105) (HVal.build' (cs := [(.string S_t), (.int .i64 x108), (Sl.v x110)]) Tryd.runUnderlying33 Tryd.zeroValue33 places33 rfl) ?_
              refine HList.gops rfl rfl rfl rfl (congrArg Value.bool hb105) (HOp.call' 11 [(.pointer r3), (.agg #[(.string S_t), (.int .i64 x108), (Sl.v x110)])] (cap := []) rfl rfl Tryd.call11 (walk11 h)) ?_
              rintro _ H111 ⟨r113, rfl, h⟩
              refine HList.gvals (v := (.bool (decide (r113 ≠ 21)))) rfl rfl rfl rfl (congrArg Value.bool hb105) (HVal.neqI rfl rfl) ?_
              refine HList.vals (v := (.bool (decide (r113 ≠ 21)))) rfl (HVal.pickF rfl hb105 rfl) ?_
              refine HList.nil ?_
              refine nt ?_
              exact ⟨(decide (r113 ≠ 21)), ⟨rfl, rfl, rfl, rfl, rfl, trivial⟩, h⟩
          · rintro ρ H_5 ⟨y106, hI, h⟩
            obtain ⟨ρ0, rfl⟩ : ∃ ρ0, ρ = (Env.set (Env.set (Env.set (Env.set (Env.set ρ0 75 (.bool y106)) 15 (.pointer (some ⟨H_2.size, 0, none⟩))) 13 (.pointer r3)) 5 (.int .u8 p5)) 4 (.int .i64 p4)) := ⟨ρ, hI.eq⟩
            clear hI; unfold F3_5 at h
            obtain ⟨hT, hF⟩ := h
            refine HW.cond y106 rfl (fun hb114 => ?_) (fun hb114 => ?_)
            · have h := hT hb114
              clear hT hF
              refine HW.seq ?_
              refine HW.region ?_
              refine HList.vals (v := (.bool false)) rfl (HVal.assign' rfl) ?_
              refine HList.nil ?_
              refine nt ?_
              refine HW.ret ?_
              refine tr ?_
              exact ⟨_, resOf1 rfl Res1.t, ⟨false, rfl, h⟩⟩
            · have h := hF hb114
              clear hT hF
              refine HW.skip ?_
              refine nt ?_
              refine HW.seq ?_
              refine HW.region ?_
              refine HList.vals (v := (.pointer (some (Addr.add ⟨H_2.size, 0, none⟩ 1)))) rfl (HVal.fieldAddr' Tryd.runUnderlying33 rfl rfl Tryd.sizeOf2 rfl) ?_
              obtain ⟨x116, c115, h⟩ := h
              refine HList.vals (v := (.int .i64 x116)) rfl (HVal.load1 Tryd.isAgg2 rfl c115) ?_
              refine HList.vals (v := (.int .i64 (IntKind.i64.wrap ((-1) - x116)))) rfl (HVal.sub rfl rfl) ?_
              refine HList.vals (v := (.pointer (some (Addr.add ⟨H_2.size, 0, none⟩ 1)))) rfl (HVal.fieldAddr' Tryd.runUnderlying33 rfl rfl Tryd.sizeOf2 rfl) ?_
              obtain ⟨z119, z120, h⟩ := h
              refine HList.opsn (HOp.store1 Tryd.sizeOf2 rfl rfl rfl z119 z120) ?_
              rintro _ H117 e118
              replace h := h H117 e118
              refine HList.nil ?_
              refine nt ?_
              refine HW.seq ?_
              refine HW.seq ?_
              refine HW.region ?_
              refine HList.vals (v := (.pointer r3)) rfl (HVal.move' rfl) ?_
              obtain ⟨x122, x123, x124, c121, h⟩ := h
              refine HList.vals (v := (.agg #[(.string x122), (.int .i64 x123), (Sl.v x124)])) rfl (HVal.loadN [(.string x122), (.int .i64 x123), (Sl.v x124)] Tryd.isAgg33 Tryd.sizeOf33 rfl c121) ?_
              refine HList.ops' rfl (HOp.call' 11 [(.pointer r3), (.agg #[(.string x122), (.int .i64 x123), (Sl.v x124)])] (cap := []) rfl rfl Tryd.call11 (walk11 h)) ?_
              rintro _ H125 ⟨r127, rfl, h⟩
              refine HList.vals (v := (.bool (decide (r127 ≠ 23)))) rfl (HVal.neqI rfl rfl) ?_
              refine HList.nil ?_
              refine nt ?_
              obtain ⟨hT, hF⟩ := h
              refine HW.cond (decide (r127 ≠ 23)) rfl (fun hb128 => ?_) (fun hb128 => ?_)
              · have h := hT hb128
                clear hT hF
                refine HW.seq ?_
                refine HW.region ?_
                refine HList.vals (v := (.bool false)) rfl (HVal.assign' rfl) ?_
                refine HList.nil ?_
                refine nt ?_
                refine HW.ret ?_
                refine tr ?_
                exact ⟨_, resOf1 rfl Res1.t, ⟨false, rfl, h⟩⟩
              · have h := hF hb128
                clear hT hF
                refine HW.skip ?_
                refine nt ?_
                refine HW.seq ?_
                refine HW.region ?_
                refine HList.vals (v := (.pointer (some (Addr.add ⟨H_2.size, 0, none⟩ 1)))) rfl (HVal.fieldAddr' Tryd.runUnderlying33 rfl rfl Tryd.sizeOf2 rfl) ?_
                obtain ⟨z131, z132, h⟩ := h
                refine HList.opsn (HOp.store1 Tryd.sizeOf2 rfl rfl rfl z131 z132) ?_
                rintro _ H129 e130
                replace h := h H129 e130
                refine HList.nil ?_
                refine nt ?_
                refine HW.seq ?_
                refine HW.seq ?_
                refine HW.region ?_
                refine HList.vals (v := (.pointer r3)) rfl (HVal.move' rfl) ?_
                obtain ⟨x134, x135, x136, c133, h⟩ := h
                refine HList.vals (v := (.agg #[(.string x134), (.int .i64 x135), (Sl.v x136)])) rfl (HVal.loadN [(.string x134), (.int .i64 x135), (Sl.v x136)] Tryd.isAgg33 Tryd.sizeOf33 rfl c133) ?_
                refine HList.ops' rfl (HOp.call' 11 [(.pointer r3), (.agg #[(.string x134), (.int .i64 x135), (Sl.v x136)])] (cap := []) rfl rfl Tryd.call11 (walk11 h)) ?_
                rintro _ H137 ⟨r139, rfl, h⟩
                refine HList.vals (v := (.bool (decide (r139 ≠ 23)))) rfl (HVal.neqI rfl rfl) ?_
                refine HList.nil ?_
                refine nt ?_
                obtain ⟨hT, hF⟩ := h
                refine HW.cond (decide (r139 ≠ 23)) rfl (fun hb140 => ?_) (fun hb140 => ?_)
                · have h := hT hb140
                  clear hT hF
                  refine HW.seq ?_
                  refine HW.region ?_
                  refine HList.vals (v := (.bool false)) rfl (HVal.assign' rfl) ?_
                  refine HList.nil ?_
                  refine nt ?_
                  refine HW.ret ?_
                  refine tr ?_
                  exact ⟨_, resOf1 rfl Res1.t, ⟨false, rfl, h⟩⟩
                · have h := hF hb140
                  clear hT hF
                  refine HW.skip ?_
                  refine nt ?_
                  refine HW.seq ?_
                  refine HW.region ?_
                  refine HList.vals (v := (.pointer (some (Addr.add ⟨H_2.size, 0, none⟩ 1)))) rfl (HVal.fieldAddr' Tryd.runUnderlying33 rfl rfl Tryd.sizeOf2 rfl) ?_
                  obtain ⟨z143, z144, h⟩ := h
                  refine HList.opsn (HOp.store1 Tryd.sizeOf2 rfl rfl rfl z143 z144) ?_
                  rintro _ H141 e142
                  replace h := h H141 e142
                  refine HList.nil ?_
                  refine nt ?_
                  refine HW.seq ?_
                  refine HW.region ?_
                  refine HList.vals (v := (.pointer (some (Addr.add ⟨H_2.size, 0, none⟩ 2)))) rfl (HVal.fieldAddr' Tryd.runUnderlying33 rfl rfl Tryd.sizeOf31 rfl) ?_
                  obtain ⟨x146, c145, h⟩ := h
                  refine HList.vals (v := (Sl.v x146)) rfl (HVal.load1 Tryd.isAgg31 rfl c145) ?_
                  refine HList.ops' rfl (HOp.append (k := 4) (b := 40) Tryd.runUnderlying31 Tryd.runUnderlying31 Tryd.typeInfo35 rfl rfl Tryd.zeroValue35 rfl rfl h) ?_
                  rintro _ H147 ⟨r149, rfl, h⟩
                  refine HList.vals (v := (Sl.v r149)) rfl (HVal.assign' rfl) ?_
                  refine HList.nil ?_
                  refine nt ?_
                  refine HW.seq ?_
                  refine HW.region ?_
                  refine HList.vals (v := (Sl.v r149)) rfl (HVal.move' rfl) ?_
                  refine HList.vals (v := (.agg #[(.int .i64 1), (.int .i64 0), (.string (ByteArray.mk #[])), (.bool false)])) rfl (HVal.build' (cs := [(.int .i64 1), (.int .i64 0), (.string (ByteArray.mk #[])), (.bool false)]) Tryd.runUnderlying35 Tryd.zeroValue35 places35 rfl) ?_
                  refine HList.ops' rfl (HOp.buildSlice' (zs := [(.int .i64 0), (.int .i64 0), (.string (ByteArray.mk #[])), (.bool false)]) (cs := [(.int .i64 1), (.int .i64 0), (.string (ByteArray.mk #[])), (.bool false)]) Tryd.runUnderlying31 Tryd.sizeOf35 Tryd.zeroValue35 (by decide) (by kernel_rfl) rfl (by decide)) ?_
                  rintro _ H150 ⟨rfl, e151⟩
                  replace h := h H150 e151
                  refine HList.ops' rfl (HOp.append (k := 4) (b := 40) Tryd.runUnderlying31 Tryd.runUnderlying31 Tryd.typeInfo35 rfl rfl Tryd.zeroValue35 rfl rfl h) ?_
                  rintro _ H152 ⟨r154, rfl, h⟩
                  refine HList.vals (v := (Sl.v r154)) rfl (HVal.assign' rfl) ?_
                  refine HList.nil ?_
                  refine nt ?_
                  refine HW.seq ?_
                  refine HW.seq ?_
                  refine HW.region ?_
                  refine HList.vals (v := (.pointer r3)) rfl (HVal.move' rfl) ?_
                  refine HList.vals (v := (Sl.v r154)) rfl (HVal.move' rfl) ?_
                  refine HList.vals (v := (.agg #[(.string S_T), (.int .i64 0), (Sl.v r154)])) rfl (HVal.build' (cs := [(.string S_T), (.int .i64 0), (Sl.v r154)]) Tryd.runUnderlying33 Tryd.zeroValue33 places33 rfl) ?_
                  refine HList.ops' rfl (HOp.call' 11 [(.pointer r3), (.agg #[(.string S_T), (.int .i64 0), (Sl.v r154)])] (cap := []) rfl rfl Tryd.call11 (walk11 h)) ?_
                  rintro _ H155 ⟨r157, rfl, h⟩
                  refine HList.vals (v := (.bool (decide (r157 ≠ 22)))) rfl (HVal.neqI rfl rfl) ?_
                  refine HList.nil ?_
                  refine nt ?_
                  obtain ⟨hT, hF⟩ := h
                  refine HW.cond (decide (r157 ≠ 22)) rfl (fun hb158 => ?_) (fun hb158 => ?_)
                  · have h := hT hb158
                    clear hT hF
                    refine HW.seq ?_
                    refine HW.region ?_
                    refine HList.vals (v := (.bool false)) rfl (HVal.assign' rfl) ?_
                    refine HList.nil ?_
                    refine nt ?_
                    refine HW.ret ?_
                    refine tr ?_
                    exact ⟨_, resOf1 rfl Res1.t, ⟨false, rfl, h⟩⟩
                  · have h := hF hb158
                    clear hT hF
                    refine HW.skip ?_
                    refine nt ?_
                    refine HW.seq ?_
                    refine HW.seq ?_
                    refine HW.region ?_
                    refine HList.vals (v := (.pointer (some (Addr.add ⟨H_2.size, 0, none⟩ 2)))) rfl (HVal.fieldAddr' Tryd.runUnderlying33 rfl rfl Tryd.sizeOf31 rfl) ?_
                    obtain ⟨x160, c159, h⟩ := h
                    refine HList.vals (v := (Sl.v x160)) rfl (HVal.load1 Tryd.isAgg31 rfl c159) ?_
                    refine HList.vals (v := (.int .i64 ((x160).n : Int))) rfl (HVal.len Tryd.runUnderlying31 rfl) ?_
                    refine HList.vals (v := (.bool (decide (((x160).n : Int) = 0)))) rfl (HVal.eqlI rfl rfl) ?_
                    refine HList.nil ?_
                    refine nt ?_
                    obtain ⟨hT, hF⟩ := h
                    refine HW.cond (decide (((x160).n : Int) = 0)) rfl (fun hb161 => ?_) (fun hb161 => ?_)
                    · have h := hT hb161
                      clear hT hF
                      refine HW.seq ?_
                      refine HW.region ?_
                      refine HList.vals (v := (.bool true)) rfl (HVal.assign' rfl) ?_
                      refine HList.nil ?_
                      refine nt ?_
                      refine HW.ret ?_
                      refine tr ?_
                      exact ⟨_, resOf1 rfl Res1.t, ⟨true, rfl, h⟩⟩
                    · have h := hF hb161
                      clear hT hF
                      refine HW.skip ?_
                      refine nt ?_
                      refine HW.seq ?_
                      refine HW.seq ?_
                      refine HW.region ?_
                      refine HList.vals (v := (.pointer r3)) rfl (HVal.move' rfl) ?_
                      refine HList.vals (v := (Sl.v r154)) rfl (HVal.move' rfl) ?_
                      refine HList.vals (v := (.pointer (some (Addr.add ⟨H_2.size, 0, none⟩ 2)))) rfl (HVal.fieldAddr' Tryd.runUnderlying33 rfl rfl Tryd.sizeOf31 rfl) ?_
                      obtain ⟨x163, c162, h⟩ := h
                      refine HList.vals (v := (Sl.v x163)) rfl (HVal.load1 Tryd.isAgg31 rfl c162) ?_
                      refine HList.vals (v := (.int .i64 ((x163).n : Int))) rfl (HVal.len Tryd.runUnderlying31 rfl) ?_
                      refine HList.vals (v := (.int .i64 (IntKind.i64.wrap (((x163).n : Int) - 1)))) rfl (HVal.sub rfl rfl) ?_
                      obtain ⟨z164, z165, z166, z167, h⟩ := h
                      refine HList.vals (v := (Sl.v (Sl.cut r154 4 0 ((IntKind.i64.wrap (((x163).n : Int) - 1)).toNat) ((r154).c)))) rfl (HVal.slice _ _ _ Tryd.runUnderlying31 Tryd.sizeOf35 rfl rfl ⟨_, _, rfl, z164, rfl⟩ rfl (by decide) z165 z166 z167) ?_
                      refine HList.vals (v := (.agg #[(.string S_T), (.int .i64 0), (Sl.v (Sl.cut r154 4 0 ((IntKind.i64.wrap (((x163).n : Int) - 1)).toNat) ((r154).c)))])) rfl (HVal.build' (cs := [(.string S_T), (.int .i64 0), (Sl.v (Sl.cut r154 4 0 ((IntKind.i64.wrap (((x163).n : Int) - 1)).toNat) ((r154).c)))]) Tryd.runUnderlying33 Tryd.zeroValue33 places33 rfl) ?_
                      refine HList.ops' rfl (HOp.call' 11 [(.pointer r3), (.agg #[(.string S_T), (.int .i64 0), (Sl.v (Sl.cut r154 4 0 ((IntKind.i64.wrap (((x163).n : Int) - 1)).toNat) ((r154).c)))])] (cap := []) rfl rfl Tryd.call11 (walk11 h)) ?_
                      rintro _ H168 ⟨r170, rfl, h⟩
                      refine HList.vals (v := (.bool (decide (r170 ≠ 22)))) rfl (HVal.neqI rfl rfl) ?_
                      refine HList.nil ?_
                      refine nt ?_
                      obtain ⟨hT, hF⟩ := h
                      refine HW.cond (decide (r170 ≠ 22)) rfl (fun hb171 => ?_) (fun hb171 => ?_)
                      · have h := hT hb171
                        clear hT hF
                        refine HW.seq ?_
                        refine HW.region ?_
                        refine HList.vals (v := (.bool false)) rfl (HVal.assign' rfl) ?_
                        refine HList.nil ?_
                        refine nt ?_
                        refine HW.ret ?_
                        refine tr ?_
                        exact ⟨_, resOf1 rfl Res1.t, ⟨false, rfl, h⟩⟩
                      · have h := hF hb171
                        clear hT hF
                        refine HW.skip ?_
                        refine nt ?_
                        refine HW.seq ?_
                        refine HW.region ?_
                        refine HList.vals (v := (.int .i64 p4)) rfl (HVal.move' rfl) ?_
                        refine HList.vals (v := (.pointer (some (Addr.add ⟨H_2.size, 0, none⟩ 2)))) rfl (HVal.fieldAddr' Tryd.runUnderlying33 rfl rfl Tryd.sizeOf31 rfl) ?_
                        obtain ⟨x173, c172, h⟩ := h
                        refine HList.vals (v := (Sl.v x173)) rfl (HVal.load1 Tryd.isAgg31 rfl c172) ?_
                        refine HList.vals (v := (.int .i64 ((x173).n : Int))) rfl (HVal.len Tryd.runUnderlying31 rfl) ?_
                        refine HList.ops' rfl (HOp.call' 12 [(.int .i64 p4), (.int .i64 ((x173).n : Int))] (cap := []) rfl rfl Tryd.call12 (walk12 h)) ?_
                        rintro _ H174 ⟨r176, rfl, h⟩
                        refine HList.vals (v := (.int .i64 r176)) rfl (HVal.assign' rfl) ?_
                        refine HList.nil ?_
                        refine nt ?_
                        refine HW.seq ?_
                        refine HW.region ?_
                        refine HList.vals (v := (.pointer (some (Addr.add ⟨H_2.size, 0, none⟩ 2)))) rfl (HVal.fieldAddr' Tryd.runUnderlying33 rfl rfl Tryd.sizeOf31 rfl) ?_
                        obtain ⟨x178, c177, h⟩ := h
                        refine HList.vals (v := (Sl.v x178)) rfl (HVal.load1 Tryd.isAgg31 rfl c177) ?_
                        refine HList.vals (v := (.int .i64 r176)) rfl (HVal.move' rfl) ?_
                        obtain ⟨a179, e180, b181, b182, h⟩ := h
                        refine HList.vals (v := (.pointer (some (Addr.add a179 (r176.toNat * 4))))) rfl (HVal.indexAddr Tryd.runUnderlying31 Tryd.sizeOf35 (Sl.v_some rfl e180) rfl b181 b182) ?_
                        refine HList.vals (v := (.pointer (some (Addr.add a179 (r176.toNat * 4))))) rfl (HVal.fieldAddr0 Tryd.runUnderlying35 rfl rfl Tryd.sizeOf3 rfl) ?_
                        obtain ⟨x184, c183, h⟩ := h
                        refine HList.vals (v := (.int .i64 x184)) rfl (HVal.load1 Tryd.isAgg3 rfl c183) ?_
                        refine HList.vals (v := (.int .i64 x184)) rfl (HVal.assign' rfl) ?_
                        refine HList.nil ?_
                        refine nt ?_
                        refine HW.seq ?_
                        refine HW.seq ?_
                        refine HW.region ?_
                        refine HList.vals (v := (.int .u8 p5)) rfl (HVal.move' rfl) ?_
                        refine HList.vals (v := (.int .u8 (Int.tmod p5 (2 : Int)))) rfl (HVal.rem rfl rfl (by decide)) ?_
                        refine HList.vals (v := (.bool (decide ((Int.tmod p5 (2 : Int)) = 0)))) rfl (HVal.eqlI rfl rfl) ?_
                        refine HList.nil ?_
                        refine nt ?_
                        obtain ⟨hT, hF⟩ := h
                        refine HW.cond (decide ((Int.tmod p5 (2 : Int)) = 0)) rfl (fun hb185 => ?_) (fun hb185 => ?_)
                        · have h := hT hb185
                          clear hT hF
                          refine HW.seq ?_
                          refine HW.draw mixed [(0, some []), (1, some [13]), (2, some []), (3, some []), (4, some []), (5, some []), (6, some []), (7, some []), (8, some []), (9, some []), (10, some []), (11, none), (12, some []), (13, none)] rfl (by kernel_rfl) (by kernel_rfl) ?_
                          refine HPlan.takev (v := (.pointer (some (Addr.add ⟨H_2.size, 0, none⟩ 2)))) rfl rfl (fun _ => HVal.fieldAddr' Tryd.runUnderlying33 rfl rfl Tryd.sizeOf31 rfl) ?_
                          obtain ⟨x187, c186, h⟩ := h
                          refine HPlan.takel (v := (Sl.v x187)) (fun X => cell X (Addr.add ⟨H_2.size, 0, none⟩ 2) = some (Sl.v x187)) rfl rfl (fun _ hX => HVal.load1 Tryd.isAgg31 rfl hX) c186 ?_
                          refine HPlan.takev (v := (.int .i64 r176)) rfl rfl (fun _ => HVal.move' rfl) ?_
                          refine HPlan.takev (v := (.int .i64 x184)) rfl rfl (fun _ => HVal.move' rfl) ?_
                          refine HPlan.takev (v := (.int .u8 p5)) rfl rfl (fun _ => HVal.move' rfl) ?_
                          refine HPlan.takev (v := (.int .i64 (IntKind.i64.wrap p5))) rfl rfl (fun _ => HVal.convI Tryd.runUnderlying5 Tryd.runUnderlying3 rfl) ?_
                          refine HPlan.takev (v := (.int .i64 (IntKind.i64.wrap (Int.tdiv (IntKind.i64.wrap p5) (2 : Int))))) rfl rfl (fun _ => HVal.quo rfl rfl (by decide)) ?_
                          refine HPlan.takev (v := (.int .i64 (Int.tmod (IntKind.i64.wrap (Int.tdiv (IntKind.i64.wrap p5) (2 : Int))) (2 : Int)))) rfl rfl (fun _ => HVal.rem rfl rfl (by decide)) ?_
                          refine HPlan.takev (v := (.int .i64 (IntKind.i64.wrap (x184 + (Int.tmod (IntKind.i64.wrap (Int.tdiv (IntKind.i64.wrap p5) (2 : Int))) (2 : Int)))))) rfl rfl (fun _ => HVal.add rfl rfl) ?_
                          refine HPlan.takev (v := (.int .i64 (Int.tmod (IntKind.i64.wrap (x184 + (Int.tmod (IntKind.i64.wrap (Int.tdiv (IntKind.i64.wrap p5) (2 : Int))) (2 : Int)))) (3 : Int)))) rfl rfl (fun _ => HVal.rem rfl rfl (by decide)) ?_
                          refine HPlan.takev (v := (.int .i64 (IntKind.i64.wrap (1 + (Int.tmod (IntKind.i64.wrap (x184 + (Int.tmod (IntKind.i64.wrap (Int.tdiv (IntKind.i64.wrap p5) (2 : Int))) (2 : Int)))) (3 : Int)))))) rfl rfl (fun _ => HVal.add rfl rfl) ?_
                          refine HPlan.ops' rfl rfl (HOp.call' 10 [(.int .i64 (IntKind.i64.wrap (1 + (Int.tmod (IntKind.i64.wrap (x184 + (Int.tmod (IntKind.i64.wrap (Int.tdiv (IntKind.i64.wrap p5) (2 : Int))) (2 : Int)))) (3 : Int))))), (.int .i64 0), (.string (ByteArray.mk #[]))] (cap := []) rfl rfl Tryd.call10 (walk10 h)) ?_
                          rintro _ H188 ⟨r190, r191, r192, r193, rfl, h⟩
                          obtain ⟨s194, h⟩ := h
                          refine ⟨SC_of ⟨fun _ => s194, trivial⟩, ?_⟩
                          obtain ⟨a195, e196, b197, b198, h⟩ := h
                          refine HPlan.takev (v := (.pointer (some (Addr.add a195 (r176.toNat * 4))))) rfl rfl (fun _ => HVal.indexAddr Tryd.runUnderlying31 Tryd.sizeOf35 (Sl.v_some rfl e196) rfl b197 b198) ?_
                          obtain ⟨z201, h⟩ := h
                          refine HPlan.opsn rfl (HOp.storeN' (l := [(.int .i64 r190), (.int .i64 r191), (.string r192), (.bool r193)]) Tryd.sizeOf35 rfl rfl rfl z201) ?_
                          rintro _ H199 e200
                          replace h := h H199 e200
                          refine ⟨SC_of ⟨fun e => absurd e (by decide), trivial⟩, ?_⟩
                          refine HPlan.done ?_
                          refine nt ?_
                          refine HW.seq ?_
                          refine HW.region ?_
                          refine HList.vals (v := (.pointer r3)) rfl (HVal.move' rfl) ?_
                          obtain ⟨x203, x204, x205, c202, h⟩ := h
                          refine HList.vals (v := (.agg #[(.string x203), (.int .i64 x204), (Sl.v x205)])) rfl (HVal.loadN [(.string x203), (.int .i64 x204), (Sl.v x205)] Tryd.isAgg33 Tryd.sizeOf33 rfl c202) ?_
                          refine HList.ops' rfl (HOp.call' 11 [(.pointer r3), (.agg #[(.string x203), (.int .i64 x204), (Sl.v x205)])] (cap := []) rfl rfl Tryd.call11 (walk11 h)) ?_
                          rintro _ H206 ⟨r208, rfl, h⟩
                          refine HList.vals (v := (.bool (decide (r208 = 10)))) rfl (HVal.eqlI rfl rfl) ?_
                          refine HList.vals (v := (.bool (decide (r208 = 10)))) rfl (HVal.assign' rfl) ?_
                          refine HList.nil ?_
                          refine nt ?_
                          refine HW.ret ?_
                          refine tr ?_
                          exact ⟨_, resOf1 rfl Res1.t, ⟨(decide (r208 = 10)), rfl, h⟩⟩
                        · have h := hF hb185
                          clear hT hF
                          refine HW.skip ?_
                          refine nt ?_
                          refine HW.cut (fun ρ H_6 => Env.Is ρ [(13, (.pointer r3)), (15, (.pointer (some ⟨H_2.size, 0, none⟩)))] ∧ F3_6 Q r3 ⟨H_2.size, 0, none⟩ H_6) ?_ ?_
                          · refine HW.seq ?_
                            refine HW.region ?_
                            refine HList.vals (v := (.int .i64 x184)) rfl (HVal.move' rfl) ?_
                            refine HList.vals (v := (.bool (decide (x184 = 1)))) rfl (HVal.eqlI rfl rfl) ?_
                            refine HList.nil ?_
                            refine nt ?_
                            obtain ⟨hT, hF⟩ := h
                            refine HW.cond (decide (x184 = 1)) rfl (fun hb211 => ?_) (fun hb211 => ?_)
                            · have h := hT hb211
                              clear hT hF
                              refine HW.region ?_
                              refine HList.vals (v := (.pointer (some (Addr.add ⟨H_2.size, 0, none⟩ 2)))) rfl (HVal.fieldAddr' Tryd.runUnderlying33 rfl rfl Tryd.sizeOf31 rfl) ?_
                              obtain ⟨x213, c212, h⟩ := h
                              refine HList.vals (v := (Sl.v x213)) rfl (HVal.load1 Tryd.isAgg31 rfl c212) ?_
                              refine HList.vals (v := (.int .i64 r176)) rfl (HVal.move' rfl) ?_
                              obtain ⟨a214, e215, b216, b217, h⟩ := h
                              refine HList.vals (v := (.pointer (some (Addr.add a214 (r176.toNat * 4))))) rfl (HVal.indexAddr Tryd.runUnderlying31 Tryd.sizeOf35 (Sl.v_some rfl e215) rfl b216 b217) ?_
                              refine HList.vals (v := (.pointer (some (Addr.add (Addr.add a214 (r176.toNat * 4)) 2)))) rfl (HVal.fieldAddr' Tryd.runUnderlying35 rfl rfl Tryd.sizeOf9 rfl) ?_
                              obtain ⟨z220, z221, h⟩ := h
                              refine HList.opsn (HOp.store1 Tryd.sizeOf9 rfl rfl rfl z220 z221) ?_
                              rintro _ H218 e219
                              replace h := h H218 e219
                              refine HList.nil ?_
                              refine nt ?_
                              exact ⟨⟨rfl, rfl, trivial⟩, h⟩
                            · have h := hF hb211
                              clear hT hF
                              refine HW.region ?_
                              refine HList.vals (v := (.pointer (some (Addr.add ⟨H_2.size, 0, none⟩ 2)))) rfl (HVal.fieldAddr' Tryd.runUnderlying33 rfl rfl Tryd.sizeOf31 rfl) ?_
                              obtain ⟨x223, c222, h⟩ := h
                              refine HList.vals (v := (Sl.v x223)) rfl (HVal.load1 Tryd.isAgg31 rfl c222) ?_
                              refine HList.vals (v := (.int .i64 r176)) rfl (HVal.move' rfl) ?_
                              obtain ⟨a224, e225, b226, b227, h⟩ := h
                              refine HList.vals (v := (.pointer (some (Addr.add a224 (r176.toNat * 4))))) rfl (HVal.indexAddr Tryd.runUnderlying31 Tryd.sizeOf35 (Sl.v_some rfl e225) rfl b226 b227) ?_
                              refine HList.vals (v := (.pointer (some (Addr.add (Addr.add a224 (r176.toNat * 4)) 1)))) rfl (HVal.fieldAddr' Tryd.runUnderlying35 rfl rfl Tryd.sizeOf2 rfl) ?_
                              obtain ⟨z230, z231, h⟩ := h
                              refine HList.opsn (HOp.store1 Tryd.sizeOf2 rfl rfl rfl z230 z231) ?_
                              rintro _ H228 e229
                              replace h := h H228 e229
                              refine HList.nil ?_
                              refine nt ?_
                              exact ⟨⟨rfl, rfl, trivial⟩, h⟩
                          · rintro ρ H_6 ⟨hI, h⟩
                            obtain ⟨ρ0, rfl⟩ : ∃ ρ0, ρ = (Env.set (Env.set ρ0 15 (.pointer (some ⟨H_2.size, 0, none⟩))) 13 (.pointer r3)) := ⟨ρ, hI.eq⟩
                            clear hI; unfold F3_6 at h
                            refine HW.seq ?_
                            refine HW.region ?_
                            refine HList.vals (v := (.pointer r3)) rfl (HVal.move' rfl) ?_
                            obtain ⟨x233, x234, x235, c232, h⟩ := h
                            refine HList.vals (v := (.agg #[(.string x233), (.int .i64 x234), (Sl.v x235)])) rfl (HVal.loadN [(.string x233), (.int .i64 x234), (Sl.v x235)] Tryd.isAgg33 Tryd.sizeOf33 rfl c232) ?_
                            refine HList.ops' rfl (HOp.call' 11 [(.pointer r3), (.agg #[(.string x233), (.int .i64 x234), (Sl.v x235)])] (cap := []) rfl rfl Tryd.call11 (walk11 h)) ?_
                            rintro _ H236 ⟨r238, rfl, h⟩
                            refine HList.vals (v := (.bool (decide (r238 = 12)))) rfl (HVal.eqlI rfl rfl) ?_
                            refine HList.vals (v := (.bool (decide (r238 = 12)))) rfl (HVal.assign' rfl) ?_
                            refine HList.nil ?_
                            refine nt ?_
                            refine HW.ret ?_
                            exact ⟨_, resOf1 rfl Res1.t, ⟨(decide (r238 = 12)), rfl, h⟩⟩

end Go.Hw
