/- The walks of this seat, printed by a program of this session (wip/tools/gen.py): of each function what it does to the heap, and that it does so. -/
import Derived.Test.YtphnfleopkcmlaaHwM
import Derived.Test.YtphnfleopkcmlaaProg
import Derived.Test.YtphnfleopkcmlaaWAux
import Derived.Test.YtphnfleopkcmlaaWalkA
set_option linter.unusedVariables false
set_option linter.unusedSimpArgs false
namespace Go.Hw
open Go Go.Proofs
def F29 (p0 : (Option Addr)) (p1_0 : Int) (p1_1 : Int) (H : Hp) (Q : Int → Int → Hp → Prop) : Prop :=
∀ H1 : Hp, H1 = Array.push H (.cells #[(.int .i64 p1_0), (.int .i64 p1_1)] 32) → (
 ∃ x4 : Int, cell H1 ⟨H.size, 0, none⟩ = some (.int .i64 x4) ∧ (
 ((decide (x4 ≠ 0)) = true → (Q 0 131 H1)) ∧
 ((decide (x4 ≠ 0)) = false → (∃ (x7 : Int) (x8 : Int), cells H1 ⟨H.size, 0, none⟩ [(.int .i64 x7), (.int .i64 x8)] 0 ∧ (
 ∀ H9 : Hp, H9 = Array.push H1 (.cells #[(.int .i64 x7), (.int .i64 x8), (.pointer none), (.int .i64 1)] 89) → (
 F43 p0 (some ⟨H1.size, 0, none⟩) H9 (fun (r13 : Int) (H11 : Hp) => 
 Q r13 0 H11)))))))
set_option maxRecDepth 100000 in
set_option maxHeartbeats 4000000 in
theorem walk29 {w0 : World} {p0 : (Option Addr)} {p1_0 : Int} {p1_1 : Int} {H : Hp} {Q : Int → Int → Hp → Prop} (h : F29 p0 p1_0 p1_1 H Q) :
    Good Try.prog w0 29 #[(.pointer p0), (.agg #[(.int .i64 p1_0), (.int .i64 p1_1)])] H (fun v H => ∃ (r0 : Int) (r1 : Int) , v = (.tuple #[(.int .i64 r0), (.int .i64 r1)]) ∧ Q r0 r1 H) := by
  unfold F29 at h
  refine Good.enter' (fn := Try.f29) Try.func29 rfl rfl rfl ?_
  refine HW.seq ?_
  refine HW.region ?_
  refine HList.ops' rfl (HOp.box (v := (.agg #[(.int .i64 p1_0), (.int .i64 p1_1)])) rfl) ?_
  rintro _ H1 ⟨rfl, e2⟩
  replace h := h H1 e2
  refine HList.vals (v := (.int .i64 0)) rfl (HVal.assign' rfl) ?_
  refine HList.vals (v := (.int .i64 0)) rfl (HVal.assign' rfl) ?_
  refine HList.nil ?_
  refine nt ?_
  refine HW.seq ?_
  refine HW.seq ?_
  refine HW.region ?_
  refine HList.vals (v := (.pointer (some ⟨H.size, 0, none⟩))) rfl (HVal.fieldAddr0 Try.runUnderlying32 rfl rfl Try.sizeOf3 rfl) ?_
  obtain ⟨x4, c3, h⟩ := h
  refine HList.vals (v := (.int .i64 x4)) rfl (HVal.load1 Try.isAgg3 rfl c3) ?_
  refine HList.vals (v := (.bool (decide (x4 ≠ 0)))) rfl (HVal.neqI rfl rfl) ?_
  refine HList.nil ?_
  refine nt ?_
  obtain ⟨hT, hF⟩ := h
  refine HW.cond (decide (x4 ≠ 0)) rfl (fun hb5 => ?_) (fun hb5 => ?_)
  · have h := hT hb5
    clear hT hF
    refine HW.seq ?_
    refine HW.region ?_
    refine HList.vals (v := (.int .i64 0)) rfl (HVal.assign' rfl) ?_
    refine HList.vals (v := (.int .i64 131)) rfl (HVal.assign' rfl) ?_
    refine HList.nil ?_
    refine nt ?_
    refine HW.ret ?_
    refine tr ?_
    exact ⟨_, resOf2 rfl Res1.t Res1.t, ⟨0, 131, rfl, h⟩⟩
  · have h := hF hb5
    clear hT hF
    refine HW.skip ?_
    refine nt ?_
    refine HW.seq ?_
    refine HW.region ?_
    refine HList.vals (v := (.pointer p0)) rfl (HVal.move' rfl) ?_
    obtain ⟨x7, x8, c6, h⟩ := h
    refine HList.vals (v := (.agg #[(.int .i64 x7), (.int .i64 x8)])) rfl (HVal.loadN [(.int .i64 x7), (.int .i64 x8)] Try.isAgg32 Try.sizeOf32 rfl c6) ?_
    refine HList.vals (v := (.agg #[(.int .i64 x7), (.int .i64 x8), (.pointer none), (.int .i64 1)])) rfl (HVal.build' (cs := [(.int .i64 x7), (.int .i64 x8), (.pointer none), (.int .i64 1)]) Try.runUnderlying89 Try.zeroValue89 places89 rfl) ?_
    refine HList.ops' rfl (HOp.box (v := (.agg #[(.int .i64 x7), (.int .i64 x8), (.pointer none), (.int .i64 1)])) rfl) ?_
    rintro _ H9 ⟨rfl, e10⟩
    replace h := h H9 e10
    refine HList.ops' rfl (HOp.call' 43 [(.pointer p0), (.pointer (some ⟨H1.size, 0, none⟩))] (cap := []) rfl rfl Try.call43 (walk43 h)) ?_
    rintro _ H11 ⟨r13, rfl, h⟩
    refine HList.vals (v := (.int .i64 r13)) rfl (HVal.assign' rfl) ?_
    refine HList.nil ?_
    refine nt ?_
    refine HW.seq ?_
    refine HW.region ?_
    refine HList.vals (v := (.int .i64 r13)) rfl (HVal.move' rfl) ?_
    refine HList.vals (v := (.int .i64 r13)) rfl (HVal.assign' rfl) ?_
    refine HList.vals (v := (.int .i64 0)) rfl (HVal.assign' rfl) ?_
    refine HList.nil ?_
    refine nt ?_
    refine HW.ret ?_
    exact ⟨_, resOf2 rfl Res1.t Res1.t, ⟨r13, 0, rfl, h⟩⟩

def F44 (p0 : (Option Addr)) (p1 : Int) (H : Hp) (Q : Bool → Hp → Prop) : Prop :=
((decide ((0 : Int) ≤ p1)) = true → (∃ a3 : Addr, p0 = some a3 ∧ (
 ∃ x6 : Sl, cell H (Addr.add a3 1) = some (Sl.v x6) ∧ (
 ((decide (p1 < ((x6).n : Int))) = true → (∃ a9 : Addr, p0 = some a9 ∧ (
 ∃ x12 : Sl, cell H (Addr.add a9 1) = some (Sl.v x12) ∧ (
 ∃ a13 : Addr, (x12).b = some a13 ∧ (0 : Int) ≤ p1 ∧ p1 < ((x12).n : Int) ∧ (
 ∃ x18 : (Option Addr), cell H (Addr.add a13 (p1.toNat * 1)) = some (.pointer x18) ∧ (
 Q (!x18.isNone) H)))))) ∧
 ((decide (p1 < ((x6).n : Int))) = false → (Q false H)))))) ∧
 ((decide ((0 : Int) ≤ p1)) = false → (Q false H))
set_option maxRecDepth 100000 in
set_option maxHeartbeats 4000000 in
theorem walk44 {w0 : World} {p0 : (Option Addr)} {p1 : Int} {H : Hp} {Q : Bool → Hp → Prop} (h : F44 p0 p1 H Q) :
    Good Try.prog w0 44 #[(.pointer p0), (.int .i64 p1)] H (fun v H => ∃ (r0 : Bool) , v = (.bool r0) ∧ Q r0 H) := by
  unfold F44 at h
  refine Good.enter' (fn := Try.f44) Try.func44 rfl rfl rfl ?_
  refine HW.seq ?_
  refine HW.region ?_
  refine HList.vals (v := (.bool false)) rfl (HVal.assign' rfl) ?_
  refine HList.nil ?_
  refine nt ?_
  refine HW.seq ?_
  refine HW.region ?_
  refine HList.vals (v := (.int .i64 p1)) rfl (HVal.move' rfl) ?_
  refine HList.vals (v := (.bool (decide ((0 : Int) ≤ p1)))) rfl (HVal.geq rfl rfl) ?_
  refine HList.vals (v := (.bool (decide ((0 : Int) ≤ p1)))) rfl (HVal.move' rfl) ?_
  obtain ⟨hT, hF⟩ := h
  rcases Bool.eq_false_or_eq_true (decide ((0 : Int) ≤ p1)) with hb1 | hb2
  · have h := hT hb1
    clear hT hF
    refine HList.gvals (v := (.int .i64 p1)) rfl rfl rfl rfl (congrArg Value.bool hb1) (HVal.move' rfl) ?_
    refine HList.gvals (v := (.pointer p0)) rfl rfl rfl rfl (congrArg Value.bool hb1) (HVal.move' rfl) ?_
    obtain ⟨a3, e4, h⟩ := h
    refine HList.gvals (v := (.pointer (some a3))) rfl rfl rfl rfl (congrArg Value.bool hb1) (HVal.nilCheck (congrArg Value.pointer e4)) ?_
    refine HList.gvals (v := (.pointer (some (Addr.add a3 1)))) rfl rfl rfl rfl (congrArg Value.bool hb1) (HVal.fieldAddr' Try.runUnderlying74 rfl rfl Try.sizeOf72 rfl) ?_
    obtain ⟨x6, c5, h⟩ := h
    refine HList.gvals (v := (Sl.v x6)) rfl rfl rfl rfl (congrArg Value.bool hb1) (HVal.load1 Try.isAgg72 rfl c5) ?_
    refine HList.gvals (v := (.int .i64 ((x6).n : Int))) rfl rfl rfl rfl (congrArg Value.bool hb1) (HVal.len Try.runUnderlying72 rfl) ?_
    refine HList.gvals (v := (.bool (decide (p1 < ((x6).n : Int))))) rfl rfl rfl rfl (congrArg Value.bool hb1) (HVal.lss rfl rfl) ?_
    refine HList.vals (v := (.bool (decide (p1 < ((x6).n : Int))))) rfl (HVal.pickT rfl hb1 rfl) ?_
    refine HList.vals (v := (.bool (decide (p1 < ((x6).n : Int))))) rfl (HVal.move' rfl) ?_
    obtain ⟨hT, hF⟩ := h
    rcases Bool.eq_false_or_eq_true (decide (p1 < ((x6).n : Int))) with hb7 | hb8
    · have h := hT hb7
      clear hT hF
      refine HList.gvals (v := (.pointer p0)) rfl rfl rfl rfl (congrArg Value.bool hb7) (HVal.move' rfl) ?_
      obtain ⟨a9, e10, h⟩ := h
      refine HList.gvals (v := (.pointer (some a9))) rfl rfl rfl rfl (congrArg Value.bool hb7) (HVal.nilCheck (congrArg Value.pointer e10)) ?_
      refine HList.gvals (v := (.pointer (some (Addr.add a9 1)))) rfl rfl rfl rfl (congrArg Value.bool hb7) (HVal.fieldAddr' Try.runUnderlying74 rfl rfl Try.sizeOf72 rfl) ?_
      obtain ⟨x12, c11, h⟩ := h
      refine HList.gvals (v := (Sl.v x12)) rfl rfl rfl rfl (congrArg Value.bool hb7) (HVal.load1 Try.isAgg72 rfl c11) ?_
      refine HList.gvals (v := (.int .i64 p1)) rfl rfl rfl rfl (congrArg Value.bool hb7) (HVal.move' rfl) ?_
      obtain ⟨a13, e14, b15, b16, h⟩ := h
      refine HList.gvals (v := (.pointer (some (Addr.add a13 (p1.toNat * 1))))) rfl rfl rfl rfl (congrArg Value.bool hb7) (HVal.indexAddr Try.runUnderlying72 Try.sizeOf87 (Sl.v_some rfl e14) rfl b15 b16) ?_
      obtain ⟨x18, c17, h⟩ := h
      refine HList.gvals (v := (.pointer x18)) rfl rfl rfl rfl (congrArg Value.bool hb7) (HVal.load1 Try.isAgg87 rfl c17) ?_
      refine HList.gvals (v := (.bool (!x18.isNone))) rfl rfl rfl rfl (congrArg Value.bool hb7) (HVal.neqPN Try.underlying87 rfl rfl) ?_
      refine HList.vals (v := (.bool (!x18.isNone))) rfl (HVal.pickT rfl hb7 rfl) ?_
      refine HList.vals (v := (.bool (!x18.isNone))) rfl (HVal.assign' rfl) ?_
      refine HList.nil ?_
      refine nt ?_
      refine HW.ret ?_
      exact ⟨_, resOf1 rfl Res1.t, ⟨(!x18.isNone), rfl, h⟩⟩
    · have h := hF hb8
      clear hT hF
      refine HList.gskips rfl rfl rfl rfl (congrArg Value.bool hb8) ?_
      refine HList.gskips rfl rfl rfl rfl (congrArg Value.bool hb8) ?_
      refine HList.gskips rfl rfl rfl rfl (congrArg Value.bool hb8) ?_
      refine HList.gskips rfl rfl rfl rfl (congrArg Value.bool hb8) ?_
      refine HList.gskips rfl rfl rfl rfl (congrArg Value.bool hb8) ?_
      refine HList.gskips rfl rfl rfl rfl (congrArg Value.bool hb8) ?_
      refine HList.gskips rfl rfl rfl rfl (congrArg Value.bool hb8) ?_
      refine HList.gskips rfl rfl rfl rfl (congrArg Value.bool hb8) ?_
      refine HList.vals (v := (.bool false)) rfl (HVal.pickF rfl hb8 rfl) ?_
      refine HList.vals (v := (.bool false)) rfl (HVal.assign' rfl) ?_
      refine HList.nil ?_
      refine nt ?_
      refine HW.ret ?_
      exact ⟨_, resOf1 rfl Res1.t, ⟨false, rfl, h⟩⟩
  · have h := hF hb2
    clear hT hF
    refine HList.gskips rfl rfl rfl rfl (congrArg Value.bool hb2) ?_
    refine HList.gskips rfl rfl rfl rfl (congrArg Value.bool hb2) ?_
    refine HList.gskips rfl rfl rfl rfl (congrArg Value.bool hb2) ?_
    refine HList.gskips rfl rfl rfl rfl (congrArg Value.bool hb2) ?_
    refine HList.gskips rfl rfl rfl rfl (congrArg Value.bool hb2) ?_
    refine HList.gskips rfl rfl rfl rfl (congrArg Value.bool hb2) ?_
    refine HList.gskips rfl rfl rfl rfl (congrArg Value.bool hb2) ?_
    refine HList.vals (v := (.bool false)) rfl (HVal.pickF rfl hb2 rfl) ?_
    refine HList.vals (v := (.bool false)) rfl (HVal.move' rfl) ?_
    refine HList.gskips rfl rfl rfl rfl rfl ?_
    refine HList.gskips rfl rfl rfl rfl rfl ?_
    refine HList.gskips rfl rfl rfl rfl rfl ?_
    refine HList.gskips rfl rfl rfl rfl rfl ?_
    refine HList.gskips rfl rfl rfl rfl rfl ?_
    refine HList.gskips rfl rfl rfl rfl rfl ?_
    refine HList.gskips rfl rfl rfl rfl rfl ?_
    refine HList.gskips rfl rfl rfl rfl rfl ?_
    refine HList.vals (v := (.bool false)) rfl (HVal.pickF rfl rfl rfl) ?_
    refine HList.vals (v := (.bool false)) rfl (HVal.assign' rfl) ?_
    refine HList.nil ?_
    refine nt ?_
    refine HW.ret ?_
    exact ⟨_, resOf1 rfl Res1.t, ⟨false, rfl, h⟩⟩

def F30_1 (Q : Int → Int → Hp → Prop) (y27 : (Option Addr)) (y28 : Addr) (y29 : (Option Addr)) (y42 : Bool) (H_1 : Hp) : Prop :=
(y42 = true → (Q 0 131 H_1)) ∧
 (y42 = false → (∃ (x69 : Int) (x70 : Int), cells H_1 y28 [(.int .i64 x69), (.int .i64 x70)] 0 ∧ (
 ∃ a71 : Addr, y29 = some a71 ∧ (
 ∃ x74 : Int, cell H_1 (Addr.add a71 3) = some (.int .i64 x74) ∧ (
 ∀ H75 : Hp, H75 = Array.push H_1 (.cells #[(.int .i64 x69), (.int .i64 x70), (.pointer y29), (.int .i64 (IntKind.i64.wrap (x74 + 1)))] 89) → (
 cell H75 (Addr.add a71 3) = some (.int .i64 x74) ∧ cells H75 y28 [(.int .i64 x69), (.int .i64 x70)] 0 ∧ (
 F43 y27 (some ⟨H_1.size, 0, none⟩) H75 (fun (r81 : Int) (H79 : Hp) => 
 cell H79 (Addr.add a71 3) = some (.int .i64 x74) ∧ cells H79 y28 [(.int .i64 x69), (.int .i64 x70)] 0 ∧ (
 Q r81 0 H79)))))))))
def F30 (p0 : (Option Addr)) (p1 : Int) (p2_0 : Int) (p2_1 : Int) (H : Hp) (Q : Int → Int → Hp → Prop) : Prop :=
∀ H1 : Hp, H1 = Array.push H (.cells #[(.int .i64 p2_0), (.int .i64 p2_1)] 32) → (
 F44 p0 p1 H1 (fun (r5 : Bool) (H3 : Hp) => 
 ((!r5) = true → (Q 0 130 H3)) ∧
 ((!r5) = false → (∃ a7 : Addr, p0 = some a7 ∧ (
 ∃ x10 : Sl, cell H3 (Addr.add a7 1) = some (Sl.v x10) ∧ (
 ∃ a11 : Addr, (x10).b = some a11 ∧ (0 : Int) ≤ p1 ∧ p1 < ((x10).n : Int) ∧ (
 ∃ x16 : (Option Addr), cell H3 (Addr.add a11 (p1.toNat * 1)) = some (.pointer x16) ∧ (
 ∃ a17 : Addr, x16 = some a17 ∧ (
 ∃ (x20 : Int) (x21 : Int), cells H3 a17 [(.int .i64 x20), (.int .i64 x21)] 0 ∧ (
 ∀ H22 : Hp, H22 = Array.push H3 (.cells #[(.int .i64 0), (.int .i64 0)] 32) → (
 mayw H22 ⟨H3.size, 0, none⟩ 2 0 ∧ ∀ H24 : Hp, H24 = sets H22 ⟨H3.size, 0, none⟩ [(.int .i64 x20), (.int .i64 x21)] 0 → (
 ∃ x31 : Int, cell H24 ⟨H.size, 0, none⟩ = some (.int .i64 x31) ∧ (
 ∃ x33 : Int, cell H24 ⟨H3.size, 0, none⟩ = some (.int .i64 x33) ∧ (
 ((decide (x31 ≠ x33)) = true → (∃ x37 : Int, cell H24 ⟨H.size, 0, none⟩ = some (.int .i64 x37) ∧ (
 ∃ x39 : Int, cell H24 ⟨H3.size, 0, none⟩ = some (.int .i64 x39) ∧ (
 ((decide (x37 ≠ (IntKind.i64.wrap (x39 + 1)))) = true → (F30_1 Q p0 ⟨H.size, 0, none⟩ x16 true H24)) ∧
 ((decide (x37 ≠ (IntKind.i64.wrap (x39 + 1)))) = false → (∃ x44 : Int, cell H24 ⟨H.size, 0, none⟩ = some (.int .i64 x44) ∧ (
 ∃ a45 : Addr, p0 = some a45 ∧ (
 ∃ x48 : Int, cell H24 a45 = some (.int .i64 x48) ∧ (
 ((decide (x48 ≤ x44)) = true → (F30_1 Q p0 ⟨H.size, 0, none⟩ x16 true H24)) ∧
 ((decide (x48 ≤ x44)) = false → (∃ x52 : Int, cell H24 (Addr.add ⟨H.size, 0, none⟩ 1) = some (.int .i64 x52) ∧ (
 ∃ x54 : Int, cell H24 (Addr.add ⟨H3.size, 0, none⟩ 1) = some (.int .i64 x54) ∧ (
 F30_1 Q p0 ⟨H.size, 0, none⟩ x16 (decide (x52 ≤ x54)) H24))))))))))))) ∧
 ((decide (x31 ≠ x33)) = false → (∃ x56 : Int, cell H24 ⟨H.size, 0, none⟩ = some (.int .i64 x56) ∧ (
 ∃ a57 : Addr, p0 = some a57 ∧ (
 ∃ x60 : Int, cell H24 a57 = some (.int .i64 x60) ∧ (
 ((decide (x60 ≤ x56)) = true → (F30_1 Q p0 ⟨H.size, 0, none⟩ x16 true H24)) ∧
 ((decide (x60 ≤ x56)) = false → (∃ x64 : Int, cell H24 (Addr.add ⟨H.size, 0, none⟩ 1) = some (.int .i64 x64) ∧ (
 ∃ x66 : Int, cell H24 (Addr.add ⟨H3.size, 0, none⟩ 1) = some (.int .i64 x66) ∧ (
 F30_1 Q p0 ⟨H.size, 0, none⟩ x16 (decide (x64 ≤ x66)) H24)))))))))))))))))))))))
set_option maxRecDepth 100000 in
set_option maxHeartbeats 4000000 in
theorem walk30 {w0 : World} {p0 : (Option Addr)} {p1 : Int} {p2_0 : Int} {p2_1 : Int} {H : Hp} {Q : Int → Int → Hp → Prop} (h : F30 p0 p1 p2_0 p2_1 H Q) :
    Good Try.prog w0 30 #[(.pointer p0), (.int .i64 p1), (.agg #[(.int .i64 p2_0), (.int .i64 p2_1)])] H (fun v H => ∃ (r0 : Int) (r1 : Int) , v = (.tuple #[(.int .i64 r0), (.int .i64 r1)]) ∧ Q r0 r1 H) := by
  unfold F30 at h
  refine Good.enter' (fn := Try.f30) Try.func30 rfl rfl rfl ?_
  refine HW.seq ?_
  refine HW.region ?_
  refine HList.ops' rfl (HOp.box (v := (.agg #[(.int .i64 p2_0), (.int .i64 p2_1)])) rfl) ?_
  rintro _ H1 ⟨rfl, e2⟩
  replace h := h H1 e2
  refine HList.vals (v := (.int .i64 0)) rfl (HVal.assign' rfl) ?_
  refine HList.vals (v := (.int .i64 0)) rfl (HVal.assign' rfl) ?_
  refine HList.nil ?_
  refine nt ?_
  refine HW.seq ?_
  refine HW.region ?_
  refine HList.vals (v := (.pointer p0)) rfl (HVal.move' rfl) ?_
  refine HList.vals (v := (.int .i64 p1)) rfl (HVal.move' rfl) ?_
  refine HList.ops' rfl (HOp.call' 44 [(.pointer p0), (.int .i64 p1)] (cap := []) rfl rfl Try.call44 (walk44 h)) ?_
  rintro _ H3 ⟨r5, rfl, h⟩
  refine HList.vals (v := (.bool r5)) rfl (HVal.assign' rfl) ?_
  refine HList.nil ?_
  refine nt ?_
  refine HW.seq ?_
  refine HW.seq ?_
  refine HW.region ?_
  refine HList.vals (v := (.bool r5)) rfl (HVal.move' rfl) ?_
  refine HList.vals (v := (.bool (!r5))) rfl (HVal.not rfl) ?_
  refine HList.nil ?_
  refine nt ?_
  obtain ⟨hT, hF⟩ := h
  refine HW.cond (!r5) rfl (fun hb6 => ?_) (fun hb6 => ?_)
  · have h := hT hb6
    clear hT hF
    refine HW.seq ?_
    refine HW.region ?_
    refine HList.vals (v := (.int .i64 0)) rfl (HVal.assign' rfl) ?_
    refine HList.vals (v := (.int .i64 130)) rfl (HVal.assign' rfl) ?_
    refine HList.nil ?_
    refine nt ?_
    refine HW.ret ?_
    refine tr ?_
    exact ⟨_, resOf2 rfl Res1.t Res1.t, ⟨0, 130, rfl, h⟩⟩
  · have h := hF hb6
    clear hT hF
    refine HW.skip ?_
    refine nt ?_
    refine HW.seq ?_
    refine HW.region ?_
    refine HList.vals (v := (.pointer p0)) rfl (HVal.move' rfl) ?_
    obtain ⟨a7, e8, h⟩ := h
    refine HList.vals (v := (.pointer (some a7))) rfl (HVal.nilCheck (congrArg Value.pointer e8)) ?_
    refine HList.vals (v := (.pointer (some (Addr.add a7 1)))) rfl (HVal.fieldAddr' Try.runUnderlying74 rfl rfl Try.sizeOf72 rfl) ?_
    obtain ⟨x10, c9, h⟩ := h
    refine HList.vals (v := (Sl.v x10)) rfl (HVal.load1 Try.isAgg72 rfl c9) ?_
    refine HList.vals (v := (.int .i64 p1)) rfl (HVal.move' rfl) ?_
    obtain ⟨a11, e12, b13, b14, h⟩ := h
    refine HList.vals (v := (.pointer (some (Addr.add a11 (p1.toNat * 1))))) rfl (HVal.indexAddr Try.runUnderlying72 Try.sizeOf87 (Sl.v_some rfl e12) rfl b13 b14) ?_
    obtain ⟨x16, c15, h⟩ := h
    refine HList.vals (v := (.pointer x16)) rfl (HVal.load1 Try.isAgg87 rfl c15) ?_
    refine HList.vals (v := (.pointer x16)) rfl (HVal.assign' rfl) ?_
    refine HList.nil ?_
    refine nt ?_
    refine HW.seq ?_
    refine HW.region ?_
    refine HList.vals (v := (.pointer x16)) rfl (HVal.move' rfl) ?_
    obtain ⟨a17, e18, h⟩ := h
    refine HList.vals (v := (.pointer (some a17))) rfl (HVal.nilCheck (congrArg Value.pointer e18)) ?_
    refine HList.vals (v := (.pointer (some a17))) rfl (HVal.fieldAddr0 Try.runUnderlying89 rfl rfl Try.sizeOf32 rfl) ?_
    obtain ⟨x20, x21, c19, h⟩ := h
    refine HList.vals (v := (.agg #[(.int .i64 x20), (.int .i64 x21)])) rfl (HVal.loadN [(.int .i64 x20), (.int .i64 x21)] Try.isAgg32 Try.sizeOf32 rfl c19) ?_
    refine HList.ops' rfl (HOp.alloc Try.zeroValue32) ?_
    rintro _ H22 ⟨rfl, e23⟩
    replace h := h H22 e23
    obtain ⟨z26, h⟩ := h
    refine HList.opsn (HOp.storeN' (l := [(.int .i64 x20), (.int .i64 x21)]) Try.sizeOf32 rfl rfl rfl z26) ?_
    rintro _ H24 e25
    replace h := h H24 e25
    refine HList.nil ?_
    refine nt ?_
    refine HW.seq ?_
    refine HW.cut (fun ρ H_1 => ∃ (y42 : Bool), Env.Is ρ [(0, (.pointer p0)), (5, (.pointer (some ⟨H.size, 0, none⟩))), (9, (.pointer x16)), (56, (.bool y42))] ∧ F30_1 Q p0 ⟨H.size, 0, none⟩ x16 y42 H_1) ?_ ?_
    · refine HW.draw mixed [(0, some []), (1, some []), (2, some []), (3, some []), (4, some []), (5, some []), (6, some []), (7, some []), (8, some []), (9, some []), (10, some []), (11, some []), (12, some []), (13, some []), (14, some []), (15, some []), (16, some []), (17, some []), (18, some []), (19, some []), (20, some []), (21, some []), (22, some []), (23, some []), (24, some []), (25, some []), (26, some []), (27, some []), (28, some [])] rfl (by kernel_rfl) (by kernel_rfl) ?_
      refine HPlan.takev (v := (.pointer (some ⟨H.size, 0, none⟩))) rfl rfl (fun _ => HVal.fieldAddr0 Try.runUnderlying32 rfl rfl Try.sizeOf3 rfl) ?_
      obtain ⟨x31, c30, h⟩ := h
      refine HPlan.takel (v := (.int .i64 x31)) (fun X => cell X ⟨H.size, 0, none⟩ = some (.int .i64 x31)) rfl rfl (fun _ hX => HVal.load1 Try.isAgg3 rfl hX) c30 ?_
      refine HPlan.takev (v := (.pointer (some ⟨H3.size, 0, none⟩))) rfl rfl (fun _ => HVal.fieldAddr0 Try.runUnderlying32 rfl rfl Try.sizeOf3 rfl) ?_
      obtain ⟨x33, c32, h⟩ := h
      refine HPlan.takel (v := (.int .i64 x33)) (fun X => cell X ⟨H3.size, 0, none⟩ = some (.int .i64 x33)) rfl rfl (fun _ hX => HVal.load1 Try.isAgg3 rfl hX) c32 ?_
      refine HPlan.takev (v := (.bool (decide (x31 ≠ x33)))) rfl rfl (fun _ => HVal.neqI rfl rfl) ?_
      refine HPlan.takev (v := (.bool (decide (x31 ≠ x33)))) rfl rfl (fun _ => HVal.move' rfl) ?_
      obtain ⟨hT, hF⟩ := h
      rcases Bool.eq_false_or_eq_true (decide (x31 ≠ x33)) with hb34 | hb35
      · have h := hT hb34
        clear hT hF
        refine HPlan.gtakev (v := (.pointer (some ⟨H.size, 0, none⟩))) rfl rfl rfl rfl rfl (congrArg Value.bool hb34) (fun _ => HVal.fieldAddr0 Try.runUnderlying32 rfl rfl Try.sizeOf3 rfl) ?_
        obtain ⟨x37, c36, h⟩ := h
        refine HPlan.gtakel (v := (.int .i64 x37)) (fun X => cell X ⟨H.size, 0, none⟩ = some (.int .i64 x37)) rfl rfl rfl rfl rfl (congrArg Value.bool hb34) (fun _ hX => HVal.load1 Try.isAgg3 rfl hX) c36 ?_
        refine HPlan.gtakev (v := (.pointer (some ⟨H3.size, 0, none⟩))) rfl rfl rfl rfl rfl (congrArg Value.bool hb34) (fun _ => HVal.fieldAddr0 Try.runUnderlying32 rfl rfl Try.sizeOf3 rfl) ?_
        obtain ⟨x39, c38, h⟩ := h
        refine HPlan.gtakel (v := (.int .i64 x39)) (fun X => cell X ⟨H3.size, 0, none⟩ = some (.int .i64 x39)) rfl rfl rfl rfl rfl (congrArg Value.bool hb34) (fun _ hX => HVal.load1 Try.isAgg3 rfl hX) c38 ?_
        refine HPlan.gtakev (v := (.int .i64 (IntKind.i64.wrap (x39 + 1)))) rfl rfl rfl rfl rfl (congrArg Value.bool hb34) (fun _ => HVal.add rfl rfl) ?_
        refine HPlan.gtakev (v := (.bool (decide (x37 ≠ (IntKind.i64.wrap (x39 + 1)))))) rfl rfl rfl rfl rfl (congrArg Value.bool hb34) (fun _ => HVal.neqI rfl rfl) ?_
        refine HPlan.takev (v := (.bool (decide (x37 ≠ (IntKind.i64.wrap (x39 + 1)))))) rfl rfl (fun _ => HVal.pickT rfl hb34 rfl) ?_
        refine HPlan.takev (v := (.bool (decide (x37 ≠ (IntKind.i64.wrap (x39 + 1)))))) rfl rfl (fun _ => HVal.move' rfl) ?_
        obtain ⟨hT, hF⟩ := h
        rcases Bool.eq_false_or_eq_true (decide (x37 ≠ (IntKind.i64.wrap (x39 + 1)))) with hb40 | hb41
        · have h := hT hb40
          clear hT hF
          refine HPlan.takegskip rfl rfl rfl rfl (congrArg Value.bool hb40) ?_
          refine HPlan.takegskip rfl rfl rfl rfl (congrArg Value.bool hb40) ?_
          refine HPlan.takegskip rfl rfl rfl rfl (congrArg Value.bool hb40) ?_
          refine HPlan.takegskip rfl rfl rfl rfl (congrArg Value.bool hb40) ?_
          refine HPlan.takegskip rfl rfl rfl rfl (congrArg Value.bool hb40) ?_
          refine HPlan.takegskip rfl rfl rfl rfl (congrArg Value.bool hb40) ?_
          refine HPlan.takegskip rfl rfl rfl rfl (congrArg Value.bool hb40) ?_
          refine HPlan.takev (v := (.bool true)) rfl rfl (fun _ => HVal.pickT rfl hb40 rfl) ?_
          refine HPlan.takev (v := (.bool true)) rfl rfl (fun _ => HVal.move' rfl) ?_
          refine HPlan.takegskip rfl rfl rfl rfl rfl ?_
          refine HPlan.takegskip rfl rfl rfl rfl rfl ?_
          refine HPlan.takegskip rfl rfl rfl rfl rfl ?_
          refine HPlan.takegskip rfl rfl rfl rfl rfl ?_
          refine HPlan.takegskip rfl rfl rfl rfl rfl ?_
          refine HPlan.takev (v := (.bool true)) rfl rfl (fun _ => HVal.pickT rfl rfl rfl) ?_
          refine HPlan.done ?_
          refine nt ?_
          exact ⟨true, ⟨rfl, rfl, rfl, rfl, trivial⟩, h⟩
        · have h := hF hb41
          clear hT hF
          refine HPlan.gtakev (v := (.pointer (some ⟨H.size, 0, none⟩))) rfl rfl rfl rfl rfl (congrArg Value.bool hb41) (fun _ => HVal.fieldAddr0 Try.runUnderlying32 rfl rfl Try.sizeOf3 rfl) ?_
          obtain ⟨x44, c43, h⟩ := h
          refine HPlan.gtakel (v := (.int .i64 x44)) (fun X => cell X ⟨H.size, 0, none⟩ = some (.int .i64 x44)) rfl rfl rfl rfl rfl (congrArg Value.bool hb41) (fun _ hX => HVal.load1 Try.isAgg3 rfl hX) c43 ?_
          refine HPlan.gtakev (v := (.pointer p0)) rfl rfl rfl rfl rfl (congrArg Value.bool hb41) (fun _ => HVal.move' rfl) ?_
          obtain ⟨a45, e46, h⟩ := h
          refine HPlan.gtakev (v := (.pointer (some a45))) rfl rfl rfl rfl rfl (congrArg Value.bool hb41) (fun _ => HVal.nilCheck (congrArg Value.pointer e46)) ?_
          refine HPlan.gtakev (v := (.pointer (some a45))) rfl rfl rfl rfl rfl (congrArg Value.bool hb41) (fun _ => HVal.fieldAddr0 Try.runUnderlying74 rfl rfl Try.sizeOf3 rfl) ?_
          obtain ⟨x48, c47, h⟩ := h
          refine HPlan.gtakel (v := (.int .i64 x48)) (fun X => cell X a45 = some (.int .i64 x48)) rfl rfl rfl rfl rfl (congrArg Value.bool hb41) (fun _ hX => HVal.load1 Try.isAgg3 rfl hX) c47 ?_
          refine HPlan.gtakev (v := (.bool (decide (x48 ≤ x44)))) rfl rfl rfl rfl rfl (congrArg Value.bool hb41) (fun _ => HVal.geq rfl rfl) ?_
          refine HPlan.takev (v := (.bool (decide (x48 ≤ x44)))) rfl rfl (fun _ => HVal.pickF rfl hb41 rfl) ?_
          refine HPlan.takev (v := (.bool (decide (x48 ≤ x44)))) rfl rfl (fun _ => HVal.move' rfl) ?_
          obtain ⟨hT, hF⟩ := h
          rcases Bool.eq_false_or_eq_true (decide (x48 ≤ x44)) with hb49 | hb50
          · have h := hT hb49
            clear hT hF
            refine HPlan.takegskip rfl rfl rfl rfl (congrArg Value.bool hb49) ?_
            refine HPlan.takegskip rfl rfl rfl rfl (congrArg Value.bool hb49) ?_
            refine HPlan.takegskip rfl rfl rfl rfl (congrArg Value.bool hb49) ?_
            refine HPlan.takegskip rfl rfl rfl rfl (congrArg Value.bool hb49) ?_
            refine HPlan.takegskip rfl rfl rfl rfl (congrArg Value.bool hb49) ?_
            refine HPlan.takev (v := (.bool true)) rfl rfl (fun _ => HVal.pickT rfl hb49 rfl) ?_
            refine HPlan.done ?_
            refine nt ?_
            exact ⟨true, ⟨rfl, rfl, rfl, rfl, trivial⟩, h⟩
          · have h := hF hb50
            clear hT hF
            refine HPlan.gtakev (v := (.pointer (some (Addr.add ⟨H.size, 0, none⟩ 1)))) rfl rfl rfl rfl rfl (congrArg Value.bool hb50) (fun _ => HVal.fieldAddr' Try.runUnderlying32 rfl rfl Try.sizeOf2 rfl) ?_
            obtain ⟨x52, c51, h⟩ := h
            refine HPlan.gtakel (v := (.int .i64 x52)) (fun X => cell X (Addr.add ⟨H.size, 0, none⟩ 1) = some (.int .i64 x52)) rfl rfl rfl rfl rfl (congrArg Value.bool hb50) (fun _ hX => HVal.load1 Try.isAgg2 rfl hX) c51 ?_
            refine HPlan.gtakev (v := (.pointer (some (Addr.add ⟨H3.size, 0, none⟩ 1)))) rfl rfl rfl rfl rfl (congrArg Value.bool hb50) (fun _ => HVal.fieldAddr' Try.runUnderlying32 rfl rfl Try.sizeOf2 rfl) ?_
            obtain ⟨x54, c53, h⟩ := h
            refine HPlan.gtakel (v := (.int .i64 x54)) (fun X => cell X (Addr.add ⟨H3.size, 0, none⟩ 1) = some (.int .i64 x54)) rfl rfl rfl rfl rfl (congrArg Value.bool hb50) (fun _ hX => HVal.load1 Try.isAgg2 rfl hX) c53 ?_
            refine HPlan.gtakev (v := (.bool (decide (x52 ≤ x54)))) rfl rfl rfl rfl rfl (congrArg Value.bool hb50) (fun _ => HVal.leq rfl rfl) ?_
            refine HPlan.takev (v := (.bool (decide (x52 ≤ x54)))) rfl rfl (fun _ => HVal.pickF rfl hb50 rfl) ?_
            refine HPlan.done ?_
            refine nt ?_
            exact ⟨(decide (x52 ≤ x54)), ⟨rfl, rfl, rfl, rfl, trivial⟩, h⟩
      · have h := hF hb35
        clear hT hF
        refine HPlan.takegskip rfl rfl rfl rfl (congrArg Value.bool hb35) ?_
        refine HPlan.takegskip rfl rfl rfl rfl (congrArg Value.bool hb35) ?_
        refine HPlan.takegskip rfl rfl rfl rfl (congrArg Value.bool hb35) ?_
        refine HPlan.takegskip rfl rfl rfl rfl (congrArg Value.bool hb35) ?_
        refine HPlan.takegskip rfl rfl rfl rfl (congrArg Value.bool hb35) ?_
        refine HPlan.takegskip rfl rfl rfl rfl (congrArg Value.bool hb35) ?_
        refine HPlan.takev (v := (.bool false)) rfl rfl (fun _ => HVal.pickF rfl hb35 rfl) ?_
        refine HPlan.takev (v := (.bool false)) rfl rfl (fun _ => HVal.move' rfl) ?_
        refine HPlan.gtakev (v := (.pointer (some ⟨H.size, 0, none⟩))) rfl rfl rfl rfl rfl rfl (fun _ => HVal.fieldAddr0 Try.runUnderlying32 rfl rfl Try.sizeOf3 rfl) ?_
        obtain ⟨x56, c55, h⟩ := h
        refine HPlan.gtakel (v := (.int .i64 x56)) (fun X => cell X ⟨H.size, 0, none⟩ = some (.int .i64 x56)) rfl rfl rfl rfl rfl rfl (fun _ hX => HVal.load1 Try.isAgg3 rfl hX) c55 ?_
        refine HPlan.gtakev (v := (.pointer p0)) rfl rfl rfl rfl rfl rfl (fun _ => HVal.move' rfl) ?_
        obtain ⟨a57, e58, h⟩ := h
        refine HPlan.gtakev (v := (.pointer (some a57))) rfl rfl rfl rfl rfl rfl (fun _ => HVal.nilCheck (congrArg Value.pointer e58)) ?_
        refine HPlan.gtakev (v := (.pointer (some a57))) rfl rfl rfl rfl rfl rfl (fun _ => HVal.fieldAddr0 Try.runUnderlying74 rfl rfl Try.sizeOf3 rfl) ?_
        obtain ⟨x60, c59, h⟩ := h
        refine HPlan.gtakel (v := (.int .i64 x60)) (fun X => cell X a57 = some (.int .i64 x60)) rfl rfl rfl rfl rfl rfl (fun _ hX => HVal.load1 Try.isAgg3 rfl hX) c59 ?_
        refine HPlan.gtakev (v := (.bool (decide (x60 ≤ x56)))) rfl rfl rfl rfl rfl rfl (fun _ => HVal.geq rfl rfl) ?_
        refine HPlan.takev (v := (.bool (decide (x60 ≤ x56)))) rfl rfl (fun _ => HVal.pickF rfl rfl rfl) ?_
        refine HPlan.takev (v := (.bool (decide (x60 ≤ x56)))) rfl rfl (fun _ => HVal.move' rfl) ?_
        obtain ⟨hT, hF⟩ := h
        rcases Bool.eq_false_or_eq_true (decide (x60 ≤ x56)) with hb61 | hb62
        · have h := hT hb61
          clear hT hF
          refine HPlan.takegskip rfl rfl rfl rfl (congrArg Value.bool hb61) ?_
          refine HPlan.takegskip rfl rfl rfl rfl (congrArg Value.bool hb61) ?_
          refine HPlan.takegskip rfl rfl rfl rfl (congrArg Value.bool hb61) ?_
          refine HPlan.takegskip rfl rfl rfl rfl (congrArg Value.bool hb61) ?_
          refine HPlan.takegskip rfl rfl rfl rfl (congrArg Value.bool hb61) ?_
          refine HPlan.takev (v := (.bool true)) rfl rfl (fun _ => HVal.pickT rfl hb61 rfl) ?_
          refine HPlan.done ?_
          refine nt ?_
          exact ⟨true, ⟨rfl, rfl, rfl, rfl, trivial⟩, h⟩
        · have h := hF hb62
          clear hT hF
          refine HPlan.gtakev (v := (.pointer (some (Addr.add ⟨H.size, 0, none⟩ 1)))) rfl rfl rfl rfl rfl (congrArg Value.bool hb62) (fun _ => HVal.fieldAddr' Try.runUnderlying32 rfl rfl Try.sizeOf2 rfl) ?_
          obtain ⟨x64, c63, h⟩ := h
          refine HPlan.gtakel (v := (.int .i64 x64)) (fun X => cell X (Addr.add ⟨H.size, 0, none⟩ 1) = some (.int .i64 x64)) rfl rfl rfl rfl rfl (congrArg Value.bool hb62) (fun _ hX => HVal.load1 Try.isAgg2 rfl hX) c63 ?_
          refine HPlan.gtakev (v := (.pointer (some (Addr.add ⟨H3.size, 0, none⟩ 1)))) rfl rfl rfl rfl rfl (congrArg Value.bool hb62) (fun _ => HVal.fieldAddr' Try.runUnderlying32 rfl rfl Try.sizeOf2 rfl) ?_
          obtain ⟨x66, c65, h⟩ := h
          refine HPlan.gtakel (v := (.int .i64 x66)) (fun X => cell X (Addr.add ⟨H3.size, 0, none⟩ 1) = some (.int .i64 x66)) rfl rfl rfl rfl rfl (congrArg Value.bool hb62) (fun _ hX => HVal.load1 Try.isAgg2 rfl hX) c65 ?_
          refine HPlan.gtakev (v := (.bool (decide (x64 ≤ x66)))) rfl rfl rfl rfl rfl (congrArg Value.bool hb62) (fun _ => HVal.leq rfl rfl) ?_
          refine HPlan.takev (v := (.bool (decide (x64 ≤ x66)))) rfl rfl (fun _ => HVal.pickF rfl hb62 rfl) ?_
          refine HPlan.done ?_
          refine nt ?_
          exact ⟨(decide (x64 ≤ x66)), ⟨rfl, rfl, rfl, rfl, trivial⟩, h⟩
    · rintro ρ H_1 ⟨y42, hI, h⟩
      obtain ⟨ρ0, rfl⟩ : ∃ ρ0, ρ = (Env.set (Env.set (Env.set (Env.set ρ0 56 (.bool y42)) 9 (.pointer x16)) 5 (.pointer (some ⟨H.size, 0, none⟩))) 0 (.pointer p0)) := ⟨ρ, hI.eq⟩
      clear hI; unfold F30_1 at h
      obtain ⟨hT, hF⟩ := h
      refine HW.cond y42 rfl (fun hb67 => ?_) (fun hb67 => ?_)
      · have h := hT hb67
        clear hT hF
        refine HW.seq ?_
        refine HW.region ?_
        refine HList.vals (v := (.int .i64 0)) rfl (HVal.assign' rfl) ?_
        refine HList.vals (v := (.int .i64 131)) rfl (HVal.assign' rfl) ?_
        refine HList.nil ?_
        refine nt ?_
        refine HW.ret ?_
        refine tr ?_
        exact ⟨_, resOf2 rfl Res1.t Res1.t, ⟨0, 131, rfl, h⟩⟩
      · have h := hF hb67
        clear hT hF
        refine HW.skip ?_
        refine nt ?_
        refine HW.seq ?_
        refine HW.draw mixed [(0, some []), (1, some []), (2, some []), (3, some []), (4, some []), (5, some []), (6, some []), (7, some []), (8, some []), (9, none), (10, none), (11, some [])] rfl (by kernel_rfl) (by kernel_rfl) ?_
        refine HPlan.takev (v := (.pointer p0)) rfl rfl (fun _ => HVal.move' rfl) ?_
        obtain ⟨x69, x70, c68, h⟩ := h
        refine HPlan.takel (v := (.agg #[(.int .i64 x69), (.int .i64 x70)])) (fun X => cells X ⟨H.size, 0, none⟩ [(.int .i64 x69), (.int .i64 x70)] 0) rfl rfl (fun _ hX => HVal.loadN [(.int .i64 x69), (.int .i64 x70)] Try.isAgg32 Try.sizeOf32 rfl hX) c68 ?_
        refine HPlan.takev (v := (.pointer x16)) rfl rfl (fun _ => HVal.move' rfl) ?_
        refine HPlan.takev (v := (.pointer x16)) rfl rfl (fun _ => HVal.move' rfl) ?_
        obtain ⟨a71, e72, h⟩ := h
        refine HPlan.takev (v := (.pointer (some a71))) rfl rfl (fun _ => HVal.nilCheck (congrArg Value.pointer e72)) ?_
        refine HPlan.takev (v := (.pointer (some (Addr.add a71 3)))) rfl rfl (fun _ => HVal.fieldAddr' Try.runUnderlying89 rfl rfl Try.sizeOf3 rfl) ?_
        obtain ⟨x74, c73, h⟩ := h
        refine HPlan.takel (v := (.int .i64 x74)) (fun X => cell X (Addr.add a71 3) = some (.int .i64 x74)) rfl rfl (fun _ hX => HVal.load1 Try.isAgg3 rfl hX) c73 ?_
        refine HPlan.takev (v := (.int .i64 (IntKind.i64.wrap (x74 + 1)))) rfl rfl (fun _ => HVal.add rfl rfl) ?_
        refine HPlan.takev (v := (.agg #[(.int .i64 x69), (.int .i64 x70), (.pointer x16), (.int .i64 (IntKind.i64.wrap (x74 + 1)))])) rfl rfl (fun _ => HVal.build' (cs := [(.int .i64 x69), (.int .i64 x70), (.pointer x16), (.int .i64 (IntKind.i64.wrap (x74 + 1)))]) Try.runUnderlying89 Try.zeroValue89 places89 rfl) ?_
        refine HPlan.ops' rfl rfl (HOp.box (v := (.agg #[(.int .i64 x69), (.int .i64 x70), (.pointer x16), (.int .i64 (IntKind.i64.wrap (x74 + 1)))])) rfl) ?_
        rintro _ H75 ⟨rfl, e76⟩
        replace h := h H75 e76
        obtain ⟨s77, s78, h⟩ := h
        refine ⟨SC_of ⟨fun _ => s77, fun _ => s78, trivial⟩, ?_⟩
        refine HPlan.ops' rfl rfl (HOp.call' 43 [(.pointer p0), (.pointer (some ⟨H_1.size, 0, none⟩))] (cap := []) rfl rfl Try.call43 (walk43 h)) ?_
        rintro _ H79 ⟨r81, rfl, h⟩
        obtain ⟨s82, s83, h⟩ := h
        refine ⟨SC_of ⟨fun _ => s82, fun _ => s83, trivial⟩, ?_⟩
        refine HPlan.takev (v := (.int .i64 r81)) rfl rfl (fun _ => HVal.assign' rfl) ?_
        refine HPlan.done ?_
        refine nt ?_
        refine HW.seq ?_
        refine HW.region ?_
        refine HList.vals (v := (.int .i64 r81)) rfl (HVal.move' rfl) ?_
        refine HList.vals (v := (.int .i64 r81)) rfl (HVal.assign' rfl) ?_
        refine HList.vals (v := (.int .i64 0)) rfl (HVal.assign' rfl) ?_
        refine HList.nil ?_
        refine nt ?_
        refine HW.ret ?_
        exact ⟨_, resOf2 rfl Res1.t Res1.t, ⟨r81, 0, rfl, h⟩⟩

def F31 (p0 : (Option Addr)) (p1 : Int) (H : Hp) (Q : Int → Hp → Prop) : Prop :=
F44 p0 p1 H (fun (r3 : Bool) (H1 : Hp) => 
 ((!r3) = true → (Q 130 H1)) ∧
 ((!r3) = false → (∃ a5 : Addr, p0 = some a5 ∧ (
 ∃ x8 : Sl, cell H1 (Addr.add a5 1) = some (Sl.v x8) ∧ (
 ∃ a9 : Addr, (x8).b = some a9 ∧ (0 : Int) ≤ p1 ∧ p1 < ((x8).n : Int) ∧ (
 (cell H1 (Addr.add a9 (p1.toNat * 1))).isSome = true ∧ frz H1 (Addr.add a9 (p1.toNat * 1)) = false ∧ ∀ H13 : Hp, H13 = setc H1 (Addr.add a9 (p1.toNat * 1)) (.pointer none) → (
 Q 0 H13)))))))
set_option maxRecDepth 100000 in
set_option maxHeartbeats 4000000 in
theorem walk31 {w0 : World} {p0 : (Option Addr)} {p1 : Int} {H : Hp} {Q : Int → Hp → Prop} (h : F31 p0 p1 H Q) :
    Good Try.prog w0 31 #[(.pointer p0), (.int .i64 p1)] H (fun v H => ∃ (r0 : Int) , v = (.int .i64 r0) ∧ Q r0 H) := by
  unfold F31 at h
  refine Good.enter' (fn := Try.f31) Try.func31 rfl rfl rfl ?_
  refine HW.seq ?_
  refine HW.region ?_
  refine HList.vals (v := (.int .i64 0)) rfl (HVal.assign' rfl) ?_
  refine HList.nil ?_
  refine nt ?_
  refine HW.seq ?_
  refine HW.region ?_
  refine HList.vals (v := (.pointer p0)) rfl (HVal.move' rfl) ?_
  refine HList.vals (v := (.int .i64 p1)) rfl (HVal.move' rfl) ?_
  refine HList.ops' rfl (HOp.call' 44 [(.pointer p0), (.int .i64 p1)] (cap := []) rfl rfl Try.call44 (walk44 h)) ?_
  rintro _ H1 ⟨r3, rfl, h⟩
  refine HList.vals (v := (.bool r3)) rfl (HVal.assign' rfl) ?_
  refine HList.nil ?_
  refine nt ?_
  refine HW.seq ?_
  refine HW.seq ?_
  refine HW.region ?_
  refine HList.vals (v := (.bool r3)) rfl (HVal.move' rfl) ?_
  refine HList.vals (v := (.bool (!r3))) rfl (HVal.not rfl) ?_
  refine HList.nil ?_
  refine nt ?_
  obtain ⟨hT, hF⟩ := h
  refine HW.cond (!r3) rfl (fun hb4 => ?_) (fun hb4 => ?_)
  · have h := hT hb4
    clear hT hF
    refine HW.seq ?_
    refine HW.region ?_
    refine HList.vals (v := (.int .i64 130)) rfl (HVal.assign' rfl) ?_
    refine HList.nil ?_
    refine nt ?_
    refine HW.ret ?_
    refine tr ?_
    exact ⟨_, resOf1 rfl Res1.t, ⟨130, rfl, h⟩⟩
  · have h := hF hb4
    clear hT hF
    refine HW.skip ?_
    refine nt ?_
    refine HW.seq ?_
    refine HW.region ?_
    refine HList.vals (v := (.pointer p0)) rfl (HVal.move' rfl) ?_
    obtain ⟨a5, e6, h⟩ := h
    refine HList.vals (v := (.pointer (some a5))) rfl (HVal.nilCheck (congrArg Value.pointer e6)) ?_
    refine HList.vals (v := (.pointer (some (Addr.add a5 1)))) rfl (HVal.fieldAddr' Try.runUnderlying74 rfl rfl Try.sizeOf72 rfl) ?_
    obtain ⟨x8, c7, h⟩ := h
    refine HList.vals (v := (Sl.v x8)) rfl (HVal.load1 Try.isAgg72 rfl c7) ?_
    refine HList.vals (v := (.int .i64 p1)) rfl (HVal.move' rfl) ?_
    obtain ⟨a9, e10, b11, b12, h⟩ := h
    refine HList.vals (v := (.pointer (some (Addr.add a9 (p1.toNat * 1))))) rfl (HVal.indexAddr Try.runUnderlying72 Try.sizeOf87 (Sl.v_some rfl e10) rfl b11 b12) ?_
    obtain ⟨z15, z16, h⟩ := h
    refine HList.opsn (HOp.store1 Try.sizeOf87 rfl rfl rfl z15 z16) ?_
    rintro _ H13 e14
    replace h := h H13 e14
    refine HList.nil ?_
    refine nt ?_
    refine HW.seq ?_
    refine HW.region ?_
    refine HList.vals (v := (.int .i64 0)) rfl (HVal.assign' rfl) ?_
    refine HList.nil ?_
    refine nt ?_
    refine HW.ret ?_
    exact ⟨_, resOf1 rfl Res1.t, ⟨0, rfl, h⟩⟩

def F32_1 (Q : Sl → Int → Hp → Prop) (y25 : Sl) (H_1 : Hp) : Prop :=
Q y25 0 H_1
def F32_L2b (Q : Sl → Int → Hp → Prop) (X2 : Int → (Option Addr) → Hp → Prop) (y38 : Sl) (y36 : Int) (y37 : (Option Addr)) (H_2 : Hp) : Prop :=
((!y37.isNone) = true → (∃ a40 : Addr, y37 = some a40 ∧ (
 ∃ (x43 : Int) (x44 : Int), cells H_2 a40 [(.int .i64 x43), (.int .i64 x44)] 0 ∧ (
 ∃ a45 : Addr, (y38).b = some a45 ∧ (0 : Int) ≤ (IntKind.i64.wrap (y36 - 1)) ∧ (IntKind.i64.wrap (y36 - 1)) < ((y38).n : Int) ∧ (
 mayw H_2 (Addr.add a45 ((IntKind.i64.wrap (y36 - 1)).toNat * 2)) 2 0 ∧ ∀ H49 : Hp, H49 = sets H_2 (Addr.add a45 ((IntKind.i64.wrap (y36 - 1)).toNat * 2)) [(.int .i64 x43), (.int .i64 x44)] 0 → (
 ∃ a52 : Addr, y37 = some a52 ∧ (
 ∃ x55 : (Option Addr), cell H49 (Addr.add a52 2) = some (.pointer x55) ∧ (
 X2 (IntKind.i64.wrap (y36 - 1)) x55 H49)))))))) ∧
 ((!y37.isNone) = false → (F32_1 Q y38 H_2))
def F32_L2 (Q : Sl → Int → Hp → Prop) (y38 : Sl) (y36 : Int) (y37 : (Option Addr)) (H_2 : Hp) : Prop :=
  ∀ X2 : Int → (Option Addr) → Hp → Prop, (∀ (y36 : Int) (y37 : (Option Addr)) (H_2 : Hp), F32_L2b Q X2 y38 y36 y37 H_2 → X2 y36 y37 H_2) → X2 y36 y37 H_2
def F32 (p0 : (Option Addr)) (p1 : Int) (H : Hp) (Q : Sl → Int → Hp → Prop) : Prop :=
F44 p0 p1 H (fun (r3 : Bool) (H1 : Hp) => 
 ((!r3) = true → (Q Sl.nil 130 H1)) ∧
 ((!r3) = false → (∃ a5 : Addr, p0 = some a5 ∧ (
 ∃ x8 : Sl, cell H1 (Addr.add a5 1) = some (Sl.v x8) ∧ (
 ∃ a9 : Addr, (x8).b = some a9 ∧ (0 : Int) ≤ p1 ∧ p1 < ((x8).n : Int) ∧ (
 ∃ x14 : (Option Addr), cell H1 (Addr.add a9 (p1.toNat * 1)) = some (.pointer x14) ∧ (
 ∃ a15 : Addr, x14 = some a15 ∧ (
 ∃ x18 : Int, cell H1 (Addr.add a15 3) = some (.int .i64 x18) ∧ (
 (0 : Int) ≤ x18 ∧ x18 ≤ x18 ∧ (16 : Nat) * x18 ≤ 140737488355328 ∧ x18 ≤ 9223372036854775807 ∧ ∀ H19 : Hp, H19 = Array.push H1 (.cells (made #[(.int .i64 0), (.int .i64 0)] x18.toNat) 32) → (
 ∃ a26 : Addr, p0 = some a26 ∧ (
 ∃ x29 : Sl, cell H19 (Addr.add a26 1) = some (Sl.v x29) ∧ (
 ∃ a30 : Addr, (x29).b = some a30 ∧ (0 : Int) ≤ p1 ∧ p1 < ((x29).n : Int) ∧ (
 ∃ x35 : (Option Addr), cell H19 (Addr.add a30 (p1.toNat * 1)) = some (.pointer x35) ∧ (
 F32_L2 Q (Sl.mk (some ⟨H1.size, 0, none⟩) x18.toNat x18.toNat) x18 x35 H19))))))))))))))
set_option maxRecDepth 100000 in
set_option maxHeartbeats 4000000 in
theorem walk32 {w0 : World} {p0 : (Option Addr)} {p1 : Int} {H : Hp} {Q : Sl → Int → Hp → Prop} (h : F32 p0 p1 H Q) :
    Good Try.prog w0 32 #[(.pointer p0), (.int .i64 p1)] H (fun v H => ∃ (r0 : Sl) (r1 : Int) , v = (.tuple #[(Sl.v r0), (.int .i64 r1)]) ∧ Q r0 r1 H) := by
  unfold F32 at h
  refine Good.enter' (fn := Try.f32) Try.func32 rfl rfl rfl ?_
  refine HW.seq ?_
  refine HW.region ?_
  refine HList.vals (v := (Sl.v Sl.nil)) rfl (HVal.assign' rfl) ?_
  refine HList.vals (v := (.int .i64 0)) rfl (HVal.assign' rfl) ?_
  refine HList.nil ?_
  refine nt ?_
  refine HW.seq ?_
  refine HW.region ?_
  refine HList.vals (v := (.pointer p0)) rfl (HVal.move' rfl) ?_
  refine HList.vals (v := (.int .i64 p1)) rfl (HVal.move' rfl) ?_
  refine HList.ops' rfl (HOp.call' 44 [(.pointer p0), (.int .i64 p1)] (cap := []) rfl rfl Try.call44 (walk44 h)) ?_
  rintro _ H1 ⟨r3, rfl, h⟩
  refine HList.vals (v := (.bool r3)) rfl (HVal.assign' rfl) ?_
  refine HList.nil ?_
  refine nt ?_
  refine HW.seq ?_
  refine HW.seq ?_
  refine HW.region ?_
  refine HList.vals (v := (.bool r3)) rfl (HVal.move' rfl) ?_
  refine HList.vals (v := (.bool (!r3))) rfl (HVal.not rfl) ?_
  refine HList.nil ?_
  refine nt ?_
  obtain ⟨hT, hF⟩ := h
  refine HW.cond (!r3) rfl (fun hb4 => ?_) (fun hb4 => ?_)
  · have h := hT hb4
    clear hT hF
    refine HW.seq ?_
    refine HW.region ?_
    refine HList.vals (v := (Sl.v Sl.nil)) rfl (HVal.assign' rfl) ?_
    refine HList.vals (v := (.int .i64 130)) rfl (HVal.assign' rfl) ?_
    refine HList.nil ?_
    refine nt ?_
    refine HW.ret ?_
    refine tr ?_
    exact ⟨_, resOf2 rfl Res1.t Res1.t, ⟨Sl.nil, 130, rfl, h⟩⟩
  · have h := hF hb4
    clear hT hF
    refine HW.skip ?_
    refine nt ?_
    refine HW.seq ?_
    refine HW.region ?_
    refine HList.vals (v := (.pointer p0)) rfl (HVal.move' rfl) ?_
    obtain ⟨a5, e6, h⟩ := h
    refine HList.vals (v := (.pointer (some a5))) rfl (HVal.nilCheck (congrArg Value.pointer e6)) ?_
    refine HList.vals (v := (.pointer (some (Addr.add a5 1)))) rfl (HVal.fieldAddr' Try.runUnderlying74 rfl rfl Try.sizeOf72 rfl) ?_
    obtain ⟨x8, c7, h⟩ := h
    refine HList.vals (v := (Sl.v x8)) rfl (HVal.load1 Try.isAgg72 rfl c7) ?_
    refine HList.vals (v := (.int .i64 p1)) rfl (HVal.move' rfl) ?_
    obtain ⟨a9, e10, b11, b12, h⟩ := h
    refine HList.vals (v := (.pointer (some (Addr.add a9 (p1.toNat * 1))))) rfl (HVal.indexAddr Try.runUnderlying72 Try.sizeOf87 (Sl.v_some rfl e10) rfl b11 b12) ?_
    obtain ⟨x14, c13, h⟩ := h
    refine HList.vals (v := (.pointer x14)) rfl (HVal.load1 Try.isAgg87 rfl c13) ?_
    obtain ⟨a15, e16, h⟩ := h
    refine HList.vals (v := (.pointer (some a15))) rfl (HVal.nilCheck (congrArg Value.pointer e16)) ?_
    refine HList.vals (v := (.pointer (some (Addr.add a15 3)))) rfl (HVal.fieldAddr' Try.runUnderlying89 rfl rfl Try.sizeOf3 rfl) ?_
    obtain ⟨x18, c17, h⟩ := h
    refine HList.vals (v := (.int .i64 x18)) rfl (HVal.load1 Try.isAgg3 rfl c17) ?_
    refine HList.vals (v := (.int .i64 x18)) rfl (HVal.assign' rfl) ?_
    refine HList.nil ?_
    refine nt ?_
    refine HW.seq ?_
    refine HW.region ?_
    refine HList.vals (v := (.int .i64 x18)) rfl (HVal.move' rfl) ?_
    obtain ⟨z21, z22, z23, z24, h⟩ := h
    refine HList.ops' rfl (HOp.makeSlice' (b := 16) Try.runUnderlying41 Try.typeInfo32 rfl Try.zeroValue32 Try.sizeOf32 rfl rfl z21 z22 z23 z24) ?_
    rintro _ H19 ⟨rfl, e20⟩
    replace h := h H19 e20
    refine HList.vals (v := (Sl.v (Sl.mk (some ⟨H1.size, 0, none⟩) x18.toNat x18.toNat))) rfl (HVal.assign' rfl) ?_
    refine HList.nil ?_
    refine nt ?_
    refine HW.cut (fun ρ H_1 => Env.Is ρ [(8, (Sl.v (Sl.mk (some ⟨H1.size, 0, none⟩) x18.toNat x18.toNat)))] ∧ F32_1 Q (Sl.mk (some ⟨H1.size, 0, none⟩) x18.toNat x18.toNat) H_1) ?_ ?_
    · refine HW.seq ?_
      refine HW.region ?_
      refine HList.vals (v := (.pointer p0)) rfl (HVal.move' rfl) ?_
      obtain ⟨a26, e27, h⟩ := h
      refine HList.vals (v := (.pointer (some a26))) rfl (HVal.nilCheck (congrArg Value.pointer e27)) ?_
      refine HList.vals (v := (.pointer (some (Addr.add a26 1)))) rfl (HVal.fieldAddr' Try.runUnderlying74 rfl rfl Try.sizeOf72 rfl) ?_
      obtain ⟨x29, c28, h⟩ := h
      refine HList.vals (v := (Sl.v x29)) rfl (HVal.load1 Try.isAgg72 rfl c28) ?_
      refine HList.vals (v := (.int .i64 p1)) rfl (HVal.move' rfl) ?_
      obtain ⟨a30, e31, b32, b33, h⟩ := h
      refine HList.vals (v := (.pointer (some (Addr.add a30 (p1.toNat * 1))))) rfl (HVal.indexAddr Try.runUnderlying72 Try.sizeOf87 (Sl.v_some rfl e31) rfl b32 b33) ?_
      obtain ⟨x35, c34, h⟩ := h
      refine HList.vals (v := (.pointer x35)) rfl (HVal.load1 Try.isAgg87 rfl c34) ?_
      refine HList.vals (v := (.pointer x35)) rfl (HVal.assign' rfl) ?_
      refine HList.nil ?_
      refine nt ?_
      refine HW.block ?_
      refine HW.loop' (fun L2 hL2 => ?_)
      obtain ⟨X2, hX2⟩ : ∃ X2 : Int → (Option Addr) → Hp → Prop, ∀ (y36 : Int) (y37 : (Option Addr)) (H_2 : Hp), X2 y36 y37 H_2 ↔ ∀ ρ, Env.Is ρ [(8, (Sl.v (Sl.mk (some ⟨H1.size, 0, none⟩) x18.toNat x18.toNat))), (7, (.int .i64 y36)), (9, (.pointer y37))] → L2 ρ H_2 := ⟨_, fun _ _ _ => Iff.rfl⟩
      refine (hX2 _ _ _).1 (h X2 ?_) _ ?_
      rotate_left
      · exact ⟨rfl, rfl, rfl, trivial⟩
      clear h
      intro y36 y37 H_2 h
      refine (hX2 _ _ _).2 fun ρ hI => ?_
      obtain ⟨ρ0, rfl⟩ : ∃ ρ0, ρ = (Env.set (Env.set (Env.set ρ0 9 (.pointer y37)) 7 (.int .i64 y36)) 8 (Sl.v (Sl.mk (some ⟨H1.size, 0, none⟩) x18.toNat x18.toNat))) := ⟨ρ, hI.eq⟩
      clear hI; unfold F32_L2b at h; refine hL2 _ _ ?_
      refine HW.seq ?_
      refine HW.seq ?_
      refine HW.region ?_
      refine HList.vals (v := (.pointer y37)) rfl (HVal.move' rfl) ?_
      refine HList.vals (v := (.bool (!y37.isNone))) rfl (HVal.neqPN Try.underlying87 rfl rfl) ?_
      refine HList.nil ?_
      refine nt ?_
      obtain ⟨hT, hF⟩ := h
      refine HW.cond (!y37.isNone) rfl (fun hb39 => ?_) (fun hb39 => ?_)
      · have h := hT hb39
        clear hT hF
        refine HW.skip ?_
        refine nt ?_
        refine HW.seq ?_
        refine HW.block ?_
        refine HW.seq ?_
        refine HW.region ?_
        refine HList.vals (v := (.int .i64 y36)) rfl (HVal.move' rfl) ?_
        refine HList.vals (v := (.int .i64 (IntKind.i64.wrap (y36 - 1)))) rfl (HVal.sub rfl rfl) ?_
        refine HList.vals (v := (.int .i64 (IntKind.i64.wrap (y36 - 1)))) rfl (HVal.assign' rfl) ?_
        refine HList.nil ?_
        refine nt ?_
        refine HW.region ?_
        refine HList.vals (v := (Sl.v (Sl.mk (some ⟨H1.size, 0, none⟩) x18.toNat x18.toNat))) rfl (HVal.move' rfl) ?_
        refine HList.vals (v := (.int .i64 (IntKind.i64.wrap (y36 - 1)))) rfl (HVal.move' rfl) ?_
        refine HList.vals (v := (.pointer y37)) rfl (HVal.move' rfl) ?_
        obtain ⟨a40, e41, h⟩ := h
        refine HList.vals (v := (.pointer (some a40))) rfl (HVal.nilCheck (congrArg Value.pointer e41)) ?_
        refine HList.vals (v := (.pointer (some a40))) rfl (HVal.fieldAddr0 Try.runUnderlying89 rfl rfl Try.sizeOf32 rfl) ?_
        obtain ⟨x43, x44, c42, h⟩ := h
        refine HList.vals (v := (.agg #[(.int .i64 x43), (.int .i64 x44)])) rfl (HVal.loadN [(.int .i64 x43), (.int .i64 x44)] Try.isAgg32 Try.sizeOf32 rfl c42) ?_
        obtain ⟨a45, e46, b47, b48, h⟩ := h
        refine HList.vals (v := (.pointer (some (Addr.add a45 ((IntKind.i64.wrap (y36 - 1)).toNat * 2))))) rfl (HVal.indexAddr Try.runUnderlying41 Try.sizeOf32 (Sl.v_some rfl e46) rfl b47 b48) ?_
        obtain ⟨z51, h⟩ := h
        refine HList.opsn (HOp.storeN' (l := [(.int .i64 x43), (.int .i64 x44)]) Try.sizeOf32 rfl rfl rfl z51) ?_
        rintro _ H49 e50
        replace h := h H49 e50
        refine HList.nil ?_
        refine nb ?_
        refine nt ?_
        refine HW.region ?_
        refine HList.vals (v := (.pointer y37)) rfl (HVal.move' rfl) ?_
        obtain ⟨a52, e53, h⟩ := h
        refine HList.vals (v := (.pointer (some a52))) rfl (HVal.nilCheck (congrArg Value.pointer e53)) ?_
        refine HList.vals (v := (.pointer (some (Addr.add a52 2)))) rfl (HVal.fieldAddr' Try.runUnderlying89 rfl rfl Try.sizeOf87 rfl) ?_
        obtain ⟨x55, c54, h⟩ := h
        refine HList.vals (v := (.pointer x55)) rfl (HVal.load1 Try.isAgg87 rfl c54) ?_
        refine HList.vals (v := (.pointer x55)) rfl (HVal.assign' rfl) ?_
        refine HList.nil ?_
        refine nt ?_
        exact (hX2 _ _ _).1 h _ ⟨rfl, rfl, rfl, trivial⟩
      · have h := hF hb39
        clear hT hF
        refine HW.exit ?_
        refine te ?_
        refine te ?_
        refine be ?_
        refine nt ?_
        exact ⟨⟨rfl, trivial⟩, h⟩
    · rintro ρ H_1 ⟨hI, h⟩
      obtain ⟨ρ0, rfl⟩ : ∃ ρ0, ρ = (Env.set ρ0 8 (Sl.v (Sl.mk (some ⟨H1.size, 0, none⟩) x18.toNat x18.toNat))) := ⟨ρ, hI.eq⟩
      clear hI; unfold F32_1 at h
      refine HW.seq ?_
      refine HW.region ?_
      refine HList.vals (v := (Sl.v (Sl.mk (some ⟨H1.size, 0, none⟩) x18.toNat x18.toNat))) rfl (HVal.move' rfl) ?_
      refine HList.vals (v := (Sl.v (Sl.mk (some ⟨H1.size, 0, none⟩) x18.toNat x18.toNat))) rfl (HVal.assign' rfl) ?_
      refine HList.vals (v := (.int .i64 0)) rfl (HVal.assign' rfl) ?_
      refine HList.nil ?_
      refine nt ?_
      refine HW.ret ?_
      exact ⟨_, resOf2 rfl Res1.t Res1.t, ⟨(Sl.mk (some ⟨H1.size, 0, none⟩) x18.toNat x18.toNat), 0, rfl, h⟩⟩

def F33_1 (Q : Sl → Hp → Prop) (y28 : Sl) (H_1 : Hp) : Prop :=
Q y28 H_1
def F33_3 (Q : Sl → Hp → Prop) (X2 : Sl → Int → Hp → Prop) (y9 : (Option Addr)) (y10 : Int) (y27 : Sl) (H_3 : Hp) : Prop :=
X2 y27 (IntKind.i64.wrap (y10 + 1)) H_3
def F33_L2b (Q : Sl → Hp → Prop) (X2 : Sl → Int → Hp → Prop) (y3 : (Option Addr)) (y1 : Sl) (y2 : Int) (H_2 : Hp) : Prop :=
∃ a4 : Addr, y3 = some a4 ∧ (
 ∃ x7 : Sl, cell H_2 (Addr.add a4 1) = some (Sl.v x7) ∧ (
 ((decide (y2 < ((x7).n : Int))) = true → (∃ a11 : Addr, y3 = some a11 ∧ (
 ∃ x14 : Sl, cell H_2 (Addr.add a11 1) = some (Sl.v x14) ∧ (
 ∃ a15 : Addr, (x14).b = some a15 ∧ (0 : Int) ≤ y2 ∧ y2 < ((x14).n : Int) ∧ (
 ∃ x20 : (Option Addr), cell H_2 (Addr.add a15 (y2.toNat * 1)) = some (.pointer x20) ∧ (
 ((!x20.isNone) = true → (∀ H22 : Hp, H22 = Array.push H_2 (.cells #[(.int .i64 y2)] 3) → (
 AppendF H22 3 1 8 #[(.int .i64 0)] y1 ((Sl.mk (some ⟨H_2.size, 0, none⟩) 1 1)).b ((Sl.mk (some ⟨H_2.size, 0, none⟩) 1 1)).n (fun (r26 : Sl) (H24 : Hp) => 
 F33_3 Q X2 y3 y2 r26 H24)))) ∧
 ((!x20.isNone) = false → (F33_3 Q X2 y3 y2 y1 H_2)))))))) ∧
 ((decide (y2 < ((x7).n : Int))) = false → (F33_1 Q y1 H_2))))
def F33_L2 (Q : Sl → Hp → Prop) (y3 : (Option Addr)) (y1 : Sl) (y2 : Int) (H_2 : Hp) : Prop :=
  ∀ X2 : Sl → Int → Hp → Prop, (∀ (y1 : Sl) (y2 : Int) (H_2 : Hp), F33_L2b Q X2 y3 y1 y2 H_2 → X2 y1 y2 H_2) → X2 y1 y2 H_2
def F33 (p0 : (Option Addr)) (H : Hp) (Q : Sl → Hp → Prop) : Prop :=
F33_L2 Q p0 Sl.nil 0 H
set_option maxRecDepth 100000 in
set_option maxHeartbeats 4000000 in
theorem walk33 {w0 : World} {p0 : (Option Addr)} {H : Hp} {Q : Sl → Hp → Prop} (h : F33 p0 H Q) :
    Good Try.prog w0 33 #[(.pointer p0)] H (fun v H => ∃ (r0 : Sl) , v = (Sl.v r0) ∧ Q r0 H) := by
  unfold F33 at h
  refine Good.enter' (fn := Try.f33) Try.func33 rfl rfl rfl ?_
  refine HW.seq ?_
  refine HW.region ?_
  refine HList.vals (v := (Sl.v Sl.nil)) rfl (HVal.assign' rfl) ?_
  refine HList.nil ?_
  refine nt ?_
  refine HW.seq ?_
  refine HW.region ?_
  refine HList.vals (v := (Sl.v Sl.nil)) rfl (HVal.assign' rfl) ?_
  refine HList.nil ?_
  refine nt ?_
  refine HW.cut (fun ρ H_1 => ∃ (y28 : Sl), Env.Is ρ [(3, (Sl.v y28))] ∧ F33_1 Q y28 H_1) ?_ ?_
  · refine HW.seq ?_
    refine HW.region ?_
    refine HList.vals (v := (.int .i64 0)) rfl (HVal.assign' rfl) ?_
    refine HList.nil ?_
    refine nt ?_
    refine HW.block ?_
    refine HW.loop' (fun L2 hL2 => ?_)
    obtain ⟨X2, hX2⟩ : ∃ X2 : Sl → Int → Hp → Prop, ∀ (y1 : Sl) (y2 : Int) (H_2 : Hp), X2 y1 y2 H_2 ↔ ∀ ρ, Env.Is ρ [(0, (.pointer p0)), (3, (Sl.v y1)), (4, (.int .i64 y2))] → L2 ρ H_2 := ⟨_, fun _ _ _ => Iff.rfl⟩
    refine (hX2 _ _ _).1 (h X2 ?_) _ ?_
    rotate_left
    · exact ⟨rfl, rfl, rfl, trivial⟩
    clear h
    intro y1 y2 H_2 h
    refine (hX2 _ _ _).2 fun ρ hI => ?_
    obtain ⟨ρ0, rfl⟩ : ∃ ρ0, ρ = (Env.set (Env.set (Env.set ρ0 4 (.int .i64 y2)) 3 (Sl.v y1)) 0 (.pointer p0)) := ⟨ρ, hI.eq⟩
    clear hI; unfold F33_L2b at h; refine hL2 _ _ ?_
    refine HW.seq ?_
    refine HW.seq ?_
    refine HW.region ?_
    refine HList.vals (v := (.int .i64 y2)) rfl (HVal.move' rfl) ?_
    refine HList.vals (v := (.pointer p0)) rfl (HVal.move' rfl) ?_
    obtain ⟨a4, e5, h⟩ := h
    refine HList.vals (v := (.pointer (some a4))) rfl (HVal.nilCheck (congrArg Value.pointer e5)) ?_
    refine HList.vals (v := (.pointer (some (Addr.add a4 1)))) rfl (HVal.fieldAddr' Try.runUnderlying74 rfl rfl Try.sizeOf72 rfl) ?_
    obtain ⟨x7, c6, h⟩ := h
    refine HList.vals (v := (Sl.v x7)) rfl (HVal.load1 Try.isAgg72 rfl c6) ?_
    refine HList.vals (v := (.int .i64 ((x7).n : Int))) rfl (HVal.len Try.runUnderlying72 rfl) ?_
    refine HList.vals (v := (.bool (decide (y2 < ((x7).n : Int))))) rfl (HVal.lss rfl rfl) ?_
    refine HList.nil ?_
    refine nt ?_
    obtain ⟨hT, hF⟩ := h
    refine HW.cond (decide (y2 < ((x7).n : Int))) rfl (fun hb8 => ?_) (fun hb8 => ?_)
    · have h := hT hb8
      clear hT hF
      refine HW.skip ?_
      refine nt ?_
      refine HW.cut (fun ρ H_3 => ∃ (y27 : Sl), Env.Is ρ [(0, (.pointer p0)), (4, (.int .i64 y2)), (3, (Sl.v y27))] ∧ F33_3 Q X2 p0 y2 y27 H_3) ?_ ?_
      · refine HW.block ?_
        refine HW.seq ?_
        refine HW.region ?_
        refine HList.vals (v := (.pointer p0)) rfl (HVal.move' rfl) ?_
        obtain ⟨a11, e12, h⟩ := h
        refine HList.vals (v := (.pointer (some a11))) rfl (HVal.nilCheck (congrArg Value.pointer e12)) ?_
        refine HList.vals (v := (.pointer (some (Addr.add a11 1)))) rfl (HVal.fieldAddr' Try.runUnderlying74 rfl rfl Try.sizeOf72 rfl) ?_
        obtain ⟨x14, c13, h⟩ := h
        refine HList.vals (v := (Sl.v x14)) rfl (HVal.load1 Try.isAgg72 rfl c13) ?_
        refine HList.vals (v := (.int .i64 y2)) rfl (HVal.move' rfl) ?_
        obtain ⟨a15, e16, b17, b18, h⟩ := h
        refine HList.vals (v := (.pointer (some (Addr.add a15 (y2.toNat * 1))))) rfl (HVal.indexAddr Try.runUnderlying72 Try.sizeOf87 (Sl.v_some rfl e16) rfl b17 b18) ?_
        obtain ⟨x20, c19, h⟩ := h
        refine HList.vals (v := (.pointer x20)) rfl (HVal.load1 Try.isAgg87 rfl c19) ?_
        refine HList.vals (v := (.bool (!x20.isNone))) rfl (HVal.neqPN Try.underlying87 rfl rfl) ?_
        refine HList.nil ?_
        refine nt ?_
        obtain ⟨hT, hF⟩ := h
        refine HW.cond (!x20.isNone) rfl (fun hb21 => ?_) (fun hb21 => ?_)
        · have h := hT hb21
          clear hT hF
          refine HW.region ?_
          refine HList.vals (v := (Sl.v y1)) rfl (HVal.move' rfl) ?_
          refine HList.vals (v := (.int .i64 y2)) rfl (HVal.move' rfl) ?_
          refine HList.ops' rfl (HOp.buildSlice' (zs := [(.int .i64 0)]) (cs := [(.int .i64 y2)]) Try.runUnderlying50 Try.sizeOf3 Try.zeroValue3 (by decide) (by kernel_rfl) rfl (by decide)) ?_
          rintro _ H22 ⟨rfl, e23⟩
          replace h := h H22 e23
          refine HList.ops' rfl (HOp.append (k := 1) (b := 8) Try.runUnderlying50 Try.runUnderlying50 Try.typeInfo3 rfl rfl Try.zeroValue3 rfl rfl h) ?_
          rintro _ H24 ⟨r26, rfl, h⟩
          refine HList.vals (v := (Sl.v r26)) rfl (HVal.assign' rfl) ?_
          refine HList.nil ?_
          refine nb ?_
          refine nt ?_
          exact ⟨r26, ⟨rfl, rfl, rfl, trivial⟩, h⟩
        · have h := hF hb21
          clear hT hF
          refine HW.skip ?_
          refine nb ?_
          refine nt ?_
          exact ⟨y1, ⟨rfl, rfl, rfl, trivial⟩, h⟩
      · rintro ρ H_3 ⟨y27, hI, h⟩
        obtain ⟨ρ0, rfl⟩ : ∃ ρ0, ρ = (Env.set (Env.set (Env.set ρ0 3 (Sl.v y27)) 4 (.int .i64 y2)) 0 (.pointer p0)) := ⟨ρ, hI.eq⟩
        clear hI; unfold F33_3 at h
        refine HW.region ?_
        refine HList.vals (v := (.int .i64 y2)) rfl (HVal.move' rfl) ?_
        refine HList.vals (v := (.int .i64 (IntKind.i64.wrap (y2 + 1)))) rfl (HVal.add rfl rfl) ?_
        refine HList.vals (v := (.int .i64 (IntKind.i64.wrap (y2 + 1)))) rfl (HVal.assign' rfl) ?_
        refine HList.nil ?_
        refine nt ?_
        exact (hX2 _ _ _).1 h _ ⟨rfl, rfl, rfl, trivial⟩
    · have h := hF hb8
      clear hT hF
      refine HW.exit ?_
      refine te ?_
      refine te ?_
      refine be ?_
      refine nt ?_
      exact ⟨y1, ⟨rfl, trivial⟩, h⟩
  · rintro ρ H_1 ⟨y28, hI, h⟩
    obtain ⟨ρ0, rfl⟩ : ∃ ρ0, ρ = (Env.set ρ0 3 (Sl.v y28)) := ⟨ρ, hI.eq⟩
    clear hI; unfold F33_1 at h
    refine HW.seq ?_
    refine HW.region ?_
    refine HList.vals (v := (Sl.v y28)) rfl (HVal.move' rfl) ?_
    refine HList.vals (v := (Sl.v y28)) rfl (HVal.assign' rfl) ?_
    refine HList.nil ?_
    refine nt ?_
    refine HW.ret ?_
    exact ⟨_, resOf1 rfl Res1.t, ⟨y28, rfl, h⟩⟩

def F34_1 (Q : Int → Hp → Prop) (y5 : (Option Nat)) (H_1 : Hp) : Prop :=
∃ (L63 : ML (Int × Int) Bool) (c64 : Nat), mapAt mk32 mv4 H_1 y5 L63 c64 ∧ (
 Q ((L63).length : Int) H_1)
def F34_3 (Q : Int → Hp → Prop) (X2 : Int → Hp → Prop) (y15 : (Option Addr)) (y16 : (Option Nat)) (y17 : (Option Nat)) (y18 : Int) (H_3 : Hp) : Prop :=
X2 (IntKind.i64.wrap (y18 + 1)) H_3
def F34_L4b (Q : Int → Hp → Prop) (X2 : Int → Hp → Prop) (X4 : (Option Addr) → Hp → Prop) (y30 : (Option Addr)) (y31 : (Option Nat)) (y32 : (Option Nat)) (y33 : Int) (y29 : (Option Addr)) (H_4 : Hp) : Prop :=
((!y29.isNone) = true → (∃ (L36 : ML (Option Addr) Bool) (c37 : Nat), MapK mk87 mv4 Plain H_4 y32 L36 c37 y29 ∧ (
 ((!((mget L36 y29).getD false)) = true → (∃ (r42 : Nat) (L43 : ML (Option Addr) Bool) (c44 : Nat), y32 = some r42 ∧ MapK mk87 mv4 Plain H_4 (some r42) L43 c44 y29 ∧ ∀ H40 : Hp, H40 = seto H_4 r42 (mapo mk87 mv4 (mput L43 c44 y29 true).1 (mput L43 c44 y29 true).2) → (
 ∃ a47 : Addr, y29 = some a47 ∧ (
 ∃ (x50 : Int) (x51 : Int), cells H40 a47 [(.int .i64 x50), (.int .i64 x51)] 0 ∧ (
 ∃ (r54 : Nat) (L55 : ML (Int × Int) Bool) (c56 : Nat), y31 = some r54 ∧ MapK mk32 mv4 Always H40 (some r54) L55 c56 (x50, x51) ∧ ∀ H52 : Hp, H52 = seto H40 r54 (mapo mk32 mv4 (mput L55 c56 (x50, x51) true).1 (mput L55 c56 (x50, x51) true).2) → (
 ∃ a59 : Addr, y29 = some a59 ∧ (
 ∃ x62 : (Option Addr), cell H52 (Addr.add a59 2) = some (.pointer x62) ∧ (
 X4 x62 H52)))))))) ∧
 ((!((mget L36 y29).getD false)) = false → (F34_3 Q X2 y30 y31 y32 y33 H_4))))) ∧
 ((!y29.isNone) = false → (F34_3 Q X2 y30 y31 y32 y33 H_4))
def F34_L4 (Q : Int → Hp → Prop) (X2 : Int → Hp → Prop) (y30 : (Option Addr)) (y31 : (Option Nat)) (y32 : (Option Nat)) (y33 : Int) (y29 : (Option Addr)) (H_4 : Hp) : Prop :=
  ∀ X4 : (Option Addr) → Hp → Prop, (∀ (y29 : (Option Addr)) (H_4 : Hp), F34_L4b Q X2 X4 y30 y31 y32 y33 y29 H_4 → X4 y29 H_4) → X4 y29 H_4
def F34_L2b (Q : Int → Hp → Prop) (X2 : Int → Hp → Prop) (y7 : (Option Addr)) (y8 : (Option Nat)) (y9 : (Option Nat)) (y6 : Int) (H_2 : Hp) : Prop :=
∃ a10 : Addr, y7 = some a10 ∧ (
 ∃ x13 : Sl, cell H_2 (Addr.add a10 1) = some (Sl.v x13) ∧ (
 ((decide (y6 < ((x13).n : Int))) = true → (∃ a19 : Addr, y7 = some a19 ∧ (
 ∃ x22 : Sl, cell H_2 (Addr.add a19 1) = some (Sl.v x22) ∧ (
 ∃ a23 : Addr, (x22).b = some a23 ∧ (0 : Int) ≤ y6 ∧ y6 < ((x22).n : Int) ∧ (
 ∃ x28 : (Option Addr), cell H_2 (Addr.add a23 (y6.toNat * 1)) = some (.pointer x28) ∧ (
 F34_L4 Q X2 y7 y8 y9 y6 x28 H_2)))))) ∧
 ((decide (y6 < ((x13).n : Int))) = false → (F34_1 Q y8 H_2))))
def F34_L2 (Q : Int → Hp → Prop) (y7 : (Option Addr)) (y8 : (Option Nat)) (y9 : (Option Nat)) (y6 : Int) (H_2 : Hp) : Prop :=
  ∀ X2 : Int → Hp → Prop, (∀ (y6 : Int) (H_2 : Hp), F34_L2b Q X2 y7 y8 y9 y6 H_2 → X2 y6 H_2) → X2 y6 H_2
def F34 (p0 : (Option Addr)) (H : Hp) (Q : Int → Hp → Prop) : Prop :=
∀ H1 : Hp, H1 = Array.push H (.map #[] 0) → (
 ∀ H3 : Hp, H3 = Array.push H1 (.map #[] 0) → (
 F34_L2 Q p0 (some (Array.size H)) (some (Array.size H1)) 0 H3))
set_option maxRecDepth 100000 in
set_option maxHeartbeats 4000000 in
theorem walk34 {w0 : World} {p0 : (Option Addr)} {H : Hp} {Q : Int → Hp → Prop} (h : F34 p0 H Q) :
    Good Try.prog w0 34 #[(.pointer p0)] H (fun v H => ∃ (r0 : Int) , v = (.int .i64 r0) ∧ Q r0 H) := by
  unfold F34 at h
  refine Good.enter' (fn := Try.f34) Try.func34 rfl rfl rfl ?_
  refine HW.seq ?_
  refine HW.region ?_
  refine HList.vals (v := (.int .i64 0)) rfl (HVal.assign' rfl) ?_
  refine HList.nil ?_
  refine nt ?_
  refine HW.seq ?_
  refine HW.region ?_
  refine HList.ops' rfl (HOp.makeMap) ?_
  rintro _ H1 ⟨rfl, e2⟩
  replace h := h H1 e2
  refine HList.vals (v := (.map (some (Array.size H)))) rfl (HVal.assign' rfl) ?_
  refine HList.nil ?_
  refine nt ?_
  refine HW.seq ?_
  refine HW.region ?_
  refine HList.ops' rfl (HOp.makeMap) ?_
  rintro _ H3 ⟨rfl, e4⟩
  replace h := h H3 e4
  refine HList.vals (v := (.map (some (Array.size H1)))) rfl (HVal.assign' rfl) ?_
  refine HList.nil ?_
  refine nt ?_
  refine HW.cut (fun ρ H_1 => Env.Is ρ [(3, (.map (some (Array.size H))))] ∧ F34_1 Q (some (Array.size H)) H_1) ?_ ?_
  · refine HW.seq ?_
    refine HW.region ?_
    refine HList.vals (v := (.int .i64 0)) rfl (HVal.assign' rfl) ?_
    refine HList.nil ?_
    refine nt ?_
    refine HW.block ?_
    refine HW.loop' (fun L2 hL2 => ?_)
    obtain ⟨X2, hX2⟩ : ∃ X2 : Int → Hp → Prop, ∀ (y6 : Int) (H_2 : Hp), X2 y6 H_2 ↔ ∀ ρ, Env.Is ρ [(0, (.pointer p0)), (3, (.map (some (Array.size H)))), (4, (.map (some (Array.size H1)))), (5, (.int .i64 y6))] → L2 ρ H_2 := ⟨_, fun _ _ => Iff.rfl⟩
    refine (hX2 _ _).1 (h X2 ?_) _ ?_
    rotate_left
    · exact ⟨rfl, rfl, rfl, rfl, trivial⟩
    clear h
    intro y6 H_2 h
    refine (hX2 _ _).2 fun ρ hI => ?_
    obtain ⟨ρ0, rfl⟩ : ∃ ρ0, ρ = (Env.set (Env.set (Env.set (Env.set ρ0 5 (.int .i64 y6)) 4 (.map (some (Array.size H1)))) 3 (.map (some (Array.size H)))) 0 (.pointer p0)) := ⟨ρ, hI.eq⟩
    clear hI; unfold F34_L2b at h; refine hL2 _ _ ?_
    refine HW.seq ?_
    refine HW.seq ?_
    refine HW.region ?_
    refine HList.vals (v := (.int .i64 y6)) rfl (HVal.move' rfl) ?_
    refine HList.vals (v := (.pointer p0)) rfl (HVal.move' rfl) ?_
    obtain ⟨a10, e11, h⟩ := h
    refine HList.vals (v := (.pointer (some a10))) rfl (HVal.nilCheck (congrArg Value.pointer e11)) ?_
    refine HList.vals (v := (.pointer (some (Addr.add a10 1)))) rfl (HVal.fieldAddr' Try.runUnderlying74 rfl rfl Try.sizeOf72 rfl) ?_
    obtain ⟨x13, c12, h⟩ := h
    refine HList.vals (v := (Sl.v x13)) rfl (HVal.load1 Try.isAgg72 rfl c12) ?_
    refine HList.vals (v := (.int .i64 ((x13).n : Int))) rfl (HVal.len Try.runUnderlying72 rfl) ?_
    refine HList.vals (v := (.bool (decide (y6 < ((x13).n : Int))))) rfl (HVal.lss rfl rfl) ?_
    refine HList.nil ?_
    refine nt ?_
    obtain ⟨hT, hF⟩ := h
    refine HW.cond (decide (y6 < ((x13).n : Int))) rfl (fun hb14 => ?_) (fun hb14 => ?_)
    · have h := hT hb14
      clear hT hF
      refine HW.skip ?_
      refine nt ?_
      refine HW.cut (fun ρ H_3 => Env.Is ρ [(0, (.pointer p0)), (3, (.map (some (Array.size H)))), (4, (.map (some (Array.size H1)))), (5, (.int .i64 y6))] ∧ F34_3 Q X2 p0 (some (Array.size H)) (some (Array.size H1)) y6 H_3) ?_ ?_
      · refine HW.block ?_
        refine HW.seq ?_
        refine HW.region ?_
        refine HList.vals (v := (.pointer p0)) rfl (HVal.move' rfl) ?_
        obtain ⟨a19, e20, h⟩ := h
        refine HList.vals (v := (.pointer (some a19))) rfl (HVal.nilCheck (congrArg Value.pointer e20)) ?_
        refine HList.vals (v := (.pointer (some (Addr.add a19 1)))) rfl (HVal.fieldAddr' Try.runUnderlying74 rfl rfl Try.sizeOf72 rfl) ?_
        obtain ⟨x22, c21, h⟩ := h
        refine HList.vals (v := (Sl.v x22)) rfl (HVal.load1 Try.isAgg72 rfl c21) ?_
        refine HList.vals (v := (.int .i64 y6)) rfl (HVal.move' rfl) ?_
        obtain ⟨a23, e24, b25, b26, h⟩ := h
        refine HList.vals (v := (.pointer (some (Addr.add a23 (y6.toNat * 1))))) rfl (HVal.indexAddr Try.runUnderlying72 Try.sizeOf87 (Sl.v_some rfl e24) rfl b25 b26) ?_
        obtain ⟨x28, c27, h⟩ := h
        refine HList.vals (v := (.pointer x28)) rfl (HVal.load1 Try.isAgg87 rfl c27) ?_
        refine HList.vals (v := (.pointer x28)) rfl (HVal.assign' rfl) ?_
        refine HList.nil ?_
        refine nt ?_
        refine HW.block ?_
        refine HW.loop' (fun L4 hL4 => ?_)
        obtain ⟨X4, hX4⟩ : ∃ X4 : (Option Addr) → Hp → Prop, ∀ (y29 : (Option Addr)) (H_4 : Hp), X4 y29 H_4 ↔ ∀ ρ, Env.Is ρ [(0, (.pointer p0)), (3, (.map (some (Array.size H)))), (4, (.map (some (Array.size H1)))), (5, (.int .i64 y6)), (6, (.pointer y29))] → L4 ρ H_4 := ⟨_, fun _ _ => Iff.rfl⟩
        refine (hX4 _ _).1 (h X4 ?_) _ ?_
        rotate_left
        · exact ⟨rfl, rfl, rfl, rfl, rfl, trivial⟩
        clear h
        intro y29 H_4 h
        refine (hX4 _ _).2 fun ρ hI => ?_
        obtain ⟨ρ0, rfl⟩ : ∃ ρ0, ρ = (Env.set (Env.set (Env.set (Env.set (Env.set ρ0 6 (.pointer y29)) 5 (.int .i64 y6)) 4 (.map (some (Array.size H1)))) 3 (.map (some (Array.size H)))) 0 (.pointer p0)) := ⟨ρ, hI.eq⟩
        clear hI; unfold F34_L4b at h; refine hL4 _ _ ?_
        refine HW.seq ?_
        refine HW.seq ?_
        refine HW.region ?_
        refine HList.vals (v := (.pointer y29)) rfl (HVal.move' rfl) ?_
        refine HList.vals (v := (.bool (!y29.isNone))) rfl (HVal.neqPN Try.underlying87 rfl rfl) ?_
        refine HList.vals (v := (.bool (!y29.isNone))) rfl (HVal.move' rfl) ?_
        obtain ⟨hT, hF⟩ := h
        rcases Bool.eq_false_or_eq_true (!y29.isNone) with hb34 | hb35
        · have h := hT hb34
          clear hT hF
          refine HList.gvals (v := (.map (some (Array.size H1)))) rfl rfl rfl rfl (congrArg Value.bool hb34) (HVal.move' rfl) ?_
          refine HList.gvals (v := (.pointer y29)) rfl rfl rfl rfl (congrArg Value.bool hb34) (HVal.move' rfl) ?_
          obtain ⟨L36, c37, c38, h⟩ := h
          refine HList.gvals (v := (.bool ((mget L36 y29).getD false))) rfl rfl rfl rfl (congrArg Value.bool hb34) (HVal.lookup (f := mk87) (g := mv4) (k := y29) (z := false) Try.runUnderlying92 mkk87 Try.zeroValue4 rfl rfl c38) ?_
          refine HList.gvals (v := (.bool (!((mget L36 y29).getD false)))) rfl rfl rfl rfl (congrArg Value.bool hb34) (HVal.not rfl) ?_
          refine HList.vals (v := (.bool (!((mget L36 y29).getD false)))) rfl (HVal.pickT rfl hb34 rfl) ?_
          refine HList.nil ?_
          refine nt ?_
          obtain ⟨hT, hF⟩ := h
          refine HW.cond (!((mget L36 y29).getD false)) rfl (fun hb39 => ?_) (fun hb39 => ?_)
          · have h := hT hb39
            clear hT hF
            refine HW.skip ?_
            refine nt ?_
            refine HW.seq ?_
            refine HW.block ?_
            refine HW.seq ?_
            refine HW.region ?_
            refine HList.vals (v := (.map (some (Array.size H1)))) rfl (HVal.move' rfl) ?_
            refine HList.vals (v := (.pointer y29)) rfl (HVal.move' rfl) ?_
            obtain ⟨r42, L43, c44, e46, c45, h⟩ := h
            refine HList.opsn (HOp.mapUpdate (f := mk87) (g := mv4) (k := y29) (v := true) Try.runUnderlying92 mkk87 (congrArg Value.map e46) rfl rfl c45) ?_
            rintro _ H40 e41
            replace h := h H40 e41
            refine HList.nil ?_
            refine nt ?_
            refine HW.region ?_
            refine HList.vals (v := (.map (some (Array.size H)))) rfl (HVal.move' rfl) ?_
            refine HList.vals (v := (.pointer y29)) rfl (HVal.move' rfl) ?_
            obtain ⟨a47, e48, h⟩ := h
            refine HList.vals (v := (.pointer (some a47))) rfl (HVal.nilCheck (congrArg Value.pointer e48)) ?_
            refine HList.vals (v := (.pointer (some a47))) rfl (HVal.fieldAddr0 Try.runUnderlying89 rfl rfl Try.sizeOf32 rfl) ?_
            obtain ⟨x50, x51, c49, h⟩ := h
            refine HList.vals (v := (.agg #[(.int .i64 x50), (.int .i64 x51)])) rfl (HVal.loadN [(.int .i64 x50), (.int .i64 x51)] Try.isAgg32 Try.sizeOf32 rfl c49) ?_
            obtain ⟨r54, L55, c56, e58, c57, h⟩ := h
            refine HList.opsn (HOp.mapUpdate (f := mk32) (g := mv4) (k := (x50, x51)) (v := true) Try.runUnderlying91 mkk32 (congrArg Value.map e58) rfl rfl c57) ?_
            rintro _ H52 e53
            replace h := h H52 e53
            refine HList.nil ?_
            refine nb ?_
            refine nt ?_
            refine HW.region ?_
            refine HList.vals (v := (.pointer y29)) rfl (HVal.move' rfl) ?_
            obtain ⟨a59, e60, h⟩ := h
            refine HList.vals (v := (.pointer (some a59))) rfl (HVal.nilCheck (congrArg Value.pointer e60)) ?_
            refine HList.vals (v := (.pointer (some (Addr.add a59 2)))) rfl (HVal.fieldAddr' Try.runUnderlying89 rfl rfl Try.sizeOf87 rfl) ?_
            obtain ⟨x62, c61, h⟩ := h
            refine HList.vals (v := (.pointer x62)) rfl (HVal.load1 Try.isAgg87 rfl c61) ?_
            refine HList.vals (v := (.pointer x62)) rfl (HVal.assign' rfl) ?_
            refine HList.nil ?_
            refine nt ?_
            exact (hX4 _ _).1 h _ ⟨rfl, rfl, rfl, rfl, rfl, trivial⟩
          · have h := hF hb39
            clear hT hF
            refine HW.exit ?_
            refine te ?_
            refine te ?_
            refine be ?_
            refine nb ?_
            refine nt ?_
            exact ⟨⟨rfl, rfl, rfl, rfl, trivial⟩, h⟩
        · have h := hF hb35
          clear hT hF
          refine HList.gskips rfl rfl rfl rfl (congrArg Value.bool hb35) ?_
          refine HList.gskips rfl rfl rfl rfl (congrArg Value.bool hb35) ?_
          refine HList.gskips rfl rfl rfl rfl (congrArg Value.bool hb35) ?_
          refine HList.gskips rfl rfl rfl rfl (congrArg Value.bool hb35) ?_
          refine HList.vals (v := (.bool false)) rfl (HVal.pickF rfl hb35 rfl) ?_
          refine HList.nil ?_
          refine nt ?_
          refine HW.condF false rfl rfl ?_
          refine HW.exit ?_
          refine te ?_
          refine te ?_
          refine be ?_
          refine nb ?_
          refine nt ?_
          exact ⟨⟨rfl, rfl, rfl, rfl, trivial⟩, h⟩
      · rintro ρ H_3 ⟨hI, h⟩
        obtain ⟨ρ0, rfl⟩ : ∃ ρ0, ρ = (Env.set (Env.set (Env.set (Env.set ρ0 5 (.int .i64 y6)) 4 (.map (some (Array.size H1)))) 3 (.map (some (Array.size H)))) 0 (.pointer p0)) := ⟨ρ, hI.eq⟩
        clear hI; unfold F34_3 at h
        refine HW.region ?_
        refine HList.vals (v := (.int .i64 y6)) rfl (HVal.move' rfl) ?_
        refine HList.vals (v := (.int .i64 (IntKind.i64.wrap (y6 + 1)))) rfl (HVal.add rfl rfl) ?_
        refine HList.vals (v := (.int .i64 (IntKind.i64.wrap (y6 + 1)))) rfl (HVal.assign' rfl) ?_
        refine HList.nil ?_
        refine nt ?_
        exact (hX2 _ _).1 h _ ⟨rfl, rfl, rfl, rfl, trivial⟩
    · have h := hF hb14
      clear hT hF
      refine HW.exit ?_
      refine te ?_
      refine te ?_
      refine be ?_
      refine nt ?_
      exact ⟨⟨rfl, trivial⟩, h⟩
  · rintro ρ H_1 ⟨hI, h⟩
    obtain ⟨ρ0, rfl⟩ : ∃ ρ0, ρ = (Env.set ρ0 3 (.map (some (Array.size H)))) := ⟨ρ, hI.eq⟩
    clear hI; unfold F34_1 at h
    refine HW.seq ?_
    refine HW.region ?_
    refine HList.vals (v := (.map (some (Array.size H)))) rfl (HVal.move' rfl) ?_
    obtain ⟨L63, c64, c65, h⟩ := h
    refine HList.vals (v := (.int .i64 ((L63).length : Int))) rfl (HVal.lenM (f := mk32) (g := mv4) Try.runUnderlying91 rfl c65) ?_
    refine HList.vals (v := (.int .i64 ((L63).length : Int))) rfl (HVal.assign' rfl) ?_
    refine HList.nil ?_
    refine nt ?_
    refine HW.ret ?_
    exact ⟨_, resOf1 rfl Res1.t, ⟨((L63).length : Int), rfl, h⟩⟩

def F11 (p0 : (Option Addr)) (p1 : (Option Addr)) (p2_0 : Int) (p2_1 : Int) (p2_2 : Int) (p2_3 : Int) (p2_4 : Int) (H : Hp) (Q : Bool → Hp → Prop) : Prop :=
∀ H1 : Hp, H1 = Array.push H (.cells #[(.int .i64 p2_0), (.int .i64 p2_1), (.int .i64 p2_2), (.int .i64 p2_3), (.int .i64 p2_4)] 34) → (
 ∃ x4 : Int, cell H1 ⟨H.size, 0, none⟩ = some (.int .i64 x4) ∧ (
 ((decide (x4 = 1)) = true → (∃ (x7 : Int) (x8 : Int), cells H1 (Addr.add ⟨H.size, 0, none⟩ 3) [(.int .i64 x7), (.int .i64 x8)] 0 ∧ (
 F13 p0 x7 x8 H1 (fun (r11 : Int) (r12 : Int) (H9 : Hp) => 
 ∃ (x14 : Int) (x15 : Int), cells H9 (Addr.add ⟨H.size, 0, none⟩ 3) [(.int .i64 x14), (.int .i64 x15)] 0 ∧ (
 F29 p1 x14 x15 H9 (fun (r18 : Int) (r19 : Int) (H16 : Hp) => 
 ((decide (r11 = r18)) = true → (Q (decide (r12 = r19)) H16)) ∧
 ((decide (r11 = r18)) = false → (Q false H16)))))))) ∧
 ((decide (x4 = 1)) = false → (((decide (x4 = 2)) = true → (∃ x24 : Int, cell H1 (Addr.add ⟨H.size, 0, none⟩ 2) = some (.int .i64 x24) ∧ (
 ∃ (x26 : Int) (x27 : Int), cells H1 (Addr.add ⟨H.size, 0, none⟩ 3) [(.int .i64 x26), (.int .i64 x27)] 0 ∧ (
 F14 p0 x24 x26 x27 H1 (fun (r30 : Int) (r31 : Int) (H28 : Hp) => 
 ∃ x33 : Int, cell H28 (Addr.add ⟨H.size, 0, none⟩ 2) = some (.int .i64 x33) ∧ (
 ∃ (x35 : Int) (x36 : Int), cells H28 (Addr.add ⟨H.size, 0, none⟩ 3) [(.int .i64 x35), (.int .i64 x36)] 0 ∧ (
 F30 p1 x33 x35 x36 H28 (fun (r39 : Int) (r40 : Int) (H37 : Hp) => 
 ((decide (r30 = r39)) = true → (Q (decide (r31 = r40)) H37)) ∧
 ((decide (r30 = r39)) = false → (Q false H37)))))))))) ∧
 ((decide (x4 = 2)) = false → (((decide (x4 = 3)) = true → (∃ x45 : Int, cell H1 (Addr.add ⟨H.size, 0, none⟩ 2) = some (.int .i64 x45) ∧ (
 F16 p0 x45 H1 (fun (r48 : Int) (H46 : Hp) => 
 ∃ x50 : Int, cell H46 (Addr.add ⟨H.size, 0, none⟩ 2) = some (.int .i64 x50) ∧ (
 F31 p1 x50 H46 (fun (r53 : Int) (H51 : Hp) => 
 Q (decide (r48 = r53)) H51)))))) ∧
 ((decide (x4 = 3)) = false → (((decide (x4 = 4)) = true → (∃ x56 : Int, cell H1 (Addr.add ⟨H.size, 0, none⟩ 2) = some (.int .i64 x56) ∧ (
 F22 p0 x56 H1 (fun (r59 : Sl) (r60 : Int) (H57 : Hp) => 
 ∃ x62 : Int, cell H57 (Addr.add ⟨H.size, 0, none⟩ 2) = some (.int .i64 x62) ∧ (
 F32 p1 x62 H57 (fun (r65 : Sl) (r66 : Int) (H63 : Hp) => 
 ((decide (r60 = r66)) = true → (F23 r59 r65 H63 (fun (r71 : Bool) (H69 : Hp) => 
 Q r71 H69))) ∧
 ((decide (r60 = r66)) = false → (Q false H63)))))))) ∧
 ((decide (x4 = 4)) = false → (((decide (x4 = 5)) = true → (F21 p0 H1 (fun (r75 : Sl) (H73 : Hp) => 
 F33 p1 H73 (fun (r78 : Sl) (H76 : Hp) => 
 F26 r75 r78 H76 (fun (r81 : Bool) (H79 : Hp) => 
 Q r81 H79))))) ∧
 ((decide (x4 = 5)) = false → (((decide (x4 = 6)) = true → (F19 p0 H1 (fun (r85 : Int) (H83 : Hp) => 
 F34 p1 H83 (fun (r88 : Int) (H86 : Hp) => 
 Q (decide (r85 = r88)) H86)))) ∧
 ((decide (x4 = 6)) = false → (Q true H1))))))))))))))
set_option maxRecDepth 100000 in
set_option maxHeartbeats 4000000 in
theorem walk11 {w0 : World} {p0 : (Option Addr)} {p1 : (Option Addr)} {p2_0 : Int} {p2_1 : Int} {p2_2 : Int} {p2_3 : Int} {p2_4 : Int} {H : Hp} {Q : Bool → Hp → Prop} (h : F11 p0 p1 p2_0 p2_1 p2_2 p2_3 p2_4 H Q) :
    Good Try.prog w0 11 #[(.pointer p0), (.pointer p1), (.agg #[(.int .i64 p2_0), (.int .i64 p2_1), (.int .i64 p2_2), (.int .i64 p2_3), (.int .i64 p2_4)])] H (fun v H => ∃ (r0 : Bool) , v = (.bool r0) ∧ Q r0 H) := by
  unfold F11 at h
  refine Good.enter' (fn := Try.f11) Try.func11 rfl rfl rfl ?_
  refine HW.seq ?_
  refine HW.region ?_
  refine HList.ops' rfl (HOp.box (v := (.agg #[(.int .i64 p2_0), (.int .i64 p2_1), (.int .i64 p2_2), (.int .i64 p2_3), (.int .i64 p2_4)])) rfl) ?_
  rintro _ H1 ⟨rfl, e2⟩
  replace h := h H1 e2
  refine HList.vals (v := (.bool false)) rfl (HVal.assign' rfl) ?_
  refine HList.nil ?_
  refine nt ?_
  refine HW.seq ?_
  refine HW.seq ?_
  refine HW.region ?_
  refine HList.vals (v := (.pointer (some ⟨H.size, 0, none⟩))) rfl (HVal.fieldAddr0 Try.runUnderlying34 rfl rfl Try.sizeOf3 rfl) ?_
  obtain ⟨x4, c3, h⟩ := h
  refine HList.vals (v := (.int .i64 x4)) rfl (HVal.load1 Try.isAgg3 rfl c3) ?_
  refine HList.nil ?_
  refine nt ?_
  refine HW.block ?_
  refine HW.seq ?_
  refine HW.region ?_
  refine HList.vals (v := (.bool (decide (x4 = 1)))) rfl (HVal.eqlI rfl rfl) ?_
  refine HList.vals (v := (.bool (decide (x4 = 1)))) rfl (HVal.assign' rfl) ?_
  refine HList.nil ?_
  refine nt ?_
  obtain ⟨hT, hF⟩ := h
  refine HW.cond (decide (x4 = 1)) rfl (fun hb5 => ?_) (fun hb5 => ?_)
  · have h := hT hb5
    clear hT hF
    refine HW.seq ?_
    refine HW.region ?_
    refine HList.vals (v := (.pointer p0)) rfl (HVal.move' rfl) ?_
    refine HList.vals (v := (.pointer (some (Addr.add ⟨H.size, 0, none⟩ 3)))) rfl (HVal.fieldAddr' Try.runUnderlying34 rfl rfl Try.sizeOf32 rfl) ?_
    obtain ⟨x7, x8, c6, h⟩ := h
    refine HList.vals (v := (.agg #[(.int .i64 x7), (.int .i64 x8)])) rfl (HVal.loadN [(.int .i64 x7), (.int .i64 x8)] Try.isAgg32 Try.sizeOf32 rfl c6) ?_
    refine HList.ops' rfl (HOp.call' 13 [(.pointer p0), (.agg #[(.int .i64 x7), (.int .i64 x8)])] (cap := []) rfl rfl Try.call13 (walk13 h)) ?_
    rintro _ H9 ⟨r11, r12, rfl, h⟩
    refine HList.vals (v := (.tuple #[(.int .i64 r11), (.int .i64 r12)])) rfl (HVal.move' rfl) ?_
    refine HList.vals (v := (.int .i64 r11)) rfl (HVal.extract rfl rfl) ?_
    refine HList.vals (v := (.int .i64 r12)) rfl (HVal.extract rfl rfl) ?_
    refine HList.vals (v := (.int .i64 r11)) rfl (HVal.assign' rfl) ?_
    refine HList.vals (v := (.int .i64 r12)) rfl (HVal.assign' rfl) ?_
    refine HList.nil ?_
    refine nt ?_
    refine HW.seq ?_
    refine HW.region ?_
    refine HList.vals (v := (.pointer p1)) rfl (HVal.move' rfl) ?_
    refine HList.vals (v := (.pointer (some (Addr.add ⟨H.size, 0, none⟩ 3)))) rfl (HVal.fieldAddr' Try.runUnderlying34 rfl rfl Try.sizeOf32 rfl) ?_
    obtain ⟨x14, x15, c13, h⟩ := h
    refine HList.vals (v := (.agg #[(.int .i64 x14), (.int .i64 x15)])) rfl (HVal.loadN [(.int .i64 x14), (.int .i64 x15)] Try.isAgg32 Try.sizeOf32 rfl c13) ?_
    refine HList.ops' rfl (HOp.call' 29 [(.pointer p1), (.agg #[(.int .i64 x14), (.int .i64 x15)])] (cap := []) rfl rfl Try.call29 (walk29 h)) ?_
    rintro _ H16 ⟨r18, r19, rfl, h⟩
    refine HList.vals (v := (.tuple #[(.int .i64 r18), (.int .i64 r19)])) rfl (HVal.move' rfl) ?_
    refine HList.vals (v := (.int .i64 r18)) rfl (HVal.extract rfl rfl) ?_
    refine HList.vals (v := (.int .i64 r19)) rfl (HVal.extract rfl rfl) ?_
    refine HList.vals (v := (.int .i64 r18)) rfl (HVal.assign' rfl) ?_
    refine HList.vals (v := (.int .i64 r19)) rfl (HVal.assign' rfl) ?_
    refine HList.nil ?_
    refine nt ?_
    refine HW.seq ?_
    refine HW.region ?_
    refine HList.vals (v := (.int .i64 r11)) rfl (HVal.move' rfl) ?_
    refine HList.vals (v := (.int .i64 r18)) rfl (HVal.move' rfl) ?_
    refine HList.vals (v := (.bool (decide (r11 = r18)))) rfl (HVal.eqlI rfl rfl) ?_
    refine HList.vals (v := (.bool (decide (r11 = r18)))) rfl (HVal.move' rfl) ?_
    obtain ⟨hT, hF⟩ := h
    rcases Bool.eq_false_or_eq_true (decide (r11 = r18)) with hb20 | hb21
    · have h := hT hb20
      clear hT hF
      refine HList.gvals (v := (.int .i64 r12)) rfl rfl rfl rfl (congrArg Value.bool hb20) (HVal.move' rfl) ?_
      refine HList.gvals (v := (.int .i64 r19)) rfl rfl rfl rfl (congrArg Value.bool hb20) (HVal.move' rfl) ?_
      refine HList.gvals (v := (.bool (decide (r12 = r19)))) rfl rfl rfl rfl (congrArg Value.bool hb20) (HVal.eqlI rfl rfl) ?_
      refine HList.vals (v := (.bool (decide (r12 = r19)))) rfl (HVal.pickT rfl hb20 rfl) ?_
      refine HList.vals (v := (.bool (decide (r12 = r19)))) rfl (HVal.assign' rfl) ?_
      refine HList.nil ?_
      refine nt ?_
      refine HW.ret ?_
      refine br ?_
      refine tr ?_
      exact ⟨_, resOf1 rfl Res1.t, ⟨(decide (r12 = r19)), rfl, h⟩⟩
    · have h := hF hb21
      clear hT hF
      refine HList.gskips rfl rfl rfl rfl (congrArg Value.bool hb21) ?_
      refine HList.gskips rfl rfl rfl rfl (congrArg Value.bool hb21) ?_
      refine HList.gskips rfl rfl rfl rfl (congrArg Value.bool hb21) ?_
      refine HList.vals (v := (.bool false)) rfl (HVal.pickF rfl hb21 rfl) ?_
      refine HList.vals (v := (.bool false)) rfl (HVal.assign' rfl) ?_
      refine HList.nil ?_
      refine nt ?_
      refine HW.ret ?_
      refine br ?_
      refine tr ?_
      exact ⟨_, resOf1 rfl Res1.t, ⟨false, rfl, h⟩⟩
  · have h := hF hb5
    clear hT hF
    refine HW.seq ?_
    refine HW.region ?_
    refine HList.vals (v := (.bool (decide (x4 = 2)))) rfl (HVal.eqlI rfl rfl) ?_
    refine HList.vals (v := (.bool (decide (x4 = 2)))) rfl (HVal.assign' rfl) ?_
    refine HList.nil ?_
    refine nt ?_
    obtain ⟨hT, hF⟩ := h
    refine HW.cond (decide (x4 = 2)) rfl (fun hb22 => ?_) (fun hb22 => ?_)
    · have h := hT hb22
      clear hT hF
      refine HW.seq ?_
      refine HW.region ?_
      refine HList.vals (v := (.pointer p0)) rfl (HVal.move' rfl) ?_
      refine HList.vals (v := (.pointer (some (Addr.add ⟨H.size, 0, none⟩ 2)))) rfl (HVal.fieldAddr' Try.runUnderlying34 rfl rfl Try.sizeOf3 rfl) ?_
      obtain ⟨x24, c23, h⟩ := h
      refine HList.vals (v := (.int .i64 x24)) rfl (HVal.load1 Try.isAgg3 rfl c23) ?_
      refine HList.vals (v := (.pointer (some (Addr.add ⟨H.size, 0, none⟩ 3)))) rfl (HVal.fieldAddr' Try.runUnderlying34 rfl rfl Try.sizeOf32 rfl) ?_
      obtain ⟨x26, x27, c25, h⟩ := h
      refine HList.vals (v := (.agg #[(.int .i64 x26), (.int .i64 x27)])) rfl (HVal.loadN [(.int .i64 x26), (.int .i64 x27)] Try.isAgg32 Try.sizeOf32 rfl c25) ?_
      refine HList.ops' rfl (HOp.call' 14 [(.pointer p0), (.int .i64 x24), (.agg #[(.int .i64 x26), (.int .i64 x27)])] (cap := []) rfl rfl Try.call14 (walk14 h)) ?_
      rintro _ H28 ⟨r30, r31, rfl, h⟩
      refine HList.vals (v := (.tuple #[(.int .i64 r30), (.int .i64 r31)])) rfl (HVal.move' rfl) ?_
      refine HList.vals (v := (.int .i64 r30)) rfl (HVal.extract rfl rfl) ?_
      refine HList.vals (v := (.int .i64 r31)) rfl (HVal.extract rfl rfl) ?_
      refine HList.vals (v := (.int .i64 r30)) rfl (HVal.assign' rfl) ?_
      refine HList.vals (v := (.int .i64 r31)) rfl (HVal.assign' rfl) ?_
      refine HList.nil ?_
      refine nt ?_
      refine HW.seq ?_
      refine HW.region ?_
      refine HList.vals (v := (.pointer p1)) rfl (HVal.move' rfl) ?_
      refine HList.vals (v := (.pointer (some (Addr.add ⟨H.size, 0, none⟩ 2)))) rfl (HVal.fieldAddr' Try.runUnderlying34 rfl rfl Try.sizeOf3 rfl) ?_
      obtain ⟨x33, c32, h⟩ := h
      refine HList.vals (v := (.int .i64 x33)) rfl (HVal.load1 Try.isAgg3 rfl c32) ?_
      refine HList.vals (v := (.pointer (some (Addr.add ⟨H.size, 0, none⟩ 3)))) rfl (HVal.fieldAddr' Try.runUnderlying34 rfl rfl Try.sizeOf32 rfl) ?_
      obtain ⟨x35, x36, c34, h⟩ := h
      refine HList.vals (v := (.agg #[(.int .i64 x35), (.int .i64 x36)])) rfl (HVal.loadN [(.int .i64 x35), (.int .i64 x36)] Try.isAgg32 Try.sizeOf32 rfl c34) ?_
      refine HList.ops' rfl (HOp.call' 30 [(.pointer p1), (.int .i64 x33), (.agg #[(.int .i64 x35), (.int .i64 x36)])] (cap := []) rfl rfl Try.call30 (walk30 h)) ?_
      rintro _ H37 ⟨r39, r40, rfl, h⟩
      refine HList.vals (v := (.tuple #[(.int .i64 r39), (.int .i64 r40)])) rfl (HVal.move' rfl) ?_
      refine HList.vals (v := (.int .i64 r39)) rfl (HVal.extract rfl rfl) ?_
      refine HList.vals (v := (.int .i64 r40)) rfl (HVal.extract rfl rfl) ?_
      refine HList.vals (v := (.int .i64 r39)) rfl (HVal.assign' rfl) ?_
      refine HList.vals (v := (.int .i64 r40)) rfl (HVal.assign' rfl) ?_
      refine HList.nil ?_
      refine nt ?_
      refine HW.seq ?_
      refine HW.region ?_
      refine HList.vals (v := (.int .i64 r30)) rfl (HVal.move' rfl) ?_
      refine HList.vals (v := (.int .i64 r39)) rfl (HVal.move' rfl) ?_
      refine HList.vals (v := (.bool (decide (r30 = r39)))) rfl (HVal.eqlI rfl rfl) ?_
      refine HList.vals (v := (.bool (decide (r30 = r39)))) rfl (HVal.move' rfl) ?_
      obtain ⟨hT, hF⟩ := h
      rcases Bool.eq_false_or_eq_true (decide (r30 = r39)) with hb41 | hb42
      · have h := hT hb41
        clear hT hF
        refine HList.gvals (v := (.int .i64 r31)) rfl rfl rfl rfl (congrArg Value.bool hb41) (HVal.move' rfl) ?_
        refine HList.gvals (v := (.int .i64 r40)) rfl rfl rfl rfl (congrArg Value.bool hb41) (HVal.move' rfl) ?_
        refine HList.gvals (v := (.bool (decide (r31 = r40)))) rfl rfl rfl rfl (congrArg Value.bool hb41) (HVal.eqlI rfl rfl) ?_
        refine HList.vals (v := (.bool (decide (r31 = r40)))) rfl (HVal.pickT rfl hb41 rfl) ?_
        refine HList.vals (v := (.bool (decide (r31 = r40)))) rfl (HVal.assign' rfl) ?_
        refine HList.nil ?_
        refine nt ?_
        refine HW.ret ?_
        refine br ?_
        refine tr ?_
        exact ⟨_, resOf1 rfl Res1.t, ⟨(decide (r31 = r40)), rfl, h⟩⟩
      · have h := hF hb42
        clear hT hF
        refine HList.gskips rfl rfl rfl rfl (congrArg Value.bool hb42) ?_
        refine HList.gskips rfl rfl rfl rfl (congrArg Value.bool hb42) ?_
        refine HList.gskips rfl rfl rfl rfl (congrArg Value.bool hb42) ?_
        refine HList.vals (v := (.bool false)) rfl (HVal.pickF rfl hb42 rfl) ?_
        refine HList.vals (v := (.bool false)) rfl (HVal.assign' rfl) ?_
        refine HList.nil ?_
        refine nt ?_
        refine HW.ret ?_
        refine br ?_
        refine tr ?_
        exact ⟨_, resOf1 rfl Res1.t, ⟨false, rfl, h⟩⟩
    · have h := hF hb22
      clear hT hF
      refine HW.seq ?_
      refine HW.region ?_
      refine HList.vals (v := (.bool (decide (x4 = 3)))) rfl (HVal.eqlI rfl rfl) ?_
      refine HList.vals (v := (.bool (decide (x4 = 3)))) rfl (HVal.assign' rfl) ?_
      refine HList.nil ?_
      refine nt ?_
      obtain ⟨hT, hF⟩ := h
      refine HW.cond (decide (x4 = 3)) rfl (fun hb43 => ?_) (fun hb43 => ?_)
      · have h := hT hb43
        clear hT hF
        refine HW.seq ?_
        refine HW.region ?_
        refine HList.vals (v := (.pointer p0)) rfl (HVal.move' rfl) ?_
        refine HList.vals (v := (.pointer (some (Addr.add ⟨H.size, 0, none⟩ 2)))) rfl (HVal.fieldAddr' Try.runUnderlying34 rfl rfl Try.sizeOf3 rfl) ?_
        obtain ⟨x45, c44, h⟩ := h
        refine HList.vals (v := (.int .i64 x45)) rfl (HVal.load1 Try.isAgg3 rfl c44) ?_
        refine HList.ops' rfl (HOp.call' 16 [(.pointer p0), (.int .i64 x45)] (cap := []) rfl rfl Try.call16 (walk16 h)) ?_
        rintro _ H46 ⟨r48, rfl, h⟩
        refine HList.vals (v := (.int .i64 r48)) rfl (HVal.assign' rfl) ?_
        refine HList.nil ?_
        refine nt ?_
        refine HW.seq ?_
        refine HW.region ?_
        refine HList.vals (v := (.pointer p1)) rfl (HVal.move' rfl) ?_
        refine HList.vals (v := (.pointer (some (Addr.add ⟨H.size, 0, none⟩ 2)))) rfl (HVal.fieldAddr' Try.runUnderlying34 rfl rfl Try.sizeOf3 rfl) ?_
        obtain ⟨x50, c49, h⟩ := h
        refine HList.vals (v := (.int .i64 x50)) rfl (HVal.load1 Try.isAgg3 rfl c49) ?_
        refine HList.ops' rfl (HOp.call' 31 [(.pointer p1), (.int .i64 x50)] (cap := []) rfl rfl Try.call31 (walk31 h)) ?_
        rintro _ H51 ⟨r53, rfl, h⟩
        refine HList.vals (v := (.int .i64 r53)) rfl (HVal.assign' rfl) ?_
        refine HList.nil ?_
        refine nt ?_
        refine HW.seq ?_
        refine HW.region ?_
        refine HList.vals (v := (.int .i64 r48)) rfl (HVal.move' rfl) ?_
        refine HList.vals (v := (.int .i64 r53)) rfl (HVal.move' rfl) ?_
        refine HList.vals (v := (.bool (decide (r48 = r53)))) rfl (HVal.eqlI rfl rfl) ?_
        refine HList.vals (v := (.bool (decide (r48 = r53)))) rfl (HVal.assign' rfl) ?_
        refine HList.nil ?_
        refine nt ?_
        refine HW.ret ?_
        refine br ?_
        refine tr ?_
        exact ⟨_, resOf1 rfl Res1.t, ⟨(decide (r48 = r53)), rfl, h⟩⟩
      · have h := hF hb43
        clear hT hF
        refine HW.seq ?_
        refine HW.region ?_
        refine HList.vals (v := (.bool (decide (x4 = 4)))) rfl (HVal.eqlI rfl rfl) ?_
        refine HList.vals (v := (.bool (decide (x4 = 4)))) rfl (HVal.assign' rfl) ?_
        refine HList.nil ?_
        refine nt ?_
        obtain ⟨hT, hF⟩ := h
        refine HW.cond (decide (x4 = 4)) rfl (fun hb54 => ?_) (fun hb54 => ?_)
        · have h := hT hb54
          clear hT hF
          refine HW.seq ?_
          refine HW.region ?_
          refine HList.vals (v := (.pointer p0)) rfl (HVal.move' rfl) ?_
          refine HList.vals (v := (.pointer (some (Addr.add ⟨H.size, 0, none⟩ 2)))) rfl (HVal.fieldAddr' Try.runUnderlying34 rfl rfl Try.sizeOf3 rfl) ?_
          obtain ⟨x56, c55, h⟩ := h
          refine HList.vals (v := (.int .i64 x56)) rfl (HVal.load1 Try.isAgg3 rfl c55) ?_
          refine HList.ops' rfl (HOp.call' 22 [(.pointer p0), (.int .i64 x56)] (cap := []) rfl rfl Try.call22 (walk22 h)) ?_
          rintro _ H57 ⟨r59, r60, rfl, h⟩
          refine HList.vals (v := (.tuple #[(Sl.v r59), (.int .i64 r60)])) rfl (HVal.move' rfl) ?_
          refine HList.vals (v := (Sl.v r59)) rfl (HVal.extract rfl rfl) ?_
          refine HList.vals (v := (.int .i64 r60)) rfl (HVal.extract rfl rfl) ?_
          refine HList.vals (v := (Sl.v r59)) rfl (HVal.assign' rfl) ?_
          refine HList.vals (v := (.int .i64 r60)) rfl (HVal.assign' rfl) ?_
          refine HList.nil ?_
          refine nt ?_
          refine HW.seq ?_
          refine HW.region ?_
          refine HList.vals (v := (.pointer p1)) rfl (HVal.move' rfl) ?_
          refine HList.vals (v := (.pointer (some (Addr.add ⟨H.size, 0, none⟩ 2)))) rfl (HVal.fieldAddr' Try.runUnderlying34 rfl rfl Try.sizeOf3 rfl) ?_
          obtain ⟨x62, c61, h⟩ := h
          refine HList.vals (v := (.int .i64 x62)) rfl (HVal.load1 Try.isAgg3 rfl c61) ?_
          refine HList.ops' rfl (HOp.call' 32 [(.pointer p1), (.int .i64 x62)] (cap := []) rfl rfl Try.call32 (walk32 h)) ?_
          rintro _ H63 ⟨r65, r66, rfl, h⟩
          refine HList.vals (v := (.tuple #[(Sl.v r65), (.int .i64 r66)])) rfl (HVal.move' rfl) ?_
          refine HList.vals (v := (Sl.v r65)) rfl (HVal.extract rfl rfl) ?_
          refine HList.vals (v := (.int .i64 r66)) rfl (HVal.extract rfl rfl) ?_
          refine HList.vals (v := (Sl.v r65)) rfl (HVal.assign' rfl) ?_
          refine HList.vals (v := (.int .i64 r66)) rfl (HVal.assign' rfl) ?_
          refine HList.nil ?_
          refine nt ?_
          refine HW.seq ?_
          refine HW.region ?_
          refine HList.vals (v := (.int .i64 r60)) rfl (HVal.move' rfl) ?_
          refine HList.vals (v := (.int .i64 r66)) rfl (HVal.move' rfl) ?_
          refine HList.vals (v := (.bool (decide (r60 = r66)))) rfl (HVal.eqlI rfl rfl) ?_
          refine HList.vals (v := (.bool (decide (r60 = r66)))) rfl (HVal.move' rfl) ?_
          obtain ⟨hT, hF⟩ := h
          rcases Bool.eq_false_or_eq_true (decide (r60 = r66)) with hb67 | hb68
          · have h := hT hb67
            clear hT hF
            refine HList.gvals (v := (Sl.v r59)) rfl rfl rfl rfl (congrArg Value.bool hb67) (HVal.move' rfl) ?_
            refine HList.gvals (v := (Sl.v r65)) rfl rfl rfl rfl (congrArg Value.bool hb67) (HVal.move' rfl) ?_
            refine HList.gops rfl rfl rfl rfl (congrArg Value.bool hb67) (HOp.call' 23 [(Sl.v r59), (Sl.v r65)] (cap := []) rfl rfl Try.call23 (walk23 h)) ?_
            rintro _ H69 ⟨r71, rfl, h⟩
            refine HList.vals (v := (.bool r71)) rfl (HVal.pickT rfl hb67 rfl) ?_
            refine HList.vals (v := (.bool r71)) rfl (HVal.assign' rfl) ?_
            refine HList.nil ?_
            refine nt ?_
            refine HW.ret ?_
            refine br ?_
            refine tr ?_
            exact ⟨_, resOf1 rfl Res1.t, ⟨r71, rfl, h⟩⟩
          · have h := hF hb68
            clear hT hF
            refine HList.gskips rfl rfl rfl rfl (congrArg Value.bool hb68) ?_
            refine HList.gskips rfl rfl rfl rfl (congrArg Value.bool hb68) ?_
            refine HList.gskips rfl rfl rfl rfl (congrArg Value.bool hb68) ?_
            refine HList.vals (v := (.bool false)) rfl (HVal.pickF rfl hb68 rfl) ?_
            refine HList.vals (v := (.bool false)) rfl (HVal.assign' rfl) ?_
            refine HList.nil ?_
            refine nt ?_
            refine HW.ret ?_
            refine br ?_
            refine tr ?_
            exact ⟨_, resOf1 rfl Res1.t, ⟨false, rfl, h⟩⟩
        · have h := hF hb54
          clear hT hF
          refine HW.seq ?_
          refine HW.region ?_
          refine HList.vals (v := (.bool (decide (x4 = 5)))) rfl (HVal.eqlI rfl rfl) ?_
          refine HList.vals (v := (.bool (decide (x4 = 5)))) rfl (HVal.assign' rfl) ?_
          refine HList.nil ?_
          refine nt ?_
          obtain ⟨hT, hF⟩ := h
          refine HW.cond (decide (x4 = 5)) rfl (fun hb72 => ?_) (fun hb72 => ?_)
          · have h := hT hb72
            clear hT hF
            refine HW.seq ?_
            refine HW.region ?_
            refine HList.vals (v := (.pointer p0)) rfl (HVal.move' rfl) ?_
            refine HList.ops' rfl (HOp.call' 21 [(.pointer p0)] (cap := []) rfl rfl Try.call21 (walk21 h)) ?_
            rintro _ H73 ⟨r75, rfl, h⟩
            refine HList.vals (v := (Sl.v r75)) rfl (HVal.assign' rfl) ?_
            refine HList.nil ?_
            refine nt ?_
            refine HW.seq ?_
            refine HW.region ?_
            refine HList.vals (v := (.pointer p1)) rfl (HVal.move' rfl) ?_
            refine HList.ops' rfl (HOp.call' 33 [(.pointer p1)] (cap := []) rfl rfl Try.call33 (walk33 h)) ?_
            rintro _ H76 ⟨r78, rfl, h⟩
            refine HList.vals (v := (Sl.v r78)) rfl (HVal.assign' rfl) ?_
            refine HList.nil ?_
            refine nt ?_
            refine HW.seq ?_
            refine HW.region ?_
            refine HList.vals (v := (Sl.v r75)) rfl (HVal.move' rfl) ?_
            refine HList.vals (v := (Sl.v r78)) rfl (HVal.move' rfl) ?_
            refine HList.ops' rfl (HOp.call' 26 [(Sl.v r75), (Sl.v r78)] (cap := []) rfl rfl Try.call26 (walk26 h)) ?_
            rintro _ H79 ⟨r81, rfl, h⟩
            refine HList.vals (v := (.bool r81)) rfl (HVal.assign' rfl) ?_
            refine HList.nil ?_
            refine nt ?_
            refine HW.ret ?_
            refine br ?_
            refine tr ?_
            exact ⟨_, resOf1 rfl Res1.t, ⟨r81, rfl, h⟩⟩
          · have h := hF hb72
            clear hT hF
            refine HW.seq ?_
            refine HW.region ?_
            refine HList.vals (v := (.bool (decide (x4 = 6)))) rfl (HVal.eqlI rfl rfl) ?_
            refine HList.vals (v := (.bool (decide (x4 = 6)))) rfl (HVal.assign' rfl) ?_
            refine HList.nil ?_
            refine nt ?_
            obtain ⟨hT, hF⟩ := h
            refine HW.cond (decide (x4 = 6)) rfl (fun hb82 => ?_) (fun hb82 => ?_)
            · have h := hT hb82
              clear hT hF
              refine HW.seq ?_
              refine HW.region ?_
              refine HList.vals (v := (.pointer p0)) rfl (HVal.move' rfl) ?_
              refine HList.ops' rfl (HOp.call' 19 [(.pointer p0)] (cap := []) rfl rfl Try.call19 (walk19 h)) ?_
              rintro _ H83 ⟨r85, rfl, h⟩
              refine HList.vals (v := (.int .i64 r85)) rfl (HVal.assign' rfl) ?_
              refine HList.nil ?_
              refine nt ?_
              refine HW.seq ?_
              refine HW.region ?_
              refine HList.vals (v := (.pointer p1)) rfl (HVal.move' rfl) ?_
              refine HList.ops' rfl (HOp.call' 34 [(.pointer p1)] (cap := []) rfl rfl Try.call34 (walk34 h)) ?_
              rintro _ H86 ⟨r88, rfl, h⟩
              refine HList.vals (v := (.int .i64 r88)) rfl (HVal.assign' rfl) ?_
              refine HList.nil ?_
              refine nt ?_
              refine HW.seq ?_
              refine HW.region ?_
              refine HList.vals (v := (.int .i64 r85)) rfl (HVal.move' rfl) ?_
              refine HList.vals (v := (.int .i64 r88)) rfl (HVal.move' rfl) ?_
              refine HList.vals (v := (.bool (decide (r85 = r88)))) rfl (HVal.eqlI rfl rfl) ?_
              refine HList.vals (v := (.bool (decide (r85 = r88)))) rfl (HVal.assign' rfl) ?_
              refine HList.nil ?_
              refine nt ?_
              refine HW.ret ?_
              refine br ?_
              refine tr ?_
              exact ⟨_, resOf1 rfl Res1.t, ⟨(decide (r85 = r88)), rfl, h⟩⟩
            · have h := hF hb82
              clear hT hF
              refine HW.skip ?_
              refine nb ?_
              refine nt ?_
              refine HW.seq ?_
              refine HW.region ?_
              refine HList.vals (v := (.bool true)) rfl (HVal.assign' rfl) ?_
              refine HList.nil ?_
              refine nt ?_
              refine HW.ret ?_
              exact ⟨_, resOf1 rfl Res1.t, ⟨true, rfl, h⟩⟩

def F3_7 (Q : Bool → Hp → Prop) (X2 : Bool → (Option Addr) → (Option Addr) → Int → Hp → Prop) (y154 : Int) (y155 : Sl) (y156 : Bool) (y157 : (Option Addr)) (y158 : (Option Addr)) (y159 : (Option Addr)) (y160 : (Option Addr)) (y161 : (Option Addr)) (y162 : (Option Addr)) (y163 : Int) (y175 : Bool) (H_7 : Hp) : Prop :=
(y175 = true → (Q false H_7)) ∧
 (y175 = false → (X2 y156 y161 y162 (IntKind.i64.wrap (y163 + 1)) H_7))
def F3_6 (Q : Bool → Hp → Prop) (X2 : Bool → (Option Addr) → (Option Addr) → Int → Hp → Prop) (y129 : Int) (y130 : Sl) (y131 : (Option Addr)) (y132 : (Option Addr)) (y133 : (Option Addr)) (y134 : (Option Addr)) (y135 : Int) (y136 : Addr) (y150 : Bool) (y151 : (Option Addr)) (y152 : (Option Addr)) (H_6 : Hp) : Prop :=
((!y150) = true → (Q false H_6)) ∧
 ((!y150) = false → (((!y152.isNone) = true → (∃ (x167 : Int) (x168 : Int) (x169 : Int) (x170 : Int) (x171 : Int), cells H_6 y136 [(.int .i64 x167), (.int .i64 x168), (.int .i64 x169), (.int .i64 x170), (.int .i64 x171)] 0 ∧ (
 F11 y151 y152 x167 x168 x169 x170 x171 H_6 (fun (r174 : Bool) (H172 : Hp) => 
 F3_7 Q X2 y129 y130 y150 y131 y132 y133 y134 y151 y152 y135 (!r174) H172)))) ∧
 ((!y152.isNone) = false → (F3_7 Q X2 y129 y130 y150 y131 y132 y133 y134 y151 y152 y135 false H_6))))
def F3_3 (Q : Bool → Hp → Prop) (X2 : Bool → (Option Addr) → (Option Addr) → Int → Hp → Prop) (y62 : Int) (y63 : Sl) (y64 : (Option Addr)) (y65 : (Option Addr)) (y66 : (Option Addr)) (y67 : (Option Addr)) (y68 : (Option Addr)) (y69 : (Option Addr)) (y70 : Int) (y71 : Addr) (y98 : Bool) (H_3 : Hp) : Prop :=
F9 y62 H_3 (fun (r127 : (Option Addr)) (r128 : Int) (H125 : Hp) => 
 ((decide (y70 = (IntKind.i64.wrap (Int.tdiv ((y63).n : Int) (2 : Int))))) = true → (F9 y62 H125 (fun (r140 : (Option Addr)) (r141 : Int) (H138 : Hp) => 
 F10 y62 H138 (fun (r144 : (Option Addr)) (r145 : Int) (H142 : Hp) => 
 (y98 = true → (((decide (r141 = r145)) = true → (F3_6 Q X2 y62 y63 y64 y65 y66 y67 y70 y71 ((r140.isNone) == (r144.isNone)) r140 r144 H142)) ∧
 ((decide (r141 = r145)) = false → (F3_6 Q X2 y62 y63 y64 y65 y66 y67 y70 y71 false r140 r144 H142)))) ∧
 (y98 = false → (F3_6 Q X2 y62 y63 y64 y65 y66 y67 y70 y71 false r140 r144 H142)))))) ∧
 ((decide (y70 = (IntKind.i64.wrap (Int.tdiv ((y63).n : Int) (2 : Int))))) = false → (F3_6 Q X2 y62 y63 y64 y65 y66 y67 y70 y71 y98 y68 y69 H125)))
def F3_5 (Q : Bool → Hp → Prop) (X2 : Bool → (Option Addr) → (Option Addr) → Int → Hp → Prop) (y99 : Int) (y100 : Sl) (y101 : Bool) (y102 : (Option Addr)) (y103 : (Option Addr)) (y104 : (Option Addr)) (y105 : (Option Addr)) (y106 : (Option Addr)) (y107 : (Option Addr)) (y108 : Int) (y109 : Addr) (y114 : Bool) (H_5 : Hp) : Prop :=
(y114 = true → (∃ (x117 : Int) (x118 : Int) (x119 : Int) (x120 : Int) (x121 : Int), cells H_5 y109 [(.int .i64 x117), (.int .i64 x118), (.int .i64 x119), (.int .i64 x120), (.int .i64 x121)] 0 ∧ (
 F11 y104 y105 x117 x118 x119 x120 x121 H_5 (fun (r124 : Bool) (H122 : Hp) => 
 F3_3 Q X2 y99 y100 y102 y103 y104 y105 y106 y107 y108 y109 r124 H122)))) ∧
 (y114 = false → (F3_3 Q X2 y99 y100 y102 y103 y104 y105 y106 y107 y108 y109 y101 H_5))
def F3_4 (Q : Bool → Hp → Prop) (X2 : Bool → (Option Addr) → (Option Addr) → Int → Hp → Prop) (y72 : Int) (y73 : Sl) (y74 : Bool) (y75 : (Option Addr)) (y76 : (Option Addr)) (y77 : (Option Addr)) (y78 : (Option Addr)) (y79 : (Option Addr)) (y80 : (Option Addr)) (y81 : Int) (y82 : Addr) (y87 : Bool) (H_4 : Hp) : Prop :=
(y87 = true → (∃ (x90 : Int) (x91 : Int) (x92 : Int) (x93 : Int) (x94 : Int), cells H_4 y82 [(.int .i64 x90), (.int .i64 x91), (.int .i64 x92), (.int .i64 x93), (.int .i64 x94)] 0 ∧ (
 F11 y75 y76 x90 x91 x92 x93 x94 H_4 (fun (r97 : Bool) (H95 : Hp) => 
 F3_3 Q X2 y72 y73 y75 y76 y77 y78 y79 y80 y81 y82 r97 H95)))) ∧
 (y87 = false → (∃ x111 : Int, cell H_4 (Addr.add y82 1) = some (.int .i64 x111) ∧ (
 ((decide (x111 ≠ 0)) = true → (F3_5 Q X2 y72 y73 y74 y75 y76 y77 y78 y79 y80 y81 y82 (!y78.isNone) H_4)) ∧
 ((decide (x111 ≠ 0)) = false → (F3_5 Q X2 y72 y73 y74 y75 y76 y77 y78 y79 y80 y81 y82 false H_4)))))
def F3_L2b (Q : Bool → Hp → Prop) (X2 : Bool → (Option Addr) → (Option Addr) → Int → Hp → Prop) (y40 : Int) (y41 : Sl) (y42 : (Option Addr)) (y43 : (Option Addr)) (y44 : (Option Addr)) (y45 : (Option Addr)) (y36 : Bool) (y37 : (Option Addr)) (y38 : (Option Addr)) (y39 : Int) (H_2 : Hp) : Prop :=
((decide (y39 < ((y41).n : Int))) = true → (∃ a47 : Addr, (y41).b = some a47 ∧ (0 : Int) ≤ y39 ∧ y39 < ((y41).n : Int) ∧ (
 ∃ (x52 : Int) (x53 : Int) (x54 : Int) (x55 : Int) (x56 : Int), cells H_2 (Addr.add a47 (y39.toNat * 5)) [(.int .i64 x52), (.int .i64 x53), (.int .i64 x54), (.int .i64 x55), (.int .i64 x56)] 0 ∧ (
 ∀ H57 : Hp, H57 = Array.push H_2 (.cells #[(.int .i64 0), (.int .i64 0), (.int .i64 0), (.int .i64 0), (.int .i64 0)] 34) → (
 mayw H57 ⟨H_2.size, 0, none⟩ 5 0 ∧ ∀ H59 : Hp, H59 = sets H57 ⟨H_2.size, 0, none⟩ [(.int .i64 x52), (.int .i64 x53), (.int .i64 x54), (.int .i64 x55), (.int .i64 x56)] 0 → (
 ∃ x84 : Int, cell H59 (Addr.add ⟨H_2.size, 0, none⟩ 1) = some (.int .i64 x84) ∧ (
 ((decide (x84 = 0)) = true → (F3_4 Q X2 y40 y41 y36 y42 y43 y44 y45 y37 y38 y39 ⟨H_2.size, 0, none⟩ (!y43.isNone) H59)) ∧
 ((decide (x84 = 0)) = false → (F3_4 Q X2 y40 y41 y36 y42 y43 y44 y45 y37 y38 y39 ⟨H_2.size, 0, none⟩ false H59))))))))) ∧
 ((decide (y39 < ((y41).n : Int))) = false → (Q true H_2))
def F3_L2 (Q : Bool → Hp → Prop) (y40 : Int) (y41 : Sl) (y42 : (Option Addr)) (y43 : (Option Addr)) (y44 : (Option Addr)) (y45 : (Option Addr)) (y36 : Bool) (y37 : (Option Addr)) (y38 : (Option Addr)) (y39 : Int) (H_2 : Hp) : Prop :=
  ∀ X2 : Bool → (Option Addr) → (Option Addr) → Int → Hp → Prop, (∀ (y36 : Bool) (y37 : (Option Addr)) (y38 : (Option Addr)) (y39 : Int) (H_2 : Hp), F3_L2b Q X2 y40 y41 y42 y43 y44 y45 y36 y37 y38 y39 H_2 → X2 y36 y37 y38 y39 H_2) → X2 y36 y37 y38 y39 H_2
def F3_1 (Q : Bool → Hp → Prop) (y21 : Int) (y22 : Sl) (y23 : Bool) (y24 : (Option Addr)) (y25 : (Option Addr)) (y26 : (Option Addr)) (y27 : (Option Addr)) (y30 : Bool) (H_1 : Hp) : Prop :=
(y30 = true → (Q false H_1)) ∧
 (y30 = false → (F3_L2 Q y21 y22 y24 y25 y26 y27 y23 none none 0 H_1))
def F3 (p0 : Int) (p1 : Int) (p2 : Sl) (H : Hp) (Q : Bool → Hp → Prop) : Prop :=
F8 H (fun (r3 : Bool) (H1 : Hp) => 
 ((!r3) = true → (Q false H1)) ∧
 ((!r3) = false → (F9 p0 H1 (fun (r7 : (Option Addr)) (r8 : Int) (H5 : Hp) => 
 F10 p0 H5 (fun (r11 : (Option Addr)) (r12 : Int) (H9 : Hp) => 
 F9 p1 H9 (fun (r15 : (Option Addr)) (r16 : Int) (H13 : Hp) => 
 F10 p1 H13 (fun (r19 : (Option Addr)) (r20 : Int) (H17 : Hp) => 
 ((decide (r8 ≠ r12)) = true → (F3_1 Q p0 p2 r3 r7 r11 r15 r19 true H17)) ∧
 ((decide (r8 ≠ r12)) = false → (((decide (r16 ≠ r20)) = true → (F3_1 Q p0 p2 r3 r7 r11 r15 r19 true H17)) ∧
 ((decide (r16 ≠ r20)) = false → (((!((r7.isNone) == (r11.isNone))) = true → (F3_1 Q p0 p2 r3 r7 r11 r15 r19 true H17)) ∧
 ((!((r7.isNone) == (r11.isNone))) = false → (F3_1 Q p0 p2 r3 r7 r11 r15 r19 (!((r15.isNone) == (r19.isNone))) H17)))))))))))))
set_option maxRecDepth 100000 in
set_option maxHeartbeats 4000000 in
theorem walk3 {w0 : World} {p0 : Int} {p1 : Int} {p2 : Sl} {H : Hp} {Q : Bool → Hp → Prop} (h : F3 p0 p1 p2 H Q) :
    Good Try.prog w0 3 #[(.int .i64 p0), (.int .i64 p1), (Sl.v p2)] H (fun v H => ∃ (r0 : Bool) , v = (.bool r0) ∧ Q r0 H) := by
  unfold F3 at h
  refine Good.enter' (fn := Try.f3) Try.func3 rfl rfl rfl ?_
  refine HW.seq ?_
  refine HW.region ?_
  refine HList.vals (v := (.bool false)) rfl (HVal.assign' rfl) ?_
  refine HList.nil ?_
  refine nt ?_
  refine HW.seq ?_
  refine HW.region ?_
  refine HList.ops' rfl (HOp.call' 8 [] (cap := []) rfl rfl Try.call8 (walk8 h)) ?_
  rintro _ H1 ⟨r3, rfl, h⟩
  refine HList.vals (v := (.bool r3)) rfl (HVal.assign' rfl) ?_
  refine HList.nil ?_
  refine nt ?_
  refine HW.seq ?_
  refine HW.seq ?_
  refine HW.region ?_
  refine HList.vals (v := (.bool r3)) rfl (HVal.move' rfl) ?_
  refine HList.vals (v := (.bool (!r3))) rfl (HVal.not rfl) ?_
  refine HList.nil ?_
  refine nt ?_
  obtain ⟨hT, hF⟩ := h
  refine HW.cond (!r3) rfl (fun hb4 => ?_) (fun hb4 => ?_)
  · have h := hT hb4
    clear hT hF
    refine HW.seq ?_
    refine HW.region ?_
    refine HList.vals (v := (.bool false)) rfl (HVal.assign' rfl) ?_
    refine HList.nil ?_
    refine nt ?_
    refine HW.ret ?_
    refine tr ?_
    exact ⟨_, resOf1 rfl Res1.t, ⟨false, rfl, h⟩⟩
  · have h := hF hb4
    clear hT hF
    refine HW.skip ?_
    refine nt ?_
    refine HW.seq ?_
    refine HW.region ?_
    refine HList.vals (v := (.int .i64 p0)) rfl (HVal.move' rfl) ?_
    refine HList.ops' rfl (HOp.call' 9 [(.int .i64 p0)] (cap := []) rfl rfl Try.call9 (walk9 h)) ?_
    rintro _ H5 ⟨r7, r8, rfl, h⟩
    refine HList.vals (v := (.tuple #[(.pointer r7), (.int .i64 r8)])) rfl (HVal.move' rfl) ?_
    refine HList.vals (v := (.pointer r7)) rfl (HVal.extract rfl rfl) ?_
    refine HList.vals (v := (.int .i64 r8)) rfl (HVal.extract rfl rfl) ?_
    refine HList.vals (v := (.pointer r7)) rfl (HVal.assign' rfl) ?_
    refine HList.vals (v := (.int .i64 r8)) rfl (HVal.assign' rfl) ?_
    refine HList.nil ?_
    refine nt ?_
    refine HW.seq ?_
    refine HW.region ?_
    refine HList.vals (v := (.int .i64 p0)) rfl (HVal.move' rfl) ?_
    refine HList.ops' rfl (HOp.call' 10 [(.int .i64 p0)] (cap := []) rfl rfl Try.call10 (walk10 h)) ?_
    rintro _ H9 ⟨r11, r12, rfl, h⟩
    refine HList.vals (v := (.tuple #[(.pointer r11), (.int .i64 r12)])) rfl (HVal.move' rfl) ?_
    refine HList.vals (v := (.pointer r11)) rfl (HVal.extract rfl rfl) ?_
    refine HList.vals (v := (.int .i64 r12)) rfl (HVal.extract rfl rfl) ?_
    refine HList.vals (v := (.pointer r11)) rfl (HVal.assign' rfl) ?_
    refine HList.vals (v := (.int .i64 r12)) rfl (HVal.assign' rfl) ?_
    refine HList.nil ?_
    refine nt ?_
    refine HW.seq ?_
    refine HW.region ?_
    refine HList.vals (v := (.int .i64 p1)) rfl (HVal.move' rfl) ?_
    refine HList.ops' rfl (HOp.call' 9 [(.int .i64 p1)] (cap := []) rfl rfl Try.call9 (walk9 h)) ?_
    rintro _ H13 ⟨r15, r16, rfl, h⟩
    refine HList.vals (v := (.tuple #[(.pointer r15), (.int .i64 r16)])) rfl (HVal.move' rfl) ?_
    refine HList.vals (v := (.pointer r15)) rfl (HVal.extract rfl rfl) ?_
    refine HList.vals (v := (.int .i64 r16)) rfl (HVal.extract rfl rfl) ?_
    refine HList.vals (v := (.pointer r15)) rfl (HVal.assign' rfl) ?_
    refine HList.vals (v := (.int .i64 r16)) rfl (HVal.assign' rfl) ?_
    refine HList.nil ?_
    refine nt ?_
    refine HW.seq ?_
    refine HW.region ?_
    refine HList.vals (v := (.int .i64 p1)) rfl (HVal.move' rfl) ?_
    refine HList.ops' rfl (HOp.call' 10 [(.int .i64 p1)] (cap := []) rfl rfl Try.call10 (walk10 h)) ?_
    rintro _ H17 ⟨r19, r20, rfl, h⟩
    refine HList.vals (v := (.tuple #[(.pointer r19), (.int .i64 r20)])) rfl (HVal.move' rfl) ?_
    refine HList.vals (v := (.pointer r19)) rfl (HVal.extract rfl rfl) ?_
    refine HList.vals (v := (.int .i64 r20)) rfl (HVal.extract rfl rfl) ?_
    refine HList.vals (v := (.pointer r19)) rfl (HVal.assign' rfl) ?_
    refine HList.vals (v := (.int .i64 r20)) rfl (HVal.assign' rfl) ?_
    refine HList.nil ?_
    refine nt ?_
    refine HW.seq ?_
    refine HW.cut (fun ρ H_1 => ∃ (y30 : Bool), Env.Is ρ [(0, (.int .i64 p0)), (2, (Sl.v p2)), (7, (.bool r3)), (8, (.pointer r7)), (10, (.pointer r11)), (12, (.pointer r15)), (14, (.pointer r19)), (64, (.bool y30))] ∧ F3_1 Q p0 p2 r3 r7 r11 r15 r19 y30 H_1) ?_ ?_
    · refine HW.region ?_
      refine HList.vals (v := (.int .i64 r8)) rfl (HVal.move' rfl) ?_
      refine HList.vals (v := (.int .i64 r12)) rfl (HVal.move' rfl) ?_
      refine HList.vals (v := (.bool (decide (r8 ≠ r12)))) rfl (HVal.neqI rfl rfl) ?_
      refine HList.vals (v := (.bool (decide (r8 ≠ r12)))) rfl (HVal.move' rfl) ?_
      obtain ⟨hT, hF⟩ := h
      rcases Bool.eq_false_or_eq_true (decide (r8 ≠ r12)) with hb28 | hb29
      · have h := hT hb28
        clear hT hF
        refine HList.gskips rfl rfl rfl rfl (congrArg Value.bool hb28) ?_
        refine HList.gskips rfl rfl rfl rfl (congrArg Value.bool hb28) ?_
        refine HList.gskips rfl rfl rfl rfl (congrArg Value.bool hb28) ?_
        refine HList.vals (v := (.bool true)) rfl (HVal.pickT rfl hb28 rfl) ?_
        refine HList.vals (v := (.bool true)) rfl (HVal.move' rfl) ?_
        refine HList.gskips rfl rfl rfl rfl rfl ?_
        refine HList.gskips rfl rfl rfl rfl rfl ?_
        refine HList.gskips rfl rfl rfl rfl rfl ?_
        refine HList.gskips rfl rfl rfl rfl rfl ?_
        refine HList.gskips rfl rfl rfl rfl rfl ?_
        refine HList.vals (v := (.bool true)) rfl (HVal.pickT rfl rfl rfl) ?_
        refine HList.vals (v := (.bool true)) rfl (HVal.move' rfl) ?_
        refine HList.gskips rfl rfl rfl rfl rfl ?_
        refine HList.gskips rfl rfl rfl rfl rfl ?_
        refine HList.gskips rfl rfl rfl rfl rfl ?_
        refine HList.gskips rfl rfl rfl rfl rfl ?_
        refine HList.gskips rfl rfl rfl rfl rfl ?_
        refine HList.vals (v := (.bool true)) rfl (HVal.pickT rfl rfl rfl) ?_
        refine HList.nil ?_
        refine nt ?_
        exact ⟨true, ⟨rfl, rfl, rfl, rfl, rfl, rfl, rfl, rfl, trivial⟩, h⟩
      · have h := hF hb29
        clear hT hF
        refine HList.gvals (v := (.int .i64 r16)) rfl rfl rfl rfl (congrArg Value.bool hb29) (HVal.move' rfl) ?_
        refine HList.gvals (v := (.int .i64 r20)) rfl rfl rfl rfl (congrArg Value.bool hb29) (HVal.move' rfl) ?_
        refine HList.gvals (v := (.bool (decide (r16 ≠ r20)))) rfl rfl rfl rfl (congrArg Value.bool hb29) (HVal.neqI rfl rfl) ?_
        refine HList.vals (v := (.bool (decide (r16 ≠ r20)))) rfl (HVal.pickF rfl hb29 rfl) ?_
        refine HList.vals (v := (.bool (decide (r16 ≠ r20)))) rfl (HVal.move' rfl) ?_
        obtain ⟨hT, hF⟩ := h
        rcases Bool.eq_false_or_eq_true (decide (r16 ≠ r20)) with hb31 | hb32
        · have h := hT hb31
          clear hT hF
          refine HList.gskips rfl rfl rfl rfl (congrArg Value.bool hb31) ?_
          refine HList.gskips rfl rfl rfl rfl (congrArg Value.bool hb31) ?_
          refine HList.gskips rfl rfl rfl rfl (congrArg Value.bool hb31) ?_
          refine HList.gskips rfl rfl rfl rfl (congrArg Value.bool hb31) ?_
          refine HList.gskips rfl rfl rfl rfl (congrArg Value.bool hb31) ?_
          refine HList.vals (v := (.bool true)) rfl (HVal.pickT rfl hb31 rfl) ?_
          refine HList.vals (v := (.bool true)) rfl (HVal.move' rfl) ?_
          refine HList.gskips rfl rfl rfl rfl rfl ?_
          refine HList.gskips rfl rfl rfl rfl rfl ?_
          refine HList.gskips rfl rfl rfl rfl rfl ?_
          refine HList.gskips rfl rfl rfl rfl rfl ?_
          refine HList.gskips rfl rfl rfl rfl rfl ?_
          refine HList.vals (v := (.bool true)) rfl (HVal.pickT rfl rfl rfl) ?_
          refine HList.nil ?_
          refine nt ?_
          exact ⟨true, ⟨rfl, rfl, rfl, rfl, rfl, rfl, rfl, rfl, trivial⟩, h⟩
        · have h := hF hb32
          clear hT hF
          refine HList.gvals (v := (.pointer r7)) rfl rfl rfl rfl (congrArg Value.bool hb32) (HVal.move' rfl) ?_
          refine HList.gvals (v := (.bool (r7.isNone))) rfl rfl rfl rfl (congrArg Value.bool hb32) (HVal.eqlPN Try.underlying24 rfl rfl) ?_
          refine HList.gvals (v := (.pointer r11)) rfl rfl rfl rfl (congrArg Value.bool hb32) (HVal.move' rfl) ?_
          refine HList.gvals (v := (.bool (r11.isNone))) rfl rfl rfl rfl (congrArg Value.bool hb32) (HVal.eqlPN Try.underlying28 rfl rfl) ?_
          refine HList.gvals (v := (.bool (!((r7.isNone) == (r11.isNone))))) rfl rfl rfl rfl (congrArg Value.bool hb32) (HVal.neqB Try.underlying4 rfl rfl) ?_
          refine HList.vals (v := (.bool (!((r7.isNone) == (r11.isNone))))) rfl (HVal.pickF rfl hb32 rfl) ?_
          refine HList.vals (v := (.bool (!((r7.isNone) == (r11.isNone))))) rfl (HVal.move' rfl) ?_
          obtain ⟨hT, hF⟩ := h
          rcases Bool.eq_false_or_eq_true (!((r7.isNone) == (r11.isNone))) with hb33 | hb34
          · have h := hT hb33
            clear hT hF
            refine HList.gskips rfl rfl rfl rfl (congrArg Value.bool hb33) ?_
            refine HList.gskips rfl rfl rfl rfl (congrArg Value.bool hb33) ?_
            refine HList.gskips rfl rfl rfl rfl (congrArg Value.bool hb33) ?_
            refine HList.gskips rfl rfl rfl rfl (congrArg Value.bool hb33) ?_
            refine HList.gskips rfl rfl rfl rfl (congrArg Value.bool hb33) ?_
            refine HList.vals (v := (.bool true)) rfl (HVal.pickT rfl hb33 rfl) ?_
            refine HList.nil ?_
            refine nt ?_
            exact ⟨true, ⟨rfl, rfl, rfl, rfl, rfl, rfl, rfl, rfl, trivial⟩, h⟩
          · have h := hF hb34
            clear hT hF
            refine HList.gvals (v := (.pointer r15)) rfl rfl rfl rfl (congrArg Value.bool hb34) (HVal.move' rfl) ?_
            refine HList.gvals (v := (.bool (r15.isNone))) rfl rfl rfl rfl (congrArg Value.bool hb34) (HVal.eqlPN Try.underlying24 rfl rfl) ?_
            refine HList.gvals (v := (.pointer r19)) rfl rfl rfl rfl (congrArg Value.bool hb34) (HVal.move' rfl) ?_
            refine HList.gvals (v := (.bool (r19.isNone))) rfl rfl rfl rfl (congrArg Value.bool hb34) (HVal.eqlPN Try.underlying28 rfl rfl) ?_
            refine HList.gvals (v := (.bool (!((r15.isNone) == (r19.isNone))))) rfl rfl rfl rfl (congrArg Value.bool hb34) (HVal.neqB Try.underlying4 rfl rfl) ?_
            refine HList.vals (v := (.bool (!((r15.isNone) == (r19.isNone))))) rfl (HVal.pickF rfl hb34 rfl) ?_
            refine HList.nil ?_
            refine nt ?_
            exact ⟨(!((r15.isNone) == (r19.isNone))), ⟨rfl, rfl, rfl, rfl, rfl, rfl, rfl, rfl, trivial⟩, h⟩
    · rintro ρ H_1 ⟨y30, hI, h⟩
      obtain ⟨ρ0, rfl⟩ : ∃ ρ0, ρ = (Env.set (Env.set (Env.set (Env.set (Env.set (Env.set (Env.set (Env.set ρ0 64 (.bool y30)) 14 (.pointer r19)) 12 (.pointer r15)) 10 (.pointer r11)) 8 (.pointer r7)) 7 (.bool r3)) 2 (Sl.v p2)) 0 (.int .i64 p0)) := ⟨ρ, hI.eq⟩
      clear hI; unfold F3_1 at h
      obtain ⟨hT, hF⟩ := h
      refine HW.cond y30 rfl (fun hb35 => ?_) (fun hb35 => ?_)
      · have h := hT hb35
        clear hT hF
        refine HW.seq ?_
        refine HW.region ?_
        refine HList.vals (v := (.bool false)) rfl (HVal.assign' rfl) ?_
        refine HList.nil ?_
        refine nt ?_
        refine HW.ret ?_
        refine tr ?_
        exact ⟨_, resOf1 rfl Res1.t, ⟨false, rfl, h⟩⟩
      · have h := hF hb35
        clear hT hF
        refine HW.skip ?_
        refine nt ?_
        refine HW.seq ?_
        refine HW.region ?_
        refine HList.vals (v := (.pointer none)) rfl (HVal.assign' rfl) ?_
        refine HList.nil ?_
        refine nt ?_
        refine HW.seq ?_
        refine HW.region ?_
        refine HList.vals (v := (.pointer none)) rfl (HVal.assign' rfl) ?_
        refine HList.nil ?_
        refine nt ?_
        refine HW.seq ?_
        refine HW.seq ?_
        refine HW.region ?_
        refine HList.vals (v := (.int .i64 0)) rfl (HVal.assign' rfl) ?_
        refine HList.nil ?_
        refine nt ?_
        refine HW.block ?_
        refine HW.loop' (fun L2 hL2 => ?_)
        obtain ⟨X2, hX2⟩ : ∃ X2 : Bool → (Option Addr) → (Option Addr) → Int → Hp → Prop, ∀ (y36 : Bool) (y37 : (Option Addr)) (y38 : (Option Addr)) (y39 : Int) (H_2 : Hp), X2 y36 y37 y38 y39 H_2 ↔ ∀ ρ, Env.Is ρ [(0, (.int .i64 p0)), (2, (Sl.v p2)), (8, (.pointer r7)), (10, (.pointer r11)), (12, (.pointer r15)), (14, (.pointer r19)), (7, (.bool y36)), (16, (.pointer y37)), (17, (.pointer y38)), (18, (.int .i64 y39))] → L2 ρ H_2 := ⟨_, fun _ _ _ _ _ => Iff.rfl⟩
        refine (hX2 _ _ _ _ _).1 (h X2 ?_) _ ?_
        rotate_left
        · exact ⟨rfl, rfl, rfl, rfl, rfl, rfl, rfl, rfl, rfl, rfl, trivial⟩
        clear h
        intro y36 y37 y38 y39 H_2 h
        refine (hX2 _ _ _ _ _).2 fun ρ hI => ?_
        obtain ⟨ρ0, rfl⟩ : ∃ ρ0, ρ = (Env.set (Env.set (Env.set (Env.set (Env.set (Env.set (Env.set (Env.set (Env.set (Env.set ρ0 18 (.int .i64 y39)) 17 (.pointer y38)) 16 (.pointer y37)) 7 (.bool y36)) 14 (.pointer r19)) 12 (.pointer r15)) 10 (.pointer r11)) 8 (.pointer r7)) 2 (Sl.v p2)) 0 (.int .i64 p0)) := ⟨ρ, hI.eq⟩
        clear hI; unfold F3_L2b at h; refine hL2 _ _ ?_
        refine HW.seq ?_
        refine HW.seq ?_
        refine HW.region ?_
        refine HList.vals (v := (.int .i64 y39)) rfl (HVal.move' rfl) ?_
        refine HList.vals (v := (Sl.v p2)) rfl (HVal.move' rfl) ?_
        refine HList.vals (v := (.int .i64 ((p2).n : Int))) rfl (HVal.len Try.runUnderlying22 rfl) ?_
        refine HList.vals (v := (.bool (decide (y39 < ((p2).n : Int))))) rfl (HVal.lss rfl rfl) ?_
        refine HList.nil ?_
        refine nt ?_
        obtain ⟨hT, hF⟩ := h
        refine HW.cond (decide (y39 < ((p2).n : Int))) rfl (fun hb46 => ?_) (fun hb46 => ?_)
        · have h := hT hb46
          clear hT hF
          refine HW.skip ?_
          refine nt ?_
          refine HW.seq ?_
          refine HW.block ?_
          refine HW.seq ?_
          refine HW.region ?_
          refine HList.vals (v := (Sl.v p2)) rfl (HVal.move' rfl) ?_
          refine HList.vals (v := (.int .i64 y39)) rfl (HVal.move' rfl) ?_
          obtain ⟨a47, e48, b49, b50, h⟩ := h
          refine HList.vals (v := (.pointer (some (Addr.add a47 (y39.toNat * 5))))) rfl (HVal.indexAddr Try.runUnderlying22 Try.sizeOf34 (Sl.v_some rfl e48) rfl b49 b50) ?_
          obtain ⟨x52, x53, x54, x55, x56, c51, h⟩ := h
          refine HList.vals (v := (.agg #[(.int .i64 x52), (.int .i64 x53), (.int .i64 x54), (.int .i64 x55), (.int .i64 x56)])) rfl (HVal.loadN [(.int .i64 x52), (.int .i64 x53), (.int .i64 x54), (.int .i64 x55), (.int .i64 x56)] Try.isAgg34 Try.sizeOf34 rfl c51) ?_
          refine HList.ops' rfl (HOp.alloc Try.zeroValue34) ?_
          rintro _ H57 ⟨rfl, e58⟩
          replace h := h H57 e58
          obtain ⟨z61, h⟩ := h
          refine HList.opsn (HOp.storeN' (l := [(.int .i64 x52), (.int .i64 x53), (.int .i64 x54), (.int .i64 x55), (.int .i64 x56)]) Try.sizeOf34 rfl rfl rfl z61) ?_
          rintro _ H59 e60
          replace h := h H59 e60
          refine HList.nil ?_
          refine nt ?_
          refine HW.cut (fun ρ H_3 => ∃ (y98 : Bool), Env.Is ρ [(0, (.int .i64 p0)), (2, (Sl.v p2)), (8, (.pointer r7)), (10, (.pointer r11)), (12, (.pointer r15)), (14, (.pointer r19)), (16, (.pointer y37)), (17, (.pointer y38)), (18, (.int .i64 y39)), (19, (.pointer (some ⟨H_2.size, 0, none⟩))), (7, (.bool y98))] ∧ F3_3 Q X2 p0 p2 r7 r11 r15 r19 y37 y38 y39 ⟨H_2.size, 0, none⟩ y98 H_3) ?_ ?_
          · refine HW.cut (fun ρ H_4 => ∃ (y87 : Bool), Env.Is ρ [(0, (.int .i64 p0)), (2, (Sl.v p2)), (7, (.bool y36)), (8, (.pointer r7)), (10, (.pointer r11)), (12, (.pointer r15)), (14, (.pointer r19)), (16, (.pointer y37)), (17, (.pointer y38)), (18, (.int .i64 y39)), (19, (.pointer (some ⟨H_2.size, 0, none⟩))), (81, (.bool y87))] ∧ F3_4 Q X2 p0 p2 y36 r7 r11 r15 r19 y37 y38 y39 ⟨H_2.size, 0, none⟩ y87 H_4) ?_ ?_
            · refine HW.region ?_
              refine HList.vals (v := (.pointer (some (Addr.add ⟨H_2.size, 0, none⟩ 1)))) rfl (HVal.fieldAddr' Try.runUnderlying34 rfl rfl Try.sizeOf3 rfl) ?_
              obtain ⟨x84, c83, h⟩ := h
              refine HList.vals (v := (.int .i64 x84)) rfl (HVal.load1 Try.isAgg3 rfl c83) ?_
              refine HList.vals (v := (.bool (decide (x84 = 0)))) rfl (HVal.eqlI rfl rfl) ?_
              refine HList.vals (v := (.bool (decide (x84 = 0)))) rfl (HVal.move' rfl) ?_
              obtain ⟨hT, hF⟩ := h
              rcases Bool.eq_false_or_eq_true (decide (x84 = 0)) with hb85 | hb86
              · have h := hT hb85
                clear hT hF
                refine HList.gvals (v := (.pointer r11)) rfl rfl rfl rfl (congrArg Value.bool hb85) (HVal.move' rfl) ?_
                refine HList.gvals (v := (.bool (!r11.isNone))) rfl rfl rfl rfl (congrArg Value.bool hb85) (HVal.neqPN Try.underlying28 rfl rfl) ?_
                refine HList.vals (v := (.bool (!r11.isNone))) rfl (HVal.pickT rfl hb85 rfl) ?_
                refine HList.nil ?_
                refine nt ?_
                exact ⟨(!r11.isNone), ⟨rfl, rfl, rfl, rfl, rfl, rfl, rfl, rfl, rfl, rfl, rfl, rfl, trivial⟩, h⟩
              · have h := hF hb86
                clear hT hF
                refine HList.gskips rfl rfl rfl rfl (congrArg Value.bool hb86) ?_
                refine HList.gskips rfl rfl rfl rfl (congrArg Value.bool hb86) ?_
                refine HList.vals (v := (.bool false)) rfl (HVal.pickF rfl hb86 rfl) ?_
                refine HList.nil ?_
                refine nt ?_
                exact ⟨false, ⟨rfl, rfl, rfl, rfl, rfl, rfl, rfl, rfl, rfl, rfl, rfl, rfl, trivial⟩, h⟩
            · rintro ρ H_4 ⟨y87, hI, h⟩
              obtain ⟨ρ0, rfl⟩ : ∃ ρ0, ρ = (Env.set (Env.set (Env.set (Env.set (Env.set (Env.set (Env.set (Env.set (Env.set (Env.set (Env.set (Env.set ρ0 81 (.bool y87)) 19 (.pointer (some ⟨H_2.size, 0, none⟩))) 18 (.int .i64 y39)) 17 (.pointer y38)) 16 (.pointer y37)) 14 (.pointer r19)) 12 (.pointer r15)) 10 (.pointer r11)) 8 (.pointer r7)) 7 (.bool y36)) 2 (Sl.v p2)) 0 (.int .i64 p0)) := ⟨ρ, hI.eq⟩
              clear hI; unfold F3_4 at h
              obtain ⟨hT, hF⟩ := h
              refine HW.cond y87 rfl (fun hb88 => ?_) (fun hb88 => ?_)
              · have h := hT hb88
                clear hT hF
                refine HW.region ?_
                refine HList.vals (v := (.pointer r7)) rfl (HVal.move' rfl) ?_
                refine HList.vals (v := (.pointer r11)) rfl (HVal.move' rfl) ?_
                obtain ⟨x90, x91, x92, x93, x94, c89, h⟩ := h
                refine HList.vals (v := (.agg #[(.int .i64 x90), (.int .i64 x91), (.int .i64 x92), (.int .i64 x93), (.int .i64 x94)])) rfl (HVal.loadN [(.int .i64 x90), (.int .i64 x91), (.int .i64 x92), (.int .i64 x93), (.int .i64 x94)] Try.isAgg34 Try.sizeOf34 rfl c89) ?_
                refine HList.ops' rfl (HOp.call' 11 [(.pointer r7), (.pointer r11), (.agg #[(.int .i64 x90), (.int .i64 x91), (.int .i64 x92), (.int .i64 x93), (.int .i64 x94)])] (cap := []) rfl rfl Try.call11 (walk11 h)) ?_
                rintro _ H95 ⟨r97, rfl, h⟩
                refine HList.vals (v := (.bool r97)) rfl (HVal.assign' rfl) ?_
                refine HList.nil ?_
                refine nt ?_
                exact ⟨r97, ⟨rfl, rfl, rfl, rfl, rfl, rfl, rfl, rfl, rfl, rfl, rfl, trivial⟩, h⟩
              · have h := hF hb88
                clear hT hF
                refine HW.cut (fun ρ H_5 => ∃ (y114 : Bool), Env.Is ρ [(0, (.int .i64 p0)), (2, (Sl.v p2)), (7, (.bool y36)), (8, (.pointer r7)), (10, (.pointer r11)), (12, (.pointer r15)), (14, (.pointer r19)), (16, (.pointer y37)), (17, (.pointer y38)), (18, (.int .i64 y39)), (19, (.pointer (some ⟨H_2.size, 0, none⟩))), (92, (.bool y114))] ∧ F3_5 Q X2 p0 p2 y36 r7 r11 r15 r19 y37 y38 y39 ⟨H_2.size, 0, none⟩ y114 H_5) ?_ ?_
                · refine HW.region ?_
                  refine HList.vals (v := (.pointer (some (Addr.add ⟨H_2.size, 0, none⟩ 1)))) rfl (HVal.fieldAddr' Try.runUnderlying34 rfl rfl Try.sizeOf3 rfl) ?_
                  obtain ⟨x111, c110, h⟩ := h
                  refine HList.vals (v := (.int .i64 x111)) rfl (HVal.load1 Try.isAgg3 rfl c110) ?_
                  refine HList.vals (v := (.bool (decide (x111 ≠ 0)))) rfl (HVal.neqI rfl rfl) ?_
                  refine HList.vals (v := (.bool (decide (x111 ≠ 0)))) rfl (HVal.move' rfl) ?_
                  obtain ⟨hT, hF⟩ := h
                  rcases Bool.eq_false_or_eq_true (decide (x111 ≠ 0)) with hb112 | hb113
                  · have h := hT hb112
                    clear hT hF
                    refine HList.gvals (v := (.pointer r19)) rfl rfl rfl rfl (congrArg Value.bool hb112) (HVal.move' rfl) ?_
                    refine HList.gvals (v := (.bool (!r19.isNone))) rfl rfl rfl rfl (congrArg Value.bool hb112) (HVal.neqPN Try.underlying28 rfl rfl) ?_
                    refine HList.vals (v := (.bool (!r19.isNone))) rfl (HVal.pickT rfl hb112 rfl) ?_
                    refine HList.nil ?_
                    refine nt ?_
                    exact ⟨(!r19.isNone), ⟨rfl, rfl, rfl, rfl, rfl, rfl, rfl, rfl, rfl, rfl, rfl, rfl, trivial⟩, h⟩
                  · have h := hF hb113
                    clear hT hF
                    refine HList.gskips rfl rfl rfl rfl (congrArg Value.bool hb113) ?_
                    refine HList.gskips rfl rfl rfl rfl (congrArg Value.bool hb113) ?_
                    refine HList.vals (v := (.bool false)) rfl (HVal.pickF rfl hb113 rfl) ?_
                    refine HList.nil ?_
                    refine nt ?_
                    exact ⟨false, ⟨rfl, rfl, rfl, rfl, rfl, rfl, rfl, rfl, rfl, rfl, rfl, rfl, trivial⟩, h⟩
                · rintro ρ H_5 ⟨y114, hI, h⟩
                  obtain ⟨ρ0, rfl⟩ : ∃ ρ0, ρ = (Env.set (Env.set (Env.set (Env.set (Env.set (Env.set (Env.set (Env.set (Env.set (Env.set (Env.set (Env.set ρ0 92 (.bool y114)) 19 (.pointer (some ⟨H_2.size, 0, none⟩))) 18 (.int .i64 y39)) 17 (.pointer y38)) 16 (.pointer y37)) 14 (.pointer r19)) 12 (.pointer r15)) 10 (.pointer r11)) 8 (.pointer r7)) 7 (.bool y36)) 2 (Sl.v p2)) 0 (.int .i64 p0)) := ⟨ρ, hI.eq⟩
                  clear hI; unfold F3_5 at h
                  obtain ⟨hT, hF⟩ := h
                  refine HW.cond y114 rfl (fun hb115 => ?_) (fun hb115 => ?_)
                  · have h := hT hb115
                    clear hT hF
                    refine HW.region ?_
                    refine HList.vals (v := (.pointer r15)) rfl (HVal.move' rfl) ?_
                    refine HList.vals (v := (.pointer r19)) rfl (HVal.move' rfl) ?_
                    obtain ⟨x117, x118, x119, x120, x121, c116, h⟩ := h
                    refine HList.vals (v := (.agg #[(.int .i64 x117), (.int .i64 x118), (.int .i64 x119), (.int .i64 x120), (.int .i64 x121)])) rfl (HVal.loadN [(.int .i64 x117), (.int .i64 x118), (.int .i64 x119), (.int .i64 x120), (.int .i64 x121)] Try.isAgg34 Try.sizeOf34 rfl c116) ?_
                    refine HList.ops' rfl (HOp.call' 11 [(.pointer r15), (.pointer r19), (.agg #[(.int .i64 x117), (.int .i64 x118), (.int .i64 x119), (.int .i64 x120), (.int .i64 x121)])] (cap := []) rfl rfl Try.call11 (walk11 h)) ?_
                    rintro _ H122 ⟨r124, rfl, h⟩
                    refine HList.vals (v := (.bool r124)) rfl (HVal.assign' rfl) ?_
                    refine HList.nil ?_
                    refine nt ?_
                    exact ⟨r124, ⟨rfl, rfl, rfl, rfl, rfl, rfl, rfl, rfl, rfl, rfl, rfl, trivial⟩, h⟩
                  · have h := hF hb115
                    clear hT hF
                    refine HW.skip ?_
                    refine nt ?_
                    exact ⟨y36, ⟨rfl, rfl, rfl, rfl, rfl, rfl, rfl, rfl, rfl, rfl, rfl, trivial⟩, h⟩
          · rintro ρ H_3 ⟨y98, hI, h⟩
            obtain ⟨ρ0, rfl⟩ : ∃ ρ0, ρ = (Env.set (Env.set (Env.set (Env.set (Env.set (Env.set (Env.set (Env.set (Env.set (Env.set (Env.set ρ0 7 (.bool y98)) 19 (.pointer (some ⟨H_2.size, 0, none⟩))) 18 (.int .i64 y39)) 17 (.pointer y38)) 16 (.pointer y37)) 14 (.pointer r19)) 12 (.pointer r15)) 10 (.pointer r11)) 8 (.pointer r7)) 2 (Sl.v p2)) 0 (.int .i64 p0)) := ⟨ρ, hI.eq⟩
            clear hI; unfold F3_3 at h
            refine HW.seq ?_
            refine HW.region ?_
            refine HList.vals (v := (.int .i64 p0)) rfl (HVal.move' rfl) ?_
            refine HList.ops' rfl (HOp.call' 9 [(.int .i64 p0)] (cap := []) rfl rfl Try.call9 (walk9 h)) ?_
            rintro _ H125 ⟨r127, r128, rfl, h⟩
            refine HList.nil ?_
            refine nt ?_
            refine HW.cut (fun ρ H_6 => ∃ (y150 : Bool) (y151 : (Option Addr)) (y152 : (Option Addr)), Env.Is ρ [(0, (.int .i64 p0)), (2, (Sl.v p2)), (8, (.pointer r7)), (10, (.pointer r11)), (12, (.pointer r15)), (14, (.pointer r19)), (18, (.int .i64 y39)), (19, (.pointer (some ⟨H_2.size, 0, none⟩))), (7, (.bool y150)), (16, (.pointer y151)), (17, (.pointer y152))] ∧ F3_6 Q X2 p0 p2 r7 r11 r15 r19 y39 ⟨H_2.size, 0, none⟩ y150 y151 y152 H_6) ?_ ?_
            · refine HW.seq ?_
              refine HW.region ?_
              refine HList.vals (v := (.int .i64 y39)) rfl (HVal.move' rfl) ?_
              refine HList.vals (v := (Sl.v p2)) rfl (HVal.move' rfl) ?_
              refine HList.vals (v := (.int .i64 ((p2).n : Int))) rfl (HVal.len Try.runUnderlying22 rfl) ?_
              refine HList.vals (v := (.int .i64 (IntKind.i64.wrap (Int.tdiv ((p2).n : Int) (2 : Int))))) rfl (HVal.quo rfl rfl (by decide)) ?_
              refine HList.vals (v := (.bool (decide (y39 = (IntKind.i64.wrap (Int.tdiv ((p2).n : Int) (2 : Int))))))) rfl (HVal.eqlI rfl rfl) ?_
              refine HList.nil ?_
              refine nt ?_
              obtain ⟨hT, hF⟩ := h
              refine HW.cond (decide (y39 = (IntKind.i64.wrap (Int.tdiv ((p2).n : Int) (2 : Int))))) rfl (fun hb137 => ?_) (fun hb137 => ?_)
              · have h := hT hb137
                clear hT hF
                refine HW.seq ?_
                refine HW.region ?_
                refine HList.vals (v := (.int .i64 p0)) rfl (HVal.move' rfl) ?_
                refine HList.ops' rfl (HOp.call' 9 [(.int .i64 p0)] (cap := []) rfl rfl Try.call9 (walk9 h)) ?_
                rintro _ H138 ⟨r140, r141, rfl, h⟩
                refine HList.vals (v := (.tuple #[(.pointer r140), (.int .i64 r141)])) rfl (HVal.move' rfl) ?_
                refine HList.vals (v := (.pointer r140)) rfl (HVal.extract rfl rfl) ?_
                refine HList.vals (v := (.int .i64 r141)) rfl (HVal.extract rfl rfl) ?_
                refine HList.vals (v := (.pointer r140)) rfl (HVal.assign' rfl) ?_
                refine HList.vals (v := (.int .i64 r141)) rfl (HVal.assign' rfl) ?_
                refine HList.nil ?_
                refine nt ?_
                refine HW.seq ?_
                refine HW.region ?_
                refine HList.vals (v := (.int .i64 p0)) rfl (HVal.move' rfl) ?_
                refine HList.ops' rfl (HOp.call' 10 [(.int .i64 p0)] (cap := []) rfl rfl Try.call10 (walk10 h)) ?_
                rintro _ H142 ⟨r144, r145, rfl, h⟩
                refine HList.vals (v := (.tuple #[(.pointer r144), (.int .i64 r145)])) rfl (HVal.move' rfl) ?_
                refine HList.vals (v := (.pointer r144)) rfl (HVal.extract rfl rfl) ?_
                refine HList.vals (v := (.int .i64 r145)) rfl (HVal.extract rfl rfl) ?_
                refine HList.vals (v := (.pointer r144)) rfl (HVal.assign' rfl) ?_
                refine HList.vals (v := (.int .i64 r145)) rfl (HVal.assign' rfl) ?_
                refine HList.nil ?_
                refine nt ?_
                refine HW.region ?_
                refine HList.vals (v := (.bool y98)) rfl (HVal.move' rfl) ?_
                refine HList.vals (v := (.bool y98)) rfl (HVal.move' rfl) ?_
                obtain ⟨hT, hF⟩ := h
                rcases Bool.eq_false_or_eq_true y98 with hb146 | hb147
                · have h := hT hb146
                  clear hT hF
                  refine HList.gvals (v := (.int .i64 r141)) rfl rfl rfl rfl (congrArg Value.bool hb146) (HVal.move' rfl) ?_
                  refine HList.gvals (v := (.int .i64 r145)) rfl rfl rfl rfl (congrArg Value.bool hb146) (HVal.move' rfl) ?_
                  refine HList.gvals (v := (.bool (decide (r141 = r145)))) rfl rfl rfl rfl (congrArg Value.bool hb146) (HVal.eqlI rfl rfl) ?_
                  refine HList.vals (v := (.bool (decide (r141 = r145)))) rfl (HVal.pickT rfl hb146 rfl) ?_
                  refine HList.vals (v := (.bool (decide (r141 = r145)))) rfl (HVal.move' rfl) ?_
                  obtain ⟨hT, hF⟩ := h
                  rcases Bool.eq_false_or_eq_true (decide (r141 = r145)) with hb148 | hb149
                  · have h := hT hb148
                    clear hT hF
                    refine HList.gvals (v := (.pointer r140)) rfl rfl rfl rfl (congrArg Value.bool hb148) (HVal.move' rfl) ?_
                    refine HList.gvals (v := (.bool (r140.isNone))) rfl rfl rfl rfl (congrArg Value.bool hb148) (HVal.eqlPN Try.underlying24 rfl rfl) ?_
                    refine HList.gvals (v := (.pointer r144)) rfl rfl rfl rfl (congrArg Value.bool hb148) (HVal.move' rfl) ?_
                    refine HList.gvals (v := (.bool (r144.isNone))) rfl rfl rfl rfl (congrArg Value.bool hb148) (HVal.eqlPN Try.underlying28 rfl rfl) ?_
                    refine HList.gvals (v := (.bool ((r140.isNone) == (r144.isNone)))) rfl rfl rfl rfl (congrArg Value.bool hb148) (HVal.eqlB Try.underlying4 rfl rfl) ?_
                    refine HList.vals (v := (.bool ((r140.isNone) == (r144.isNone)))) rfl (HVal.pickT rfl hb148 rfl) ?_
                    refine HList.vals (v := (.bool ((r140.isNone) == (r144.isNone)))) rfl (HVal.assign' rfl) ?_
                    refine HList.nil ?_
                    refine nt ?_
                    exact ⟨((r140.isNone) == (r144.isNone)), r140, r144, ⟨rfl, rfl, rfl, rfl, rfl, rfl, rfl, rfl, rfl, rfl, rfl, trivial⟩, h⟩
                  · have h := hF hb149
                    clear hT hF
                    refine HList.gskips rfl rfl rfl rfl (congrArg Value.bool hb149) ?_
                    refine HList.gskips rfl rfl rfl rfl (congrArg Value.bool hb149) ?_
                    refine HList.gskips rfl rfl rfl rfl (congrArg Value.bool hb149) ?_
                    refine HList.gskips rfl rfl rfl rfl (congrArg Value.bool hb149) ?_
                    refine HList.gskips rfl rfl rfl rfl (congrArg Value.bool hb149) ?_
                    refine HList.vals (v := (.bool false)) rfl (HVal.pickF rfl hb149 rfl) ?_
                    refine HList.vals (v := (.bool false)) rfl (HVal.assign' rfl) ?_
                    refine HList.nil ?_
                    refine nt ?_
                    exact ⟨false, r140, r144, ⟨rfl, rfl, rfl, rfl, rfl, rfl, rfl, rfl, rfl, rfl, rfl, trivial⟩, h⟩
                · have h := hF hb147
                  clear hT hF
                  refine HList.gskips rfl rfl rfl rfl (congrArg Value.bool hb147) ?_
                  refine HList.gskips rfl rfl rfl rfl (congrArg Value.bool hb147) ?_
                  refine HList.gskips rfl rfl rfl rfl (congrArg Value.bool hb147) ?_
                  refine HList.vals (v := (.bool false)) rfl (HVal.pickF rfl hb147 rfl) ?_
                  refine HList.vals (v := (.bool false)) rfl (HVal.move' rfl) ?_
                  refine HList.gskips rfl rfl rfl rfl rfl ?_
                  refine HList.gskips rfl rfl rfl rfl rfl ?_
                  refine HList.gskips rfl rfl rfl rfl rfl ?_
                  refine HList.gskips rfl rfl rfl rfl rfl ?_
                  refine HList.gskips rfl rfl rfl rfl rfl ?_
                  refine HList.vals (v := (.bool false)) rfl (HVal.pickF rfl rfl rfl) ?_
                  refine HList.vals (v := (.bool false)) rfl (HVal.assign' rfl) ?_
                  refine HList.nil ?_
                  refine nt ?_
                  exact ⟨false, r140, r144, ⟨rfl, rfl, rfl, rfl, rfl, rfl, rfl, rfl, rfl, rfl, rfl, trivial⟩, h⟩
              · have h := hF hb137
                clear hT hF
                refine HW.skip ?_
                refine nt ?_
                exact ⟨y98, y37, y38, ⟨rfl, rfl, rfl, rfl, rfl, rfl, rfl, rfl, rfl, rfl, rfl, trivial⟩, h⟩
            · rintro ρ H_6 ⟨y150, y151, y152, hI, h⟩
              obtain ⟨ρ0, rfl⟩ : ∃ ρ0, ρ = (Env.set (Env.set (Env.set (Env.set (Env.set (Env.set (Env.set (Env.set (Env.set (Env.set (Env.set ρ0 17 (.pointer y152)) 16 (.pointer y151)) 7 (.bool y150)) 19 (.pointer (some ⟨H_2.size, 0, none⟩))) 18 (.int .i64 y39)) 14 (.pointer r19)) 12 (.pointer r15)) 10 (.pointer r11)) 8 (.pointer r7)) 2 (Sl.v p2)) 0 (.int .i64 p0)) := ⟨ρ, hI.eq⟩
              clear hI; unfold F3_6 at h
              refine HW.seq ?_
              refine HW.seq ?_
              refine HW.region ?_
              refine HList.vals (v := (.bool y150)) rfl (HVal.move' rfl) ?_
              refine HList.vals (v := (.bool (!y150))) rfl (HVal.not rfl) ?_
              refine HList.nil ?_
              refine nt ?_
              obtain ⟨hT, hF⟩ := h
              refine HW.cond (!y150) rfl (fun hb153 => ?_) (fun hb153 => ?_)
              · have h := hT hb153
                clear hT hF
                refine HW.seq ?_
                refine HW.region ?_
                refine HList.vals (v := (.bool false)) rfl (HVal.assign' rfl) ?_
                refine HList.nil ?_
                refine nt ?_
                refine HW.ret ?_
                refine tr ?_
                refine br ?_
                refine tr ?_
                refine tr ?_
                refine br ?_
                refine tr ?_
                exact ⟨_, resOf1 rfl Res1.t, ⟨false, rfl, h⟩⟩
              · have h := hF hb153
                clear hT hF
                refine HW.skip ?_
                refine nt ?_
                refine HW.cut (fun ρ H_7 => ∃ (y175 : Bool), Env.Is ρ [(0, (.int .i64 p0)), (2, (Sl.v p2)), (7, (.bool y150)), (8, (.pointer r7)), (10, (.pointer r11)), (12, (.pointer r15)), (14, (.pointer r19)), (16, (.pointer y151)), (17, (.pointer y152)), (18, (.int .i64 y39)), (137, (.bool y175))] ∧ F3_7 Q X2 p0 p2 y150 r7 r11 r15 r19 y151 y152 y39 y175 H_7) ?_ ?_
                · refine HW.region ?_
                  refine HList.vals (v := (.pointer y152)) rfl (HVal.move' rfl) ?_
                  refine HList.vals (v := (.bool (!y152.isNone))) rfl (HVal.neqPN Try.underlying28 rfl rfl) ?_
                  refine HList.vals (v := (.bool (!y152.isNone))) rfl (HVal.move' rfl) ?_
                  obtain ⟨hT, hF⟩ := h
                  rcases Bool.eq_false_or_eq_true (!y152.isNone) with hb164 | hb165
                  · have h := hT hb164
                    clear hT hF
                    refine HList.gvals (v := (.pointer y151)) rfl rfl rfl rfl (congrArg Value.bool hb164) (HVal.move' rfl) ?_
                    refine HList.gvals (v := (.pointer y152)) rfl rfl rfl rfl (congrArg Value.bool hb164) (HVal.move' rfl) ?_
                    obtain ⟨x167, x168, x169, x170, x171, c166, h⟩ := h
                    refine HList.gvals (v := (.agg #[(.int .i64 x167), (.int .i64 x168), (.int .i64 x169), (.int .i64 x170), (.int .i64 x171)])) rfl rfl rfl rfl (congrArg Value.bool hb164) (HVal.loadN [(.int .i64 x167), (.int .i64 x168), (.int .i64 x169), (.int .i64 x170), (.int .i64 x171)] Try.isAgg34 Try.sizeOf34 rfl c166) ?_
                    refine HList.gops rfl rfl rfl rfl (congrArg Value.bool hb164) (HOp.call' 11 [(.pointer y151), (.pointer y152), (.agg #[(.int .i64 x167), (.int .i64 x168), (.int .i64 x169), (.int .i64 x170), (.int .i64 x171)])] (cap := []) rfl rfl Try.call11 (walk11 h)) ?_
                    rintro _ H172 ⟨r174, rfl, h⟩
                    refine HList.gvals (v := (.bool (!r174))) rfl rfl rfl rfl (congrArg Value.bool hb164) (HVal.not rfl) ?_
                    refine HList.vals (v := (.bool (!r174))) rfl (HVal.pickT rfl hb164 rfl) ?_
                    refine HList.nil ?_
                    refine nt ?_
                    exact ⟨(!r174), ⟨rfl, rfl, rfl, rfl, rfl, rfl, rfl, rfl, rfl, rfl, rfl, trivial⟩, h⟩
                  · have h := hF hb165
                    clear hT hF
                    refine HList.gskips rfl rfl rfl rfl (congrArg Value.bool hb165) ?_
                    refine HList.gskips rfl rfl rfl rfl (congrArg Value.bool hb165) ?_
                    refine HList.gskips rfl rfl rfl rfl (congrArg Value.bool hb165) ?_
                    refine HList.gskips rfl rfl rfl rfl (congrArg Value.bool hb165) ?_
                    refine HList.gskips rfl rfl rfl rfl (congrArg Value.bool hb165) ?_
                    refine HList.vals (v := (.bool false)) rfl (HVal.pickF rfl hb165 rfl) ?_
                    refine HList.nil ?_
                    refine nt ?_
                    exact ⟨false, ⟨rfl, rfl, rfl, rfl, rfl, rfl, rfl, rfl, rfl, rfl, rfl, trivial⟩, h⟩
                · rintro ρ H_7 ⟨y175, hI, h⟩
                  obtain ⟨ρ0, rfl⟩ : ∃ ρ0, ρ = (Env.set (Env.set (Env.set (Env.set (Env.set (Env.set (Env.set (Env.set (Env.set (Env.set (Env.set ρ0 137 (.bool y175)) 18 (.int .i64 y39)) 17 (.pointer y152)) 16 (.pointer y151)) 14 (.pointer r19)) 12 (.pointer r15)) 10 (.pointer r11)) 8 (.pointer r7)) 7 (.bool y150)) 2 (Sl.v p2)) 0 (.int .i64 p0)) := ⟨ρ, hI.eq⟩
                  clear hI; unfold F3_7 at h
                  obtain ⟨hT, hF⟩ := h
                  refine HW.cond y175 rfl (fun hb176 => ?_) (fun hb176 => ?_)
                  · have h := hT hb176
                    clear hT hF
                    refine HW.seq ?_
                    refine HW.region ?_
                    refine HList.vals (v := (.bool false)) rfl (HVal.assign' rfl) ?_
                    refine HList.nil ?_
                    refine nt ?_
                    refine HW.ret ?_
                    refine br ?_
                    refine tr ?_
                    refine tr ?_
                    refine br ?_
                    refine tr ?_
                    exact ⟨_, resOf1 rfl Res1.t, ⟨false, rfl, h⟩⟩
                  · have h := hF hb176
                    clear hT hF
                    refine HW.skip ?_
                    refine nb ?_
                    refine nt ?_
                    refine HW.region ?_
                    refine HList.vals (v := (.int .i64 y39)) rfl (HVal.move' rfl) ?_
                    refine HList.vals (v := (.int .i64 (IntKind.i64.wrap (y39 + 1)))) rfl (HVal.add rfl rfl) ?_
                    refine HList.vals (v := (.int .i64 (IntKind.i64.wrap (y39 + 1)))) rfl (HVal.assign' rfl) ?_
                    refine HList.nil ?_
                    refine nt ?_
                    exact (hX2 _ _ _ _ _).1 h _ ⟨rfl, rfl, rfl, rfl, rfl, rfl, rfl, rfl, rfl, rfl, trivial⟩
        · have h := hF hb46
          clear hT hF
          refine HW.exit ?_
          refine te ?_
          refine te ?_
          refine be ?_
          refine nt ?_
          refine HW.seq ?_
          refine HW.region ?_
          refine HList.vals (v := (.bool true)) rfl (HVal.assign' rfl) ?_
          refine HList.nil ?_
          refine nt ?_
          refine HW.ret ?_
          exact ⟨_, resOf1 rfl Res1.t, ⟨true, rfl, h⟩⟩

def F12_1 (Q : (Option Addr) → Hp → Prop) (y6 : Int) (H_1 : Hp) : Prop :=
F9 y6 H_1 (fun (r9 : (Option Addr)) (r10 : Int) (H7 : Hp) => 
 ((decide (r10 ≠ 0)) = true → (Q none H7)) ∧
 ((decide (r10 ≠ 0)) = false → (Q r9 H7)))
def F12_2 (Q : (Option Addr) → Hp → Prop) (y1 : Int) (y4 : Bool) (H_2 : Hp) : Prop :=
(y4 = true → (F12_1 Q 3 H_2)) ∧
 (y4 = false → (F12_1 Q y1 H_2))
def F12 (p0 : Int) (H : Hp) (Q : (Option Addr) → Hp → Prop) : Prop :=
((decide (p0 < 1)) = true → (F12_2 Q p0 true H)) ∧
 ((decide (p0 < 1)) = false → (F12_2 Q p0 (decide ((8 : Int) < p0)) H))
set_option maxRecDepth 100000 in
set_option maxHeartbeats 4000000 in
theorem walk12 {w0 : World} {p0 : Int} {H : Hp} {Q : (Option Addr) → Hp → Prop} (h : F12 p0 H Q) :
    Good Try.prog w0 12 #[(.int .i64 p0)] H (fun v H => ∃ (r0 : (Option Addr)) , v = (.pointer r0) ∧ Q r0 H) := by
  unfold F12 at h
  refine Good.enter' (fn := Try.f12) Try.func12 rfl rfl rfl ?_
  refine HW.seq ?_
  refine HW.region ?_
  refine HList.vals (v := (.pointer none)) rfl (HVal.assign' rfl) ?_
  refine HList.nil ?_
  refine nt ?_
  refine HW.cut (fun ρ H_1 => ∃ (y6 : Int), Env.Is ρ [(0, (.int .i64 y6))] ∧ F12_1 Q y6 H_1) ?_ ?_
  · refine HW.cut (fun ρ H_2 => ∃ (y4 : Bool), Env.Is ρ [(0, (.int .i64 p0)), (10, (.bool y4))] ∧ F12_2 Q p0 y4 H_2) ?_ ?_
    · refine HW.region ?_
      refine HList.vals (v := (.int .i64 p0)) rfl (HVal.move' rfl) ?_
      refine HList.vals (v := (.bool (decide (p0 < 1)))) rfl (HVal.lss rfl rfl) ?_
      refine HList.vals (v := (.bool (decide (p0 < 1)))) rfl (HVal.move' rfl) ?_
      obtain ⟨hT, hF⟩ := h
      rcases Bool.eq_false_or_eq_true (decide (p0 < 1)) with hb2 | hb3
      · have h := hT hb2
        clear hT hF
        refine HList.gskips rfl rfl rfl rfl (congrArg Value.bool hb2) ?_
        refine HList.gskips rfl rfl rfl rfl (congrArg Value.bool hb2) ?_
        refine HList.vals (v := (.bool true)) rfl (HVal.pickT rfl hb2 rfl) ?_
        refine HList.nil ?_
        refine nt ?_
        exact ⟨true, ⟨rfl, rfl, trivial⟩, h⟩
      · have h := hF hb3
        clear hT hF
        refine HList.gvals (v := (.int .i64 p0)) rfl rfl rfl rfl (congrArg Value.bool hb3) (HVal.move' rfl) ?_
        refine HList.gvals (v := (.bool (decide ((8 : Int) < p0)))) rfl rfl rfl rfl (congrArg Value.bool hb3) (HVal.gtr rfl rfl) ?_
        refine HList.vals (v := (.bool (decide ((8 : Int) < p0)))) rfl (HVal.pickF rfl hb3 rfl) ?_
        refine HList.nil ?_
        refine nt ?_
        exact ⟨(decide ((8 : Int) < p0)), ⟨rfl, rfl, trivial⟩, h⟩
    · rintro ρ H_2 ⟨y4, hI, h⟩
      obtain ⟨ρ0, rfl⟩ : ∃ ρ0, ρ = (Env.set (Env.set ρ0 10 (.bool y4)) 0 (.int .i64 p0)) := ⟨ρ, hI.eq⟩
      clear hI; unfold F12_2 at h
      obtain ⟨hT, hF⟩ := h
      refine HW.cond y4 rfl (fun hb5 => ?_) (fun hb5 => ?_)
      · have h := hT hb5
        clear hT hF
        refine HW.region ?_
        refine HList.vals (v := (.int .i64 3)) rfl (HVal.assign' rfl) ?_
        refine HList.nil ?_
        refine nt ?_
        exact ⟨3, ⟨rfl, trivial⟩, h⟩
      · have h := hF hb5
        clear hT hF
        refine HW.skip ?_
        refine nt ?_
        exact ⟨p0, ⟨rfl, trivial⟩, h⟩
  · rintro ρ H_1 ⟨y6, hI, h⟩
    obtain ⟨ρ0, rfl⟩ : ∃ ρ0, ρ = (Env.set ρ0 0 (.int .i64 y6)) := ⟨ρ, hI.eq⟩
    clear hI; unfold F12_1 at h
    refine HW.seq ?_
    refine HW.region ?_
    refine HList.vals (v := (.int .i64 y6)) rfl (HVal.move' rfl) ?_
    refine HList.ops' rfl (HOp.call' 9 [(.int .i64 y6)] (cap := []) rfl rfl Try.call9 (walk9 h)) ?_
    rintro _ H7 ⟨r9, r10, rfl, h⟩
    refine HList.vals (v := (.tuple #[(.pointer r9), (.int .i64 r10)])) rfl (HVal.move' rfl) ?_
    refine HList.vals (v := (.pointer r9)) rfl (HVal.extract rfl rfl) ?_
    refine HList.vals (v := (.int .i64 r10)) rfl (HVal.extract rfl rfl) ?_
    refine HList.vals (v := (.pointer r9)) rfl (HVal.assign' rfl) ?_
    refine HList.vals (v := (.int .i64 r10)) rfl (HVal.assign' rfl) ?_
    refine HList.nil ?_
    refine nt ?_
    refine HW.seq ?_
    refine HW.seq ?_
    refine HW.region ?_
    refine HList.vals (v := (.int .i64 r10)) rfl (HVal.move' rfl) ?_
    refine HList.vals (v := (.bool (decide (r10 ≠ 0)))) rfl (HVal.neqI rfl rfl) ?_
    refine HList.nil ?_
    refine nt ?_
    obtain ⟨hT, hF⟩ := h
    refine HW.cond (decide (r10 ≠ 0)) rfl (fun hb11 => ?_) (fun hb11 => ?_)
    · have h := hT hb11
      clear hT hF
      refine HW.seq ?_
      refine HW.region ?_
      refine HList.vals (v := (.pointer none)) rfl (HVal.assign' rfl) ?_
      refine HList.nil ?_
      refine nt ?_
      refine HW.ret ?_
      refine tr ?_
      exact ⟨_, resOf1 rfl Res1.t, ⟨none, rfl, h⟩⟩
    · have h := hF hb11
      clear hT hF
      refine HW.skip ?_
      refine nt ?_
      refine HW.seq ?_
      refine HW.region ?_
      refine HList.vals (v := (.pointer r9)) rfl (HVal.move' rfl) ?_
      refine HList.vals (v := (.pointer r9)) rfl (HVal.assign' rfl) ?_
      refine HList.nil ?_
      refine nt ?_
      refine HW.ret ?_
      exact ⟨_, resOf1 rfl Res1.t, ⟨r9, rfl, h⟩⟩

def F15_L1b (Q : Int → Hp → Prop) (X1 : Int → Hp → Prop) (y2 : Sl) (y3 : Int) (y1 : Int) (H_1 : Hp) : Prop :=
((decide (y1 < ((y2).n : Int))) = true → (∃ a5 : Addr, (y2).b = some a5 ∧ (0 : Int) ≤ y1 ∧ y1 < ((y2).n : Int) ∧ (
 ∃ x10 : Int, cell H_1 (Addr.add a5 (y1.toNat * 2)) = some (.int .i64 x10) ∧ (
 ((decide (x10 = y3)) = true → (Q y1 H_1)) ∧
 ((decide (x10 = y3)) = false → (X1 (IntKind.i64.wrap (y1 + 1)) H_1)))))) ∧
 ((decide (y1 < ((y2).n : Int))) = false → (Q (-1) H_1))
def F15_L1 (Q : Int → Hp → Prop) (y2 : Sl) (y3 : Int) (y1 : Int) (H_1 : Hp) : Prop :=
  ∀ X1 : Int → Hp → Prop, (∀ (y1 : Int) (H_1 : Hp), F15_L1b Q X1 y2 y3 y1 H_1 → X1 y1 H_1) → X1 y1 H_1
def F15 (p0 : Sl) (p1 : Int) (H : Hp) (Q : Int → Hp → Prop) : Prop :=
F15_L1 Q p0 p1 0 H
set_option maxRecDepth 100000 in
set_option maxHeartbeats 4000000 in
theorem walk15 {w0 : World} {p0 : Sl} {p1 : Int} {H : Hp} {Q : Int → Hp → Prop} (h : F15 p0 p1 H Q) :
    Good Try.prog w0 15 #[(Sl.v p0), (.int .i64 p1)] H (fun v H => ∃ (r0 : Int) , v = (.int .i64 r0) ∧ Q r0 H) := by
  unfold F15 at h
  refine Good.enter' (fn := Try.f15) Try.func15 rfl rfl rfl ?_
  refine HW.seq ?_
  refine HW.region ?_
  refine HList.vals (v := (.int .i64 0)) rfl (HVal.assign' rfl) ?_
  refine HList.nil ?_
  refine nt ?_
  refine HW.seq ?_
  refine HW.seq ?_
  refine HW.region ?_
  refine HList.vals (v := (.int .i64 0)) rfl (HVal.assign' rfl) ?_
  refine HList.nil ?_
  refine nt ?_
  refine HW.block ?_
  refine HW.loop' (fun L1 hL1 => ?_)
  obtain ⟨X1, hX1⟩ : ∃ X1 : Int → Hp → Prop, ∀ (y1 : Int) (H_1 : Hp), X1 y1 H_1 ↔ ∀ ρ, Env.Is ρ [(0, (Sl.v p0)), (1, (.int .i64 p1)), (5, (.int .i64 y1))] → L1 ρ H_1 := ⟨_, fun _ _ => Iff.rfl⟩
  refine (hX1 _ _).1 (h X1 ?_) _ ?_
  rotate_left
  · exact ⟨rfl, rfl, rfl, trivial⟩
  clear h
  intro y1 H_1 h
  refine (hX1 _ _).2 fun ρ hI => ?_
  obtain ⟨ρ0, rfl⟩ : ∃ ρ0, ρ = (Env.set (Env.set (Env.set ρ0 5 (.int .i64 y1)) 1 (.int .i64 p1)) 0 (Sl.v p0)) := ⟨ρ, hI.eq⟩
  clear hI; unfold F15_L1b at h; refine hL1 _ _ ?_
  refine HW.seq ?_
  refine HW.seq ?_
  refine HW.region ?_
  refine HList.vals (v := (.int .i64 y1)) rfl (HVal.move' rfl) ?_
  refine HList.vals (v := (Sl.v p0)) rfl (HVal.move' rfl) ?_
  refine HList.vals (v := (.int .i64 ((p0).n : Int))) rfl (HVal.len Try.runUnderlying38 rfl) ?_
  refine HList.vals (v := (.bool (decide (y1 < ((p0).n : Int))))) rfl (HVal.lss rfl rfl) ?_
  refine HList.nil ?_
  refine nt ?_
  obtain ⟨hT, hF⟩ := h
  refine HW.cond (decide (y1 < ((p0).n : Int))) rfl (fun hb4 => ?_) (fun hb4 => ?_)
  · have h := hT hb4
    clear hT hF
    refine HW.skip ?_
    refine nt ?_
    refine HW.seq ?_
    refine HW.block ?_
    refine HW.seq ?_
    refine HW.region ?_
    refine HList.vals (v := (Sl.v p0)) rfl (HVal.move' rfl) ?_
    refine HList.vals (v := (.int .i64 y1)) rfl (HVal.move' rfl) ?_
    obtain ⟨a5, e6, b7, b8, h⟩ := h
    refine HList.vals (v := (.pointer (some (Addr.add a5 (y1.toNat * 2))))) rfl (HVal.indexAddr Try.runUnderlying38 Try.sizeOf43 (Sl.v_some rfl e6) rfl b7 b8) ?_
    refine HList.vals (v := (.pointer (some (Addr.add a5 (y1.toNat * 2))))) rfl (HVal.fieldAddr0 Try.runUnderlying43 rfl rfl Try.sizeOf3 rfl) ?_
    obtain ⟨x10, c9, h⟩ := h
    refine HList.vals (v := (.int .i64 x10)) rfl (HVal.load1 Try.isAgg3 rfl c9) ?_
    refine HList.vals (v := (.int .i64 p1)) rfl (HVal.move' rfl) ?_
    refine HList.vals (v := (.bool (decide (x10 = p1)))) rfl (HVal.eqlI rfl rfl) ?_
    refine HList.nil ?_
    refine nt ?_
    obtain ⟨hT, hF⟩ := h
    refine HW.cond (decide (x10 = p1)) rfl (fun hb11 => ?_) (fun hb11 => ?_)
    · have h := hT hb11
      clear hT hF
      refine HW.seq ?_
      refine HW.region ?_
      refine HList.vals (v := (.int .i64 y1)) rfl (HVal.move' rfl) ?_
      refine HList.vals (v := (.int .i64 y1)) rfl (HVal.assign' rfl) ?_
      refine HList.nil ?_
      refine nt ?_
      refine HW.ret ?_
      refine br ?_
      refine tr ?_
      refine tr ?_
      refine br ?_
      refine tr ?_
      exact ⟨_, resOf1 rfl Res1.t, ⟨y1, rfl, h⟩⟩
    · have h := hF hb11
      clear hT hF
      refine HW.skip ?_
      refine nb ?_
      refine nt ?_
      refine HW.region ?_
      refine HList.vals (v := (.int .i64 y1)) rfl (HVal.move' rfl) ?_
      refine HList.vals (v := (.int .i64 (IntKind.i64.wrap (y1 + 1)))) rfl (HVal.add rfl rfl) ?_
      refine HList.vals (v := (.int .i64 (IntKind.i64.wrap (y1 + 1)))) rfl (HVal.assign' rfl) ?_
      refine HList.nil ?_
      refine nt ?_
      exact (hX1 _ _).1 h _ ⟨rfl, rfl, rfl, trivial⟩
  · have h := hF hb4
    clear hT hF
    refine HW.exit ?_
    refine te ?_
    refine te ?_
    refine be ?_
    refine nt ?_
    refine HW.seq ?_
    refine HW.region ?_
    refine HList.vals (v := (.int .i64 (-1))) rfl (HVal.assign' rfl) ?_
    refine HList.nil ?_
    refine nt ?_
    refine HW.ret ?_
    exact ⟨_, resOf1 rfl Res1.t, ⟨(-1), rfl, h⟩⟩

def F17_1 (Q : Sl → Hp → Prop) (y23 : Sl) (H_1 : Hp) : Prop :=
Q y23 H_1
def F17_3 (Q : Sl → Hp → Prop) (X2 : Sl → Int → Hp → Prop) (y6 : Sl) (y7 : Int) (y8 : Int) (y22 : Sl) (H_3 : Hp) : Prop :=
X2 y22 (IntKind.i64.wrap (y8 + 1)) H_3
def F17_L2b (Q : Sl → Hp → Prop) (X2 : Sl → Int → Hp → Prop) (y3 : Sl) (y4 : Int) (y1 : Sl) (y2 : Int) (H_2 : Hp) : Prop :=
((decide (y2 < ((y3).n : Int))) = true → (((decide (y2 ≠ y4)) = true → (∃ a10 : Addr, (y3).b = some a10 ∧ (0 : Int) ≤ y2 ∧ y2 < ((y3).n : Int) ∧ (
 ∃ (x15 : Int) (x16 : Sl), cells H_2 (Addr.add a10 (y2.toNat * 2)) [(.int .i64 x15), (Sl.v x16)] 0 ∧ (
 ∀ H17 : Hp, H17 = Array.push H_2 (.cells #[(.int .i64 x15), (Sl.v x16)] 43) → (
 AppendF H17 43 2 32 #[(.int .i64 0), (Sl.v Sl.nil)] y1 ((Sl.mk (some ⟨H_2.size, 0, none⟩) 1 1)).b ((Sl.mk (some ⟨H_2.size, 0, none⟩) 1 1)).n (fun (r21 : Sl) (H19 : Hp) => 
 F17_3 Q X2 y3 y4 y2 r21 H19)))))) ∧
 ((decide (y2 ≠ y4)) = false → (F17_3 Q X2 y3 y4 y2 y1 H_2)))) ∧
 ((decide (y2 < ((y3).n : Int))) = false → (F17_1 Q y1 H_2))
def F17_L2 (Q : Sl → Hp → Prop) (y3 : Sl) (y4 : Int) (y1 : Sl) (y2 : Int) (H_2 : Hp) : Prop :=
  ∀ X2 : Sl → Int → Hp → Prop, (∀ (y1 : Sl) (y2 : Int) (H_2 : Hp), F17_L2b Q X2 y3 y4 y1 y2 H_2 → X2 y1 y2 H_2) → X2 y1 y2 H_2
def F17 (p0 : Sl) (p1 : Int) (H : Hp) (Q : Sl → Hp → Prop) : Prop :=
F17_L2 Q p0 p1 Sl.nil 0 H
set_option maxRecDepth 100000 in
set_option maxHeartbeats 4000000 in
theorem walk17 {w0 : World} {p0 : Sl} {p1 : Int} {H : Hp} {Q : Sl → Hp → Prop} (h : F17 p0 p1 H Q) :
    Good Try.prog w0 17 #[(Sl.v p0), (.int .i64 p1)] H (fun v H => ∃ (r0 : Sl) , v = (Sl.v r0) ∧ Q r0 H) := by
  unfold F17 at h
  refine Good.enter' (fn := Try.f17) Try.func17 rfl rfl rfl ?_
  refine HW.seq ?_
  refine HW.region ?_
  refine HList.vals (v := (Sl.v Sl.nil)) rfl (HVal.assign' rfl) ?_
  refine HList.nil ?_
  refine nt ?_
  refine HW.seq ?_
  refine HW.region ?_
  refine HList.vals (v := (Sl.v Sl.nil)) rfl (HVal.assign' rfl) ?_
  refine HList.nil ?_
  refine nt ?_
  refine HW.cut (fun ρ H_1 => ∃ (y23 : Sl), Env.Is ρ [(5, (Sl.v y23))] ∧ F17_1 Q y23 H_1) ?_ ?_
  · refine HW.seq ?_
    refine HW.region ?_
    refine HList.vals (v := (.int .i64 0)) rfl (HVal.assign' rfl) ?_
    refine HList.nil ?_
    refine nt ?_
    refine HW.block ?_
    refine HW.loop' (fun L2 hL2 => ?_)
    obtain ⟨X2, hX2⟩ : ∃ X2 : Sl → Int → Hp → Prop, ∀ (y1 : Sl) (y2 : Int) (H_2 : Hp), X2 y1 y2 H_2 ↔ ∀ ρ, Env.Is ρ [(0, (Sl.v p0)), (1, (.int .i64 p1)), (5, (Sl.v y1)), (6, (.int .i64 y2))] → L2 ρ H_2 := ⟨_, fun _ _ _ => Iff.rfl⟩
    refine (hX2 _ _ _).1 (h X2 ?_) _ ?_
    rotate_left
    · exact ⟨rfl, rfl, rfl, rfl, trivial⟩
    clear h
    intro y1 y2 H_2 h
    refine (hX2 _ _ _).2 fun ρ hI => ?_
    obtain ⟨ρ0, rfl⟩ : ∃ ρ0, ρ = (Env.set (Env.set (Env.set (Env.set ρ0 6 (.int .i64 y2)) 5 (Sl.v y1)) 1 (.int .i64 p1)) 0 (Sl.v p0)) := ⟨ρ, hI.eq⟩
    clear hI; unfold F17_L2b at h; refine hL2 _ _ ?_
    refine HW.seq ?_
    refine HW.seq ?_
    refine HW.region ?_
    refine HList.vals (v := (.int .i64 y2)) rfl (HVal.move' rfl) ?_
    refine HList.vals (v := (Sl.v p0)) rfl (HVal.move' rfl) ?_
    refine HList.vals (v := (.int .i64 ((p0).n : Int))) rfl (HVal.len Try.runUnderlying38 rfl) ?_
    refine HList.vals (v := (.bool (decide (y2 < ((p0).n : Int))))) rfl (HVal.lss rfl rfl) ?_
    refine HList.nil ?_
    refine nt ?_
    obtain ⟨hT, hF⟩ := h
    refine HW.cond (decide (y2 < ((p0).n : Int))) rfl (fun hb5 => ?_) (fun hb5 => ?_)
    · have h := hT hb5
      clear hT hF
      refine HW.skip ?_
      refine nt ?_
      refine HW.cut (fun ρ H_3 => ∃ (y22 : Sl), Env.Is ρ [(0, (Sl.v p0)), (1, (.int .i64 p1)), (6, (.int .i64 y2)), (5, (Sl.v y22))] ∧ F17_3 Q X2 p0 p1 y2 y22 H_3) ?_ ?_
      · refine HW.block ?_
        refine HW.seq ?_
        refine HW.region ?_
        refine HList.vals (v := (.int .i64 y2)) rfl (HVal.move' rfl) ?_
        refine HList.vals (v := (.int .i64 p1)) rfl (HVal.move' rfl) ?_
        refine HList.vals (v := (.bool (decide (y2 ≠ p1)))) rfl (HVal.neqI rfl rfl) ?_
        refine HList.nil ?_
        refine nt ?_
        obtain ⟨hT, hF⟩ := h
        refine HW.cond (decide (y2 ≠ p1)) rfl (fun hb9 => ?_) (fun hb9 => ?_)
        · have h := hT hb9
          clear hT hF
          refine HW.region ?_
          refine HList.vals (v := (Sl.v y1)) rfl (HVal.move' rfl) ?_
          refine HList.vals (v := (Sl.v p0)) rfl (HVal.move' rfl) ?_
          refine HList.vals (v := (.int .i64 y2)) rfl (HVal.move' rfl) ?_
          obtain ⟨a10, e11, b12, b13, h⟩ := h
          refine HList.vals (v := (.pointer (some (Addr.add a10 (y2.toNat * 2))))) rfl (HVal.indexAddr Try.runUnderlying38 Try.sizeOf43 (Sl.v_some rfl e11) rfl b12 b13) ?_
          obtain ⟨x15, x16, c14, h⟩ := h
          refine HList.vals (v := (.agg #[(.int .i64 x15), (Sl.v x16)])) rfl (HVal.loadN [(.int .i64 x15), (Sl.v x16)] Try.isAgg43 Try.sizeOf43 rfl c14) ?_
          refine HList.ops' rfl (HOp.buildSlice' (zs := [(.int .i64 0), (Sl.v Sl.nil)]) (cs := [(.int .i64 x15), (Sl.v x16)]) Try.runUnderlying38 Try.sizeOf43 Try.zeroValue43 (by decide) (by kernel_rfl) rfl (by decide)) ?_
          rintro _ H17 ⟨rfl, e18⟩
          replace h := h H17 e18
          refine HList.ops' rfl (HOp.append (k := 2) (b := 32) Try.runUnderlying38 Try.runUnderlying38 Try.typeInfo43 rfl rfl Try.zeroValue43 rfl rfl h) ?_
          rintro _ H19 ⟨r21, rfl, h⟩
          refine HList.vals (v := (Sl.v r21)) rfl (HVal.assign' rfl) ?_
          refine HList.nil ?_
          refine nb ?_
          refine nt ?_
          exact ⟨r21, ⟨rfl, rfl, rfl, rfl, trivial⟩, h⟩
        · have h := hF hb9
          clear hT hF
          refine HW.skip ?_
          refine nb ?_
          refine nt ?_
          exact ⟨y1, ⟨rfl, rfl, rfl, rfl, trivial⟩, h⟩
      · rintro ρ H_3 ⟨y22, hI, h⟩
        obtain ⟨ρ0, rfl⟩ : ∃ ρ0, ρ = (Env.set (Env.set (Env.set (Env.set ρ0 5 (Sl.v y22)) 6 (.int .i64 y2)) 1 (.int .i64 p1)) 0 (Sl.v p0)) := ⟨ρ, hI.eq⟩
        clear hI; unfold F17_3 at h
        refine HW.region ?_
        refine HList.vals (v := (.int .i64 y2)) rfl (HVal.move' rfl) ?_
        refine HList.vals (v := (.int .i64 (IntKind.i64.wrap (y2 + 1)))) rfl (HVal.add rfl rfl) ?_
        refine HList.vals (v := (.int .i64 (IntKind.i64.wrap (y2 + 1)))) rfl (HVal.assign' rfl) ?_
        refine HList.nil ?_
        refine nt ?_
        exact (hX2 _ _ _).1 h _ ⟨rfl, rfl, rfl, rfl, trivial⟩
    · have h := hF hb5
      clear hT hF
      refine HW.exit ?_
      refine te ?_
      refine te ?_
      refine be ?_
      refine nt ?_
      exact ⟨y1, ⟨rfl, trivial⟩, h⟩
  · rintro ρ H_1 ⟨y23, hI, h⟩
    obtain ⟨ρ0, rfl⟩ : ∃ ρ0, ρ = (Env.set ρ0 5 (Sl.v y23)) := ⟨ρ, hI.eq⟩
    clear hI; unfold F17_1 at h
    refine HW.seq ?_
    refine HW.region ?_
    refine HList.vals (v := (Sl.v y23)) rfl (HVal.move' rfl) ?_
    refine HList.vals (v := (Sl.v y23)) rfl (HVal.assign' rfl) ?_
    refine HList.nil ?_
    refine nt ?_
    refine HW.ret ?_
    exact ⟨_, resOf1 rfl Res1.t, ⟨y23, rfl, h⟩⟩

def F18_3 (Q : Bool → Hp → Prop) (X1 : Int → Hp → Prop) (y52 : (Option Addr)) (y53 : Sl) (y54 : Sl) (y55 : Int) (y58 : Bool) (H_3 : Hp) : Prop :=
(y58 = true → (Q false H_3)) ∧
 (y58 = false → (X1 (IntKind.i64.wrap (y55 + 1)) H_3))
def F18_2 (Q : Bool → Hp → Prop) (X1 : Int → Hp → Prop) (y19 : (Option Addr)) (y20 : Sl) (y21 : Sl) (y22 : Int) (y23 : Int) (y26 : Bool) (H_2 : Hp) : Prop :=
(y26 = true → (Q false H_2)) ∧
 (y26 = false → (∃ a42 : Addr, (y21).b = some a42 ∧ (0 : Int) ≤ y22 ∧ y22 < ((y21).n : Int) ∧ (
 ∃ x47 : Int, cell H_2 (Addr.add a42 (y22.toNat * 1)) = some (.int .i64 x47) ∧ (
 F22 y19 x47 H_2 (fun (r50 : Sl) (r51 : Int) (H48 : Hp) => 
 ((decide (r51 ≠ 0)) = true → (F18_3 Q X1 y19 y20 y21 y22 true H48)) ∧
 ((decide (r51 ≠ 0)) = false → (∃ a59 : Addr, (y20).b = some a59 ∧ (0 : Int) ≤ y23 ∧ y23 < ((y20).n : Int) ∧ (
 ∃ x64 : Sl, cell H48 (Addr.add (Addr.add a59 (y23.toNat * 2)) 1) = some (Sl.v x64) ∧ (
 F23 r50 x64 H48 (fun (r67 : Bool) (H65 : Hp) => 
 F18_3 Q X1 y19 y20 y21 y22 (!r67) H65))))))))))
def F18_L1b (Q : Bool → Hp → Prop) (X1 : Int → Hp → Prop) (y6 : (Option Addr)) (y7 : Sl) (y8 : Sl) (y5 : Int) (H_1 : Hp) : Prop :=
((decide (y5 < ((y8).n : Int))) = true → (∃ a10 : Addr, (y8).b = some a10 ∧ (0 : Int) ≤ y5 ∧ y5 < ((y8).n : Int) ∧ (
 ∃ x15 : Int, cell H_1 (Addr.add a10 (y5.toNat * 1)) = some (.int .i64 x15) ∧ (
 F15 y7 x15 H_1 (fun (r18 : Int) (H16 : Hp) => 
 ((decide (r18 < 0)) = true → (F18_2 Q X1 y6 y7 y8 y5 r18 true H16)) ∧
 ((decide (r18 < 0)) = false → (((decide ((0 : Int) < y5)) = true → (∃ a29 : Addr, (y8).b = some a29 ∧ (0 : Int) ≤ y5 ∧ y5 < ((y8).n : Int) ∧ (
 ∃ x34 : Int, cell H16 (Addr.add a29 (y5.toNat * 1)) = some (.int .i64 x34) ∧ (
 ∃ a35 : Addr, (y8).b = some a35 ∧ (0 : Int) ≤ (IntKind.i64.wrap (y5 - 1)) ∧ (IntKind.i64.wrap (y5 - 1)) < ((y8).n : Int) ∧ (
 ∃ x40 : Int, cell H16 (Addr.add a35 ((IntKind.i64.wrap (y5 - 1)).toNat * 1)) = some (.int .i64 x40) ∧ (
 F18_2 Q X1 y6 y7 y8 y5 r18 (decide (x34 ≤ x40)) H16)))))) ∧
 ((decide ((0 : Int) < y5)) = false → (F18_2 Q X1 y6 y7 y8 y5 r18 false H16))))))))) ∧
 ((decide (y5 < ((y8).n : Int))) = false → (Q true H_1))
def F18_L1 (Q : Bool → Hp → Prop) (y6 : (Option Addr)) (y7 : Sl) (y8 : Sl) (y5 : Int) (H_1 : Hp) : Prop :=
  ∀ X1 : Int → Hp → Prop, (∀ (y5 : Int) (H_1 : Hp), F18_L1b Q X1 y6 y7 y8 y5 H_1 → X1 y5 H_1) → X1 y5 H_1
def F18 (p0 : (Option Addr)) (p1 : Sl) (H : Hp) (Q : Bool → Hp → Prop) : Prop :=
F21 p0 H (fun (r3 : Sl) (H1 : Hp) => 
 ((decide (((r3).n : Int) ≠ ((p1).n : Int))) = true → (Q false H1)) ∧
 ((decide (((r3).n : Int) ≠ ((p1).n : Int))) = false → (F18_L1 Q p0 p1 r3 0 H1)))
set_option maxRecDepth 100000 in
set_option maxHeartbeats 4000000 in
theorem walk18 {w0 : World} {p0 : (Option Addr)} {p1 : Sl} {H : Hp} {Q : Bool → Hp → Prop} (h : F18 p0 p1 H Q) :
    Good Try.prog w0 18 #[(.pointer p0), (Sl.v p1)] H (fun v H => ∃ (r0 : Bool) , v = (.bool r0) ∧ Q r0 H) := by
  unfold F18 at h
  refine Good.enter' (fn := Try.f18) Try.func18 rfl rfl rfl ?_
  refine HW.seq ?_
  refine HW.region ?_
  refine HList.vals (v := (.bool false)) rfl (HVal.assign' rfl) ?_
  refine HList.nil ?_
  refine nt ?_
  refine HW.seq ?_
  refine HW.region ?_
  refine HList.vals (v := (.pointer p0)) rfl (HVal.move' rfl) ?_
  refine HList.ops' rfl (HOp.call' 21 [(.pointer p0)] (cap := []) rfl rfl Try.call21 (walk21 h)) ?_
  rintro _ H1 ⟨r3, rfl, h⟩
  refine HList.vals (v := (Sl.v r3)) rfl (HVal.assign' rfl) ?_
  refine HList.nil ?_
  refine nt ?_
  refine HW.seq ?_
  refine HW.seq ?_
  refine HW.region ?_
  refine HList.vals (v := (Sl.v r3)) rfl (HVal.move' rfl) ?_
  refine HList.vals (v := (.int .i64 ((r3).n : Int))) rfl (HVal.len Try.runUnderlying50 rfl) ?_
  refine HList.vals (v := (Sl.v p1)) rfl (HVal.move' rfl) ?_
  refine HList.vals (v := (.int .i64 ((p1).n : Int))) rfl (HVal.len Try.runUnderlying38 rfl) ?_
  refine HList.vals (v := (.bool (decide (((r3).n : Int) ≠ ((p1).n : Int))))) rfl (HVal.neqI rfl rfl) ?_
  refine HList.nil ?_
  refine nt ?_
  obtain ⟨hT, hF⟩ := h
  refine HW.cond (decide (((r3).n : Int) ≠ ((p1).n : Int))) rfl (fun hb4 => ?_) (fun hb4 => ?_)
  · have h := hT hb4
    clear hT hF
    refine HW.seq ?_
    refine HW.region ?_
    refine HList.vals (v := (.bool false)) rfl (HVal.assign' rfl) ?_
    refine HList.nil ?_
    refine nt ?_
    refine HW.ret ?_
    refine tr ?_
    exact ⟨_, resOf1 rfl Res1.t, ⟨false, rfl, h⟩⟩
  · have h := hF hb4
    clear hT hF
    refine HW.skip ?_
    refine nt ?_
    refine HW.seq ?_
    refine HW.seq ?_
    refine HW.region ?_
    refine HList.vals (v := (.int .i64 0)) rfl (HVal.assign' rfl) ?_
    refine HList.nil ?_
    refine nt ?_
    refine HW.block ?_
    refine HW.loop' (fun L1 hL1 => ?_)
    obtain ⟨X1, hX1⟩ : ∃ X1 : Int → Hp → Prop, ∀ (y5 : Int) (H_1 : Hp), X1 y5 H_1 ↔ ∀ ρ, Env.Is ρ [(0, (.pointer p0)), (1, (Sl.v p1)), (5, (Sl.v r3)), (6, (.int .i64 y5))] → L1 ρ H_1 := ⟨_, fun _ _ => Iff.rfl⟩
    refine (hX1 _ _).1 (h X1 ?_) _ ?_
    rotate_left
    · exact ⟨rfl, rfl, rfl, rfl, trivial⟩
    clear h
    intro y5 H_1 h
    refine (hX1 _ _).2 fun ρ hI => ?_
    obtain ⟨ρ0, rfl⟩ : ∃ ρ0, ρ = (Env.set (Env.set (Env.set (Env.set ρ0 6 (.int .i64 y5)) 5 (Sl.v r3)) 1 (Sl.v p1)) 0 (.pointer p0)) := ⟨ρ, hI.eq⟩
    clear hI; unfold F18_L1b at h; refine hL1 _ _ ?_
    refine HW.seq ?_
    refine HW.seq ?_
    refine HW.region ?_
    refine HList.vals (v := (.int .i64 y5)) rfl (HVal.move' rfl) ?_
    refine HList.vals (v := (Sl.v r3)) rfl (HVal.move' rfl) ?_
    refine HList.vals (v := (.int .i64 ((r3).n : Int))) rfl (HVal.len Try.runUnderlying50 rfl) ?_
    refine HList.vals (v := (.bool (decide (y5 < ((r3).n : Int))))) rfl (HVal.lss rfl rfl) ?_
    refine HList.nil ?_
    refine nt ?_
    obtain ⟨hT, hF⟩ := h
    refine HW.cond (decide (y5 < ((r3).n : Int))) rfl (fun hb9 => ?_) (fun hb9 => ?_)
    · have h := hT hb9
      clear hT hF
      refine HW.skip ?_
      refine nt ?_
      refine HW.seq ?_
      refine HW.block ?_
      refine HW.seq ?_
      refine HW.region ?_
      refine HList.vals (v := (Sl.v p1)) rfl (HVal.move' rfl) ?_
      refine HList.vals (v := (Sl.v r3)) rfl (HVal.move' rfl) ?_
      refine HList.vals (v := (.int .i64 y5)) rfl (HVal.move' rfl) ?_
      obtain ⟨a10, e11, b12, b13, h⟩ := h
      refine HList.vals (v := (.pointer (some (Addr.add a10 (y5.toNat * 1))))) rfl (HVal.indexAddr Try.runUnderlying50 Try.sizeOf3 (Sl.v_some rfl e11) rfl b12 b13) ?_
      obtain ⟨x15, c14, h⟩ := h
      refine HList.vals (v := (.int .i64 x15)) rfl (HVal.load1 Try.isAgg3 rfl c14) ?_
      refine HList.ops' rfl (HOp.call' 15 [(Sl.v p1), (.int .i64 x15)] (cap := []) rfl rfl Try.call15 (walk15 h)) ?_
      rintro _ H16 ⟨r18, rfl, h⟩
      refine HList.vals (v := (.int .i64 r18)) rfl (HVal.assign' rfl) ?_
      refine HList.nil ?_
      refine nt ?_
      refine HW.seq ?_
      refine HW.cut (fun ρ H_2 => ∃ (y26 : Bool), Env.Is ρ [(0, (.pointer p0)), (1, (Sl.v p1)), (5, (Sl.v r3)), (6, (.int .i64 y5)), (7, (.int .i64 r18)), (46, (.bool y26))] ∧ F18_2 Q X1 p0 p1 r3 y5 r18 y26 H_2) ?_ ?_
      · refine HW.draw mixed [(0, some []), (1, some []), (2, some []), (3, some []), (4, some []), (5, some []), (6, some []), (7, some []), (8, some []), (9, some []), (10, some []), (11, some []), (12, some []), (13, some []), (14, some []), (15, some []), (16, some []), (17, some [])] rfl (by kernel_rfl) (by kernel_rfl) ?_
        refine HPlan.takev (v := (.int .i64 r18)) rfl rfl (fun _ => HVal.move' rfl) ?_
        refine HPlan.takev (v := (.bool (decide (r18 < 0)))) rfl rfl (fun _ => HVal.lss rfl rfl) ?_
        refine HPlan.takev (v := (.bool (decide (r18 < 0)))) rfl rfl (fun _ => HVal.move' rfl) ?_
        obtain ⟨hT, hF⟩ := h
        rcases Bool.eq_false_or_eq_true (decide (r18 < 0)) with hb24 | hb25
        · have h := hT hb24
          clear hT hF
          refine HPlan.takegskip rfl rfl rfl rfl (congrArg Value.bool hb24) ?_
          refine HPlan.takegskip rfl rfl rfl rfl (congrArg Value.bool hb24) ?_
          refine HPlan.takegskip rfl rfl rfl rfl (congrArg Value.bool hb24) ?_
          refine HPlan.takeuskip rfl rfl rfl rfl rfl ?_
          refine HPlan.takeuskip rfl rfl rfl rfl rfl ?_
          refine HPlan.takeuskip rfl rfl rfl rfl rfl ?_
          refine HPlan.takeuskip rfl rfl rfl rfl rfl ?_
          refine HPlan.takeuskip rfl rfl rfl rfl rfl ?_
          refine HPlan.takeuskip rfl rfl rfl rfl rfl ?_
          refine HPlan.takeuskip rfl rfl rfl rfl rfl ?_
          refine HPlan.takeuskip rfl rfl rfl rfl rfl ?_
          refine HPlan.takeuskip rfl rfl rfl rfl rfl ?_
          refine HPlan.takeuskip rfl rfl rfl rfl rfl ?_
          refine HPlan.takegskip rfl rfl rfl rfl (congrArg Value.bool hb24) ?_
          refine HPlan.takev (v := (.bool true)) rfl rfl (fun _ => HVal.pickT rfl hb24 rfl) ?_
          refine HPlan.done ?_
          refine nt ?_
          exact ⟨true, ⟨rfl, rfl, rfl, rfl, rfl, rfl, trivial⟩, h⟩
        · have h := hF hb25
          clear hT hF
          refine HPlan.gtakev (v := (.int .i64 y5)) rfl rfl rfl rfl rfl (congrArg Value.bool hb25) (fun _ => HVal.move' rfl) ?_
          refine HPlan.gtakev (v := (.bool (decide ((0 : Int) < y5)))) rfl rfl rfl rfl rfl (congrArg Value.bool hb25) (fun _ => HVal.gtr rfl rfl) ?_
          refine HPlan.gtakev (v := (.bool (decide ((0 : Int) < y5)))) rfl rfl rfl rfl rfl (congrArg Value.bool hb25) (fun _ => HVal.move' rfl) ?_
          obtain ⟨hT, hF⟩ := h
          rcases Bool.eq_false_or_eq_true (decide ((0 : Int) < y5)) with hb27 | hb28
          · have h := hT hb27
            clear hT hF
            refine HPlan.gtakev (v := (Sl.v r3)) rfl rfl rfl rfl rfl (congrArg Value.bool hb27) (fun _ => HVal.move' rfl) ?_
            refine HPlan.gtakev (v := (.int .i64 y5)) rfl rfl rfl rfl rfl (congrArg Value.bool hb27) (fun _ => HVal.move' rfl) ?_
            obtain ⟨a29, e30, b31, b32, h⟩ := h
            refine HPlan.gtakev (v := (.pointer (some (Addr.add a29 (y5.toNat * 1))))) rfl rfl rfl rfl rfl (congrArg Value.bool hb27) (fun _ => HVal.indexAddr Try.runUnderlying50 Try.sizeOf3 (Sl.v_some rfl e30) rfl b31 b32) ?_
            obtain ⟨x34, c33, h⟩ := h
            refine HPlan.gtakel (v := (.int .i64 x34)) (fun X => cell X (Addr.add a29 (y5.toNat * 1)) = some (.int .i64 x34)) rfl rfl rfl rfl rfl (congrArg Value.bool hb27) (fun _ hX => HVal.load1 Try.isAgg3 rfl hX) c33 ?_
            refine HPlan.gtakev (v := (Sl.v r3)) rfl rfl rfl rfl rfl (congrArg Value.bool hb27) (fun _ => HVal.move' rfl) ?_
            refine HPlan.gtakev (v := (.int .i64 y5)) rfl rfl rfl rfl rfl (congrArg Value.bool hb27) (fun _ => HVal.move' rfl) ?_
            refine HPlan.gtakev (v := (.int .i64 (IntKind.i64.wrap (y5 - 1)))) rfl rfl rfl rfl rfl (congrArg Value.bool hb27) (fun _ => HVal.sub rfl rfl) ?_
            obtain ⟨a35, e36, b37, b38, h⟩ := h
            refine HPlan.gtakev (v := (.pointer (some (Addr.add a35 ((IntKind.i64.wrap (y5 - 1)).toNat * 1))))) rfl rfl rfl rfl rfl (congrArg Value.bool hb27) (fun _ => HVal.indexAddr Try.runUnderlying50 Try.sizeOf3 (Sl.v_some rfl e36) rfl b37 b38) ?_
            obtain ⟨x40, c39, h⟩ := h
            refine HPlan.gtakel (v := (.int .i64 x40)) (fun X => cell X (Addr.add a35 ((IntKind.i64.wrap (y5 - 1)).toNat * 1)) = some (.int .i64 x40)) rfl rfl rfl rfl rfl (congrArg Value.bool hb27) (fun _ hX => HVal.load1 Try.isAgg3 rfl hX) c39 ?_
            refine HPlan.gtakev (v := (.bool (decide (x34 ≤ x40)))) rfl rfl rfl rfl rfl (congrArg Value.bool hb27) (fun _ => HVal.leq rfl rfl) ?_
            refine HPlan.gtakev (v := (.bool (decide (x34 ≤ x40)))) rfl rfl rfl rfl rfl (congrArg Value.bool hb25) (fun _ => HVal.pickT rfl hb27 rfl) ?_
            refine HPlan.takev (v := (.bool (decide (x34 ≤ x40)))) rfl rfl (fun _ => HVal.pickF rfl hb25 rfl) ?_
            refine HPlan.done ?_
            refine nt ?_
            exact ⟨(decide (x34 ≤ x40)), ⟨rfl, rfl, rfl, rfl, rfl, rfl, trivial⟩, h⟩
          · have h := hF hb28
            clear hT hF
            refine HPlan.takegskip rfl rfl rfl rfl (congrArg Value.bool hb28) ?_
            refine HPlan.takegskip rfl rfl rfl rfl (congrArg Value.bool hb28) ?_
            refine HPlan.takegskip rfl rfl rfl rfl (congrArg Value.bool hb28) ?_
            refine HPlan.takegskip rfl rfl rfl rfl (congrArg Value.bool hb28) ?_
            refine HPlan.takegskip rfl rfl rfl rfl (congrArg Value.bool hb28) ?_
            refine HPlan.takegskip rfl rfl rfl rfl (congrArg Value.bool hb28) ?_
            refine HPlan.takegskip rfl rfl rfl rfl (congrArg Value.bool hb28) ?_
            refine HPlan.takegskip rfl rfl rfl rfl (congrArg Value.bool hb28) ?_
            refine HPlan.takegskip rfl rfl rfl rfl (congrArg Value.bool hb28) ?_
            refine HPlan.takegskip rfl rfl rfl rfl (congrArg Value.bool hb28) ?_
            refine HPlan.gtakev (v := (.bool false)) rfl rfl rfl rfl rfl (congrArg Value.bool hb25) (fun _ => HVal.pickF rfl hb28 rfl) ?_
            refine HPlan.takev (v := (.bool false)) rfl rfl (fun _ => HVal.pickF rfl hb25 rfl) ?_
            refine HPlan.done ?_
            refine nt ?_
            exact ⟨false, ⟨rfl, rfl, rfl, rfl, rfl, rfl, trivial⟩, h⟩
      · rintro ρ H_2 ⟨y26, hI, h⟩
        obtain ⟨ρ0, rfl⟩ : ∃ ρ0, ρ = (Env.set (Env.set (Env.set (Env.set (Env.set (Env.set ρ0 46 (.bool y26)) 7 (.int .i64 r18)) 6 (.int .i64 y5)) 5 (Sl.v r3)) 1 (Sl.v p1)) 0 (.pointer p0)) := ⟨ρ, hI.eq⟩
        clear hI; unfold F18_2 at h
        obtain ⟨hT, hF⟩ := h
        refine HW.cond y26 rfl (fun hb41 => ?_) (fun hb41 => ?_)
        · have h := hT hb41
          clear hT hF
          refine HW.seq ?_
          refine HW.region ?_
          refine HList.vals (v := (.bool false)) rfl (HVal.assign' rfl) ?_
          refine HList.nil ?_
          refine nt ?_
          refine HW.ret ?_
          refine tr ?_
          refine br ?_
          refine tr ?_
          refine tr ?_
          refine br ?_
          refine tr ?_
          exact ⟨_, resOf1 rfl Res1.t, ⟨false, rfl, h⟩⟩
        · have h := hF hb41
          clear hT hF
          refine HW.skip ?_
          refine nt ?_
          refine HW.seq ?_
          refine HW.region ?_
          refine HList.vals (v := (.pointer p0)) rfl (HVal.move' rfl) ?_
          refine HList.vals (v := (Sl.v r3)) rfl (HVal.move' rfl) ?_
          refine HList.vals (v := (.int .i64 y5)) rfl (HVal.move' rfl) ?_
          obtain ⟨a42, e43, b44, b45, h⟩ := h
          refine HList.vals (v := (.pointer (some (Addr.add a42 (y5.toNat * 1))))) rfl (HVal.indexAddr Try.runUnderlying50 Try.sizeOf3 (Sl.v_some rfl e43) rfl b44 b45) ?_
          obtain ⟨x47, c46, h⟩ := h
          refine HList.vals (v := (.int .i64 x47)) rfl (HVal.load1 Try.isAgg3 rfl c46) ?_
          refine HList.ops' rfl (HOp.call' 22 [(.pointer p0), (.int .i64 x47)] (cap := []) rfl rfl Try.call22 (walk22 h)) ?_
          rintro _ H48 ⟨r50, r51, rfl, h⟩
          refine HList.vals (v := (.tuple #[(Sl.v r50), (.int .i64 r51)])) rfl (HVal.move' rfl) ?_
          refine HList.vals (v := (Sl.v r50)) rfl (HVal.extract rfl rfl) ?_
          refine HList.vals (v := (.int .i64 r51)) rfl (HVal.extract rfl rfl) ?_
          refine HList.vals (v := (Sl.v r50)) rfl (HVal.assign' rfl) ?_
          refine HList.vals (v := (.int .i64 r51)) rfl (HVal.assign' rfl) ?_
          refine HList.nil ?_
          refine nt ?_
          refine HW.cut (fun ρ H_3 => ∃ (y58 : Bool), Env.Is ρ [(0, (.pointer p0)), (1, (Sl.v p1)), (5, (Sl.v r3)), (6, (.int .i64 y5)), (67, (.bool y58))] ∧ F18_3 Q X1 p0 p1 r3 y5 y58 H_3) ?_ ?_
          · refine HW.region ?_
            refine HList.vals (v := (.int .i64 r51)) rfl (HVal.move' rfl) ?_
            refine HList.vals (v := (.bool (decide (r51 ≠ 0)))) rfl (HVal.neqI rfl rfl) ?_
            refine HList.vals (v := (.bool (decide (r51 ≠ 0)))) rfl (HVal.move' rfl) ?_
            obtain ⟨hT, hF⟩ := h
            rcases Bool.eq_false_or_eq_true (decide (r51 ≠ 0)) with hb56 | hb57
            · have h := hT hb56
              clear hT hF
              refine HList.gskips rfl rfl rfl rfl (congrArg Value.bool hb56) ?_
              refine HList.gskips rfl rfl rfl rfl (congrArg Value.bool hb56) ?_
              refine HList.gskips rfl rfl rfl rfl (congrArg Value.bool hb56) ?_
              refine HList.gskips rfl rfl rfl rfl (congrArg Value.bool hb56) ?_
              refine HList.gskips rfl rfl rfl rfl (congrArg Value.bool hb56) ?_
              refine HList.gskips rfl rfl rfl rfl (congrArg Value.bool hb56) ?_
              refine HList.gskips rfl rfl rfl rfl (congrArg Value.bool hb56) ?_
              refine HList.gskips rfl rfl rfl rfl (congrArg Value.bool hb56) ?_
              refine HList.vals (v := (.bool true)) rfl (HVal.pickT rfl hb56 rfl) ?_
              refine HList.nil ?_
              refine nt ?_
              exact ⟨true, ⟨rfl, rfl, rfl, rfl, rfl, trivial⟩, h⟩
            · have h := hF hb57
              clear hT hF
              refine HList.gvals (v := (Sl.v r50)) rfl rfl rfl rfl (congrArg Value.bool hb57) (HVal.move' rfl) ?_
              refine HList.gvals (v := (Sl.v p1)) rfl rfl rfl rfl (congrArg Value.bool hb57) (HVal.move' rfl) ?_
              refine HList.gvals (v := (.int .i64 r18)) rfl rfl rfl rfl (congrArg Value.bool hb57) (HVal.move' rfl) ?_
              obtain ⟨a59, e60, b61, b62, h⟩ := h
              refine HList.gvals (v := (.pointer (some (Addr.add a59 (r18.toNat * 2))))) rfl rfl rfl rfl (congrArg Value.bool hb57) (HVal.indexAddr Try.runUnderlying38 Try.sizeOf43 (Sl.v_some rfl e60) rfl b61 b62) ?_
              refine HList.gvals (v := (.pointer (some (Addr.add (Addr.add a59 (r18.toNat * 2)) 1)))) rfl rfl rfl rfl (congrArg Value.bool hb57) (HVal.fieldAddr' Try.runUnderlying43 rfl rfl Try.sizeOf41 rfl) ?_
              obtain ⟨x64, c63, h⟩ := h
              refine HList.gvals (v := (Sl.v x64)) rfl rfl rfl rfl (congrArg Value.bool hb57) (HVal.load1 Try.isAgg41 rfl c63) ?_
              refine HList.gops rfl rfl rfl rfl (congrArg Value.bool hb57) (HOp.call' 23 [(Sl.v r50), (Sl.v x64)] (cap := []) rfl rfl Try.call23 (walk23 h)) ?_
              rintro _ H65 ⟨r67, rfl, h⟩
              refine HList.gvals (v := (.bool (!r67))) rfl rfl rfl rfl (congrArg Value.bool hb57) (HVal.not rfl) ?_
              refine HList.vals (v := (.bool (!r67))) rfl (HVal.pickF rfl hb57 rfl) ?_
              refine HList.nil ?_
              refine nt ?_
              exact ⟨(!r67), ⟨rfl, rfl, rfl, rfl, rfl, trivial⟩, h⟩
          · rintro ρ H_3 ⟨y58, hI, h⟩
            obtain ⟨ρ0, rfl⟩ : ∃ ρ0, ρ = (Env.set (Env.set (Env.set (Env.set (Env.set ρ0 67 (.bool y58)) 6 (.int .i64 y5)) 5 (Sl.v r3)) 1 (Sl.v p1)) 0 (.pointer p0)) := ⟨ρ, hI.eq⟩
            clear hI; unfold F18_3 at h
            obtain ⟨hT, hF⟩ := h
            refine HW.cond y58 rfl (fun hb68 => ?_) (fun hb68 => ?_)
            · have h := hT hb68
              clear hT hF
              refine HW.seq ?_
              refine HW.region ?_
              refine HList.vals (v := (.bool false)) rfl (HVal.assign' rfl) ?_
              refine HList.nil ?_
              refine nt ?_
              refine HW.ret ?_
              refine br ?_
              refine tr ?_
              refine tr ?_
              refine br ?_
              refine tr ?_
              exact ⟨_, resOf1 rfl Res1.t, ⟨false, rfl, h⟩⟩
            · have h := hF hb68
              clear hT hF
              refine HW.skip ?_
              refine nb ?_
              refine nt ?_
              refine HW.region ?_
              refine HList.vals (v := (.int .i64 y5)) rfl (HVal.move' rfl) ?_
              refine HList.vals (v := (.int .i64 (IntKind.i64.wrap (y5 + 1)))) rfl (HVal.add rfl rfl) ?_
              refine HList.vals (v := (.int .i64 (IntKind.i64.wrap (y5 + 1)))) rfl (HVal.assign' rfl) ?_
              refine HList.nil ?_
              refine nt ?_
              exact (hX1 _ _).1 h _ ⟨rfl, rfl, rfl, rfl, trivial⟩
    · have h := hF hb9
      clear hT hF
      refine HW.exit ?_
      refine te ?_
      refine te ?_
      refine be ?_
      refine nt ?_
      refine HW.seq ?_
      refine HW.region ?_
      refine HList.vals (v := (.bool true)) rfl (HVal.assign' rfl) ?_
      refine HList.nil ?_
      refine nt ?_
      refine HW.ret ?_
      exact ⟨_, resOf1 rfl Res1.t, ⟨true, rfl, h⟩⟩

def F4_2 (Q : Bool → Hp → Prop) (X1 : Sl → Int → Hp → Prop) (y31 : Sl) (y32 : (Option Addr)) (y33 : Int) (y55 : Sl) (H_2 : Hp) : Prop :=
F18 y32 y55 H_2 (fun (r129 : Bool) (H127 : Hp) => 
 ((!r129) = true → (Q false H127)) ∧
 ((!r129) = false → (X1 y55 (IntKind.i64.wrap (y33 + 1)) H127)))
def F4_3 (Q : Bool → Hp → Prop) (X1 : Sl → Int → Hp → Prop) (y71 : Sl) (y72 : (Option Addr)) (y73 : Sl) (y74 : Int) (y75 : Addr) (y76 : Int) (y77 : Int) (y78 : Int) (y83 : Bool) (H_3 : Hp) : Prop :=
(y83 = true → (Q false H_3)) ∧
 (y83 = false → (((decide (y77 = 0)) = true → (∃ a90 : Addr, (y73).b = some a90 ∧ (0 : Int) ≤ y78 ∧ y78 < ((y73).n : Int) ∧ (
 ∃ x95 : Sl, cell H_3 (Addr.add (Addr.add a90 (y78.toNat * 2)) 1) = some (Sl.v x95) ∧ (
 AppendF H_3 32 2 16 #[(.int .i64 0), (.int .i64 0)] Sl.nil (x95).b (x95).n (fun (r98 : Sl) (H96 : Hp) => 
 ∃ (x100 : Int) (x101 : Int), cells H96 (Addr.add y75 3) [(.int .i64 x100), (.int .i64 x101)] 0 ∧ (
 ∀ H102 : Hp, H102 = Array.push H96 (.cells #[(.int .i64 x100), (.int .i64 x101)] 32) → (
 AppendF H102 32 2 16 #[(.int .i64 0), (.int .i64 0)] r98 ((Sl.mk (some ⟨H96.size, 0, none⟩) 1 1)).b ((Sl.mk (some ⟨H96.size, 0, none⟩) 1 1)).n (fun (r106 : Sl) (H104 : Hp) => 
 ∀ H107 : Hp, H107 = Array.push H104 (.cells #[(.int .i64 y76), (Sl.v r106)] 43) → (
 AppendF H107 43 2 32 #[(.int .i64 0), (Sl.v Sl.nil)] y73 ((Sl.mk (some ⟨H104.size, 0, none⟩) 1 1)).b ((Sl.mk (some ⟨H104.size, 0, none⟩) 1 1)).n (fun (r111 : Sl) (H109 : Hp) => 
 F4_2 Q X1 y71 y72 y74 r111 H109)))))))))) ∧
 ((decide (y77 = 0)) = false → (F4_2 Q X1 y71 y72 y74 y73 H_3))))
def F4_L1b (Q : Bool → Hp → Prop) (X1 : Sl → Int → Hp → Prop) (y11 : Sl) (y12 : (Option Addr)) (y9 : Sl) (y10 : Int) (H_1 : Hp) : Prop :=
((decide (y10 < ((y11).n : Int))) = true → (((decide (y10 < 150)) = true → (∃ a16 : Addr, (y11).b = some a16 ∧ (0 : Int) ≤ y10 ∧ y10 < ((y11).n : Int) ∧ (
 ∃ (x21 : Int) (x22 : Int) (x23 : Int) (x24 : Int) (x25 : Int), cells H_1 (Addr.add a16 (y10.toNat * 5)) [(.int .i64 x21), (.int .i64 x22), (.int .i64 x23), (.int .i64 x24), (.int .i64 x25)] 0 ∧ (
 ∀ H26 : Hp, H26 = Array.push H_1 (.cells #[(.int .i64 0), (.int .i64 0), (.int .i64 0), (.int .i64 0), (.int .i64 0)] 34) → (
 mayw H26 ⟨H_1.size, 0, none⟩ 5 0 ∧ ∀ H28 : Hp, H28 = sets H26 ⟨H_1.size, 0, none⟩ [(.int .i64 x21), (.int .i64 x22), (.int .i64 x23), (.int .i64 x24), (.int .i64 x25)] 0 → (
 ∃ x35 : Int, cell H28 ⟨H_1.size, 0, none⟩ = some (.int .i64 x35) ∧ (
 ((decide (x35 = 1)) = true → (∃ (x38 : Int) (x39 : Int), cells H28 (Addr.add ⟨H_1.size, 0, none⟩ 3) [(.int .i64 x38), (.int .i64 x39)] 0 ∧ (
 F13 y12 x38 x39 H28 (fun (r42 : Int) (r43 : Int) (H40 : Hp) => 
 ((decide (r43 = 0)) = true → (∃ (x46 : Int) (x47 : Int), cells H40 (Addr.add ⟨H_1.size, 0, none⟩ 3) [(.int .i64 x46), (.int .i64 x47)] 0 ∧ (
 ∀ H48 : Hp, H48 = Array.push H40 (.cells #[(.int .i64 x46), (.int .i64 x47)] 32) → (
 ∀ H50 : Hp, H50 = Array.push H48 (.cells #[(.int .i64 r42), (Sl.v (Sl.mk (some ⟨H40.size, 0, none⟩) 1 1))] 43) → (
 AppendF H50 43 2 32 #[(.int .i64 0), (Sl.v Sl.nil)] y9 ((Sl.mk (some ⟨H48.size, 0, none⟩) 1 1)).b ((Sl.mk (some ⟨H48.size, 0, none⟩) 1 1)).n (fun (r54 : Sl) (H52 : Hp) => 
 F4_2 Q X1 y11 y12 y10 r54 H52)))))) ∧
 ((decide (r43 = 0)) = false → (F4_2 Q X1 y11 y12 y10 y9 H40)))))) ∧
 ((decide (x35 = 1)) = false → (((decide (x35 = 2)) = true → (∃ x58 : Int, cell H28 (Addr.add ⟨H_1.size, 0, none⟩ 2) = some (.int .i64 x58) ∧ (
 ∃ (x60 : Int) (x61 : Int), cells H28 (Addr.add ⟨H_1.size, 0, none⟩ 3) [(.int .i64 x60), (.int .i64 x61)] 0 ∧ (
 F14 y12 x58 x60 x61 H28 (fun (r64 : Int) (r65 : Int) (H62 : Hp) => 
 ∃ x67 : Int, cell H62 (Addr.add ⟨H_1.size, 0, none⟩ 2) = some (.int .i64 x67) ∧ (
 F15 y9 x67 H62 (fun (r70 : Int) (H68 : Hp) => 
 ((decide (r65 = 0)) = true → (((decide (r70 < 0)) = true → (F4_3 Q X1 y11 y12 y9 y10 ⟨H_1.size, 0, none⟩ r64 r65 r70 true H68)) ∧
 ((decide (r70 < 0)) = false → (((decide (r65 = 130)) = true → (F4_3 Q X1 y11 y12 y9 y10 ⟨H_1.size, 0, none⟩ r64 r65 r70 (decide ((0 : Int) ≤ r70)) H68)) ∧
 ((decide (r65 = 130)) = false → (F4_3 Q X1 y11 y12 y9 y10 ⟨H_1.size, 0, none⟩ r64 r65 r70 false H68)))))) ∧
 ((decide (r65 = 0)) = false → (((decide (r65 = 130)) = true → (F4_3 Q X1 y11 y12 y9 y10 ⟨H_1.size, 0, none⟩ r64 r65 r70 (decide ((0 : Int) ≤ r70)) H68)) ∧
 ((decide (r65 = 130)) = false → (F4_3 Q X1 y11 y12 y9 y10 ⟨H_1.size, 0, none⟩ r64 r65 r70 false H68))))))))))) ∧
 ((decide (x35 = 2)) = false → (((decide (x35 = 3)) = true → (∃ x114 : Int, cell H28 (Addr.add ⟨H_1.size, 0, none⟩ 2) = some (.int .i64 x114) ∧ (
 F16 y12 x114 H28 (fun (r117 : Int) (H115 : Hp) => 
 ∃ x119 : Int, cell H115 (Addr.add ⟨H_1.size, 0, none⟩ 2) = some (.int .i64 x119) ∧ (
 F15 y9 x119 H115 (fun (r122 : Int) (H120 : Hp) => 
 ((!((decide (r117 = 0)) == (decide ((0 : Int) ≤ r122)))) = true → (Q false H120)) ∧
 ((!((decide (r117 = 0)) == (decide ((0 : Int) ≤ r122)))) = false → (F17 y9 r122 H120 (fun (r126 : Sl) (H124 : Hp) => 
 F4_2 Q X1 y11 y12 y10 r126 H124))))))))) ∧
 ((decide (x35 = 3)) = false → (F4_2 Q X1 y11 y12 y10 y9 H28))))))))))))) ∧
 ((decide (y10 < 150)) = false → (Q true H_1)))) ∧
 ((decide (y10 < ((y11).n : Int))) = false → (Q true H_1))
def F4_L1 (Q : Bool → Hp → Prop) (y11 : Sl) (y12 : (Option Addr)) (y9 : Sl) (y10 : Int) (H_1 : Hp) : Prop :=
  ∀ X1 : Sl → Int → Hp → Prop, (∀ (y9 : Sl) (y10 : Int) (H_1 : Hp), F4_L1b Q X1 y11 y12 y9 y10 H_1 → X1 y9 y10 H_1) → X1 y9 y10 H_1
def F4 (p0 : Int) (p1 : Sl) (H : Hp) (Q : Bool → Hp → Prop) : Prop :=
F8 H (fun (r3 : Bool) (H1 : Hp) => 
 ((!r3) = true → (Q false H1)) ∧
 ((!r3) = false → (F12 p0 H1 (fun (r7 : (Option Addr)) (H5 : Hp) => 
 ((r7.isNone) = true → (Q false H5)) ∧
 ((r7.isNone) = false → (F4_L1 Q p1 r7 Sl.nil 0 H5))))))
set_option maxRecDepth 100000 in
set_option maxHeartbeats 4000000 in
theorem walk4 {w0 : World} {p0 : Int} {p1 : Sl} {H : Hp} {Q : Bool → Hp → Prop} (h : F4 p0 p1 H Q) :
    Good Try.prog w0 4 #[(.int .i64 p0), (Sl.v p1)] H (fun v H => ∃ (r0 : Bool) , v = (.bool r0) ∧ Q r0 H) := by
  unfold F4 at h
  refine Good.enter' (fn := Try.f4) Try.func4 rfl rfl rfl ?_
  refine HW.seq ?_
  refine HW.region ?_
  refine HList.vals (v := (.bool false)) rfl (HVal.assign' rfl) ?_
  refine HList.nil ?_
  refine nt ?_
  refine HW.seq ?_
  refine HW.region ?_
  refine HList.ops' rfl (HOp.call' 8 [] (cap := []) rfl rfl Try.call8 (walk8 h)) ?_
  rintro _ H1 ⟨r3, rfl, h⟩
  refine HList.vals (v := (.bool r3)) rfl (HVal.assign' rfl) ?_
  refine HList.nil ?_
  refine nt ?_
  refine HW.seq ?_
  refine HW.seq ?_
  refine HW.region ?_
  refine HList.vals (v := (.bool r3)) rfl (HVal.move' rfl) ?_
  refine HList.vals (v := (.bool (!r3))) rfl (HVal.not rfl) ?_
  refine HList.nil ?_
  refine nt ?_
  obtain ⟨hT, hF⟩ := h
  refine HW.cond (!r3) rfl (fun hb4 => ?_) (fun hb4 => ?_)
  · have h := hT hb4
    clear hT hF
    refine HW.seq ?_
    refine HW.region ?_
    refine HList.vals (v := (.bool false)) rfl (HVal.assign' rfl) ?_
    refine HList.nil ?_
    refine nt ?_
    refine HW.ret ?_
    refine tr ?_
    exact ⟨_, resOf1 rfl Res1.t, ⟨false, rfl, h⟩⟩
  · have h := hF hb4
    clear hT hF
    refine HW.skip ?_
    refine nt ?_
    refine HW.seq ?_
    refine HW.region ?_
    refine HList.vals (v := (.int .i64 p0)) rfl (HVal.move' rfl) ?_
    refine HList.ops' rfl (HOp.call' 12 [(.int .i64 p0)] (cap := []) rfl rfl Try.call12 (walk12 h)) ?_
    rintro _ H5 ⟨r7, rfl, h⟩
    refine HList.vals (v := (.pointer r7)) rfl (HVal.assign' rfl) ?_
    refine HList.nil ?_
    refine nt ?_
    refine HW.seq ?_
    refine HW.seq ?_
    refine HW.region ?_
    refine HList.vals (v := (.pointer r7)) rfl (HVal.move' rfl) ?_
    refine HList.vals (v := (.bool (r7.isNone))) rfl (HVal.eqlPN Try.underlying24 rfl rfl) ?_
    refine HList.nil ?_
    refine nt ?_
    obtain ⟨hT, hF⟩ := h
    refine HW.cond (r7.isNone) rfl (fun hb8 => ?_) (fun hb8 => ?_)
    · have h := hT hb8
      clear hT hF
      refine HW.seq ?_
      refine HW.region ?_
      refine HList.vals (v := (.bool false)) rfl (HVal.assign' rfl) ?_
      refine HList.nil ?_
      refine nt ?_
      refine HW.ret ?_
      refine tr ?_
      exact ⟨_, resOf1 rfl Res1.t, ⟨false, rfl, h⟩⟩
    · have h := hF hb8
      clear hT hF
      refine HW.skip ?_
      refine nt ?_
      refine HW.seq ?_
      refine HW.region ?_
      refine HList.vals (v := (Sl.v Sl.nil)) rfl (HVal.assign' rfl) ?_
      refine HList.nil ?_
      refine nt ?_
      refine HW.seq ?_
      refine HW.seq ?_
      refine HW.region ?_
      refine HList.vals (v := (.int .i64 0)) rfl (HVal.assign' rfl) ?_
      refine HList.nil ?_
      refine nt ?_
      refine HW.block ?_
      refine HW.loop' (fun L1 hL1 => ?_)
      obtain ⟨X1, hX1⟩ : ∃ X1 : Sl → Int → Hp → Prop, ∀ (y9 : Sl) (y10 : Int) (H_1 : Hp), X1 y9 y10 H_1 ↔ ∀ ρ, Env.Is ρ [(1, (Sl.v p1)), (6, (.pointer r7)), (7, (Sl.v y9)), (8, (.int .i64 y10))] → L1 ρ H_1 := ⟨_, fun _ _ _ => Iff.rfl⟩
      refine (hX1 _ _ _).1 (h X1 ?_) _ ?_
      rotate_left
      · exact ⟨rfl, rfl, rfl, rfl, trivial⟩
      clear h
      intro y9 y10 H_1 h
      refine (hX1 _ _ _).2 fun ρ hI => ?_
      obtain ⟨ρ0, rfl⟩ : ∃ ρ0, ρ = (Env.set (Env.set (Env.set (Env.set ρ0 8 (.int .i64 y10)) 7 (Sl.v y9)) 6 (.pointer r7)) 1 (Sl.v p1)) := ⟨ρ, hI.eq⟩
      clear hI; unfold F4_L1b at h; refine hL1 _ _ ?_
      refine HW.seq ?_
      refine HW.seq ?_
      refine HW.region ?_
      refine HList.vals (v := (.int .i64 y10)) rfl (HVal.move' rfl) ?_
      refine HList.vals (v := (Sl.v p1)) rfl (HVal.move' rfl) ?_
      refine HList.vals (v := (.int .i64 ((p1).n : Int))) rfl (HVal.len Try.runUnderlying22 rfl) ?_
      refine HList.vals (v := (.bool (decide (y10 < ((p1).n : Int))))) rfl (HVal.lss rfl rfl) ?_
      refine HList.vals (v := (.bool (decide (y10 < ((p1).n : Int))))) rfl (HVal.move' rfl) ?_
      obtain ⟨hT, hF⟩ := h
      rcases Bool.eq_false_or_eq_true (decide (y10 < ((p1).n : Int))) with hb13 | hb14
      · have h := hT hb13
        clear hT hF
        refine HList.gvals (v := (.int .i64 y10)) rfl rfl rfl rfl (congrArg Value.bool hb13) (HVal.move' rfl) ?_
        refine HList.gvals (v := (.bool (decide (y10 < 150)))) rfl rfl rfl rfl (congrArg Value.bool hb13) (HVal.lss rfl rfl) ?_
        refine HList.vals (v := (.bool (decide (y10 < 150)))) rfl (HVal.pickT rfl hb13 rfl) ?_
        refine HList.nil ?_
        refine nt ?_
        obtain ⟨hT, hF⟩ := h
        refine HW.cond (decide (y10 < 150)) rfl (fun hb15 => ?_) (fun hb15 => ?_)
        · have h := hT hb15
          clear hT hF
          refine HW.skip ?_
          refine nt ?_
          refine HW.seq ?_
          refine HW.block ?_
          refine HW.seq ?_
          refine HW.region ?_
          refine HList.vals (v := (Sl.v p1)) rfl (HVal.move' rfl) ?_
          refine HList.vals (v := (.int .i64 y10)) rfl (HVal.move' rfl) ?_
          obtain ⟨a16, e17, b18, b19, h⟩ := h
          refine HList.vals (v := (.pointer (some (Addr.add a16 (y10.toNat * 5))))) rfl (HVal.indexAddr Try.runUnderlying22 Try.sizeOf34 (Sl.v_some rfl e17) rfl b18 b19) ?_
          obtain ⟨x21, x22, x23, x24, x25, c20, h⟩ := h
          refine HList.vals (v := (.agg #[(.int .i64 x21), (.int .i64 x22), (.int .i64 x23), (.int .i64 x24), (.int .i64 x25)])) rfl (HVal.loadN [(.int .i64 x21), (.int .i64 x22), (.int .i64 x23), (.int .i64 x24), (.int .i64 x25)] Try.isAgg34 Try.sizeOf34 rfl c20) ?_
          refine HList.ops' rfl (HOp.alloc Try.zeroValue34) ?_
          rintro _ H26 ⟨rfl, e27⟩
          replace h := h H26 e27
          obtain ⟨z30, h⟩ := h
          refine HList.opsn (HOp.storeN' (l := [(.int .i64 x21), (.int .i64 x22), (.int .i64 x23), (.int .i64 x24), (.int .i64 x25)]) Try.sizeOf34 rfl rfl rfl z30) ?_
          rintro _ H28 e29
          replace h := h H28 e29
          refine HList.nil ?_
          refine nt ?_
          refine HW.cut (fun ρ H_2 => ∃ (y55 : Sl), Env.Is ρ [(1, (Sl.v p1)), (6, (.pointer r7)), (8, (.int .i64 y10)), (7, (Sl.v y55))] ∧ F4_2 Q X1 p1 r7 y10 y55 H_2) ?_ ?_
          · refine HW.seq ?_
            refine HW.region ?_
            refine HList.vals (v := (.pointer (some ⟨H_1.size, 0, none⟩))) rfl (HVal.fieldAddr0 Try.runUnderlying34 rfl rfl Try.sizeOf3 rfl) ?_
            obtain ⟨x35, c34, h⟩ := h
            refine HList.vals (v := (.int .i64 x35)) rfl (HVal.load1 Try.isAgg3 rfl c34) ?_
            refine HList.nil ?_
            refine nt ?_
            refine HW.block ?_
            refine HW.seq ?_
            refine HW.region ?_
            refine HList.vals (v := (.bool (decide (x35 = 1)))) rfl (HVal.eqlI rfl rfl) ?_
            refine HList.vals (v := (.bool (decide (x35 = 1)))) rfl (HVal.assign' rfl) ?_
            refine HList.nil ?_
            refine nt ?_
            obtain ⟨hT, hF⟩ := h
            refine HW.cond (decide (x35 = 1)) rfl (fun hb36 => ?_) (fun hb36 => ?_)
            · have h := hT hb36
              clear hT hF
              refine HW.seq ?_
              refine HW.region ?_
              refine HList.vals (v := (.pointer r7)) rfl (HVal.move' rfl) ?_
              refine HList.vals (v := (.pointer (some (Addr.add ⟨H_1.size, 0, none⟩ 3)))) rfl (HVal.fieldAddr' Try.runUnderlying34 rfl rfl Try.sizeOf32 rfl) ?_
              obtain ⟨x38, x39, c37, h⟩ := h
              refine HList.vals (v := (.agg #[(.int .i64 x38), (.int .i64 x39)])) rfl (HVal.loadN [(.int .i64 x38), (.int .i64 x39)] Try.isAgg32 Try.sizeOf32 rfl c37) ?_
              refine HList.ops' rfl (HOp.call' 13 [(.pointer r7), (.agg #[(.int .i64 x38), (.int .i64 x39)])] (cap := []) rfl rfl Try.call13 (walk13 h)) ?_
              rintro _ H40 ⟨r42, r43, rfl, h⟩
              refine HList.vals (v := (.tuple #[(.int .i64 r42), (.int .i64 r43)])) rfl (HVal.move' rfl) ?_
              refine HList.vals (v := (.int .i64 r42)) rfl (HVal.extract rfl rfl) ?_
              refine HList.vals (v := (.int .i64 r43)) rfl (HVal.extract rfl rfl) ?_
              refine HList.vals (v := (.int .i64 r42)) rfl (HVal.assign' rfl) ?_
              refine HList.vals (v := (.int .i64 r43)) rfl (HVal.assign' rfl) ?_
              refine HList.nil ?_
              refine nt ?_
              refine HW.seq ?_
              refine HW.region ?_
              refine HList.vals (v := (.int .i64 r43)) rfl (HVal.move' rfl) ?_
              refine HList.vals (v := (.bool (decide (r43 = 0)))) rfl (HVal.eqlI rfl rfl) ?_
              refine HList.nil ?_
              refine nt ?_
              obtain ⟨hT, hF⟩ := h
              refine HW.cond (decide (r43 = 0)) rfl (fun hb44 => ?_) (fun hb44 => ?_)
              · have h := hT hb44
                clear hT hF
                refine HW.region ?_
                refine HList.vals (v := (Sl.v y9)) rfl (HVal.move' rfl) ?_
                refine HList.vals (v := (.int .i64 r42)) rfl (HVal.move' rfl) ?_
                refine HList.vals (v := (.pointer (some (Addr.add ⟨H_1.size, 0, none⟩ 3)))) rfl (HVal.fieldAddr' Try.runUnderlying34 rfl rfl Try.sizeOf32 rfl) ?_
                obtain ⟨x46, x47, c45, h⟩ := h
                refine HList.vals (v := (.agg #[(.int .i64 x46), (.int .i64 x47)])) rfl (HVal.loadN [(.int .i64 x46), (.int .i64 x47)] Try.isAgg32 Try.sizeOf32 rfl c45) ?_
                refine HList.ops' rfl (HOp.buildSlice' (zs := [(.int .i64 0), (.int .i64 0)]) (cs := [(.int .i64 x46), (.int .i64 x47)]) Try.runUnderlying41 Try.sizeOf32 Try.zeroValue32 (by decide) (by kernel_rfl) rfl (by decide)) ?_
                rintro _ H48 ⟨rfl, e49⟩
                replace h := h H48 e49
                refine HList.vals (v := (.agg #[(.int .i64 r42), (Sl.v (Sl.mk (some ⟨H40.size, 0, none⟩) 1 1))])) rfl (HVal.build' (cs := [(.int .i64 r42), (Sl.v (Sl.mk (some ⟨H40.size, 0, none⟩) 1 1))]) Try.runUnderlying43 Try.zeroValue43 places43 rfl) ?_
                refine HList.ops' rfl (HOp.buildSlice' (zs := [(.int .i64 0), (Sl.v Sl.nil)]) (cs := [(.int .i64 r42), (Sl.v (Sl.mk (some ⟨H40.size, 0, none⟩) 1 1))]) Try.runUnderlying38 Try.sizeOf43 Try.zeroValue43 (by decide) (by kernel_rfl) rfl (by decide)) ?_
                rintro _ H50 ⟨rfl, e51⟩
                replace h := h H50 e51
                refine HList.ops' rfl (HOp.append (k := 2) (b := 32) Try.runUnderlying38 Try.runUnderlying38 Try.typeInfo43 rfl rfl Try.zeroValue43 rfl rfl h) ?_
                rintro _ H52 ⟨r54, rfl, h⟩
                refine HList.vals (v := (Sl.v r54)) rfl (HVal.assign' rfl) ?_
                refine HList.nil ?_
                refine nb ?_
                refine nt ?_
                exact ⟨r54, ⟨rfl, rfl, rfl, rfl, trivial⟩, h⟩
              · have h := hF hb44
                clear hT hF
                refine HW.skip ?_
                refine nb ?_
                refine nt ?_
                exact ⟨y9, ⟨rfl, rfl, rfl, rfl, trivial⟩, h⟩
            · have h := hF hb36
              clear hT hF
              refine HW.seq ?_
              refine HW.region ?_
              refine HList.vals (v := (.bool (decide (x35 = 2)))) rfl (HVal.eqlI rfl rfl) ?_
              refine HList.vals (v := (.bool (decide (x35 = 2)))) rfl (HVal.assign' rfl) ?_
              refine HList.nil ?_
              refine nt ?_
              obtain ⟨hT, hF⟩ := h
              refine HW.cond (decide (x35 = 2)) rfl (fun hb56 => ?_) (fun hb56 => ?_)
              · have h := hT hb56
                clear hT hF
                refine HW.seq ?_
                refine HW.region ?_
                refine HList.vals (v := (.pointer r7)) rfl (HVal.move' rfl) ?_
                refine HList.vals (v := (.pointer (some (Addr.add ⟨H_1.size, 0, none⟩ 2)))) rfl (HVal.fieldAddr' Try.runUnderlying34 rfl rfl Try.sizeOf3 rfl) ?_
                obtain ⟨x58, c57, h⟩ := h
                refine HList.vals (v := (.int .i64 x58)) rfl (HVal.load1 Try.isAgg3 rfl c57) ?_
                refine HList.vals (v := (.pointer (some (Addr.add ⟨H_1.size, 0, none⟩ 3)))) rfl (HVal.fieldAddr' Try.runUnderlying34 rfl rfl Try.sizeOf32 rfl) ?_
                obtain ⟨x60, x61, c59, h⟩ := h
                refine HList.vals (v := (.agg #[(.int .i64 x60), (.int .i64 x61)])) rfl (HVal.loadN [(.int .i64 x60), (.int .i64 x61)] Try.isAgg32 Try.sizeOf32 rfl c59) ?_
                refine HList.ops' rfl (HOp.call' 14 [(.pointer r7), (.int .i64 x58), (.agg #[(.int .i64 x60), (.int .i64 x61)])] (cap := []) rfl rfl Try.call14 (walk14 h)) ?_
                rintro _ H62 ⟨r64, r65, rfl, h⟩
                refine HList.vals (v := (.tuple #[(.int .i64 r64), (.int .i64 r65)])) rfl (HVal.move' rfl) ?_
                refine HList.vals (v := (.int .i64 r64)) rfl (HVal.extract rfl rfl) ?_
                refine HList.vals (v := (.int .i64 r65)) rfl (HVal.extract rfl rfl) ?_
                refine HList.vals (v := (.int .i64 r64)) rfl (HVal.assign' rfl) ?_
                refine HList.vals (v := (.int .i64 r65)) rfl (HVal.assign' rfl) ?_
                refine HList.nil ?_
                refine nt ?_
                refine HW.seq ?_
                refine HW.region ?_
                refine HList.vals (v := (Sl.v y9)) rfl (HVal.move' rfl) ?_
                refine HList.vals (v := (.pointer (some (Addr.add ⟨H_1.size, 0, none⟩ 2)))) rfl (HVal.fieldAddr' Try.runUnderlying34 rfl rfl Try.sizeOf3 rfl) ?_
                obtain ⟨x67, c66, h⟩ := h
                refine HList.vals (v := (.int .i64 x67)) rfl (HVal.load1 Try.isAgg3 rfl c66) ?_
                refine HList.ops' rfl (HOp.call' 15 [(Sl.v y9), (.int .i64 x67)] (cap := []) rfl rfl Try.call15 (walk15 h)) ?_
                rintro _ H68 ⟨r70, rfl, h⟩
                refine HList.vals (v := (.int .i64 r70)) rfl (HVal.assign' rfl) ?_
                refine HList.nil ?_
                refine nt ?_
                refine HW.seq ?_
                refine HW.cut (fun ρ H_3 => ∃ (y83 : Bool), Env.Is ρ [(1, (Sl.v p1)), (6, (.pointer r7)), (7, (Sl.v y9)), (8, (.int .i64 y10)), (9, (.pointer (some ⟨H_1.size, 0, none⟩))), (12, (.int .i64 r64)), (13, (.int .i64 r65)), (14, (.int .i64 r70)), (88, (.bool y83))] ∧ F4_3 Q X1 p1 r7 y9 y10 ⟨H_1.size, 0, none⟩ r64 r65 r70 y83 H_3) ?_ ?_
                · refine HW.region ?_
                  refine HList.vals (v := (.int .i64 r65)) rfl (HVal.move' rfl) ?_
                  refine HList.vals (v := (.bool (decide (r65 = 0)))) rfl (HVal.eqlI rfl rfl) ?_
                  refine HList.vals (v := (.bool (decide (r65 = 0)))) rfl (HVal.move' rfl) ?_
                  obtain ⟨hT, hF⟩ := h
                  rcases Bool.eq_false_or_eq_true (decide (r65 = 0)) with hb79 | hb80
                  · have h := hT hb79
                    clear hT hF
                    refine HList.gvals (v := (.int .i64 r70)) rfl rfl rfl rfl (congrArg Value.bool hb79) (HVal.move' rfl) ?_
                    refine HList.gvals (v := (.bool (decide (r70 < 0)))) rfl rfl rfl rfl (congrArg Value.bool hb79) (HVal.lss rfl rfl) ?_
                    refine HList.vals (v := (.bool (decide (r70 < 0)))) rfl (HVal.pickT rfl hb79 rfl) ?_
                    refine HList.vals (v := (.bool (decide (r70 < 0)))) rfl (HVal.move' rfl) ?_
                    obtain ⟨hT, hF⟩ := h
                    rcases Bool.eq_false_or_eq_true (decide (r70 < 0)) with hb81 | hb82
                    · have h := hT hb81
                      clear hT hF
                      refine HList.gskips rfl rfl rfl rfl (congrArg Value.bool hb81) ?_
                      refine HList.gskips rfl rfl rfl rfl (congrArg Value.bool hb81) ?_
                      refine HList.gskips rfl rfl rfl rfl (congrArg Value.bool hb81) ?_
                      refine HList.uskips rfl rfl rfl rfl rfl ?_
                      refine HList.uskips rfl rfl rfl rfl rfl ?_
                      refine HList.gskips rfl rfl rfl rfl (congrArg Value.bool hb81) ?_
                      refine HList.vals (v := (.bool true)) rfl (HVal.pickT rfl hb81 rfl) ?_
                      refine HList.nil ?_
                      refine nt ?_
                      exact ⟨true, ⟨rfl, rfl, rfl, rfl, rfl, rfl, rfl, rfl, rfl, trivial⟩, h⟩
                    · have h := hF hb82
                      clear hT hF
                      refine HList.gvals (v := (.int .i64 r65)) rfl rfl rfl rfl (congrArg Value.bool hb82) (HVal.move' rfl) ?_
                      refine HList.gvals (v := (.bool (decide (r65 = 130)))) rfl rfl rfl rfl (congrArg Value.bool hb82) (HVal.eqlI rfl rfl) ?_
                      refine HList.gvals (v := (.bool (decide (r65 = 130)))) rfl rfl rfl rfl (congrArg Value.bool hb82) (HVal.move' rfl) ?_
                      obtain ⟨hT, hF⟩ := h
                      rcases Bool.eq_false_or_eq_true (decide (r65 = 130)) with hb84 | hb85
                      · have h := hT hb84
                        clear hT hF
                        refine HList.gvals (v := (.int .i64 r70)) rfl rfl rfl rfl (congrArg Value.bool hb84) (HVal.move' rfl) ?_
                        refine HList.gvals (v := (.bool (decide ((0 : Int) ≤ r70)))) rfl rfl rfl rfl (congrArg Value.bool hb84) (HVal.geq rfl rfl) ?_
                        refine HList.gvals (v := (.bool (decide ((0 : Int) ≤ r70)))) rfl rfl rfl rfl (congrArg Value.bool hb82) (HVal.pickT rfl hb84 rfl) ?_
                        refine HList.vals (v := (.bool (decide ((0 : Int) ≤ r70)))) rfl (HVal.pickF rfl hb82 rfl) ?_
                        refine HList.nil ?_
                        refine nt ?_
                        exact ⟨(decide ((0 : Int) ≤ r70)), ⟨rfl, rfl, rfl, rfl, rfl, rfl, rfl, rfl, rfl, trivial⟩, h⟩
                      · have h := hF hb85
                        clear hT hF
                        refine HList.gskips rfl rfl rfl rfl (congrArg Value.bool hb85) ?_
                        refine HList.gskips rfl rfl rfl rfl (congrArg Value.bool hb85) ?_
                        refine HList.gvals (v := (.bool false)) rfl rfl rfl rfl (congrArg Value.bool hb82) (HVal.pickF rfl hb85 rfl) ?_
                        refine HList.vals (v := (.bool false)) rfl (HVal.pickF rfl hb82 rfl) ?_
                        refine HList.nil ?_
                        refine nt ?_
                        exact ⟨false, ⟨rfl, rfl, rfl, rfl, rfl, rfl, rfl, rfl, rfl, trivial⟩, h⟩
                  · have h := hF hb80
                    clear hT hF
                    refine HList.gskips rfl rfl rfl rfl (congrArg Value.bool hb80) ?_
                    refine HList.gskips rfl rfl rfl rfl (congrArg Value.bool hb80) ?_
                    refine HList.vals (v := (.bool false)) rfl (HVal.pickF rfl hb80 rfl) ?_
                    refine HList.vals (v := (.bool false)) rfl (HVal.move' rfl) ?_
                    refine HList.gvals (v := (.int .i64 r65)) rfl rfl rfl rfl rfl (HVal.move' rfl) ?_
                    refine HList.gvals (v := (.bool (decide (r65 = 130)))) rfl rfl rfl rfl rfl (HVal.eqlI rfl rfl) ?_
                    refine HList.gvals (v := (.bool (decide (r65 = 130)))) rfl rfl rfl rfl rfl (HVal.move' rfl) ?_
                    obtain ⟨hT, hF⟩ := h
                    rcases Bool.eq_false_or_eq_true (decide (r65 = 130)) with hb86 | hb87
                    · have h := hT hb86
                      clear hT hF
                      refine HList.gvals (v := (.int .i64 r70)) rfl rfl rfl rfl (congrArg Value.bool hb86) (HVal.move' rfl) ?_
                      refine HList.gvals (v := (.bool (decide ((0 : Int) ≤ r70)))) rfl rfl rfl rfl (congrArg Value.bool hb86) (HVal.geq rfl rfl) ?_
                      refine HList.gvals (v := (.bool (decide ((0 : Int) ≤ r70)))) rfl rfl rfl rfl rfl (HVal.pickT rfl hb86 rfl) ?_
                      refine HList.vals (v := (.bool (decide ((0 : Int) ≤ r70)))) rfl (HVal.pickF rfl rfl rfl) ?_
                      refine HList.nil ?_
                      refine nt ?_
                      exact ⟨(decide ((0 : Int) ≤ r70)), ⟨rfl, rfl, rfl, rfl, rfl, rfl, rfl, rfl, rfl, trivial⟩, h⟩
                    · have h := hF hb87
                      clear hT hF
                      refine HList.gskips rfl rfl rfl rfl (congrArg Value.bool hb87) ?_
                      refine HList.gskips rfl rfl rfl rfl (congrArg Value.bool hb87) ?_
                      refine HList.gvals (v := (.bool false)) rfl rfl rfl rfl rfl (HVal.pickF rfl hb87 rfl) ?_
                      refine HList.vals (v := (.bool false)) rfl (HVal.pickF rfl rfl rfl) ?_
                      refine HList.nil ?_
                      refine nt ?_
                      exact ⟨false, ⟨rfl, rfl, rfl, rfl, rfl, rfl, rfl, rfl, rfl, trivial⟩, h⟩
                · rintro ρ H_3 ⟨y83, hI, h⟩
                  obtain ⟨ρ0, rfl⟩ : ∃ ρ0, ρ = (Env.set (Env.set (Env.set (Env.set (Env.set (Env.set (Env.set (Env.set (Env.set ρ0 88 (.bool y83)) 14 (.int .i64 r70)) 13 (.int .i64 r65)) 12 (.int .i64 r64)) 9 (.pointer (some ⟨H_1.size, 0, none⟩))) 8 (.int .i64 y10)) 7 (Sl.v y9)) 6 (.pointer r7)) 1 (Sl.v p1)) := ⟨ρ, hI.eq⟩
                  clear hI; unfold F4_3 at h
                  obtain ⟨hT, hF⟩ := h
                  refine HW.cond y83 rfl (fun hb88 => ?_) (fun hb88 => ?_)
                  · have h := hT hb88
                    clear hT hF
                    refine HW.seq ?_
                    refine HW.region ?_
                    refine HList.vals (v := (.bool false)) rfl (HVal.assign' rfl) ?_
                    refine HList.nil ?_
                    refine nt ?_
                    refine HW.ret ?_
                    refine tr ?_
                    refine br ?_
                    refine tr ?_
                    refine br ?_
                    refine tr ?_
                    refine tr ?_
                    refine br ?_
                    refine tr ?_
                    exact ⟨_, resOf1 rfl Res1.t, ⟨false, rfl, h⟩⟩
                  · have h := hF hb88
                    clear hT hF
                    refine HW.skip ?_
                    refine nt ?_
                    refine HW.seq ?_
                    refine HW.region ?_
                    refine HList.vals (v := (.int .i64 r65)) rfl (HVal.move' rfl) ?_
                    refine HList.vals (v := (.bool (decide (r65 = 0)))) rfl (HVal.eqlI rfl rfl) ?_
                    refine HList.nil ?_
                    refine nt ?_
                    obtain ⟨hT, hF⟩ := h
                    refine HW.cond (decide (r65 = 0)) rfl (fun hb89 => ?_) (fun hb89 => ?_)
                    · have h := hT hb89
                      clear hT hF
                      refine HW.seq ?_
                      refine HW.region ?_
                      refine HList.vals (v := (Sl.v y9)) rfl (HVal.move' rfl) ?_
                      refine HList.vals (v := (.int .i64 r70)) rfl (HVal.move' rfl) ?_
                      obtain ⟨a90, e91, b92, b93, h⟩ := h
                      refine HList.vals (v := (.pointer (some (Addr.add a90 (r70.toNat * 2))))) rfl (HVal.indexAddr Try.runUnderlying38 Try.sizeOf43 (Sl.v_some rfl e91) rfl b92 b93) ?_
                      refine HList.vals (v := (.pointer (some (Addr.add (Addr.add a90 (r70.toNat * 2)) 1)))) rfl (HVal.fieldAddr' Try.runUnderlying43 rfl rfl Try.sizeOf41 rfl) ?_
                      obtain ⟨x95, c94, h⟩ := h
                      refine HList.vals (v := (Sl.v x95)) rfl (HVal.load1 Try.isAgg41 rfl c94) ?_
                      refine HList.ops' rfl (HOp.append (k := 2) (b := 16) Try.runUnderlying41 Try.runUnderlying41 Try.typeInfo32 rfl rfl Try.zeroValue32 rfl rfl h) ?_
                      rintro _ H96 ⟨r98, rfl, h⟩
                      refine HList.vals (v := (Sl.v r98)) rfl (HVal.assign' rfl) ?_
                      refine HList.nil ?_
                      refine nt ?_
                      refine HW.seq ?_
                      refine HW.region ?_
                      refine HList.vals (v := (Sl.v r98)) rfl (HVal.move' rfl) ?_
                      refine HList.vals (v := (.pointer (some (Addr.add ⟨H_1.size, 0, none⟩ 3)))) rfl (HVal.fieldAddr' Try.runUnderlying34 rfl rfl Try.sizeOf32 rfl) ?_
                      obtain ⟨x100, x101, c99, h⟩ := h
                      refine HList.vals (v := (.agg #[(.int .i64 x100), (.int .i64 x101)])) rfl (HVal.loadN [(.int .i64 x100), (.int .i64 x101)] Try.isAgg32 Try.sizeOf32 rfl c99) ?_
                      refine HList.ops' rfl (HOp.buildSlice' (zs := [(.int .i64 0), (.int .i64 0)]) (cs := [(.int .i64 x100), (.int .i64 x101)]) Try.runUnderlying41 Try.sizeOf32 Try.zeroValue32 (by decide) (by kernel_rfl) rfl (by decide)) ?_
                      rintro _ H102 ⟨rfl, e103⟩
                      replace h := h H102 e103
                      refine HList.ops' rfl (HOp.append (k := 2) (b := 16) Try.runUnderlying41 Try.runUnderlying41 Try.typeInfo32 rfl rfl Try.zeroValue32 rfl rfl h) ?_
                      rintro _ H104 ⟨r106, rfl, h⟩
                      refine HList.vals (v := (Sl.v r106)) rfl (HVal.assign' rfl) ?_
                      refine HList.nil ?_
                      refine nt ?_
                      refine HW.region ?_
                      refine HList.vals (v := (Sl.v y9)) rfl (HVal.move' rfl) ?_
                      refine HList.vals (v := (.int .i64 r64)) rfl (HVal.move' rfl) ?_
                      refine HList.vals (v := (Sl.v r106)) rfl (HVal.move' rfl) ?_
                      refine HList.vals (v := (.agg #[(.int .i64 r64), (Sl.v r106)])) rfl (HVal.build' (cs := [(.int .i64 r64), (Sl.v r106)]) Try.runUnderlying43 Try.zeroValue43 places43 rfl) ?_
                      refine HList.ops' rfl (HOp.buildSlice' (zs := [(.int .i64 0), (Sl.v Sl.nil)]) (cs := [(.int .i64 r64), (Sl.v r106)]) Try.runUnderlying38 Try.sizeOf43 Try.zeroValue43 (by decide) (by kernel_rfl) rfl (by decide)) ?_
                      rintro _ H107 ⟨rfl, e108⟩
                      replace h := h H107 e108
                      refine HList.ops' rfl (HOp.append (k := 2) (b := 32) Try.runUnderlying38 Try.runUnderlying38 Try.typeInfo43 rfl rfl Try.zeroValue43 rfl rfl h) ?_
                      rintro _ H109 ⟨r111, rfl, h⟩
                      refine HList.vals (v := (Sl.v r111)) rfl (HVal.assign' rfl) ?_
                      refine HList.nil ?_
                      refine nb ?_
                      refine nt ?_
                      exact ⟨r111, ⟨rfl, rfl, rfl, rfl, trivial⟩, h⟩
                    · have h := hF hb89
                      clear hT hF
                      refine HW.skip ?_
                      refine nb ?_
                      refine nt ?_
                      exact ⟨y9, ⟨rfl, rfl, rfl, rfl, trivial⟩, h⟩
              · have h := hF hb56
                clear hT hF
                refine HW.seq ?_
                refine HW.region ?_
                refine HList.vals (v := (.bool (decide (x35 = 3)))) rfl (HVal.eqlI rfl rfl) ?_
                refine HList.vals (v := (.bool (decide (x35 = 3)))) rfl (HVal.assign' rfl) ?_
                refine HList.nil ?_
                refine nt ?_
                obtain ⟨hT, hF⟩ := h
                refine HW.cond (decide (x35 = 3)) rfl (fun hb112 => ?_) (fun hb112 => ?_)
                · have h := hT hb112
                  clear hT hF
                  refine HW.seq ?_
                  refine HW.region ?_
                  refine HList.vals (v := (.pointer r7)) rfl (HVal.move' rfl) ?_
                  refine HList.vals (v := (.pointer (some (Addr.add ⟨H_1.size, 0, none⟩ 2)))) rfl (HVal.fieldAddr' Try.runUnderlying34 rfl rfl Try.sizeOf3 rfl) ?_
                  obtain ⟨x114, c113, h⟩ := h
                  refine HList.vals (v := (.int .i64 x114)) rfl (HVal.load1 Try.isAgg3 rfl c113) ?_
                  refine HList.ops' rfl (HOp.call' 16 [(.pointer r7), (.int .i64 x114)] (cap := []) rfl rfl Try.call16 (walk16 h)) ?_
                  rintro _ H115 ⟨r117, rfl, h⟩
                  refine HList.vals (v := (.int .i64 r117)) rfl (HVal.assign' rfl) ?_
                  refine HList.nil ?_
                  refine nt ?_
                  refine HW.seq ?_
                  refine HW.region ?_
                  refine HList.vals (v := (Sl.v y9)) rfl (HVal.move' rfl) ?_
                  refine HList.vals (v := (.pointer (some (Addr.add ⟨H_1.size, 0, none⟩ 2)))) rfl (HVal.fieldAddr' Try.runUnderlying34 rfl rfl Try.sizeOf3 rfl) ?_
                  obtain ⟨x119, c118, h⟩ := h
                  refine HList.vals (v := (.int .i64 x119)) rfl (HVal.load1 Try.isAgg3 rfl c118) ?_
                  refine HList.ops' rfl (HOp.call' 15 [(Sl.v y9), (.int .i64 x119)] (cap := []) rfl rfl Try.call15 (walk15 h)) ?_
                  rintro _ H120 ⟨r122, rfl, h⟩
                  refine HList.vals (v := (.int .i64 r122)) rfl (HVal.assign' rfl) ?_
                  refine HList.nil ?_
                  refine nt ?_
                  refine HW.seq ?_
                  refine HW.seq ?_
                  refine HW.region ?_
                  refine HList.vals (v := (.int .i64 r117)) rfl (HVal.move' rfl) ?_
                  refine HList.vals (v := (.bool (decide (r117 = 0)))) rfl (HVal.eqlI rfl rfl) ?_
                  refine HList.vals (v := (.int .i64 r122)) rfl (HVal.move' rfl) ?_
                  refine HList.vals (v := (.bool (decide ((0 : Int) ≤ r122)))) rfl (HVal.geq rfl rfl) ?_
                  refine HList.vals (v := (.bool (!((decide (r117 = 0)) == (decide ((0 : Int) ≤ r122)))))) rfl (HVal.neqB Try.underlying4 rfl rfl) ?_
                  refine HList.nil ?_
                  refine nt ?_
                  obtain ⟨hT, hF⟩ := h
                  refine HW.cond (!((decide (r117 = 0)) == (decide ((0 : Int) ≤ r122)))) rfl (fun hb123 => ?_) (fun hb123 => ?_)
                  · have h := hT hb123
                    clear hT hF
                    refine HW.seq ?_
                    refine HW.region ?_
                    refine HList.vals (v := (.bool false)) rfl (HVal.assign' rfl) ?_
                    refine HList.nil ?_
                    refine nt ?_
                    refine HW.ret ?_
                    refine tr ?_
                    refine br ?_
                    refine tr ?_
                    refine br ?_
                    refine tr ?_
                    refine tr ?_
                    refine br ?_
                    refine tr ?_
                    exact ⟨_, resOf1 rfl Res1.t, ⟨false, rfl, h⟩⟩
                  · have h := hF hb123
                    clear hT hF
                    refine HW.skip ?_
                    refine nt ?_
                    refine HW.region ?_
                    refine HList.vals (v := (Sl.v y9)) rfl (HVal.move' rfl) ?_
                    refine HList.vals (v := (.int .i64 r122)) rfl (HVal.move' rfl) ?_
                    refine HList.ops' rfl (HOp.call' 17 [(Sl.v y9), (.int .i64 r122)] (cap := []) rfl rfl Try.call17 (walk17 h)) ?_
                    rintro _ H124 ⟨r126, rfl, h⟩
                    refine HList.vals (v := (Sl.v r126)) rfl (HVal.assign' rfl) ?_
                    refine HList.nil ?_
                    refine nb ?_
                    refine nt ?_
                    exact ⟨r126, ⟨rfl, rfl, rfl, rfl, trivial⟩, h⟩
                · have h := hF hb112
                  clear hT hF
                  refine HW.skip ?_
                  refine nb ?_
                  refine nt ?_
                  exact ⟨y9, ⟨rfl, rfl, rfl, rfl, trivial⟩, h⟩
          · rintro ρ H_2 ⟨y55, hI, h⟩
            obtain ⟨ρ0, rfl⟩ : ∃ ρ0, ρ = (Env.set (Env.set (Env.set (Env.set ρ0 7 (Sl.v y55)) 8 (.int .i64 y10)) 6 (.pointer r7)) 1 (Sl.v p1)) := ⟨ρ, hI.eq⟩
            clear hI; unfold F4_2 at h
            refine HW.seq ?_
            refine HW.region ?_
            refine HList.vals (v := (.pointer r7)) rfl (HVal.move' rfl) ?_
            refine HList.vals (v := (Sl.v y55)) rfl (HVal.move' rfl) ?_
            refine HList.ops' rfl (HOp.call' 18 [(.pointer r7), (Sl.v y55)] (cap := []) rfl rfl Try.call18 (walk18 h)) ?_
            rintro _ H127 ⟨r129, rfl, h⟩
            refine HList.vals (v := (.bool r129)) rfl (HVal.assign' rfl) ?_
            refine HList.nil ?_
            refine nt ?_
            refine HW.seq ?_
            refine HW.region ?_
            refine HList.vals (v := (.bool r129)) rfl (HVal.move' rfl) ?_
            refine HList.vals (v := (.bool (!r129))) rfl (HVal.not rfl) ?_
            refine HList.nil ?_
            refine nt ?_
            obtain ⟨hT, hF⟩ := h
            refine HW.cond (!r129) rfl (fun hb130 => ?_) (fun hb130 => ?_)
            · have h := hT hb130
              clear hT hF
              refine HW.seq ?_
              refine HW.region ?_
              refine HList.vals (v := (.bool false)) rfl (HVal.assign' rfl) ?_
              refine HList.nil ?_
              refine nt ?_
              refine HW.ret ?_
              refine br ?_
              refine tr ?_
              refine tr ?_
              refine br ?_
              refine tr ?_
              exact ⟨_, resOf1 rfl Res1.t, ⟨false, rfl, h⟩⟩
            · have h := hF hb130
              clear hT hF
              refine HW.skip ?_
              refine nb ?_
              refine nt ?_
              refine HW.region ?_
              refine HList.vals (v := (.int .i64 y10)) rfl (HVal.move' rfl) ?_
              refine HList.vals (v := (.int .i64 (IntKind.i64.wrap (y10 + 1)))) rfl (HVal.add rfl rfl) ?_
              refine HList.vals (v := (.int .i64 (IntKind.i64.wrap (y10 + 1)))) rfl (HVal.assign' rfl) ?_
              refine HList.nil ?_
              refine nt ?_
              exact (hX1 _ _ _).1 h _ ⟨rfl, rfl, rfl, rfl, trivial⟩
        · have h := hF hb15
          clear hT hF
          refine HW.exit ?_
          refine te ?_
          refine te ?_
          refine be ?_
          refine nt ?_
          refine HW.seq ?_
          refine HW.region ?_
          refine HList.vals (v := (.bool true)) rfl (HVal.assign' rfl) ?_
          refine HList.nil ?_
          refine nt ?_
          refine HW.ret ?_
          exact ⟨_, resOf1 rfl Res1.t, ⟨true, rfl, h⟩⟩
      · have h := hF hb14
        clear hT hF
        refine HList.gskips rfl rfl rfl rfl (congrArg Value.bool hb14) ?_
        refine HList.gskips rfl rfl rfl rfl (congrArg Value.bool hb14) ?_
        refine HList.vals (v := (.bool false)) rfl (HVal.pickF rfl hb14 rfl) ?_
        refine HList.nil ?_
        refine nt ?_
        refine HW.condF false rfl rfl ?_
        refine HW.exit ?_
        refine te ?_
        refine te ?_
        refine be ?_
        refine nt ?_
        refine HW.seq ?_
        refine HW.region ?_
        refine HList.vals (v := (.bool true)) rfl (HVal.assign' rfl) ?_
        refine HList.nil ?_
        refine nt ?_
        refine HW.ret ?_
        exact ⟨_, resOf1 rfl Res1.t, ⟨true, rfl, h⟩⟩

end Go.Hw
