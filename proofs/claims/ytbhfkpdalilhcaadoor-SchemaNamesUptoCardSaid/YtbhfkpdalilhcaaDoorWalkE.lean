/- The walks of this seat, printed by a program of this session (wip/tools/gen.py): of each function what it does to the heap, and that it does so. -/
import Derived.Test.YtbhfkpdalilhcaaDoorHwT
import Derived.Test.YtbhfkpdalilhcaaDoorProg
import Derived.Test.YtbhfkpdalilhcaaDoorWAux
import Derived.Test.YtbhfkpdalilhcaaDoorWalkD
set_option linter.unusedVariables false
set_option linter.unusedSimpArgs false
namespace Go.Hw
open Go Go.Proofs
def F19_2 (Q : Bool → Hp → Prop) (y36 : (Option Addr)) (y37 : (Option Addr)) (y57 : Bool) (H_2 : Hp) : Prop :=
(y57 = true → (F37 H_2 (fun (r62 : ByteArray) (r63 : Sl) (H60 : Hp) => 
 F22 y36 1 0 r62 r63 (ByteArray.mk #[]) (ByteArray.mk #[]) 0 Sl.nil H60 (fun (r66 : Bool) (H64 : Hp) => 
 (r66 = true → (F22 y36 2 0 (ByteArray.mk #[]) Sl.nil S_Trade (ByteArray.mk #[]) 0 Sl.nil H64 (fun (r71 : Bool) (H69 : Hp) => 
 (r71 = true → (F22 y37 2 0 (ByteArray.mk #[]) Sl.nil S_Trade (ByteArray.mk #[]) 0 Sl.nil H69 (fun (r76 : Bool) (H74 : Hp) => 
 Q r76 H74))) ∧
 (r71 = false → (Q false H69))))) ∧
 (r66 = false → (Q false H64)))))) ∧
 (y57 = false → (Q false H_2))
def F19_1 (Q : Bool → Hp → Prop) (y11 : (Option Addr)) (y12 : (Option Addr)) (y15 : Bool) (H_1 : Hp) : Prop :=
(y15 = true → (Q false H_1)) ∧
 (y15 = false → (F37 H_1 (fun (r19 : ByteArray) (r20 : Sl) (H17 : Hp) => 
 F13 r19 r20 H17 (fun (r23 : ByteArray) (r24 : Int) (H21 : Hp) => 
 F14 r23 H21 (fun (r27 : ByteArray) (r28 : Sl) (r29 : Int) (r30 : Int) (H25 : Hp) => 
 ∀ H31 : Hp, H31 = Array.push H25 (.cells #[(.string (ByteArray.mk #[])), (Sl.v Sl.nil)] 27) → (
 mayw H31 ⟨H25.size, 0, none⟩ 2 0 ∧ ∀ H33 : Hp, H33 = sets H31 ⟨H25.size, 0, none⟩ [(.string r27), (Sl.v r28)] 0 → (
 ((decide (r24 = 0)) = true → (((seq r23 S_TYPE_Trade__price_INT__s) = true → (((decide (r30 = 0)) = true → (((decide (r29 = 0)) = true → (∃ (x47 : ByteArray) (x48 : Sl), cells H33 ⟨H25.size, 0, none⟩ [(.string x47), (Sl.v x48)] 0 ∧ (
 F37 H33 (fun (r51 : ByteArray) (r52 : Sl) (H49 : Hp) => 
 cells H49 ⟨H25.size, 0, none⟩ [(.string x47), (Sl.v x48)] 0 ∧ (
 F15 x47 x48 r51 r52 H49 (fun (r56 : Bool) (H54 : Hp) => 
 F19_2 Q y11 y12 r56 H54)))))) ∧
 ((decide (r29 = 0)) = false → (F19_2 Q y11 y12 false H33)))) ∧
 ((decide (r30 = 0)) = false → (F19_2 Q y11 y12 false H33)))) ∧
 ((seq r23 S_TYPE_Trade__price_INT__s) = false → (F19_2 Q y11 y12 false H33)))) ∧
 ((decide (r24 = 0)) = false → (F19_2 Q y11 y12 false H33)))))))))
def F19 (H : Hp) (Q : Bool → Hp → Prop) : Prop :=
∀ H1 : Hp, H1 = Array.push H (.cells #[(Sl.v Sl.nil), (Sl.v Sl.nil)] 60) → (
 F21 (some ⟨H.size, 0, none⟩) H1 (fun (r5 : (Option Addr)) (r6 : Bool) (H3 : Hp) => 
 F21 (some ⟨H.size, 0, none⟩) H3 (fun (r9 : (Option Addr)) (r10 : Bool) (H7 : Hp) => 
 ((!r6) = true → (F19_1 Q r5 r9 true H7)) ∧
 ((!r6) = false → (F19_1 Q r5 r9 (!r10) H7)))))
set_option maxRecDepth 100000 in
set_option maxHeartbeats 4000000 in
theorem walk19 {w0 : World} {H : Hp} {Q : Bool → Hp → Prop} (h : F19 H Q) :
    Good Tryd.prog w0 19 #[] H (fun v H => ∃ (r0 : Bool) , v = (.bool r0) ∧ Q r0 H) := by
  unfold F19 at h
  refine Good.enter' (fn := Tryd.f19) Tryd.func19 rfl rfl rfl ?_
  refine HW.seq ?_
  refine HW.region ?_
  refine HList.vals (v := (.bool false)) rfl (HVal.assign' rfl) ?_
  refine HList.nil ?_
  refine nt ?_
  refine HW.seq ?_
  refine HW.region ?_
  refine HList.vals (v := (.agg #[(Sl.v Sl.nil), (Sl.v Sl.nil)])) rfl (HVal.build' (cs := [(Sl.v Sl.nil), (Sl.v Sl.nil)]) Tryd.runUnderlying60 Tryd.zeroValue60 places60 rfl) ?_
  refine HList.ops' rfl (HOp.box (v := (.agg #[(Sl.v Sl.nil), (Sl.v Sl.nil)])) rfl) ?_
  rintro _ H1 ⟨rfl, e2⟩
  replace h := h H1 e2
  refine HList.vals (v := (.pointer (some ⟨H.size, 0, none⟩))) rfl (HVal.assign' rfl) ?_
  refine HList.nil ?_
  refine nt ?_
  refine HW.seq ?_
  refine HW.region ?_
  refine HList.vals (v := (.pointer (some ⟨H.size, 0, none⟩))) rfl (HVal.move' rfl) ?_
  refine HList.ops' rfl (HOp.call' 21 [(.pointer (some ⟨H.size, 0, none⟩))] (cap := []) rfl rfl Tryd.call21 (walk21 h)) ?_
  rintro _ H3 ⟨r5, r6, rfl, h⟩
  refine HList.vals (v := (.tuple #[(.pointer r5), (.bool r6)])) rfl (HVal.move' rfl) ?_
  refine HList.vals (v := (.pointer r5)) rfl (HVal.extract rfl rfl) ?_
  refine HList.vals (v := (.bool r6)) rfl (HVal.extract rfl rfl) ?_
  refine HList.vals (v := (.pointer r5)) rfl (HVal.assign' rfl) ?_
  refine HList.vals (v := (.bool r6)) rfl (HVal.assign' rfl) ?_
  refine HList.nil ?_
  refine nt ?_
  refine HW.seq ?_
  refine HW.region ?_
  refine HList.vals (v := (.pointer (some ⟨H.size, 0, none⟩))) rfl (HVal.move' rfl) ?_
  refine HList.ops' rfl (HOp.call' 21 [(.pointer (some ⟨H.size, 0, none⟩))] (cap := []) rfl rfl Tryd.call21 (walk21 h)) ?_
  rintro _ H7 ⟨r9, r10, rfl, h⟩
  refine HList.vals (v := (.tuple #[(.pointer r9), (.bool r10)])) rfl (HVal.move' rfl) ?_
  refine HList.vals (v := (.pointer r9)) rfl (HVal.extract rfl rfl) ?_
  refine HList.vals (v := (.bool r10)) rfl (HVal.extract rfl rfl) ?_
  refine HList.vals (v := (.pointer r9)) rfl (HVal.assign' rfl) ?_
  refine HList.vals (v := (.bool r10)) rfl (HVal.assign' rfl) ?_
  refine HList.nil ?_
  refine nt ?_
  refine HW.seq ?_
  refine HW.cut (fun ρ H_1 => ∃ (y15 : Bool), Env.Is ρ [(2, (.pointer r5)), (4, (.pointer r9)), (29, (.bool y15))] ∧ F19_1 Q r5 r9 y15 H_1) ?_ ?_
  · refine HW.region ?_
    refine HList.vals (v := (.bool r6)) rfl (HVal.move' rfl) ?_
    refine HList.vals (v := (.bool (!r6))) rfl (HVal.not rfl) ?_
    refine HList.vals (v := (.bool (!r6))) rfl (HVal.move' rfl) ?_
    obtain ⟨hT, hF⟩ := h
    rcases Bool.eq_false_or_eq_true (!r6) with hb13 | hb14
    · have h := hT hb13
      clear hT hF
      refine HList.gskips rfl rfl rfl rfl (congrArg Value.bool hb13) ?_
      refine HList.gskips rfl rfl rfl rfl (congrArg Value.bool hb13) ?_
      refine HList.vals (v := (.bool true)) rfl (HVal.pickT rfl hb13 rfl) ?_
      refine HList.nil ?_
      refine nt ?_
      exact ⟨true, ⟨rfl, rfl, rfl, trivial⟩, h⟩
    · have h := hF hb14
      clear hT hF
      refine HList.gvals (v := (.bool r10)) rfl rfl rfl rfl (congrArg Value.bool hb14) (HVal.move' rfl) ?_
      refine HList.gvals (v := (.bool (!r10))) rfl rfl rfl rfl (congrArg Value.bool hb14) (HVal.not rfl) ?_
      refine HList.vals (v := (.bool (!r10))) rfl (HVal.pickF rfl hb14 rfl) ?_
      refine HList.nil ?_
      refine nt ?_
      exact ⟨(!r10), ⟨rfl, rfl, rfl, trivial⟩, h⟩
  · rintro ρ H_1 ⟨y15, hI, h⟩
    obtain ⟨ρ0, rfl⟩ : ∃ ρ0, ρ = (Env.set (Env.set (Env.set ρ0 29 (.bool y15)) 4 (.pointer r9)) 2 (.pointer r5)) := ⟨ρ, hI.eq⟩
    clear hI; unfold F19_1 at h
    obtain ⟨hT, hF⟩ := h
    refine HW.cond y15 rfl (fun hb16 => ?_) (fun hb16 => ?_)
    · have h := hT hb16
      clear hT hF
      refine HW.seq ?_
      refine HW.region ?_
      refine HList.vals (v := (.bool false)) rfl (HVal.assign' rfl) ?_
      refine HList.nil ?_
      refine nt ?_
      refine HW.ret ?_
      refine tr ?_
      exact ⟨_, resOf1 rfl Res1.t, ⟨false, rfl, h⟩⟩
    · have h := hF hb16
      clear hT hF
      refine HW.skip ?_
      refine nt ?_
      refine HW.seq ?_
      refine HW.region ?_
      refine HList.ops' rfl (HOp.call' 37 [] (cap := []) rfl rfl Tryd.call37 (walk37 h)) ?_
      rintro _ H17 ⟨r19, r20, rfl, h⟩
      refine HList.ops' rfl (HOp.call' 13 [(.agg #[(.string r19), (Sl.v r20)])] (cap := []) rfl rfl Tryd.call13 (walk13 h)) ?_
      rintro _ H21 ⟨r23, r24, rfl, h⟩
      refine HList.vals (v := (.tuple #[(.string r23), (.int .i64 r24)])) rfl (HVal.move' rfl) ?_
      refine HList.vals (v := (.string r23)) rfl (HVal.extract rfl rfl) ?_
      refine HList.vals (v := (.int .i64 r24)) rfl (HVal.extract rfl rfl) ?_
      refine HList.vals (v := (.string r23)) rfl (HVal.assign' rfl) ?_
      refine HList.vals (v := (.int .i64 r24)) rfl (HVal.assign' rfl) ?_
      refine HList.nil ?_
      refine nt ?_
      refine HW.seq ?_
      refine HW.region ?_
      refine HList.vals (v := (.string r23)) rfl (HVal.move' rfl) ?_
      refine HList.ops' rfl (HOp.call' 14 [(.string r23)] (cap := []) rfl rfl Tryd.call14 (walk14 h)) ?_
      rintro _ H25 ⟨r27, r28, r29, r30, rfl, h⟩
      refine HList.vals (v := (.tuple #[(.agg #[(.string r27), (Sl.v r28)]), (.int .i64 r29), (.int .i64 r30)])) rfl (HVal.move' rfl) ?_
      refine HList.vals (v := (.agg #[(.string r27), (Sl.v r28)])) rfl (HVal.extract rfl rfl) ?_
      refine HList.vals (v := (.int .i64 r29)) rfl (HVal.extract rfl rfl) ?_
      refine HList.vals (v := (.int .i64 r30)) rfl (HVal.extract rfl rfl) ?_
      refine HList.ops' rfl (HOp.alloc Tryd.zeroValue27) ?_
      rintro _ H31 ⟨rfl, e32⟩
      replace h := h H31 e32
      obtain ⟨z35, h⟩ := h
      refine HList.opsn (HOp.storeN' (l := [(.string r27), (Sl.v r28)]) Tryd.sizeOf27 rfl rfl rfl z35) ?_
      rintro _ H33 e34
      replace h := h H33 e34
      refine HList.vals (v := (.int .i64 r29)) rfl (HVal.assign' rfl) ?_
      refine HList.vals (v := (.int .i64 r30)) rfl (HVal.assign' rfl) ?_
      refine HList.nil ?_
      refine nt ?_
      refine HW.cut (fun ρ H_2 => ∃ (y57 : Bool), Env.Is ρ [(2, (.pointer r5)), (4, (.pointer r9)), (11, (.bool y57))] ∧ F19_2 Q r5 r9 y57 H_2) ?_ ?_
      · refine HW.draw mixed [(0, some []), (1, some []), (2, some []), (3, some []), (4, some []), (5, some []), (6, some []), (7, some []), (8, some []), (9, some []), (10, some []), (11, some []), (12, some []), (13, some []), (14, some []), (15, some [17]), (16, none), (17, none), (18, some []), (19, some [])] rfl (by kernel_rfl) (by kernel_rfl) ?_
        refine HPlan.takev (v := (.int .i64 r24)) rfl rfl (fun _ => HVal.move' rfl) ?_
        refine HPlan.takev (v := (.bool (decide (r24 = 0)))) rfl rfl (fun _ => HVal.eqlI rfl rfl) ?_
        refine HPlan.takev (v := (.bool (decide (r24 = 0)))) rfl rfl (fun _ => HVal.move' rfl) ?_
        obtain ⟨hT, hF⟩ := h
        rcases Bool.eq_false_or_eq_true (decide (r24 = 0)) with hb38 | hb39
        · have h := hT hb38
          clear hT hF
          refine HPlan.gtakev (v := (.string r23)) rfl rfl rfl rfl rfl (congrArg Value.bool hb38) (fun _ => HVal.move' rfl) ?_
          refine HPlan.gtakev (v := (.bool (seq r23 S_TYPE_Trade__price_INT__s))) rfl rfl rfl rfl rfl (congrArg Value.bool hb38) (fun _ => HVal.eqlS rfl rfl) ?_
          refine HPlan.takev (v := (.bool (seq r23 S_TYPE_Trade__price_INT__s))) rfl rfl (fun _ => HVal.pickT rfl hb38 rfl) ?_
          refine HPlan.takev (v := (.bool (seq r23 S_TYPE_Trade__price_INT__s))) rfl rfl (fun _ => HVal.move' rfl) ?_
          obtain ⟨hT, hF⟩ := h
          rcases Bool.eq_false_or_eq_true (seq r23 S_TYPE_Trade__price_INT__s) with hb40 | hb41
          · have h := hT hb40
            clear hT hF
            refine HPlan.gtakev (v := (.int .i64 r30)) rfl rfl rfl rfl rfl (congrArg Value.bool hb40) (fun _ => HVal.move' rfl) ?_
            refine HPlan.gtakev (v := (.bool (decide (r30 = 0)))) rfl rfl rfl rfl rfl (congrArg Value.bool hb40) (fun _ => HVal.eqlI rfl rfl) ?_
            refine HPlan.takev (v := (.bool (decide (r30 = 0)))) rfl rfl (fun _ => HVal.pickT rfl hb40 rfl) ?_
            refine HPlan.takev (v := (.bool (decide (r30 = 0)))) rfl rfl (fun _ => HVal.move' rfl) ?_
            obtain ⟨hT, hF⟩ := h
            rcases Bool.eq_false_or_eq_true (decide (r30 = 0)) with hb42 | hb43
            · have h := hT hb42
              clear hT hF
              refine HPlan.gtakev (v := (.int .i64 r29)) rfl rfl rfl rfl rfl (congrArg Value.bool hb42) (fun _ => HVal.move' rfl) ?_
              refine HPlan.gtakev (v := (.bool (decide (r29 = 0)))) rfl rfl rfl rfl rfl (congrArg Value.bool hb42) (fun _ => HVal.eqlI rfl rfl) ?_
              refine HPlan.takev (v := (.bool (decide (r29 = 0)))) rfl rfl (fun _ => HVal.pickT rfl hb42 rfl) ?_
              refine HPlan.takev (v := (.bool (decide (r29 = 0)))) rfl rfl (fun _ => HVal.move' rfl) ?_
              obtain ⟨hT, hF⟩ := h
              rcases Bool.eq_false_or_eq_true (decide (r29 = 0)) with hb44 | hb45
              · have h := hT hb44
                clear hT hF
                obtain ⟨x47, x48, c46, h⟩ := h
                refine HPlan.gtakel (v := (.agg #[(.string x47), (Sl.v x48)])) (fun X => cells X ⟨H25.size, 0, none⟩ [(.string x47), (Sl.v x48)] 0) rfl rfl rfl rfl rfl (congrArg Value.bool hb44) (fun _ hX => HVal.loadN [(.string x47), (Sl.v x48)] Tryd.isAgg27 Tryd.sizeOf27 rfl hX) c46 ?_
                refine HPlan.gops rfl rfl rfl rfl rfl (congrArg Value.bool hb44) (HOp.call' 37 [] (cap := []) rfl rfl Tryd.call37 (walk37 h)) ?_
                rintro _ H49 ⟨r51, r52, rfl, h⟩
                obtain ⟨s53, h⟩ := h
                refine ⟨SC_of ⟨fun _ => s53, trivial⟩, ?_⟩
                refine HPlan.gops rfl rfl rfl rfl rfl (congrArg Value.bool hb44) (HOp.call' 15 [(.agg #[(.string x47), (Sl.v x48)]), (.agg #[(.string r51), (Sl.v r52)])] (cap := []) rfl rfl Tryd.call15 (walk15 h)) ?_
                rintro _ H54 ⟨r56, rfl, h⟩
                refine ⟨SC_of ⟨fun e => absurd e (by decide), trivial⟩, ?_⟩
                refine HPlan.takev (v := (.bool r56)) rfl rfl (fun _ => HVal.pickT rfl hb44 rfl) ?_
                refine HPlan.takev (v := (.bool r56)) rfl rfl (fun _ => HVal.assign' rfl) ?_
                refine HPlan.done ?_
                refine nt ?_
                exact ⟨r56, ⟨rfl, rfl, rfl, trivial⟩, h⟩
              · have h := hF hb45
                clear hT hF
                refine HPlan.takegskip rfl rfl rfl rfl (congrArg Value.bool hb45) ?_
                refine HPlan.opgskip rfl rfl rfl rfl (congrArg Value.bool hb45) ?_
                refine HPlan.opgskip rfl rfl rfl rfl (congrArg Value.bool hb45) ?_
                refine HPlan.takev (v := (.bool false)) rfl rfl (fun _ => HVal.pickF rfl hb45 rfl) ?_
                refine HPlan.takev (v := (.bool false)) rfl rfl (fun _ => HVal.assign' rfl) ?_
                refine HPlan.done ?_
                refine nt ?_
                exact ⟨false, ⟨rfl, rfl, rfl, trivial⟩, h⟩
            · have h := hF hb43
              clear hT hF
              refine HPlan.takegskip rfl rfl rfl rfl (congrArg Value.bool hb43) ?_
              refine HPlan.takegskip rfl rfl rfl rfl (congrArg Value.bool hb43) ?_
              refine HPlan.takev (v := (.bool false)) rfl rfl (fun _ => HVal.pickF rfl hb43 rfl) ?_
              refine HPlan.takev (v := (.bool false)) rfl rfl (fun _ => HVal.move' rfl) ?_
              refine HPlan.takegskip rfl rfl rfl rfl rfl ?_
              refine HPlan.opgskip rfl rfl rfl rfl rfl ?_
              refine HPlan.opgskip rfl rfl rfl rfl rfl ?_
              refine HPlan.takev (v := (.bool false)) rfl rfl (fun _ => HVal.pickF rfl rfl rfl) ?_
              refine HPlan.takev (v := (.bool false)) rfl rfl (fun _ => HVal.assign' rfl) ?_
              refine HPlan.done ?_
              refine nt ?_
              exact ⟨false, ⟨rfl, rfl, rfl, trivial⟩, h⟩
          · have h := hF hb41
            clear hT hF
            refine HPlan.takegskip rfl rfl rfl rfl (congrArg Value.bool hb41) ?_
            refine HPlan.takegskip rfl rfl rfl rfl (congrArg Value.bool hb41) ?_
            refine HPlan.takev (v := (.bool false)) rfl rfl (fun _ => HVal.pickF rfl hb41 rfl) ?_
            refine HPlan.takev (v := (.bool false)) rfl rfl (fun _ => HVal.move' rfl) ?_
            refine HPlan.takegskip rfl rfl rfl rfl rfl ?_
            refine HPlan.takegskip rfl rfl rfl rfl rfl ?_
            refine HPlan.takev (v := (.bool false)) rfl rfl (fun _ => HVal.pickF rfl rfl rfl) ?_
            refine HPlan.takev (v := (.bool false)) rfl rfl (fun _ => HVal.move' rfl) ?_
            refine HPlan.takegskip rfl rfl rfl rfl rfl ?_
            refine HPlan.opgskip rfl rfl rfl rfl rfl ?_
            refine HPlan.opgskip rfl rfl rfl rfl rfl ?_
            refine HPlan.takev (v := (.bool false)) rfl rfl (fun _ => HVal.pickF rfl rfl rfl) ?_
            refine HPlan.takev (v := (.bool false)) rfl rfl (fun _ => HVal.assign' rfl) ?_
            refine HPlan.done ?_
            refine nt ?_
            exact ⟨false, ⟨rfl, rfl, rfl, trivial⟩, h⟩
        · have h := hF hb39
          clear hT hF
          refine HPlan.takegskip rfl rfl rfl rfl (congrArg Value.bool hb39) ?_
          refine HPlan.takegskip rfl rfl rfl rfl (congrArg Value.bool hb39) ?_
          refine HPlan.takev (v := (.bool false)) rfl rfl (fun _ => HVal.pickF rfl hb39 rfl) ?_
          refine HPlan.takev (v := (.bool false)) rfl rfl (fun _ => HVal.move' rfl) ?_
          refine HPlan.takegskip rfl rfl rfl rfl rfl ?_
          refine HPlan.takegskip rfl rfl rfl rfl rfl ?_
          refine HPlan.takev (v := (.bool false)) rfl rfl (fun _ => HVal.pickF rfl rfl rfl) ?_
          refine HPlan.takev (v := (.bool false)) rfl rfl (fun _ => HVal.move' rfl) ?_
          refine HPlan.takegskip rfl rfl rfl rfl rfl ?_
          refine HPlan.takegskip rfl rfl rfl rfl rfl ?_
          refine HPlan.takev (v := (.bool false)) rfl rfl (fun _ => HVal.pickF rfl rfl rfl) ?_
          refine HPlan.takev (v := (.bool false)) rfl rfl (fun _ => HVal.move' rfl) ?_
          refine HPlan.takegskip rfl rfl rfl rfl rfl ?_
          refine HPlan.opgskip rfl rfl rfl rfl rfl ?_
          refine HPlan.opgskip rfl rfl rfl rfl rfl ?_
          refine HPlan.takev (v := (.bool false)) rfl rfl (fun _ => HVal.pickF rfl rfl rfl) ?_
          refine HPlan.takev (v := (.bool false)) rfl rfl (fun _ => HVal.assign' rfl) ?_
          refine HPlan.done ?_
          refine nt ?_
          exact ⟨false, ⟨rfl, rfl, rfl, trivial⟩, h⟩
      · rintro ρ H_2 ⟨y57, hI, h⟩
        obtain ⟨ρ0, rfl⟩ : ∃ ρ0, ρ = (Env.set (Env.set (Env.set ρ0 11 (.bool y57)) 4 (.pointer r9)) 2 (.pointer r5)) := ⟨ρ, hI.eq⟩
        clear hI; unfold F19_2 at h
        refine HW.seq ?_
        refine HW.region ?_
        refine HList.vals (v := (.bool y57)) rfl (HVal.move' rfl) ?_
        refine HList.vals (v := (.bool y57)) rfl (HVal.move' rfl) ?_
        obtain ⟨hT, hF⟩ := h
        rcases Bool.eq_false_or_eq_true y57 with hb58 | hb59
        · have h := hT hb58
          clear hT hF
          refine HList.gvals (v := (.pointer r5)) rfl rfl rfl rfl (congrArg Value.bool hb58) (HVal.move' rfl) ?_
          refine HList.gops rfl rfl rfl rfl (congrArg Value.bool hb58) (HOp.call' 37 [] (cap := []) rfl rfl Tryd.call37 (walk37 h)) ?_
          rintro _ H60 ⟨r62, r63, rfl, h⟩
          refine HList.gvals (v := (.agg #[(.int .i64 1), (.int .i64 0), (.string r62), (Sl.v r63), (.string (ByteArray.mk #[])), (.string (ByteArray.mk #[])), (.int .i64 0), (Sl.v Sl.nil)])) rfl rfl rfl rfl (congrArg Value.bool hb58) (HVal.build' (cs := [(.int .i64 1), (.int .i64 0), (.string r62), (Sl.v r63), (.string (ByteArray.mk #[])), (.string (ByteArray.mk #[])), (.int .i64 0), (Sl.v Sl.nil)]) Tryd.runUnderlying65 Tryd.zeroValue65 places65 (by kernel_rfl)) ?_
          refine HList.gops rfl rfl rfl rfl (congrArg Value.bool hb58) (HOp.call' 22 [(.pointer r5), (.agg #[(.int .i64 1), (.int .i64 0), (.string r62), (Sl.v r63), (.string (ByteArray.mk #[])), (.string (ByteArray.mk #[])), (.int .i64 0), (Sl.v Sl.nil)])] (cap := []) rfl rfl Tryd.call22 (walk22 h)) ?_
          rintro _ H64 ⟨r66, rfl, h⟩
          refine HList.vals (v := (.bool r66)) rfl (HVal.pickT rfl hb58 rfl) ?_
          refine HList.vals (v := (.bool r66)) rfl (HVal.move' rfl) ?_
          obtain ⟨hT, hF⟩ := h
          rcases Bool.eq_false_or_eq_true r66 with hb67 | hb68
          · have h := hT hb67
            clear hT hF
            refine HList.gvals (v := (.pointer r5)) rfl rfl rfl rfl (congrArg Value.bool hb67) (HVal.move' rfl) ?_
            refine HList.gvals (v := (.agg #[(.int .i64 2), (.int .i64 0), (.string (ByteArray.mk #[])), (Sl.v Sl.nil), (.string S_Trade), (.string (ByteArray.mk #[])), (.int .i64 0), (Sl.v Sl.nil)])) rfl rfl rfl rfl (congrArg Value.bool hb67) (HVal.build' (cs := [(.int .i64 2), (.int .i64 0), (.string (ByteArray.mk #[])), (Sl.v Sl.nil), (.string S_Trade), (.string (ByteArray.mk #[])), (.int .i64 0), (Sl.v Sl.nil)]) Tryd.runUnderlying65 Tryd.zeroValue65 places65 (by kernel_rfl)) ?_
            refine HList.gops rfl rfl rfl rfl (congrArg Value.bool hb67) (HOp.call' 22 [(.pointer r5), (.agg #[(.int .i64 2), (.int .i64 0), (.string (ByteArray.mk #[])), (Sl.v Sl.nil), (.string S_Trade), (.string (ByteArray.mk #[])), (.int .i64 0), (Sl.v Sl.nil)])] (cap := []) rfl rfl Tryd.call22 (walk22 h)) ?_
            rintro _ H69 ⟨r71, rfl, h⟩
            refine HList.vals (v := (.bool r71)) rfl (HVal.pickT rfl hb67 rfl) ?_
            refine HList.vals (v := (.bool r71)) rfl (HVal.move' rfl) ?_
            obtain ⟨hT, hF⟩ := h
            rcases Bool.eq_false_or_eq_true r71 with hb72 | hb73
            · have h := hT hb72
              clear hT hF
              refine HList.gvals (v := (.pointer r9)) rfl rfl rfl rfl (congrArg Value.bool hb72) (HVal.move' rfl) ?_
              refine HList.gvals (v := (.agg #[(.int .i64 2), (.int .i64 0), (.string (ByteArray.mk #[])), (Sl.v Sl.nil), (.string S_Trade), (.string (ByteArray.mk #[])), (.int .i64 0), (Sl.v Sl.nil)])) rfl rfl rfl rfl (congrArg Value.bool hb72) (HVal.build' (cs := [(.int .i64 2), (.int .i64 0), (.string (ByteArray.mk #[])), (Sl.v Sl.nil), (.string S_Trade), (.string (ByteArray.mk #[])), (.int .i64 0), (Sl.v Sl.nil)]) Tryd.runUnderlying65 Tryd.zeroValue65 places65 (by kernel_rfl)) ?_
              refine HList.gops rfl rfl rfl rfl (congrArg Value.bool hb72) (HOp.call' 22 [(.pointer r9), (.agg #[(.int .i64 2), (.int .i64 0), (.string (ByteArray.mk #[])), (Sl.v Sl.nil), (.string S_Trade), (.string (ByteArray.mk #[])), (.int .i64 0), (Sl.v Sl.nil)])] (cap := []) rfl rfl Tryd.call22 (walk22 h)) ?_
              rintro _ H74 ⟨r76, rfl, h⟩
              refine HList.vals (v := (.bool r76)) rfl (HVal.pickT rfl hb72 rfl) ?_
              refine HList.vals (v := (.bool r76)) rfl (HVal.assign' rfl) ?_
              refine HList.nil ?_
              refine nt ?_
              refine HW.ret ?_
              exact ⟨_, resOf1 rfl Res1.t, ⟨r76, rfl, h⟩⟩
            · have h := hF hb73
              clear hT hF
              refine HList.gskips rfl rfl rfl rfl (congrArg Value.bool hb73) ?_
              refine HList.gskips rfl rfl rfl rfl (congrArg Value.bool hb73) ?_
              refine HList.gskips rfl rfl rfl rfl (congrArg Value.bool hb73) ?_
              refine HList.vals (v := (.bool false)) rfl (HVal.pickF rfl hb73 rfl) ?_
              refine HList.vals (v := (.bool false)) rfl (HVal.assign' rfl) ?_
              refine HList.nil ?_
              refine nt ?_
              refine HW.ret ?_
              exact ⟨_, resOf1 rfl Res1.t, ⟨false, rfl, h⟩⟩
          · have h := hF hb68
            clear hT hF
            refine HList.gskips rfl rfl rfl rfl (congrArg Value.bool hb68) ?_
            refine HList.gskips rfl rfl rfl rfl (congrArg Value.bool hb68) ?_
            refine HList.gskips rfl rfl rfl rfl (congrArg Value.bool hb68) ?_
            refine HList.vals (v := (.bool false)) rfl (HVal.pickF rfl hb68 rfl) ?_
            refine HList.vals (v := (.bool false)) rfl (HVal.move' rfl) ?_
            refine HList.gskips rfl rfl rfl rfl rfl ?_
            refine HList.gskips rfl rfl rfl rfl rfl ?_
            refine HList.gskips rfl rfl rfl rfl rfl ?_
            refine HList.vals (v := (.bool false)) rfl (HVal.pickF rfl rfl rfl) ?_
            refine HList.vals (v := (.bool false)) rfl (HVal.assign' rfl) ?_
            refine HList.nil ?_
            refine nt ?_
            refine HW.ret ?_
            exact ⟨_, resOf1 rfl Res1.t, ⟨false, rfl, h⟩⟩
        · have h := hF hb59
          clear hT hF
          refine HList.gskips rfl rfl rfl rfl (congrArg Value.bool hb59) ?_
          refine HList.gskips rfl rfl rfl rfl (congrArg Value.bool hb59) ?_
          refine HList.gskips rfl rfl rfl rfl (congrArg Value.bool hb59) ?_
          refine HList.gskips rfl rfl rfl rfl (congrArg Value.bool hb59) ?_
          refine HList.vals (v := (.bool false)) rfl (HVal.pickF rfl hb59 rfl) ?_
          refine HList.vals (v := (.bool false)) rfl (HVal.move' rfl) ?_
          refine HList.gskips rfl rfl rfl rfl rfl ?_
          refine HList.gskips rfl rfl rfl rfl rfl ?_
          refine HList.gskips rfl rfl rfl rfl rfl ?_
          refine HList.vals (v := (.bool false)) rfl (HVal.pickF rfl rfl rfl) ?_
          refine HList.vals (v := (.bool false)) rfl (HVal.move' rfl) ?_
          refine HList.gskips rfl rfl rfl rfl rfl ?_
          refine HList.gskips rfl rfl rfl rfl rfl ?_
          refine HList.gskips rfl rfl rfl rfl rfl ?_
          refine HList.vals (v := (.bool false)) rfl (HVal.pickF rfl rfl rfl) ?_
          refine HList.vals (v := (.bool false)) rfl (HVal.assign' rfl) ?_
          refine HList.nil ?_
          refine nt ?_
          refine HW.ret ?_
          exact ⟨_, resOf1 rfl Res1.t, ⟨false, rfl, h⟩⟩

def F6_2 (Q : Bool → Hp → Prop) (X1 : Int → Hp → Prop) (y23 : Sl) (y24 : Addr) (y25 : Addr) (y26 : Int) (y27 : Int) (H_2 : Hp) : Prop :=
(0 : Int) ≤ y27 ∧ y27 < ((8 : Nat) : Int) ∧ (
 ∃ x61 : (Option Addr), cell H_2 (Addr.add y25 (y27.toNat * 1)) = some (.pointer x61) ∧ (
 ∃ a62 : Addr, (y23).b = some a62 ∧ (0 : Int) ≤ y26 ∧ y26 < ((y23).n : Int) ∧ (
 ∃ (x67 : Int) (x68 : Int) (x69 : ByteArray) (x70 : Sl) (x71 : ByteArray) (x72 : ByteArray) (x73 : Int) (x74 : Sl), cells H_2 (Addr.add a62 (y26.toNat * 8)) [(.int .i64 x67), (.int .i64 x68), (.string x69), (Sl.v x70), (.string x71), (.string x72), (.int .i64 x73), (Sl.v x74)] 0 ∧ (
 F22 x61 x67 x68 x69 x70 x71 x72 x73 x74 H_2 (fun (r77 : Bool) (H75 : Hp) => 
 ((!r77) = true → (Q false H75)) ∧
 ((!r77) = false → (X1 (IntKind.i64.wrap (y26 + 1)) H75)))))))
def F6_3 (Q : Bool → Hp → Prop) (X1 : Int → Hp → Prop) (y28 : Sl) (y29 : Addr) (y30 : Addr) (y31 : Int) (y32 : Int) (y41 : Bool) (H_3 : Hp) : Prop :=
(y41 = true → (F21 (some y29) H_3 (fun (r49 : (Option Addr)) (r50 : Bool) (H47 : Hp) => 
 ((!r50) = true → (Q false H47)) ∧
 ((!r50) = false → ((0 : Int) ≤ y32 ∧ y32 < ((8 : Nat) : Int) ∧ (
 (cell H47 (Addr.add y30 (y32.toNat * 1))).isSome = true ∧ frz H47 (Addr.add y30 (y32.toNat * 1)) = false ∧ ∀ H54 : Hp, H54 = setc H47 (Addr.add y30 (y32.toNat * 1)) (.pointer r49) → (
 F6_2 Q X1 y28 y29 y30 y31 y32 H54))))))) ∧
 (y41 = false → (F6_2 Q X1 y28 y29 y30 y31 y32 H_3))
def F6_L1b (Q : Bool → Hp → Prop) (X1 : Int → Hp → Prop) (y10 : Sl) (y11 : Addr) (y12 : Addr) (y9 : Int) (H_1 : Hp) : Prop :=
((decide (y9 < ((y10).n : Int))) = true → (∃ a14 : Addr, (y10).b = some a14 ∧ (0 : Int) ≤ y9 ∧ y9 < ((y10).n : Int) ∧ (
 ∃ x19 : Int, cell H_1 (Addr.add (Addr.add a14 (y9.toNat * 8)) 1) = some (.int .i64 x19) ∧ (
 F20 x19 H_1 (fun (r22 : Int) (H20 : Hp) => 
 ∃ a33 : Addr, (y10).b = some a33 ∧ (0 : Int) ≤ y9 ∧ y9 < ((y10).n : Int) ∧ (
 ∃ x38 : Int, cell H20 (Addr.add a33 (y9.toNat * 8)) = some (.int .i64 x38) ∧ (
 ((decide (x38 = 8)) = true → (F6_3 Q X1 y10 y11 y12 y9 r22 true H20)) ∧
 ((decide (x38 = 8)) = false → ((0 : Int) ≤ r22 ∧ r22 < ((8 : Nat) : Int) ∧ (
 ∃ x45 : (Option Addr), cell H20 (Addr.add y12 (r22.toNat * 1)) = some (.pointer x45) ∧ (
 F6_3 Q X1 y10 y11 y12 y9 r22 (x45.isNone) H20))))))))))) ∧
 ((decide (y9 < ((y10).n : Int))) = false → (Q true H_1))
def F6_L1 (Q : Bool → Hp → Prop) (y10 : Sl) (y11 : Addr) (y12 : Addr) (y9 : Int) (H_1 : Hp) : Prop :=
  ∀ X1 : Int → Hp → Prop, (∀ (y9 : Int) (H_1 : Hp), F6_L1b Q X1 y10 y11 y12 y9 H_1 → X1 y9 H_1) → X1 y9 H_1
def F6 (p0 : Sl) (H : Hp) (Q : Bool → Hp → Prop) : Prop :=
F19 H (fun (r3 : Bool) (H1 : Hp) => 
 ((!r3) = true → (Q false H1)) ∧
 ((!r3) = false → (∀ H5 : Hp, H5 = Array.push H1 (.cells #[(Sl.v Sl.nil), (Sl.v Sl.nil)] 60) → (
 ∀ H7 : Hp, H7 = Array.push H5 (.cells #[(.pointer none), (.pointer none), (.pointer none), (.pointer none), (.pointer none), (.pointer none), (.pointer none), (.pointer none)] 62) → (
 F6_L1 Q p0 ⟨H1.size, 0, none⟩ ⟨H5.size, 0, none⟩ 0 H7)))))
set_option maxRecDepth 100000 in
set_option maxHeartbeats 4000000 in
theorem walk6 {w0 : World} {p0 : Sl} {H : Hp} {Q : Bool → Hp → Prop} (h : F6 p0 H Q) :
    Good Tryd.prog w0 6 #[(Sl.v p0)] H (fun v H => ∃ (r0 : Bool) , v = (.bool r0) ∧ Q r0 H) := by
  unfold F6 at h
  refine Good.enter' (fn := Tryd.f6) Tryd.func6 rfl rfl rfl ?_
  refine HW.seq ?_
  refine HW.region ?_
  refine HList.vals (v := (.bool false)) rfl (HVal.assign' rfl) ?_
  refine HList.nil ?_
  refine nt ?_
  refine HW.seq ?_
  refine HW.seq ?_
  refine HW.region ?_
  refine HList.ops' rfl (HOp.call' 19 [] (cap := []) rfl rfl Tryd.call19 (walk19 h)) ?_
  rintro _ H1 ⟨r3, rfl, h⟩
  refine HList.vals (v := (.bool (!r3))) rfl (HVal.not rfl) ?_
  refine HList.nil ?_
  refine nt ?_
  obtain ⟨hT, hF⟩ := h
  refine HW.cond (!r3) rfl (fun hb4 => ?_) (fun hb4 => ?_)
  · have h := hT hb4
    clear hT hF
    refine HW.seq ?_
    refine HW.region ?_
    refine HList.vals (v := (.bool false)) rfl (HVal.assign' rfl) ?_
    refine HList.nil ?_
    refine nt ?_
    refine HW.ret ?_
    refine tr ?_
    exact ⟨_, resOf1 rfl Res1.t, ⟨false, rfl, h⟩⟩
  · have h := hF hb4
    clear hT hF
    refine HW.skip ?_
    refine nt ?_
    refine HW.seq ?_
    refine HW.region ?_
    refine HList.vals (v := (.agg #[(Sl.v Sl.nil), (Sl.v Sl.nil)])) rfl (HVal.build' (cs := [(Sl.v Sl.nil), (Sl.v Sl.nil)]) Tryd.runUnderlying60 Tryd.zeroValue60 places60 rfl) ?_
    refine HList.ops' rfl (HOp.box (v := (.agg #[(Sl.v Sl.nil), (Sl.v Sl.nil)])) rfl) ?_
    rintro _ H5 ⟨rfl, e6⟩
    replace h := h H5 e6
    refine HList.vals (v := (.pointer (some ⟨H1.size, 0, none⟩))) rfl (HVal.assign' rfl) ?_
    refine HList.nil ?_
    refine nt ?_
    refine HW.seq ?_
    refine HW.region ?_
    refine HList.ops' rfl (HOp.alloc Tryd.zeroValue62) ?_
    rintro _ H7 ⟨rfl, e8⟩
    replace h := h H7 e8
    refine HList.nil ?_
    refine nt ?_
    refine HW.seq ?_
    refine HW.seq ?_
    refine HW.region ?_
    refine HList.vals (v := (.int .i64 0)) rfl (HVal.assign' rfl) ?_
    refine HList.nil ?_
    refine nt ?_
    refine HW.block ?_
    refine HW.loop' (fun L1 hL1 => ?_)
    obtain ⟨X1, hX1⟩ : ∃ X1 : Int → Hp → Prop, ∀ (y9 : Int) (H_1 : Hp), X1 y9 H_1 ↔ ∀ ρ, Env.Is ρ [(0, (Sl.v p0)), (3, (.pointer (some ⟨H1.size, 0, none⟩))), (4, (.pointer (some ⟨H5.size, 0, none⟩))), (5, (.int .i64 y9))] → L1 ρ H_1 := ⟨_, fun _ _ => Iff.rfl⟩
    refine (hX1 _ _).1 (h X1 ?_) _ ?_
    rotate_left
    · exact ⟨rfl, rfl, rfl, rfl, trivial⟩
    clear h
    intro y9 H_1 h
    refine (hX1 _ _).2 fun ρ hI => ?_
    obtain ⟨ρ0, rfl⟩ : ∃ ρ0, ρ = (Env.set (Env.set (Env.set (Env.set ρ0 5 (.int .i64 y9)) 4 (.pointer (some ⟨H5.size, 0, none⟩))) 3 (.pointer (some ⟨H1.size, 0, none⟩))) 0 (Sl.v p0)) := ⟨ρ, hI.eq⟩
    clear hI; unfold F6_L1b at h; refine hL1 _ _ ?_
    refine HW.seq ?_
    refine HW.seq ?_
    refine HW.region ?_
    refine HList.vals (v := (.int .i64 y9)) rfl (HVal.move' rfl) ?_
    refine HList.vals (v := (Sl.v p0)) rfl (HVal.move' rfl) ?_
    refine HList.vals (v := (.int .i64 ((p0).n : Int))) rfl (HVal.len Tryd.runUnderlying56 rfl) ?_
    refine HList.vals (v := (.bool (decide (y9 < ((p0).n : Int))))) rfl (HVal.lss rfl rfl) ?_
    refine HList.nil ?_
    refine nt ?_
    obtain ⟨hT, hF⟩ := h
    refine HW.cond (decide (y9 < ((p0).n : Int))) rfl (fun hb13 => ?_) (fun hb13 => ?_)
    · have h := hT hb13
      clear hT hF
      refine HW.skip ?_
      refine nt ?_
      refine HW.seq ?_
      refine HW.block ?_
      refine HW.seq ?_
      refine HW.region ?_
      refine HList.vals (v := (Sl.v p0)) rfl (HVal.move' rfl) ?_
      refine HList.vals (v := (.int .i64 y9)) rfl (HVal.move' rfl) ?_
      obtain ⟨a14, e15, b16, b17, h⟩ := h
      refine HList.vals (v := (.pointer (some (Addr.add a14 (y9.toNat * 8))))) rfl (HVal.indexAddr Tryd.runUnderlying56 Tryd.sizeOf65 (Sl.v_some rfl e15) rfl b16 b17) ?_
      refine HList.vals (v := (.pointer (some (Addr.add (Addr.add a14 (y9.toNat * 8)) 1)))) rfl (HVal.fieldAddr' Tryd.runUnderlying65 rfl rfl Tryd.sizeOf3 rfl) ?_
      obtain ⟨x19, c18, h⟩ := h
      refine HList.vals (v := (.int .i64 x19)) rfl (HVal.load1 Tryd.isAgg3 rfl c18) ?_
      refine HList.ops' rfl (HOp.call' 20 [(.int .i64 x19)] (cap := []) rfl rfl Tryd.call20 (walk20 h)) ?_
      rintro _ H20 ⟨r22, rfl, h⟩
      refine HList.vals (v := (.int .i64 r22)) rfl (HVal.assign' rfl) ?_
      refine HList.nil ?_
      refine nt ?_
      refine HW.cut (fun ρ H_2 => Env.Is ρ [(0, (Sl.v p0)), (3, (.pointer (some ⟨H1.size, 0, none⟩))), (4, (.pointer (some ⟨H5.size, 0, none⟩))), (5, (.int .i64 y9)), (6, (.int .i64 r22))] ∧ F6_2 Q X1 p0 ⟨H1.size, 0, none⟩ ⟨H5.size, 0, none⟩ y9 r22 H_2) ?_ ?_
      · refine HW.cut (fun ρ H_3 => ∃ (y41 : Bool), Env.Is ρ [(0, (Sl.v p0)), (3, (.pointer (some ⟨H1.size, 0, none⟩))), (4, (.pointer (some ⟨H5.size, 0, none⟩))), (5, (.int .i64 y9)), (6, (.int .i64 r22)), (37, (.bool y41))] ∧ F6_3 Q X1 p0 ⟨H1.size, 0, none⟩ ⟨H5.size, 0, none⟩ y9 r22 y41 H_3) ?_ ?_
        · refine HW.region ?_
          refine HList.vals (v := (Sl.v p0)) rfl (HVal.move' rfl) ?_
          refine HList.vals (v := (.int .i64 y9)) rfl (HVal.move' rfl) ?_
          obtain ⟨a33, e34, b35, b36, h⟩ := h
          refine HList.vals (v := (.pointer (some (Addr.add a33 (y9.toNat * 8))))) rfl (HVal.indexAddr Tryd.runUnderlying56 Tryd.sizeOf65 (Sl.v_some rfl e34) rfl b35 b36) ?_
          refine HList.vals (v := (.pointer (some (Addr.add a33 (y9.toNat * 8))))) rfl (HVal.fieldAddr0 Tryd.runUnderlying65 rfl rfl Tryd.sizeOf3 rfl) ?_
          obtain ⟨x38, c37, h⟩ := h
          refine HList.vals (v := (.int .i64 x38)) rfl (HVal.load1 Tryd.isAgg3 rfl c37) ?_
          refine HList.vals (v := (.bool (decide (x38 = 8)))) rfl (HVal.eqlI rfl rfl) ?_
          refine HList.vals (v := (.bool (decide (x38 = 8)))) rfl (HVal.move' rfl) ?_
          obtain ⟨hT, hF⟩ := h
          rcases Bool.eq_false_or_eq_true (decide (x38 = 8)) with hb39 | hb40
          · have h := hT hb39
            clear hT hF
            refine HList.gskips rfl rfl rfl rfl (congrArg Value.bool hb39) ?_
            refine HList.gskips rfl rfl rfl rfl (congrArg Value.bool hb39) ?_
            refine HList.gskips rfl rfl rfl rfl (congrArg Value.bool hb39) ?_
            refine HList.gskips rfl rfl rfl rfl (congrArg Value.bool hb39) ?_
            refine HList.vals (v := (.bool true)) rfl (HVal.pickT rfl hb39 rfl) ?_
            refine HList.nil ?_
            refine nt ?_
            exact ⟨true, ⟨rfl, rfl, rfl, rfl, rfl, rfl, trivial⟩, h⟩
          · have h := hF hb40
            clear hT hF
            refine HList.gvals (v := (.int .i64 r22)) rfl rfl rfl rfl (congrArg Value.bool hb40) (HVal.move' rfl) ?_
            obtain ⟨b42, b43, h⟩ := h
            refine HList.gvals (v := (.pointer (some (Addr.add ⟨H5.size, 0, none⟩ (r22.toNat * 1))))) rfl rfl rfl rfl (congrArg Value.bool hb40) (HVal.indexAddrA Tryd.runUnderlying62 Tryd.sizeOf61 rfl rfl b42 b43) ?_
            obtain ⟨x45, c44, h⟩ := h
            refine HList.gvals (v := (.pointer x45)) rfl rfl rfl rfl (congrArg Value.bool hb40) (HVal.load1 Tryd.isAgg61 rfl c44) ?_
            refine HList.gvals (v := (.bool (x45.isNone))) rfl rfl rfl rfl (congrArg Value.bool hb40) (HVal.eqlPN Tryd.underlying61 rfl rfl) ?_
            refine HList.vals (v := (.bool (x45.isNone))) rfl (HVal.pickF rfl hb40 rfl) ?_
            refine HList.nil ?_
            refine nt ?_
            exact ⟨(x45.isNone), ⟨rfl, rfl, rfl, rfl, rfl, rfl, trivial⟩, h⟩
        · rintro ρ H_3 ⟨y41, hI, h⟩
          obtain ⟨ρ0, rfl⟩ : ∃ ρ0, ρ = (Env.set (Env.set (Env.set (Env.set (Env.set (Env.set ρ0 37 (.bool y41)) 6 (.int .i64 r22)) 5 (.int .i64 y9)) 4 (.pointer (some ⟨H5.size, 0, none⟩))) 3 (.pointer (some ⟨H1.size, 0, none⟩))) 0 (Sl.v p0)) := ⟨ρ, hI.eq⟩
          clear hI; unfold F6_3 at h
          obtain ⟨hT, hF⟩ := h
          refine HW.cond y41 rfl (fun hb46 => ?_) (fun hb46 => ?_)
          · have h := hT hb46
            clear hT hF
            refine HW.seq ?_
            refine HW.region ?_
            refine HList.vals (v := (.pointer (some ⟨H1.size, 0, none⟩))) rfl (HVal.move' rfl) ?_
            refine HList.ops' rfl (HOp.call' 21 [(.pointer (some ⟨H1.size, 0, none⟩))] (cap := []) rfl rfl Tryd.call21 (walk21 h)) ?_
            rintro _ H47 ⟨r49, r50, rfl, h⟩
            refine HList.vals (v := (.tuple #[(.pointer r49), (.bool r50)])) rfl (HVal.move' rfl) ?_
            refine HList.vals (v := (.pointer r49)) rfl (HVal.extract rfl rfl) ?_
            refine HList.vals (v := (.bool r50)) rfl (HVal.extract rfl rfl) ?_
            refine HList.vals (v := (.pointer r49)) rfl (HVal.assign' rfl) ?_
            refine HList.vals (v := (.bool r50)) rfl (HVal.assign' rfl) ?_
            refine HList.nil ?_
            refine nt ?_
            refine HW.seq ?_
            refine HW.seq ?_
            refine HW.region ?_
            refine HList.vals (v := (.bool r50)) rfl (HVal.move' rfl) ?_
            refine HList.vals (v := (.bool (!r50))) rfl (HVal.not rfl) ?_
            refine HList.nil ?_
            refine nt ?_
            obtain ⟨hT, hF⟩ := h
            refine HW.cond (!r50) rfl (fun hb51 => ?_) (fun hb51 => ?_)
            · have h := hT hb51
              clear hT hF
              refine HW.seq ?_
              refine HW.region ?_
              refine HList.vals (v := (.bool false)) rfl (HVal.assign' rfl) ?_
              refine HList.nil ?_
              refine nt ?_
              refine HW.ret ?_
              refine tr ?_
              refine tr ?_
              refine br ?_
              refine tr ?_
              refine tr ?_
              refine br ?_
              refine tr ?_
              exact ⟨_, resOf1 rfl Res1.t, ⟨false, rfl, h⟩⟩
            · have h := hF hb51
              clear hT hF
              refine HW.skip ?_
              refine nt ?_
              refine HW.region ?_
              refine HList.vals (v := (.int .i64 r22)) rfl (HVal.move' rfl) ?_
              refine HList.vals (v := (.pointer r49)) rfl (HVal.move' rfl) ?_
              obtain ⟨b52, b53, h⟩ := h
              refine HList.vals (v := (.pointer (some (Addr.add ⟨H5.size, 0, none⟩ (r22.toNat * 1))))) rfl (HVal.indexAddrA Tryd.runUnderlying62 Tryd.sizeOf61 rfl rfl b52 b53) ?_
              obtain ⟨z56, z57, h⟩ := h
              refine HList.opsn (HOp.store1 Tryd.sizeOf61 rfl rfl rfl z56 z57) ?_
              rintro _ H54 e55
              replace h := h H54 e55
              refine HList.nil ?_
              refine nt ?_
              exact ⟨⟨rfl, rfl, rfl, rfl, rfl, trivial⟩, h⟩
          · have h := hF hb46
            clear hT hF
            refine HW.skip ?_
            refine nt ?_
            exact ⟨⟨rfl, rfl, rfl, rfl, rfl, trivial⟩, h⟩
      · rintro ρ H_2 ⟨hI, h⟩
        obtain ⟨ρ0, rfl⟩ : ∃ ρ0, ρ = (Env.set (Env.set (Env.set (Env.set (Env.set ρ0 6 (.int .i64 r22)) 5 (.int .i64 y9)) 4 (.pointer (some ⟨H5.size, 0, none⟩))) 3 (.pointer (some ⟨H1.size, 0, none⟩))) 0 (Sl.v p0)) := ⟨ρ, hI.eq⟩
        clear hI; unfold F6_2 at h
        refine HW.seq ?_
        refine HW.draw mixed [(0, some []), (1, some []), (2, some [7]), (3, some []), (4, some []), (5, some []), (6, some [7]), (7, none), (8, some [])] rfl (by kernel_rfl) (by kernel_rfl) ?_
        refine HPlan.takev (v := (.int .i64 r22)) rfl rfl (fun _ => HVal.move' rfl) ?_
        obtain ⟨b58, b59, h⟩ := h
        refine HPlan.takev (v := (.pointer (some (Addr.add ⟨H5.size, 0, none⟩ (r22.toNat * 1))))) rfl rfl (fun _ => HVal.indexAddrA Tryd.runUnderlying62 Tryd.sizeOf61 rfl rfl b58 b59) ?_
        obtain ⟨x61, c60, h⟩ := h
        refine HPlan.takel (v := (.pointer x61)) (fun X => cell X (Addr.add ⟨H5.size, 0, none⟩ (r22.toNat * 1)) = some (.pointer x61)) rfl rfl (fun _ hX => HVal.load1 Tryd.isAgg61 rfl hX) c60 ?_
        refine HPlan.takev (v := (Sl.v p0)) rfl rfl (fun _ => HVal.move' rfl) ?_
        refine HPlan.takev (v := (.int .i64 y9)) rfl rfl (fun _ => HVal.move' rfl) ?_
        obtain ⟨a62, e63, b64, b65, h⟩ := h
        refine HPlan.takev (v := (.pointer (some (Addr.add a62 (y9.toNat * 8))))) rfl rfl (fun _ => HVal.indexAddr Tryd.runUnderlying56 Tryd.sizeOf65 (Sl.v_some rfl e63) rfl b64 b65) ?_
        obtain ⟨x67, x68, x69, x70, x71, x72, x73, x74, c66, h⟩ := h
        refine HPlan.takel (v := (.agg #[(.int .i64 x67), (.int .i64 x68), (.string x69), (Sl.v x70), (.string x71), (.string x72), (.int .i64 x73), (Sl.v x74)])) (fun X => cells X (Addr.add a62 (y9.toNat * 8)) [(.int .i64 x67), (.int .i64 x68), (.string x69), (Sl.v x70), (.string x71), (.string x72), (.int .i64 x73), (Sl.v x74)] 0) rfl rfl (fun _ hX => HVal.loadN [(.int .i64 x67), (.int .i64 x68), (.string x69), (Sl.v x70), (.string x71), (.string x72), (.int .i64 x73), (Sl.v x74)] Tryd.isAgg65 Tryd.sizeOf65 rfl hX) c66 ?_
        refine HPlan.ops' rfl rfl (HOp.call' 22 [(.pointer x61), (.agg #[(.int .i64 x67), (.int .i64 x68), (.string x69), (Sl.v x70), (.string x71), (.string x72), (.int .i64 x73), (Sl.v x74)])] (cap := []) rfl rfl Tryd.call22 (walk22 h)) ?_
        rintro _ H75 ⟨r77, rfl, h⟩
        refine ⟨SC_of ⟨fun e => absurd e (by decide), fun e => absurd e (by decide), trivial⟩, ?_⟩
        refine HPlan.takev (v := (.bool r77)) rfl rfl (fun _ => HVal.assign' rfl) ?_
        refine HPlan.done ?_
        refine nt ?_
        refine HW.seq ?_
        refine HW.region ?_
        refine HList.vals (v := (.bool r77)) rfl (HVal.move' rfl) ?_
        refine HList.vals (v := (.bool (!r77))) rfl (HVal.not rfl) ?_
        refine HList.nil ?_
        refine nt ?_
        obtain ⟨hT, hF⟩ := h
        refine HW.cond (!r77) rfl (fun hb78 => ?_) (fun hb78 => ?_)
        · have h := hT hb78
          clear hT hF
          refine HW.seq ?_
          refine HW.region ?_
          refine HList.vals (v := (.bool false)) rfl (HVal.assign' rfl) ?_
          refine HList.nil ?_
          refine nt ?_
          refine HW.ret ?_
          refine br ?_
          refine tr ?_
          refine tr ?_
          refine br ?_
          refine tr ?_
          exact ⟨_, resOf1 rfl Res1.t, ⟨false, rfl, h⟩⟩
        · have h := hF hb78
          clear hT hF
          refine HW.skip ?_
          refine nb ?_
          refine nt ?_
          refine HW.region ?_
          refine HList.vals (v := (.int .i64 y9)) rfl (HVal.move' rfl) ?_
          refine HList.vals (v := (.int .i64 (IntKind.i64.wrap (y9 + 1)))) rfl (HVal.add rfl rfl) ?_
          refine HList.vals (v := (.int .i64 (IntKind.i64.wrap (y9 + 1)))) rfl (HVal.assign' rfl) ?_
          refine HList.nil ?_
          refine nt ?_
          exact (hX1 _ _).1 h _ ⟨rfl, rfl, rfl, rfl, trivial⟩
    · have h := hF hb13
      clear hT hF
      refine HW.exit ?_
      refine te ?_
      refine te ?_
      refine be ?_
      refine nt ?_
      refine HW.seq ?_
      refine HW.region ?_
      refine HList.vals (v := (.bool true)) rfl (HVal.assign' rfl) ?_
      refine HList.nil ?_
      refine nt ?_
      refine HW.ret ?_
      exact ⟨_, resOf1 rfl Res1.t, ⟨true, rfl, h⟩⟩

end Go.Hw
