/- The walks of this seat, printed by a program of this session (wip/tools/gen.py): of each function what it does to the heap, and that it does so. -/
import Derived.Test.YtfkhglkcplnppaaDoorHwT
import Derived.Test.YtfkhglkcplnppaaDoorProg
import Derived.Test.YtfkhglkcplnppaaDoorWAux
import Derived.Test.YtfkhglkcplnppaaDoorWalkA
set_option linter.unusedVariables false
set_option linter.unusedSimpArgs false
namespace Go.Hw
open Go Go.Proofs
def F28 (p0_0 : ByteArray) (p0_1 : Int) (p0_2 : Sl) (p1 : ByteArray) (p2 : Sl) (H : Hp) (Q : Int → Int → ByteArray → Bool → Int → Hp → Prop) : Prop :=
∀ H1 : Hp, H1 = Array.push H (.cells #[(.string p0_0), (.int .i64 p0_1), (Sl.v p0_2)] 36) → (
 ∀ H3 : Hp, H3 = Array.push H1 (.cells #[(.string p1)] 9) → (
 ∀ H5 : Hp, H5 = Array.push H3 (.cells #[(.int .i64 0), (.int .i64 0), (.string (ByteArray.mk #[])), (.bool false)] 38) → (
 ∃ x8 : ByteArray, cell H5 ⟨H1.size, 0, none⟩ = some (.string x8) ∧ (
 ((seq x8 S_time) = true → (∃ x11 : Int, cell H5 (Addr.add ⟨H.size, 0, none⟩ 1) = some (.int .i64 x11) ∧ (
 mayw H5 ⟨H3.size, 0, none⟩ 4 0 ∧ ∀ H12 : Hp, H12 = sets H5 ⟨H3.size, 0, none⟩ [(.int .i64 1), (.int .i64 x11), (.string (ByteArray.mk #[])), (.bool false)] 0 → (
 ∃ (x15 : Int) (x16 : Int) (x17 : ByteArray) (x18 : Bool), cells H12 ⟨H3.size, 0, none⟩ [(.int .i64 x15), (.int .i64 x16), (.string x17), (.bool x18)] 0 ∧ (
 Q x15 x16 x17 x18 0 H12))))) ∧
 ((seq x8 S_time) = false → (F42_43 p2 ⟨H.size, 0, none⟩ H5 (fun (r22 : Int) (H20 : Hp) => 
 ((decide (r22 < 0)) = true → (mayw H20 ⟨H3.size, 0, none⟩ 4 0 ∧ ∀ H24 : Hp, H24 = sets H20 ⟨H3.size, 0, none⟩ [(.int .i64 0), (.int .i64 0), (.string (ByteArray.mk #[])), (.bool false)] 0 → (
 ∃ (x27 : Int) (x28 : Int) (x29 : ByteArray) (x30 : Bool), cells H24 ⟨H3.size, 0, none⟩ [(.int .i64 x27), (.int .i64 x28), (.string x29), (.bool x30)] 0 ∧ (
 Q x27 x28 x29 x30 21 H24)))) ∧
 ((decide (r22 < 0)) = false → (∃ a32 : Addr, (p2).b = some a32 ∧ (0 : Int) ≤ r22 ∧ r22 < ((p2).n : Int) ∧ (
 ∃ x37 : Sl, cell H20 (Addr.add (Addr.add a32 (r22.toNat * 2)) 1) = some (Sl.v x37) ∧ (
 F44_45 x37 ⟨H1.size, 0, none⟩ H20 (fun (r40 : Int) (H38 : Hp) => 
 ((decide (r40 < 0)) = true → (mayw H38 ⟨H3.size, 0, none⟩ 4 0 ∧ ∀ H42 : Hp, H42 = sets H38 ⟨H3.size, 0, none⟩ [(.int .i64 0), (.int .i64 0), (.string (ByteArray.mk #[])), (.bool false)] 0 → (
 ∃ (x45 : Int) (x46 : Int) (x47 : ByteArray) (x48 : Bool), cells H42 ⟨H3.size, 0, none⟩ [(.int .i64 x45), (.int .i64 x46), (.string x47), (.bool x48)] 0 ∧ (
 Q x45 x46 x47 x48 82 H42)))) ∧
 ((decide (r40 < 0)) = false → (∃ x51 : Sl, cell H38 (Addr.add ⟨H.size, 0, none⟩ 2) = some (Sl.v x51) ∧ (
 ((decide (((x51).n : Int) ≤ r40)) = true → (mayw H38 ⟨H3.size, 0, none⟩ 4 0 ∧ ∀ H53 : Hp, H53 = sets H38 ⟨H3.size, 0, none⟩ [(.int .i64 0), (.int .i64 0), (.string (ByteArray.mk #[])), (.bool false)] 0 → (
 ∃ (x56 : Int) (x57 : Int) (x58 : ByteArray) (x59 : Bool), cells H53 ⟨H3.size, 0, none⟩ [(.int .i64 x56), (.int .i64 x57), (.string x58), (.bool x59)] 0 ∧ (
 Q x56 x57 x58 x59 22 H53)))) ∧
 ((decide (((x51).n : Int) ≤ r40)) = false → (∃ x62 : Sl, cell H38 (Addr.add ⟨H.size, 0, none⟩ 2) = some (Sl.v x62) ∧ (
 ∃ a63 : Addr, (x62).b = some a63 ∧ (0 : Int) ≤ r40 ∧ r40 < ((x62).n : Int) ∧ (
 ∃ x68 : Int, cell H38 (Addr.add a63 (r40.toNat * 4)) = some (.int .i64 x68) ∧ (
 ∃ a69 : Addr, (p2).b = some a69 ∧ (0 : Int) ≤ r22 ∧ r22 < ((p2).n : Int) ∧ (
 ∃ x74 : Sl, cell H38 (Addr.add (Addr.add a69 (r22.toNat * 2)) 1) = some (Sl.v x74) ∧ (
 ∃ a75 : Addr, (x74).b = some a75 ∧ (0 : Int) ≤ r40 ∧ r40 < ((x74).n : Int) ∧ (
 ∃ x80 : Int, cell H38 (Addr.add (Addr.add a75 (r40.toNat * 2)) 1) = some (.int .i64 x80) ∧ (
 ((decide (x68 ≠ x80)) = true → (mayw H38 ⟨H3.size, 0, none⟩ 4 0 ∧ ∀ H82 : Hp, H82 = sets H38 ⟨H3.size, 0, none⟩ [(.int .i64 0), (.int .i64 0), (.string (ByteArray.mk #[])), (.bool false)] 0 → (
 ∃ (x85 : Int) (x86 : Int) (x87 : ByteArray) (x88 : Bool), cells H82 ⟨H3.size, 0, none⟩ [(.int .i64 x85), (.int .i64 x86), (.string x87), (.bool x88)] 0 ∧ (
 Q x85 x86 x87 x88 10 H82)))) ∧
 ((decide (x68 ≠ x80)) = false → (∃ x91 : Sl, cell H38 (Addr.add ⟨H.size, 0, none⟩ 2) = some (Sl.v x91) ∧ (
 ∃ a92 : Addr, (x91).b = some a92 ∧ (0 : Int) ≤ r40 ∧ r40 < ((x91).n : Int) ∧ (
 ∃ (x97 : Int) (x98 : Int) (x99 : ByteArray) (x100 : Bool), cells H38 (Addr.add a92 (r40.toNat * 4)) [(.int .i64 x97), (.int .i64 x98), (.string x99), (.bool x100)] 0 ∧ (
 F46 x97 x98 x99 x100 H38 (fun (r103 : Bool) (H101 : Hp) => 
 ((!r103) = true → (mayw H101 ⟨H3.size, 0, none⟩ 4 0 ∧ ∀ H105 : Hp, H105 = sets H101 ⟨H3.size, 0, none⟩ [(.int .i64 0), (.int .i64 0), (.string (ByteArray.mk #[])), (.bool false)] 0 → (
 ∃ (x108 : Int) (x109 : Int) (x110 : ByteArray) (x111 : Bool), cells H105 ⟨H3.size, 0, none⟩ [(.int .i64 x108), (.int .i64 x109), (.string x110), (.bool x111)] 0 ∧ (
 Q x108 x109 x110 x111 12 H105)))) ∧
 ((!r103) = false → (∃ x114 : Sl, cell H101 (Addr.add ⟨H.size, 0, none⟩ 2) = some (Sl.v x114) ∧ (
 ∃ a115 : Addr, (x114).b = some a115 ∧ (0 : Int) ≤ r40 ∧ r40 < ((x114).n : Int) ∧ (
 ∃ (x120 : Int) (x121 : Int) (x122 : ByteArray) (x123 : Bool), cells H101 (Addr.add a115 (r40.toNat * 4)) [(.int .i64 x120), (.int .i64 x121), (.string x122), (.bool x123)] 0 ∧ (
 mayw H101 ⟨H3.size, 0, none⟩ 4 0 ∧ ∀ H124 : Hp, H124 = sets H101 ⟨H3.size, 0, none⟩ [(.int .i64 x120), (.int .i64 x121), (.string x122), (.bool x123)] 0 → (
 ∃ (x127 : Int) (x128 : Int) (x129 : ByteArray) (x130 : Bool), cells H124 ⟨H3.size, 0, none⟩ [(.int .i64 x127), (.int .i64 x128), (.string x129), (.bool x130)] 0 ∧ (
 Q x127 x128 x129 x130 0 H124)))))))))))))))))))))))))))))))))))))
set_option maxRecDepth 100000 in
set_option maxHeartbeats 4000000 in
theorem walk28 {w0 : World} {p0_0 : ByteArray} {p0_1 : Int} {p0_2 : Sl} {p1 : ByteArray} {p2 : Sl} {H : Hp} {Q : Int → Int → ByteArray → Bool → Int → Hp → Prop} (h : F28 p0_0 p0_1 p0_2 p1 p2 H Q) :
    Good Tryd.prog w0 28 #[(.agg #[(.string p0_0), (.int .i64 p0_1), (Sl.v p0_2)]), (.string p1), (Sl.v p2)] H (fun v H => ∃ (r0 : Int) (r1 : Int) (r2 : ByteArray) (r3 : Bool) (r4 : Int) , v = (.tuple #[(.agg #[(.int .i64 r0), (.int .i64 r1), (.string r2), (.bool r3)]), (.int .i64 r4)]) ∧ Q r0 r1 r2 r3 r4 H) := by
  unfold F28 at h
  refine Good.enter' (fn := Tryd.f28) Tryd.func28 rfl rfl rfl ?_
  refine HW.seq ?_
  refine HW.region ?_
  refine HList.ops' rfl (HOp.box (v := (.agg #[(.string p0_0), (.int .i64 p0_1), (Sl.v p0_2)])) rfl) ?_
  rintro _ H1 ⟨rfl, e2⟩
  replace h := h H1 e2
  refine HList.ops' rfl (HOp.box (v := (.string p1)) rfl) ?_
  rintro _ H3 ⟨rfl, e4⟩
  replace h := h H3 e4
  refine HList.ops' rfl (HOp.alloc Tryd.zeroValue38) ?_
  rintro _ H5 ⟨rfl, e6⟩
  replace h := h H5 e6
  refine HList.vals (v := (.int .i64 0)) rfl (HVal.assign' rfl) ?_
  refine HList.nil ?_
  refine nt ?_
  refine HW.seq ?_
  refine HW.seq ?_
  refine HW.region ?_
  obtain ⟨x8, c7, h⟩ := h
  refine HList.vals (v := (.string x8)) rfl (HVal.load1 Tryd.isAgg9 rfl c7) ?_
  refine HList.vals (v := (.bool (seq x8 S_time))) rfl (HVal.eqlS rfl rfl) ?_
  refine HList.nil ?_
  refine nt ?_
  obtain ⟨hT, hF⟩ := h
  refine HW.cond (seq x8 S_time) rfl (fun hb9 => ?_) (fun hb9 => ?_)
  · have h := hT hb9
    clear hT hF
    refine HW.seq ?_
    refine HW.region ?_
    refine HList.vals (v := (.pointer (some (Addr.add ⟨H.size, 0, none⟩ 1)))) rfl (HVal.fieldAddr' Tryd.runUnderlying36 rfl rfl Tryd.sizeOf2 rfl) ?_
    obtain ⟨x11, c10, h⟩ := h
    refine HList.vals (v := (.int .i64 x11)) rfl (HVal.load1 Tryd.isAgg2 rfl c10) ?_
    refine HList.vals (v := (.agg #[(.int .i64 1), (.int .i64 x11), (.string (ByteArray.mk #[])), (.bool false)])) rfl (HVal.build' (cs := [(.int .i64 1), (.int .i64 x11), (.string (ByteArray.mk #[])), (.bool false)]) Tryd.runUnderlying38 Tryd.zeroValue38 places38 rfl) ?_
    obtain ⟨z14, h⟩ := h
    refine HList.opsn (HOp.storeN' (l := [(.int .i64 1), (.int .i64 x11), (.string (ByteArray.mk #[])), (.bool false)]) Tryd.sizeOf38 rfl rfl rfl z14) ?_
    rintro _ H12 e13
    replace h := h H12 e13
    refine HList.vals (v := (.int .i64 0)) rfl (HVal.assign' rfl) ?_
    refine HList.nil ?_
    refine nt ?_
    refine HW.ret ?_
    refine tr ?_
    obtain ⟨x15, x16, x17, x18, c19, h⟩ := h
    exact ⟨_, resOf2 rfl (Res1.n [(.int .i64 x15), (.int .i64 x16), (.string x17), (.bool x18)] Tryd.isAgg38 Tryd.sizeOf38 rfl c19) Res1.t, ⟨x15, x16, x17, x18, 0, rfl, h⟩⟩
  · have h := hF hb9
    clear hT hF
    refine HW.skip ?_
    refine nt ?_
    refine HW.seq ?_
    refine HW.region ?_
    refine HList.vals (v := (Sl.v p2)) rfl (HVal.move' rfl) ?_
    refine HList.vals (v := (.func (.func 43) #[] #[(.pointer (some ⟨H.size, 0, none⟩))])) rfl (HVal.makeFuncL rfl) ?_
    refine HList.ops' rfl (HOp.call' 42 [(Sl.v p2), (.func (.func 43) #[] #[(.pointer (some ⟨H.size, 0, none⟩))])] (cap := []) rfl rfl Tryd.call42 (walk42_43 h)) ?_
    rintro _ H20 ⟨r22, rfl, h⟩
    refine HList.vals (v := (.int .i64 r22)) rfl (HVal.assign' rfl) ?_
    refine HList.nil ?_
    refine nt ?_
    refine HW.seq ?_
    refine HW.seq ?_
    refine HW.region ?_
    refine HList.vals (v := (.int .i64 r22)) rfl (HVal.move' rfl) ?_
    refine HList.vals (v := (.bool (decide (r22 < 0)))) rfl (HVal.lss rfl rfl) ?_
    refine HList.nil ?_
    refine nt ?_
    obtain ⟨hT, hF⟩ := h
    refine HW.cond (decide (r22 < 0)) rfl (fun hb23 => ?_) (fun hb23 => ?_)
    · have h := hT hb23
      clear hT hF
      refine HW.seq ?_
      refine HW.region ?_
      refine HList.vals (v := (.agg #[(.int .i64 0), (.int .i64 0), (.string (ByteArray.mk #[])), (.bool false)])) rfl (HVal.build' (cs := [(.int .i64 0), (.int .i64 0), (.string (ByteArray.mk #[])), (.bool false)]) Tryd.runUnderlying38 Tryd.zeroValue38 places38 rfl) ?_
      obtain ⟨z26, h⟩ := h
      refine HList.opsn (HOp.storeN' (l := [(.int .i64 0), (.int .i64 0), (.string (ByteArray.mk #[])), (.bool false)]) Tryd.sizeOf38 rfl rfl rfl z26) ?_
      rintro _ H24 e25
      replace h := h H24 e25
      refine HList.vals (v := (.int .i64 21)) rfl (HVal.assign' rfl) ?_
      refine HList.nil ?_
      refine nt ?_
      refine HW.ret ?_
      refine tr ?_
      obtain ⟨x27, x28, x29, x30, c31, h⟩ := h
      exact ⟨_, resOf2 rfl (Res1.n [(.int .i64 x27), (.int .i64 x28), (.string x29), (.bool x30)] Tryd.isAgg38 Tryd.sizeOf38 rfl c31) Res1.t, ⟨x27, x28, x29, x30, 21, rfl, h⟩⟩
    · have h := hF hb23
      clear hT hF
      refine HW.skip ?_
      refine nt ?_
      refine HW.seq ?_
      refine HW.region ?_
      refine HList.vals (v := (Sl.v p2)) rfl (HVal.move' rfl) ?_
      refine HList.vals (v := (.int .i64 r22)) rfl (HVal.move' rfl) ?_
      obtain ⟨a32, e33, b34, b35, h⟩ := h
      refine HList.vals (v := (.pointer (some (Addr.add a32 (r22.toNat * 2))))) rfl (HVal.indexAddr Tryd.runUnderlying30 Tryd.sizeOf86 (Sl.v_some rfl e33) rfl b34 b35) ?_
      refine HList.vals (v := (.pointer (some (Addr.add (Addr.add a32 (r22.toNat * 2)) 1)))) rfl (HVal.fieldAddr' Tryd.runUnderlying86 rfl rfl Tryd.sizeOf84 rfl) ?_
      obtain ⟨x37, c36, h⟩ := h
      refine HList.vals (v := (Sl.v x37)) rfl (HVal.load1 Tryd.isAgg84 rfl c36) ?_
      refine HList.vals (v := (.func (.func 45) #[] #[(.pointer (some ⟨H1.size, 0, none⟩))])) rfl (HVal.makeFuncL rfl) ?_
      refine HList.ops' rfl (HOp.call' 44 [(Sl.v x37), (.func (.func 45) #[] #[(.pointer (some ⟨H1.size, 0, none⟩))])] (cap := []) rfl rfl Tryd.call44 (walk44_45 h)) ?_
      rintro _ H38 ⟨r40, rfl, h⟩
      refine HList.vals (v := (.int .i64 r40)) rfl (HVal.assign' rfl) ?_
      refine HList.nil ?_
      refine nt ?_
      refine HW.seq ?_
      refine HW.block ?_
      refine HW.seq ?_
      refine HW.region ?_
      refine HList.vals (v := (.int .i64 r40)) rfl (HVal.move' rfl) ?_
      refine HList.vals (v := (.bool (decide (r40 < 0)))) rfl (HVal.lss rfl rfl) ?_
      refine HList.vals (v := (.bool (decide (r40 < 0)))) rfl (HVal.assign' rfl) ?_
      refine HList.nil ?_
      refine nt ?_
      obtain ⟨hT, hF⟩ := h
      refine HW.cond (decide (r40 < 0)) rfl (fun hb41 => ?_) (fun hb41 => ?_)
      · have h := hT hb41
        clear hT hF
        refine HW.seq ?_
        refine HW.region ?_
        refine HList.vals (v := (.agg #[(.int .i64 0), (.int .i64 0), (.string (ByteArray.mk #[])), (.bool false)])) rfl (HVal.build' (cs := [(.int .i64 0), (.int .i64 0), (.string (ByteArray.mk #[])), (.bool false)]) Tryd.runUnderlying38 Tryd.zeroValue38 places38 rfl) ?_
        obtain ⟨z44, h⟩ := h
        refine HList.opsn (HOp.storeN' (l := [(.int .i64 0), (.int .i64 0), (.string (ByteArray.mk #[])), (.bool false)]) Tryd.sizeOf38 rfl rfl rfl z44) ?_
        rintro _ H42 e43
        replace h := h H42 e43
        refine HList.vals (v := (.int .i64 82)) rfl (HVal.assign' rfl) ?_
        refine HList.nil ?_
        refine nt ?_
        refine HW.ret ?_
        refine br ?_
        refine tr ?_
        obtain ⟨x45, x46, x47, x48, c49, h⟩ := h
        exact ⟨_, resOf2 rfl (Res1.n [(.int .i64 x45), (.int .i64 x46), (.string x47), (.bool x48)] Tryd.isAgg38 Tryd.sizeOf38 rfl c49) Res1.t, ⟨x45, x46, x47, x48, 82, rfl, h⟩⟩
      · have h := hF hb41
        clear hT hF
        refine HW.seq ?_
        refine HW.region ?_
        refine HList.vals (v := (.int .i64 r40)) rfl (HVal.move' rfl) ?_
        refine HList.vals (v := (.pointer (some (Addr.add ⟨H.size, 0, none⟩ 2)))) rfl (HVal.fieldAddr' Tryd.runUnderlying36 rfl rfl Tryd.sizeOf34 rfl) ?_
        obtain ⟨x51, c50, h⟩ := h
        refine HList.vals (v := (Sl.v x51)) rfl (HVal.load1 Tryd.isAgg34 rfl c50) ?_
        refine HList.vals (v := (.int .i64 ((x51).n : Int))) rfl (HVal.len Tryd.runUnderlying34 rfl) ?_
        refine HList.vals (v := (.bool (decide (((x51).n : Int) ≤ r40)))) rfl (HVal.geq rfl rfl) ?_
        refine HList.vals (v := (.bool (decide (((x51).n : Int) ≤ r40)))) rfl (HVal.assign' rfl) ?_
        refine HList.nil ?_
        refine nt ?_
        obtain ⟨hT, hF⟩ := h
        refine HW.cond (decide (((x51).n : Int) ≤ r40)) rfl (fun hb52 => ?_) (fun hb52 => ?_)
        · have h := hT hb52
          clear hT hF
          refine HW.seq ?_
          refine HW.region ?_
          refine HList.vals (v := (.agg #[(.int .i64 0), (.int .i64 0), (.string (ByteArray.mk #[])), (.bool false)])) rfl (HVal.build' (cs := [(.int .i64 0), (.int .i64 0), (.string (ByteArray.mk #[])), (.bool false)]) Tryd.runUnderlying38 Tryd.zeroValue38 places38 rfl) ?_
          obtain ⟨z55, h⟩ := h
          refine HList.opsn (HOp.storeN' (l := [(.int .i64 0), (.int .i64 0), (.string (ByteArray.mk #[])), (.bool false)]) Tryd.sizeOf38 rfl rfl rfl z55) ?_
          rintro _ H53 e54
          replace h := h H53 e54
          refine HList.vals (v := (.int .i64 22)) rfl (HVal.assign' rfl) ?_
          refine HList.nil ?_
          refine nt ?_
          refine HW.ret ?_
          refine br ?_
          refine tr ?_
          obtain ⟨x56, x57, x58, x59, c60, h⟩ := h
          exact ⟨_, resOf2 rfl (Res1.n [(.int .i64 x56), (.int .i64 x57), (.string x58), (.bool x59)] Tryd.isAgg38 Tryd.sizeOf38 rfl c60) Res1.t, ⟨x56, x57, x58, x59, 22, rfl, h⟩⟩
        · have h := hF hb52
          clear hT hF
          refine HW.seq ?_
          refine HW.draw mixed [(0, some []), (1, some []), (2, some []), (3, some []), (4, some []), (5, some []), (6, some []), (7, some []), (8, some []), (9, some []), (10, some []), (11, some []), (12, some []), (13, some []), (14, some []), (15, some []), (16, some [])] rfl (by kernel_rfl) (by kernel_rfl) ?_
          refine HPlan.takev (v := (.pointer (some (Addr.add ⟨H.size, 0, none⟩ 2)))) rfl rfl (fun _ => HVal.fieldAddr' Tryd.runUnderlying36 rfl rfl Tryd.sizeOf34 rfl) ?_
          obtain ⟨x62, c61, h⟩ := h
          refine HPlan.takel (v := (Sl.v x62)) (fun X => cell X (Addr.add ⟨H.size, 0, none⟩ 2) = some (Sl.v x62)) rfl rfl (fun _ hX => HVal.load1 Tryd.isAgg34 rfl hX) c61 ?_
          refine HPlan.takev (v := (.int .i64 r40)) rfl rfl (fun _ => HVal.move' rfl) ?_
          obtain ⟨a63, e64, b65, b66, h⟩ := h
          refine HPlan.takev (v := (.pointer (some (Addr.add a63 (r40.toNat * 4))))) rfl rfl (fun _ => HVal.indexAddr Tryd.runUnderlying34 Tryd.sizeOf38 (Sl.v_some rfl e64) rfl b65 b66) ?_
          refine HPlan.takev (v := (.pointer (some (Addr.add a63 (r40.toNat * 4))))) rfl rfl (fun _ => HVal.fieldAddr0 Tryd.runUnderlying38 rfl rfl Tryd.sizeOf3 rfl) ?_
          obtain ⟨x68, c67, h⟩ := h
          refine HPlan.takel (v := (.int .i64 x68)) (fun X => cell X (Addr.add a63 (r40.toNat * 4)) = some (.int .i64 x68)) rfl rfl (fun _ hX => HVal.load1 Tryd.isAgg3 rfl hX) c67 ?_
          refine HPlan.takev (v := (Sl.v p2)) rfl rfl (fun _ => HVal.move' rfl) ?_
          refine HPlan.takev (v := (.int .i64 r22)) rfl rfl (fun _ => HVal.move' rfl) ?_
          obtain ⟨a69, e70, b71, b72, h⟩ := h
          refine HPlan.takev (v := (.pointer (some (Addr.add a69 (r22.toNat * 2))))) rfl rfl (fun _ => HVal.indexAddr Tryd.runUnderlying30 Tryd.sizeOf86 (Sl.v_some rfl e70) rfl b71 b72) ?_
          refine HPlan.takev (v := (.pointer (some (Addr.add (Addr.add a69 (r22.toNat * 2)) 1)))) rfl rfl (fun _ => HVal.fieldAddr' Tryd.runUnderlying86 rfl rfl Tryd.sizeOf84 rfl) ?_
          obtain ⟨x74, c73, h⟩ := h
          refine HPlan.takel (v := (Sl.v x74)) (fun X => cell X (Addr.add (Addr.add a69 (r22.toNat * 2)) 1) = some (Sl.v x74)) rfl rfl (fun _ hX => HVal.load1 Tryd.isAgg84 rfl hX) c73 ?_
          refine HPlan.takev (v := (.int .i64 r40)) rfl rfl (fun _ => HVal.move' rfl) ?_
          obtain ⟨a75, e76, b77, b78, h⟩ := h
          refine HPlan.takev (v := (.pointer (some (Addr.add a75 (r40.toNat * 2))))) rfl rfl (fun _ => HVal.indexAddr Tryd.runUnderlying84 Tryd.sizeOf83 (Sl.v_some rfl e76) rfl b77 b78) ?_
          refine HPlan.takev (v := (.pointer (some (Addr.add (Addr.add a75 (r40.toNat * 2)) 1)))) rfl rfl (fun _ => HVal.fieldAddr' Tryd.runUnderlying83 rfl rfl Tryd.sizeOf3 rfl) ?_
          obtain ⟨x80, c79, h⟩ := h
          refine HPlan.takel (v := (.int .i64 x80)) (fun X => cell X (Addr.add (Addr.add a75 (r40.toNat * 2)) 1) = some (.int .i64 x80)) rfl rfl (fun _ hX => HVal.load1 Tryd.isAgg3 rfl hX) c79 ?_
          refine HPlan.takev (v := (.bool (decide (x68 ≠ x80)))) rfl rfl (fun _ => HVal.neqI rfl rfl) ?_
          refine HPlan.takev (v := (.bool (decide (x68 ≠ x80)))) rfl rfl (fun _ => HVal.assign' rfl) ?_
          refine HPlan.done ?_
          refine nt ?_
          obtain ⟨hT, hF⟩ := h
          refine HW.cond (decide (x68 ≠ x80)) rfl (fun hb81 => ?_) (fun hb81 => ?_)
          · have h := hT hb81
            clear hT hF
            refine HW.seq ?_
            refine HW.region ?_
            refine HList.vals (v := (.agg #[(.int .i64 0), (.int .i64 0), (.string (ByteArray.mk #[])), (.bool false)])) rfl (HVal.build' (cs := [(.int .i64 0), (.int .i64 0), (.string (ByteArray.mk #[])), (.bool false)]) Tryd.runUnderlying38 Tryd.zeroValue38 places38 rfl) ?_
            obtain ⟨z84, h⟩ := h
            refine HList.opsn (HOp.storeN' (l := [(.int .i64 0), (.int .i64 0), (.string (ByteArray.mk #[])), (.bool false)]) Tryd.sizeOf38 rfl rfl rfl z84) ?_
            rintro _ H82 e83
            replace h := h H82 e83
            refine HList.vals (v := (.int .i64 10)) rfl (HVal.assign' rfl) ?_
            refine HList.nil ?_
            refine nt ?_
            refine HW.ret ?_
            refine br ?_
            refine tr ?_
            obtain ⟨x85, x86, x87, x88, c89, h⟩ := h
            exact ⟨_, resOf2 rfl (Res1.n [(.int .i64 x85), (.int .i64 x86), (.string x87), (.bool x88)] Tryd.isAgg38 Tryd.sizeOf38 rfl c89) Res1.t, ⟨x85, x86, x87, x88, 10, rfl, h⟩⟩
          · have h := hF hb81
            clear hT hF
            refine HW.seq ?_
            refine HW.region ?_
            refine HList.vals (v := (.pointer (some (Addr.add ⟨H.size, 0, none⟩ 2)))) rfl (HVal.fieldAddr' Tryd.runUnderlying36 rfl rfl Tryd.sizeOf34 rfl) ?_
            obtain ⟨x91, c90, h⟩ := h
            refine HList.vals (v := (Sl.v x91)) rfl (HVal.load1 Tryd.isAgg34 rfl c90) ?_
            refine HList.vals (v := (.int .i64 r40)) rfl (HVal.move' rfl) ?_
            obtain ⟨a92, e93, b94, b95, h⟩ := h
            refine HList.vals (v := (.pointer (some (Addr.add a92 (r40.toNat * 4))))) rfl (HVal.indexAddr Tryd.runUnderlying34 Tryd.sizeOf38 (Sl.v_some rfl e93) rfl b94 b95) ?_
            obtain ⟨x97, x98, x99, x100, c96, h⟩ := h
            refine HList.vals (v := (.agg #[(.int .i64 x97), (.int .i64 x98), (.string x99), (.bool x100)])) rfl (HVal.loadN [(.int .i64 x97), (.int .i64 x98), (.string x99), (.bool x100)] Tryd.isAgg38 Tryd.sizeOf38 rfl c96) ?_
            refine HList.ops' rfl (HOp.call' 46 [(.agg #[(.int .i64 x97), (.int .i64 x98), (.string x99), (.bool x100)])] (cap := []) rfl rfl Tryd.call46 (walk46 h)) ?_
            rintro _ H101 ⟨r103, rfl, h⟩
            refine HList.vals (v := (.bool (!r103))) rfl (HVal.not rfl) ?_
            refine HList.vals (v := (.bool (!r103))) rfl (HVal.assign' rfl) ?_
            refine HList.nil ?_
            refine nt ?_
            obtain ⟨hT, hF⟩ := h
            refine HW.cond (!r103) rfl (fun hb104 => ?_) (fun hb104 => ?_)
            · have h := hT hb104
              clear hT hF
              refine HW.seq ?_
              refine HW.region ?_
              refine HList.vals (v := (.agg #[(.int .i64 0), (.int .i64 0), (.string (ByteArray.mk #[])), (.bool false)])) rfl (HVal.build' (cs := [(.int .i64 0), (.int .i64 0), (.string (ByteArray.mk #[])), (.bool false)]) Tryd.runUnderlying38 Tryd.zeroValue38 places38 rfl) ?_
              obtain ⟨z107, h⟩ := h
              refine HList.opsn (HOp.storeN' (l := [(.int .i64 0), (.int .i64 0), (.string (ByteArray.mk #[])), (.bool false)]) Tryd.sizeOf38 rfl rfl rfl z107) ?_
              rintro _ H105 e106
              replace h := h H105 e106
              refine HList.vals (v := (.int .i64 12)) rfl (HVal.assign' rfl) ?_
              refine HList.nil ?_
              refine nt ?_
              refine HW.ret ?_
              refine br ?_
              refine tr ?_
              obtain ⟨x108, x109, x110, x111, c112, h⟩ := h
              exact ⟨_, resOf2 rfl (Res1.n [(.int .i64 x108), (.int .i64 x109), (.string x110), (.bool x111)] Tryd.isAgg38 Tryd.sizeOf38 rfl c112) Res1.t, ⟨x108, x109, x110, x111, 12, rfl, h⟩⟩
            · have h := hF hb104
              clear hT hF
              refine HW.skip ?_
              refine nb ?_
              refine nt ?_
              refine HW.seq ?_
              refine HW.region ?_
              refine HList.vals (v := (.pointer (some (Addr.add ⟨H.size, 0, none⟩ 2)))) rfl (HVal.fieldAddr' Tryd.runUnderlying36 rfl rfl Tryd.sizeOf34 rfl) ?_
              obtain ⟨x114, c113, h⟩ := h
              refine HList.vals (v := (Sl.v x114)) rfl (HVal.load1 Tryd.isAgg34 rfl c113) ?_
              refine HList.vals (v := (.int .i64 r40)) rfl (HVal.move' rfl) ?_
              obtain ⟨a115, e116, b117, b118, h⟩ := h
              refine HList.vals (v := (.pointer (some (Addr.add a115 (r40.toNat * 4))))) rfl (HVal.indexAddr Tryd.runUnderlying34 Tryd.sizeOf38 (Sl.v_some rfl e116) rfl b117 b118) ?_
              obtain ⟨x120, x121, x122, x123, c119, h⟩ := h
              refine HList.vals (v := (.agg #[(.int .i64 x120), (.int .i64 x121), (.string x122), (.bool x123)])) rfl (HVal.loadN [(.int .i64 x120), (.int .i64 x121), (.string x122), (.bool x123)] Tryd.isAgg38 Tryd.sizeOf38 rfl c119) ?_
              obtain ⟨z126, h⟩ := h
              refine HList.opsn (HOp.storeN' (l := [(.int .i64 x120), (.int .i64 x121), (.string x122), (.bool x123)]) Tryd.sizeOf38 rfl rfl rfl z126) ?_
              rintro _ H124 e125
              replace h := h H124 e125
              refine HList.vals (v := (.int .i64 0)) rfl (HVal.assign' rfl) ?_
              refine HList.nil ?_
              refine nt ?_
              refine HW.ret ?_
              obtain ⟨x127, x128, x129, x130, c131, h⟩ := h
              exact ⟨_, resOf2 rfl (Res1.n [(.int .i64 x127), (.int .i64 x128), (.string x129), (.bool x130)] Tryd.isAgg38 Tryd.sizeOf38 rfl c131) Res1.t, ⟨x127, x128, x129, x130, 0, rfl, h⟩⟩

def F57_3 (Q : Int → Int → ByteArray → Bool → Int → Hp → Prop) (y81 : Addr) (y199 : Int) (H_3 : Hp) : Prop :=
mayw H_3 y81 4 0 ∧ ∀ H200 : Hp, H200 = sets H_3 y81 [(.int .i64 1), (.int .i64 y199), (.string (ByteArray.mk #[])), (.bool false)] 0 → (
 ∃ (x203 : Int) (x204 : Int) (x205 : ByteArray) (x206 : Bool), cells H200 y81 [(.int .i64 x203), (.int .i64 x204), (.string x205), (.bool x206)] 0 ∧ (
 Q x203 x204 x205 x206 0 H200))
def F57_7 (Q : Int → Int → ByteArray → Bool → Int → Hp → Prop) (y183 : Addr) (y184 : Int) (y189 : Bool) (H_7 : Hp) : Prop :=
(y189 = true → (mayw H_7 y183 4 0 ∧ ∀ H191 : Hp, H191 = sets H_7 y183 [(.int .i64 0), (.int .i64 0), (.string (ByteArray.mk #[])), (.bool false)] 0 → (
 ∃ (x194 : Int) (x195 : Int) (x196 : ByteArray) (x197 : Bool), cells H191 y183 [(.int .i64 x194), (.int .i64 x195), (.string x196), (.bool x197)] 0 ∧ (
 Q x194 x195 x196 x197 110 H191)))) ∧
 (y189 = false → (F57_3 Q y183 y184 H_7))
def F57_4 (Q : Int → Int → ByteArray → Bool → Int → Hp → Prop) (y99 : Addr) (y100 : Addr) (y101 : Sl) (y182 : Int) (H_4 : Hp) : Prop :=
((decide (((y101).n : Int) = 0)) = true → (∃ x188 : Int, cell H_4 (Addr.add y99 1) = some (.int .i64 x188) ∧ (
 F57_7 Q y100 y182 (decide (x188 ≠ 2)) H_4))) ∧
 ((decide (((y101).n : Int) = 0)) = false → (F57_7 Q y100 y182 false H_4))
def F57_6 (Q : Int → Int → ByteArray → Bool → Int → Hp → Prop) (X5 : Int → Int → Hp → Prop) (y112 : Addr) (y113 : Addr) (y114 : Addr) (y115 : Sl) (y116 : Value) (y117 : Sl) (y118 : Int) (y119 : Int) (y176 : Int) (H_6 : Hp) : Prop :=
X5 y176 (IntKind.i64.wrap (y119 + 1)) H_6
def FV57_78_79_80 (fv : Value) (a0 : Int) (a1 : Int) (H : Hp) (Q : Int → Hp → Prop) : Prop :=
  (fv = .func (.func 78) #[] #[] ∧ F78 a0 a1 H Q) ∨ (fv = .func (.func 79) #[] #[] ∧ F79 a0 a1 H Q) ∨ (fv = .func (.func 80) #[] #[] ∧ F80 a0 a1 H Q)
theorem walkV57_78_79_80 {w0 : World} {fv : Value} {a0 : Int} {a1 : Int} {H : Hp} {Q : Int → Hp → Prop} (h : FV57_78_79_80 fv a0 a1 H Q) :
    ∃ m : FuncId, fv = .func (.func m) #[] #[] ∧ (∀ args w, (callFunc m args).run Tryd.prog w = .ok (.enter m args) w) ∧ Good Tryd.prog w0 m [(.int .i64 a0), (.int .i64 a1)].toArray H (fun v H => ∃ (r0 : Int) , v = (.int .i64 r0) ∧ Q r0 H) := by
  rcases h with ⟨e, h⟩ | ⟨e, h⟩ | ⟨e, h⟩
  · exact ⟨78, e, Tryd.call78, walk78 h⟩
  · exact ⟨79, e, Tryd.call79, walk79 h⟩
  · exact ⟨80, e, Tryd.call80, walk80 h⟩
def F57_L5b (Q : Int → Int → ByteArray → Bool → Int → Hp → Prop) (X5 : Int → Int → Hp → Prop) (y104 : Addr) (y105 : Addr) (y106 : Addr) (y107 : Sl) (y108 : Value) (y109 : Sl) (y110 : Int) (y102 : Int) (y103 : Int) (H_5 : Hp) : Prop :=
((decide (y103 < y110)) = true → (∃ a120 : Addr, (y109).b = some a120 ∧ (0 : Int) ≤ y103 ∧ y103 < ((y109).n : Int) ∧ (
 ∃ (x125 : ByteArray) (x126 : Int) (x127 : Sl), cells H_5 (Addr.add a120 (y103.toNat * 3)) [(.string x125), (.int .i64 x126), (Sl.v x127)] 0 ∧ (
 ∀ H128 : Hp, H128 = Array.push H_5 (.cells #[(.string (ByteArray.mk #[])), (.int .i64 0), (Sl.v Sl.nil)] 36) → (
 mayw H128 ⟨H_5.size, 0, none⟩ 3 0 ∧ ∀ H130 : Hp, H130 = sets H128 ⟨H_5.size, 0, none⟩ [(.string x125), (.int .i64 x126), (Sl.v x127)] 0 → (
 ∃ (x134 : ByteArray) (x135 : Int) (x136 : Sl), cells H130 ⟨H_5.size, 0, none⟩ [(.string x134), (.int .i64 x135), (Sl.v x136)] 0 ∧ (
 ∃ x138 : ByteArray, cell H130 (Addr.add y105 8) = some (.string x138) ∧ (
 ∃ x140 : Sl, cell H130 (Addr.add y104 6) = some (Sl.v x140) ∧ (
 F28 x134 x135 x136 x138 x140 H130 (fun (r143 : Int) (r144 : Int) (r145 : ByteArray) (r146 : Bool) (r147 : Int) (H141 : Hp) => 
 ∀ H148 : Hp, H148 = Array.push H141 (.cells #[(.int .i64 0), (.int .i64 0), (.string (ByteArray.mk #[])), (.bool false)] 38) → (
 mayw H148 ⟨H141.size, 0, none⟩ 4 0 ∧ ∀ H150 : Hp, H150 = sets H148 ⟨H141.size, 0, none⟩ [(.int .i64 r143), (.int .i64 r144), (.string r145), (.bool r146)] 0 → (
 ((decide (r147 ≠ 0)) = true → (mayw H150 y106 4 0 ∧ ∀ H154 : Hp, H154 = sets H150 y106 [(.int .i64 0), (.int .i64 0), (.string (ByteArray.mk #[])), (.bool false)] 0 → (
 ∃ (x157 : Int) (x158 : Int) (x159 : ByteArray) (x160 : Bool), cells H154 y106 [(.int .i64 x157), (.int .i64 x158), (.string x159), (.bool x160)] 0 ∧ (
 Q x157 x158 x159 x160 r147 H154)))) ∧
 ((decide (r147 ≠ 0)) = false → (∃ x163 : Int, cell H150 ⟨H141.size, 0, none⟩ = some (.int .i64 x163) ∧ (
 ((decide (x163 ≠ 1)) = true → (mayw H150 y106 4 0 ∧ ∀ H165 : Hp, H165 = sets H150 y106 [(.int .i64 0), (.int .i64 0), (.string (ByteArray.mk #[])), (.bool false)] 0 → (
 ∃ (x168 : Int) (x169 : Int) (x170 : ByteArray) (x171 : Bool), cells H165 y106 [(.int .i64 x168), (.int .i64 x169), (.string x170), (.bool x171)] 0 ∧ (
 Q x168 x169 x170 x171 10 H165)))) ∧
 ((decide (x163 ≠ 1)) = false → (((decide (y103 = 0)) = true → (∃ x175 : Int, cell H150 (Addr.add ⟨H141.size, 0, none⟩ 1) = some (.int .i64 x175) ∧ (
 F57_6 Q X5 y104 y105 y106 y107 y108 y109 y110 y103 x175 H150))) ∧
 ((decide (y103 = 0)) = false → (∃ x178 : Int, cell H150 (Addr.add ⟨H141.size, 0, none⟩ 1) = some (.int .i64 x178) ∧ (
 FV57_78_79_80 y108 y102 x178 H150 (fun (r181 : Int) (H179 : Hp) => 
 F57_6 Q X5 y104 y105 y106 y107 y108 y109 y110 y103 r181 H179))))))))))))))))))))) ∧
 ((decide (y103 < y110)) = false → (F57_4 Q y105 y106 y107 y102 H_5))
def F57_L5 (Q : Int → Int → ByteArray → Bool → Int → Hp → Prop) (y104 : Addr) (y105 : Addr) (y106 : Addr) (y107 : Sl) (y108 : Value) (y109 : Sl) (y110 : Int) (y102 : Int) (y103 : Int) (H_5 : Hp) : Prop :=
  ∀ X5 : Int → Int → Hp → Prop, (∀ (y102 : Int) (y103 : Int) (H_5 : Hp), F57_L5b Q X5 y104 y105 y106 y107 y108 y109 y110 y102 y103 H_5 → X5 y102 y103 H_5) → X5 y102 y103 H_5
def F57_2 (Q : Int → Int → ByteArray → Bool → Int → Hp → Prop) (y48 : Addr) (y49 : Addr) (y50 : Addr) (y51 : Sl) (y54 : Bool) (H_2 : Hp) : Prop :=
(y54 = true → (mayw H_2 y50 4 0 ∧ ∀ H73 : Hp, H73 = sets H_2 y50 [(.int .i64 0), (.int .i64 0), (.string (ByteArray.mk #[])), (.bool false)] 0 → (
 ∃ (x76 : Int) (x77 : Int) (x78 : ByteArray) (x79 : Bool), cells H73 y50 [(.int .i64 x76), (.int .i64 x77), (.string x78), (.bool x79)] 0 ∧ (
 Q x76 x77 x78 x79 110 H73)))) ∧
 (y54 = false → (∃ x83 : Int, cell H_2 (Addr.add y49 1) = some (.int .i64 x83) ∧ (
 ((decide (x83 ≠ 1)) = true → (∃ x86 : Int, cell H_2 (Addr.add y49 1) = some (.int .i64 x86) ∧ (
 F71 H_2 (fun (r89 : Value) (r90 : Value) (r91 : Value) (r92 : Value) (r93 : Value) (H87 : Hp) => 
 cell H87 (Addr.add y49 1) = some (.int .i64 x86) ∧ (
 (0 : Int) ≤ x86 ∧ x86 < (5 : Int) ∧ ∃ y95 : Value, ([r89, r90, r91, r92, r93] : List Value)[x86.toNat]? = some y95 ∧ (
 F57_L5 Q y48 y49 y50 y51 y95 y51 ((y51).n : Int) 0 0 H87)))))) ∧
 ((decide (x83 ≠ 1)) = false → (F57_3 Q y50 ((y51).n : Int) H_2)))))
def F57_1 (Q : Int → Int → ByteArray → Bool → Int → Hp → Prop) (y7 : Addr) (y8 : Addr) (y9 : Addr) (y14 : Bool) (H_1 : Hp) : Prop :=
(y14 = true → (mayw H_1 y9 4 0 ∧ ∀ H26 : Hp, H26 = sets H_1 y9 [(.int .i64 0), (.int .i64 0), (.string (ByteArray.mk #[])), (.bool false)] 0 → (
 ∃ (x29 : Int) (x30 : Int) (x31 : ByteArray) (x32 : Bool), cells H26 y9 [(.int .i64 x29), (.int .i64 x30), (.string x31), (.bool x32)] 0 ∧ (
 Q x29 x30 x31 x32 60 H26)))) ∧
 (y14 = false → (∃ (x35 : Sl) (x36 : Sl) (x37 : ByteArray) (x38 : ByteArray) (x39 : Int) (x40 : Sl) (x41 : Sl), cells H_1 y7 [(Sl.v x35), (Sl.v x36), (.string x37), (.string x38), (.int .i64 x39), (Sl.v x40), (Sl.v x41)] 0 ∧ (
 ∃ x43 : ByteArray, cell H_1 (Addr.add y8 6) = some (.string x43) ∧ (
 F69 x35 x36 x37 x38 x39 x40 x41 x43 H_1 (fun (r46 : Sl) (r47 : Bool) (H44 : Hp) => 
 ((!r47) = true → (F57_2 Q y7 y8 y9 r46 true H44)) ∧
 ((!r47) = false → (∃ x56 : Int, cell H44 (Addr.add y8 7) = some (.int .i64 x56) ∧ (
 ((decide (x56 = 7)) = true → (∃ (x60 : Sl) (x61 : Sl) (x62 : ByteArray) (x63 : ByteArray) (x64 : Int) (x65 : Sl) (x66 : Sl), cells H44 y7 [(Sl.v x60), (Sl.v x61), (.string x62), (.string x63), (.int .i64 x64), (Sl.v x65), (Sl.v x66)] 0 ∧ (
 ∃ x68 : ByteArray, cell H44 (Addr.add y8 6) = some (.string x68) ∧ (
 F70 x60 x61 x62 x63 x64 x65 x66 x68 H44 (fun (r71 : Bool) (H69 : Hp) => 
 F57_2 Q y7 y8 y9 r46 (!r71) H69))))) ∧
 ((decide (x56 = 7)) = false → (F57_2 Q y7 y8 y9 r46 false H44))))))))))
def F57 (p0_0 : Sl) (p0_1 : Sl) (p0_2 : ByteArray) (p0_3 : ByteArray) (p0_4 : Int) (p0_5 : Sl) (p0_6 : Sl) (p1_0 : Int) (p1_1 : Int) (p1_2 : Int) (p1_3 : Int) (p1_4 : ByteArray) (p1_5 : Bool) (p1_6 : ByteArray) (p1_7 : Int) (p1_8 : ByteArray) (p1_9 : Sl) (H : Hp) (Q : Int → Int → ByteArray → Bool → Int → Hp → Prop) : Prop :=
∀ H1 : Hp, H1 = Array.push H (.cells #[(Sl.v p0_0), (Sl.v p0_1), (.string p0_2), (.string p0_3), (.int .i64 p0_4), (Sl.v p0_5), (Sl.v p0_6)] 90) → (
 ∀ H3 : Hp, H3 = Array.push H1 (.cells #[(.int .i64 p1_0), (.int .i64 p1_1), (.int .i64 p1_2), (.int .i64 p1_3), (.string p1_4), (.bool p1_5), (.string p1_6), (.int .i64 p1_7), (.string p1_8), (Sl.v p1_9)] 41) → (
 ∀ H5 : Hp, H5 = Array.push H3 (.cells #[(.int .i64 0), (.int .i64 0), (.string (ByteArray.mk #[])), (.bool false)] 38) → (
 ∃ x11 : Int, cell H5 (Addr.add ⟨H1.size, 0, none⟩ 1) = some (.int .i64 x11) ∧ (
 ((decide (x11 < 1)) = true → (F57_1 Q ⟨H.size, 0, none⟩ ⟨H1.size, 0, none⟩ ⟨H3.size, 0, none⟩ true H5)) ∧
 ((decide (x11 < 1)) = false → (∃ x16 : Int, cell H5 (Addr.add ⟨H1.size, 0, none⟩ 1) = some (.int .i64 x16) ∧ (
 ((decide ((4 : Int) < x16)) = true → (F57_1 Q ⟨H.size, 0, none⟩ ⟨H1.size, 0, none⟩ ⟨H3.size, 0, none⟩ true H5)) ∧
 ((decide ((4 : Int) < x16)) = false → (∃ x20 : Int, cell H5 (Addr.add ⟨H1.size, 0, none⟩ 7) = some (.int .i64 x20) ∧ (
 ((decide (x20 ≠ 6)) = true → (∃ x24 : Int, cell H5 (Addr.add ⟨H1.size, 0, none⟩ 7) = some (.int .i64 x24) ∧ (
 F57_1 Q ⟨H.size, 0, none⟩ ⟨H1.size, 0, none⟩ ⟨H3.size, 0, none⟩ (decide (x24 ≠ 7)) H5))) ∧
 ((decide (x20 ≠ 6)) = false → (F57_1 Q ⟨H.size, 0, none⟩ ⟨H1.size, 0, none⟩ ⟨H3.size, 0, none⟩ false H5))))))))))))
set_option maxRecDepth 100000 in
set_option maxHeartbeats 4000000 in
theorem walk57 {w0 : World} {p0_0 : Sl} {p0_1 : Sl} {p0_2 : ByteArray} {p0_3 : ByteArray} {p0_4 : Int} {p0_5 : Sl} {p0_6 : Sl} {p1_0 : Int} {p1_1 : Int} {p1_2 : Int} {p1_3 : Int} {p1_4 : ByteArray} {p1_5 : Bool} {p1_6 : ByteArray} {p1_7 : Int} {p1_8 : ByteArray} {p1_9 : Sl} {H : Hp} {Q : Int → Int → ByteArray → Bool → Int → Hp → Prop} (h : F57 p0_0 p0_1 p0_2 p0_3 p0_4 p0_5 p0_6 p1_0 p1_1 p1_2 p1_3 p1_4 p1_5 p1_6 p1_7 p1_8 p1_9 H Q) :
    Good Tryd.prog w0 57 #[(.agg #[(Sl.v p0_0), (Sl.v p0_1), (.string p0_2), (.string p0_3), (.int .i64 p0_4), (Sl.v p0_5), (Sl.v p0_6)]), (.agg #[(.int .i64 p1_0), (.int .i64 p1_1), (.int .i64 p1_2), (.int .i64 p1_3), (.string p1_4), (.bool p1_5), (.string p1_6), (.int .i64 p1_7), (.string p1_8), (Sl.v p1_9)])] H (fun v H => ∃ (r0 : Int) (r1 : Int) (r2 : ByteArray) (r3 : Bool) (r4 : Int) , v = (.tuple #[(.agg #[(.int .i64 r0), (.int .i64 r1), (.string r2), (.bool r3)]), (.int .i64 r4)]) ∧ Q r0 r1 r2 r3 r4 H) := by
  unfold F57 at h
  refine Good.enter' (fn := Tryd.f57) Tryd.func57 rfl rfl rfl ?_
  refine HW.seq ?_
  refine HW.region ?_
  refine HList.ops' rfl (HOp.box (v := (.agg #[(Sl.v p0_0), (Sl.v p0_1), (.string p0_2), (.string p0_3), (.int .i64 p0_4), (Sl.v p0_5), (Sl.v p0_6)])) rfl) ?_
  rintro _ H1 ⟨rfl, e2⟩
  replace h := h H1 e2
  refine HList.ops' rfl (HOp.box (v := (.agg #[(.int .i64 p1_0), (.int .i64 p1_1), (.int .i64 p1_2), (.int .i64 p1_3), (.string p1_4), (.bool p1_5), (.string p1_6), (.int .i64 p1_7), (.string p1_8), (Sl.v p1_9)])) rfl) ?_
  rintro _ H3 ⟨rfl, e4⟩
  replace h := h H3 e4
  refine HList.ops' rfl (HOp.alloc Tryd.zeroValue38) ?_
  rintro _ H5 ⟨rfl, e6⟩
  replace h := h H5 e6
  refine HList.vals (v := (.int .i64 0)) rfl (HVal.assign' rfl) ?_
  refine HList.nil ?_
  refine nt ?_
  refine HW.seq ?_
  refine HW.cut (fun ρ H_1 => ∃ (y14 : Bool), Env.Is ρ [(2, (.pointer (some ⟨H.size, 0, none⟩))), (3, (.pointer (some ⟨H1.size, 0, none⟩))), (4, (.pointer (some ⟨H3.size, 0, none⟩))), (31, (.bool y14))] ∧ F57_1 Q ⟨H.size, 0, none⟩ ⟨H1.size, 0, none⟩ ⟨H3.size, 0, none⟩ y14 H_1) ?_ ?_
  · refine HW.region ?_
    refine HList.vals (v := (.pointer (some (Addr.add ⟨H1.size, 0, none⟩ 1)))) rfl (HVal.fieldAddr' Tryd.runUnderlying41 rfl rfl Tryd.sizeOf3 rfl) ?_
    obtain ⟨x11, c10, h⟩ := h
    refine HList.vals (v := (.int .i64 x11)) rfl (HVal.load1 Tryd.isAgg3 rfl c10) ?_
    refine HList.vals (v := (.bool (decide (x11 < 1)))) rfl (HVal.lss rfl rfl) ?_
    refine HList.vals (v := (.bool (decide (x11 < 1)))) rfl (HVal.move' rfl) ?_
    obtain ⟨hT, hF⟩ := h
    rcases Bool.eq_false_or_eq_true (decide (x11 < 1)) with hb12 | hb13
    · have h := hT hb12
      clear hT hF
      refine HList.gskips rfl rfl rfl rfl (congrArg Value.bool hb12) ?_
      refine HList.gskips rfl rfl rfl rfl (congrArg Value.bool hb12) ?_
      refine HList.gskips rfl rfl rfl rfl (congrArg Value.bool hb12) ?_
      refine HList.vals (v := (.bool true)) rfl (HVal.pickT rfl hb12 rfl) ?_
      refine HList.vals (v := (.bool true)) rfl (HVal.move' rfl) ?_
      refine HList.gskips rfl rfl rfl rfl rfl ?_
      refine HList.gskips rfl rfl rfl rfl rfl ?_
      refine HList.gskips rfl rfl rfl rfl rfl ?_
      refine HList.gskips rfl rfl rfl rfl rfl ?_
      refine HList.uskips rfl rfl rfl rfl rfl ?_
      refine HList.uskips rfl rfl rfl rfl rfl ?_
      refine HList.uskips rfl rfl rfl rfl rfl ?_
      refine HList.gskips rfl rfl rfl rfl rfl ?_
      refine HList.vals (v := (.bool true)) rfl (HVal.pickT rfl rfl rfl) ?_
      refine HList.nil ?_
      refine nt ?_
      exact ⟨true, ⟨rfl, rfl, rfl, rfl, trivial⟩, h⟩
    · have h := hF hb13
      clear hT hF
      refine HList.gvals (v := (.pointer (some (Addr.add ⟨H1.size, 0, none⟩ 1)))) rfl rfl rfl rfl (congrArg Value.bool hb13) (HVal.fieldAddr' Tryd.runUnderlying41 rfl rfl Tryd.sizeOf3 rfl) ?_
      obtain ⟨x16, c15, h⟩ := h
      refine HList.gvals (v := (.int .i64 x16)) rfl rfl rfl rfl (congrArg Value.bool hb13) (HVal.load1 Tryd.isAgg3 rfl c15) ?_
      refine HList.gvals (v := (.bool (decide ((4 : Int) < x16)))) rfl rfl rfl rfl (congrArg Value.bool hb13) (HVal.gtr rfl rfl) ?_
      refine HList.vals (v := (.bool (decide ((4 : Int) < x16)))) rfl (HVal.pickF rfl hb13 rfl) ?_
      refine HList.vals (v := (.bool (decide ((4 : Int) < x16)))) rfl (HVal.move' rfl) ?_
      obtain ⟨hT, hF⟩ := h
      rcases Bool.eq_false_or_eq_true (decide ((4 : Int) < x16)) with hb17 | hb18
      · have h := hT hb17
        clear hT hF
        refine HList.gskips rfl rfl rfl rfl (congrArg Value.bool hb17) ?_
        refine HList.gskips rfl rfl rfl rfl (congrArg Value.bool hb17) ?_
        refine HList.gskips rfl rfl rfl rfl (congrArg Value.bool hb17) ?_
        refine HList.gskips rfl rfl rfl rfl (congrArg Value.bool hb17) ?_
        refine HList.uskips rfl rfl rfl rfl rfl ?_
        refine HList.uskips rfl rfl rfl rfl rfl ?_
        refine HList.uskips rfl rfl rfl rfl rfl ?_
        refine HList.gskips rfl rfl rfl rfl (congrArg Value.bool hb17) ?_
        refine HList.vals (v := (.bool true)) rfl (HVal.pickT rfl hb17 rfl) ?_
        refine HList.nil ?_
        refine nt ?_
        exact ⟨true, ⟨rfl, rfl, rfl, rfl, trivial⟩, h⟩
      · have h := hF hb18
        clear hT hF
        refine HList.gvals (v := (.pointer (some (Addr.add ⟨H1.size, 0, none⟩ 7)))) rfl rfl rfl rfl (congrArg Value.bool hb18) (HVal.fieldAddr' Tryd.runUnderlying41 rfl rfl Tryd.sizeOf3 rfl) ?_
        obtain ⟨x20, c19, h⟩ := h
        refine HList.gvals (v := (.int .i64 x20)) rfl rfl rfl rfl (congrArg Value.bool hb18) (HVal.load1 Tryd.isAgg3 rfl c19) ?_
        refine HList.gvals (v := (.bool (decide (x20 ≠ 6)))) rfl rfl rfl rfl (congrArg Value.bool hb18) (HVal.neqI rfl rfl) ?_
        refine HList.gvals (v := (.bool (decide (x20 ≠ 6)))) rfl rfl rfl rfl (congrArg Value.bool hb18) (HVal.move' rfl) ?_
        obtain ⟨hT, hF⟩ := h
        rcases Bool.eq_false_or_eq_true (decide (x20 ≠ 6)) with hb21 | hb22
        · have h := hT hb21
          clear hT hF
          refine HList.gvals (v := (.pointer (some (Addr.add ⟨H1.size, 0, none⟩ 7)))) rfl rfl rfl rfl (congrArg Value.bool hb21) (HVal.fieldAddr' Tryd.runUnderlying41 rfl rfl Tryd.sizeOf3 rfl) ?_
          obtain ⟨x24, c23, h⟩ := h
          refine HList.gvals (v := (.int .i64 x24)) rfl rfl rfl rfl (congrArg Value.bool hb21) (HVal.load1 Tryd.isAgg3 rfl c23) ?_
          refine HList.gvals (v := (.bool (decide (x24 ≠ 7)))) rfl rfl rfl rfl (congrArg Value.bool hb21) (HVal.neqI rfl rfl) ?_
          refine HList.gvals (v := (.bool (decide (x24 ≠ 7)))) rfl rfl rfl rfl (congrArg Value.bool hb18) (HVal.pickT rfl hb21 rfl) ?_
          refine HList.vals (v := (.bool (decide (x24 ≠ 7)))) rfl (HVal.pickF rfl hb18 rfl) ?_
          refine HList.nil ?_
          refine nt ?_
          exact ⟨(decide (x24 ≠ 7)), ⟨rfl, rfl, rfl, rfl, trivial⟩, h⟩
        · have h := hF hb22
          clear hT hF
          refine HList.gskips rfl rfl rfl rfl (congrArg Value.bool hb22) ?_
          refine HList.gskips rfl rfl rfl rfl (congrArg Value.bool hb22) ?_
          refine HList.gskips rfl rfl rfl rfl (congrArg Value.bool hb22) ?_
          refine HList.gvals (v := (.bool false)) rfl rfl rfl rfl (congrArg Value.bool hb18) (HVal.pickF rfl hb22 rfl) ?_
          refine HList.vals (v := (.bool false)) rfl (HVal.pickF rfl hb18 rfl) ?_
          refine HList.nil ?_
          refine nt ?_
          exact ⟨false, ⟨rfl, rfl, rfl, rfl, trivial⟩, h⟩
  · rintro ρ H_1 ⟨y14, hI, h⟩
    obtain ⟨ρ0, rfl⟩ : ∃ ρ0, ρ = (Env.set (Env.set (Env.set (Env.set ρ0 31 (.bool y14)) 4 (.pointer (some ⟨H3.size, 0, none⟩))) 3 (.pointer (some ⟨H1.size, 0, none⟩))) 2 (.pointer (some ⟨H.size, 0, none⟩))) := ⟨ρ, hI.eq⟩
    clear hI; unfold F57_1 at h
    obtain ⟨hT, hF⟩ := h
    refine HW.cond y14 rfl (fun hb25 => ?_) (fun hb25 => ?_)
    · have h := hT hb25
      clear hT hF
      refine HW.seq ?_
      refine HW.region ?_
      refine HList.vals (v := (.agg #[(.int .i64 0), (.int .i64 0), (.string (ByteArray.mk #[])), (.bool false)])) rfl (HVal.build' (cs := [(.int .i64 0), (.int .i64 0), (.string (ByteArray.mk #[])), (.bool false)]) Tryd.runUnderlying38 Tryd.zeroValue38 places38 rfl) ?_
      obtain ⟨z28, h⟩ := h
      refine HList.opsn (HOp.storeN' (l := [(.int .i64 0), (.int .i64 0), (.string (ByteArray.mk #[])), (.bool false)]) Tryd.sizeOf38 rfl rfl rfl z28) ?_
      rintro _ H26 e27
      replace h := h H26 e27
      refine HList.vals (v := (.int .i64 60)) rfl (HVal.assign' rfl) ?_
      refine HList.nil ?_
      refine nt ?_
      refine HW.ret ?_
      refine tr ?_
      obtain ⟨x29, x30, x31, x32, c33, h⟩ := h
      exact ⟨_, resOf2 rfl (Res1.n [(.int .i64 x29), (.int .i64 x30), (.string x31), (.bool x32)] Tryd.isAgg38 Tryd.sizeOf38 rfl c33) Res1.t, ⟨x29, x30, x31, x32, 60, rfl, h⟩⟩
    · have h := hF hb25
      clear hT hF
      refine HW.skip ?_
      refine nt ?_
      refine HW.seq ?_
      refine HW.region ?_
      obtain ⟨x35, x36, x37, x38, x39, x40, x41, c34, h⟩ := h
      refine HList.vals (v := (.agg #[(Sl.v x35), (Sl.v x36), (.string x37), (.string x38), (.int .i64 x39), (Sl.v x40), (Sl.v x41)])) rfl (HVal.loadN [(Sl.v x35), (Sl.v x36), (.string x37), (.string x38), (.int .i64 x39), (Sl.v x40), (Sl.v x41)] Tryd.isAgg90 Tryd.sizeOf90 rfl c34) ?_
      refine HList.vals (v := (.pointer (some (Addr.add ⟨H1.size, 0, none⟩ 6)))) rfl (HVal.fieldAddr' Tryd.runUnderlying41 rfl rfl Tryd.sizeOf9 rfl) ?_
      obtain ⟨x43, c42, h⟩ := h
      refine HList.vals (v := (.string x43)) rfl (HVal.load1 Tryd.isAgg9 rfl c42) ?_
      refine HList.ops' rfl (HOp.call' 69 [(.agg #[(Sl.v x35), (Sl.v x36), (.string x37), (.string x38), (.int .i64 x39), (Sl.v x40), (Sl.v x41)]), (.string x43)] (cap := []) rfl rfl Tryd.call69 (walk69 h)) ?_
      rintro _ H44 ⟨r46, r47, rfl, h⟩
      refine HList.vals (v := (.tuple #[(Sl.v r46), (.bool r47)])) rfl (HVal.move' rfl) ?_
      refine HList.vals (v := (Sl.v r46)) rfl (HVal.extract rfl rfl) ?_
      refine HList.vals (v := (.bool r47)) rfl (HVal.extract rfl rfl) ?_
      refine HList.vals (v := (Sl.v r46)) rfl (HVal.assign' rfl) ?_
      refine HList.vals (v := (.bool r47)) rfl (HVal.assign' rfl) ?_
      refine HList.nil ?_
      refine nt ?_
      refine HW.seq ?_
      refine HW.cut (fun ρ H_2 => ∃ (y54 : Bool), Env.Is ρ [(2, (.pointer (some ⟨H.size, 0, none⟩))), (3, (.pointer (some ⟨H1.size, 0, none⟩))), (4, (.pointer (some ⟨H3.size, 0, none⟩))), (6, (Sl.v r46)), (53, (.bool y54))] ∧ F57_2 Q ⟨H.size, 0, none⟩ ⟨H1.size, 0, none⟩ ⟨H3.size, 0, none⟩ r46 y54 H_2) ?_ ?_
      · refine HW.region ?_
        refine HList.vals (v := (.bool r47)) rfl (HVal.move' rfl) ?_
        refine HList.vals (v := (.bool (!r47))) rfl (HVal.not rfl) ?_
        refine HList.vals (v := (.bool (!r47))) rfl (HVal.move' rfl) ?_
        obtain ⟨hT, hF⟩ := h
        rcases Bool.eq_false_or_eq_true (!r47) with hb52 | hb53
        · have h := hT hb52
          clear hT hF
          refine HList.gskips rfl rfl rfl rfl (congrArg Value.bool hb52) ?_
          refine HList.gskips rfl rfl rfl rfl (congrArg Value.bool hb52) ?_
          refine HList.gskips rfl rfl rfl rfl (congrArg Value.bool hb52) ?_
          refine HList.gskips rfl rfl rfl rfl (congrArg Value.bool hb52) ?_
          refine HList.uskips rfl rfl rfl rfl rfl ?_
          refine HList.uskips rfl rfl rfl rfl rfl ?_
          refine HList.uskips rfl rfl rfl rfl rfl ?_
          refine HList.uskips rfl rfl rfl rfl rfl ?_
          refine HList.uskips rfl rfl rfl rfl rfl ?_
          refine HList.gskips rfl rfl rfl rfl (congrArg Value.bool hb52) ?_
          refine HList.vals (v := (.bool true)) rfl (HVal.pickT rfl hb52 rfl) ?_
          refine HList.nil ?_
          refine nt ?_
          exact ⟨true, ⟨rfl, rfl, rfl, rfl, rfl, trivial⟩, h⟩
        · have h := hF hb53
          clear hT hF
          refine HList.gvals (v := (.pointer (some (Addr.add ⟨H1.size, 0, none⟩ 7)))) rfl rfl rfl rfl (congrArg Value.bool hb53) (HVal.fieldAddr' Tryd.runUnderlying41 rfl rfl Tryd.sizeOf3 rfl) ?_
          obtain ⟨x56, c55, h⟩ := h
          refine HList.gvals (v := (.int .i64 x56)) rfl rfl rfl rfl (congrArg Value.bool hb53) (HVal.load1 Tryd.isAgg3 rfl c55) ?_
          refine HList.gvals (v := (.bool (decide (x56 = 7)))) rfl rfl rfl rfl (congrArg Value.bool hb53) (HVal.eqlI rfl rfl) ?_
          refine HList.gvals (v := (.bool (decide (x56 = 7)))) rfl rfl rfl rfl (congrArg Value.bool hb53) (HVal.move' rfl) ?_
          obtain ⟨hT, hF⟩ := h
          rcases Bool.eq_false_or_eq_true (decide (x56 = 7)) with hb57 | hb58
          · have h := hT hb57
            clear hT hF
            obtain ⟨x60, x61, x62, x63, x64, x65, x66, c59, h⟩ := h
            refine HList.gvals (v := (.agg #[(Sl.v x60), (Sl.v x61), (.string x62), (.string x63), (.int .i64 x64), (Sl.v x65), (Sl.v x66)])) rfl rfl rfl rfl (congrArg Value.bool hb57) (HVal.loadN [(Sl.v x60), (Sl.v x61), (.string x62), (.string x63), (.int .i64 x64), (Sl.v x65), (Sl.v x66)] Tryd.isAgg90 Tryd.sizeOf90 rfl c59) ?_
            refine HList.gvals (v := (.pointer (some (Addr.add ⟨H1.size, 0, none⟩ 6)))) rfl rfl rfl rfl (congrArg Value.bool hb57) (HVal.fieldAddr' Tryd.runUnderlying41 rfl rfl Tryd.sizeOf9 rfl) ?_
            obtain ⟨x68, c67, h⟩ := h
            refine HList.gvals (v := (.string x68)) rfl rfl rfl rfl (congrArg Value.bool hb57) (HVal.load1 Tryd.isAgg9 rfl c67) ?_
            refine HList.gops rfl rfl rfl rfl (congrArg Value.bool hb57) (HOp.call' 70 [(.agg #[(Sl.v x60), (Sl.v x61), (.string x62), (.string x63), (.int .i64 x64), (Sl.v x65), (Sl.v x66)]), (.string x68)] (cap := []) rfl rfl Tryd.call70 (walk70 h)) ?_
            rintro _ H69 ⟨r71, rfl, h⟩
            refine HList.gvals (v := (.bool (!r71))) rfl rfl rfl rfl (congrArg Value.bool hb57) (HVal.not rfl) ?_
            refine HList.gvals (v := (.bool (!r71))) rfl rfl rfl rfl (congrArg Value.bool hb53) (HVal.pickT rfl hb57 rfl) ?_
            refine HList.vals (v := (.bool (!r71))) rfl (HVal.pickF rfl hb53 rfl) ?_
            refine HList.nil ?_
            refine nt ?_
            exact ⟨(!r71), ⟨rfl, rfl, rfl, rfl, rfl, trivial⟩, h⟩
          · have h := hF hb58
            clear hT hF
            refine HList.gskips rfl rfl rfl rfl (congrArg Value.bool hb58) ?_
            refine HList.gskips rfl rfl rfl rfl (congrArg Value.bool hb58) ?_
            refine HList.gskips rfl rfl rfl rfl (congrArg Value.bool hb58) ?_
            refine HList.gskips rfl rfl rfl rfl (congrArg Value.bool hb58) ?_
            refine HList.gskips rfl rfl rfl rfl (congrArg Value.bool hb58) ?_
            refine HList.gvals (v := (.bool false)) rfl rfl rfl rfl (congrArg Value.bool hb53) (HVal.pickF rfl hb58 rfl) ?_
            refine HList.vals (v := (.bool false)) rfl (HVal.pickF rfl hb53 rfl) ?_
            refine HList.nil ?_
            refine nt ?_
            exact ⟨false, ⟨rfl, rfl, rfl, rfl, rfl, trivial⟩, h⟩
      · rintro ρ H_2 ⟨y54, hI, h⟩
        obtain ⟨ρ0, rfl⟩ : ∃ ρ0, ρ = (Env.set (Env.set (Env.set (Env.set (Env.set ρ0 53 (.bool y54)) 6 (Sl.v r46)) 4 (.pointer (some ⟨H3.size, 0, none⟩))) 3 (.pointer (some ⟨H1.size, 0, none⟩))) 2 (.pointer (some ⟨H.size, 0, none⟩))) := ⟨ρ, hI.eq⟩
        clear hI; unfold F57_2 at h
        obtain ⟨hT, hF⟩ := h
        refine HW.cond y54 rfl (fun hb72 => ?_) (fun hb72 => ?_)
        · have h := hT hb72
          clear hT hF
          refine HW.seq ?_
          refine HW.region ?_
          refine HList.vals (v := (.agg #[(.int .i64 0), (.int .i64 0), (.string (ByteArray.mk #[])), (.bool false)])) rfl (HVal.build' (cs := [(.int .i64 0), (.int .i64 0), (.string (ByteArray.mk #[])), (.bool false)]) Tryd.runUnderlying38 Tryd.zeroValue38 places38 rfl) ?_
          obtain ⟨z75, h⟩ := h
          refine HList.opsn (HOp.storeN' (l := [(.int .i64 0), (.int .i64 0), (.string (ByteArray.mk #[])), (.bool false)]) Tryd.sizeOf38 rfl rfl rfl z75) ?_
          rintro _ H73 e74
          replace h := h H73 e74
          refine HList.vals (v := (.int .i64 110)) rfl (HVal.assign' rfl) ?_
          refine HList.nil ?_
          refine nt ?_
          refine HW.ret ?_
          refine tr ?_
          obtain ⟨x76, x77, x78, x79, c80, h⟩ := h
          exact ⟨_, resOf2 rfl (Res1.n [(.int .i64 x76), (.int .i64 x77), (.string x78), (.bool x79)] Tryd.isAgg38 Tryd.sizeOf38 rfl c80) Res1.t, ⟨x76, x77, x78, x79, 110, rfl, h⟩⟩
        · have h := hF hb72
          clear hT hF
          refine HW.skip ?_
          refine nt ?_
          refine HW.seq ?_
          refine HW.region ?_
          refine HList.vals (v := (Sl.v r46)) rfl (HVal.move' rfl) ?_
          refine HList.vals (v := (.int .i64 ((r46).n : Int))) rfl (HVal.len Tryd.runUnderlying49 rfl) ?_
          refine HList.vals (v := (.int .i64 ((r46).n : Int))) rfl (HVal.assign' rfl) ?_
          refine HList.nil ?_
          refine nt ?_
          refine HW.cut (fun ρ H_3 => ∃ (y199 : Int), Env.Is ρ [(4, (.pointer (some ⟨H3.size, 0, none⟩))), (8, (.int .i64 y199))] ∧ F57_3 Q ⟨H3.size, 0, none⟩ y199 H_3) ?_ ?_
          · refine HW.seq ?_
            refine HW.region ?_
            refine HList.vals (v := (.pointer (some (Addr.add ⟨H1.size, 0, none⟩ 1)))) rfl (HVal.fieldAddr' Tryd.runUnderlying41 rfl rfl Tryd.sizeOf3 rfl) ?_
            obtain ⟨x83, c82, h⟩ := h
            refine HList.vals (v := (.int .i64 x83)) rfl (HVal.load1 Tryd.isAgg3 rfl c82) ?_
            refine HList.vals (v := (.bool (decide (x83 ≠ 1)))) rfl (HVal.neqI rfl rfl) ?_
            refine HList.nil ?_
            refine nt ?_
            obtain ⟨hT, hF⟩ := h
            refine HW.cond (decide (x83 ≠ 1)) rfl (fun hb84 => ?_) (fun hb84 => ?_)
            · have h := hT hb84
              clear hT hF
              refine HW.seq ?_
              refine HW.region ?_
              refine HList.vals (v := (.int .i64 0)) rfl (HVal.assign' rfl) ?_
              refine HList.nil ?_
              refine nt ?_
              refine HW.seq ?_
              refine HW.draw mixed [(1, some []), (2, some []), (0, none), (3, some []), (4, some [])] rfl (by kernel_rfl) (by kernel_rfl) ?_
              refine HPlan.takev (v := (.pointer (some (Addr.add ⟨H1.size, 0, none⟩ 1)))) rfl rfl (fun _ => HVal.fieldAddr' Tryd.runUnderlying41 rfl rfl Tryd.sizeOf3 rfl) ?_
              obtain ⟨x86, c85, h⟩ := h
              refine HPlan.takel (v := (.int .i64 x86)) (fun X => cell X (Addr.add ⟨H1.size, 0, none⟩ 1) = some (.int .i64 x86)) rfl rfl (fun _ hX => HVal.load1 Tryd.isAgg3 rfl hX) c85 ?_
              refine HPlan.ops' rfl rfl (HOp.call' 71 [] (cap := []) rfl rfl Tryd.call71 (walk71 h)) ?_
              rintro _ H87 ⟨r89, r90, r91, r92, r93, rfl, h⟩
              obtain ⟨s94, h⟩ := h
              refine ⟨SC_of ⟨fun _ => s94, trivial⟩, ?_⟩
              obtain ⟨b96, b97, y95, b98, h⟩ := h
              refine HPlan.takev (v := y95) rfl rfl (fun _ => HVal.indexA (fun x : Value => x) [r89, r90, r91, r92, r93] Tryd.runUnderlying120 Tryd.isAgg118 Tryd.sizeOf118 rfl rfl b96 b97 b98) ?_
              refine HPlan.takev (v := y95) rfl rfl (fun _ => HVal.assign' rfl) ?_
              refine HPlan.done ?_
              refine nt ?_
              refine HW.cut (fun ρ H_4 => ∃ (y182 : Int), Env.Is ρ [(3, (.pointer (some ⟨H1.size, 0, none⟩))), (4, (.pointer (some ⟨H3.size, 0, none⟩))), (6, (Sl.v r46)), (8, (.int .i64 y182))] ∧ F57_4 Q ⟨H1.size, 0, none⟩ ⟨H3.size, 0, none⟩ r46 y182 H_4) ?_ ?_
              · refine HW.seq ?_
                refine HW.region ?_
                refine HList.vals (v := (Sl.v r46)) rfl (HVal.move' rfl) ?_
                refine HList.vals (v := (.int .i64 ((r46).n : Int))) rfl (HVal.len Tryd.runUnderlying49 rfl) ?_
                refine HList.vals (v := (.int .i64 0)) rfl (HVal.move' rfl) ?_
                refine HList.nil ?_
                refine nt ?_
                refine HW.block ?_
                refine HW.loop' (fun L5 hL5 => ?_)
                obtain ⟨X5, hX5⟩ : ∃ X5 : Int → Int → Hp → Prop, ∀ (y102 : Int) (y103 : Int) (H_5 : Hp), X5 y102 y103 H_5 ↔ ∀ ρ, Env.Is ρ [(2, (.pointer (some ⟨H.size, 0, none⟩))), (3, (.pointer (some ⟨H1.size, 0, none⟩))), (4, (.pointer (some ⟨H3.size, 0, none⟩))), (6, (Sl.v r46)), (9, y95), (64, (Sl.v r46)), (65, (.int .i64 ((r46).n : Int))), (8, (.int .i64 y102)), (66, (.int .i64 y103))] → L5 ρ H_5 := ⟨_, fun _ _ _ => Iff.rfl⟩
                refine (hX5 _ _ _).1 (h X5 ?_) _ ?_
                rotate_left
                · exact ⟨rfl, rfl, rfl, rfl, rfl, rfl, rfl, rfl, rfl, trivial⟩
                clear h
                intro y102 y103 H_5 h
                refine (hX5 _ _ _).2 fun ρ hI => ?_
                obtain ⟨ρ0, rfl⟩ : ∃ ρ0, ρ = (Env.set (Env.set (Env.set (Env.set (Env.set (Env.set (Env.set (Env.set (Env.set ρ0 66 (.int .i64 y103)) 8 (.int .i64 y102)) 65 (.int .i64 ((r46).n : Int))) 64 (Sl.v r46)) 9 y95) 6 (Sl.v r46)) 4 (.pointer (some ⟨H3.size, 0, none⟩))) 3 (.pointer (some ⟨H1.size, 0, none⟩))) 2 (.pointer (some ⟨H.size, 0, none⟩))) := ⟨ρ, hI.eq⟩
                clear hI; unfold F57_L5b at h; refine hL5 _ _ ?_
                refine HW.seq ?_
                refine HW.region ?_
                refine HList.vals (v := (.bool (decide (y103 < ((r46).n : Int))))) rfl (HVal.lss rfl rfl) ?_
                refine HList.nil ?_
                refine nt ?_
                refine HW.seq ?_
                obtain ⟨hT, hF⟩ := h
                refine HW.cond (decide (y103 < ((r46).n : Int))) rfl (fun hb111 => ?_) (fun hb111 => ?_)
                · have h := hT hb111
                  clear hT hF
                  refine HW.skip ?_
                  refine nt ?_
                  refine HW.cut (fun ρ H_6 => ∃ (y176 : Int), Env.Is ρ [(2, (.pointer (some ⟨H.size, 0, none⟩))), (3, (.pointer (some ⟨H1.size, 0, none⟩))), (4, (.pointer (some ⟨H3.size, 0, none⟩))), (6, (Sl.v r46)), (9, y95), (64, (Sl.v r46)), (65, (.int .i64 ((r46).n : Int))), (66, (.int .i64 y103)), (8, (.int .i64 y176))] ∧ F57_6 Q X5 ⟨H.size, 0, none⟩ ⟨H1.size, 0, none⟩ ⟨H3.size, 0, none⟩ r46 y95 r46 ((r46).n : Int) y103 y176 H_6) ?_ ?_
                  · refine HW.block ?_
                    refine HW.seq ?_
                    refine HW.region ?_
                    refine HList.vals (v := (.int .i64 y103)) rfl (HVal.move' rfl) ?_
                    obtain ⟨a120, e121, b122, b123, h⟩ := h
                    refine HList.vals (v := (.pointer (some (Addr.add a120 (y103.toNat * 3))))) rfl (HVal.indexAddr Tryd.runUnderlying49 Tryd.sizeOf36 (Sl.v_some rfl e121) rfl b122 b123) ?_
                    obtain ⟨x125, x126, x127, c124, h⟩ := h
                    refine HList.vals (v := (.agg #[(.string x125), (.int .i64 x126), (Sl.v x127)])) rfl (HVal.loadN [(.string x125), (.int .i64 x126), (Sl.v x127)] Tryd.isAgg36 Tryd.sizeOf36 rfl c124) ?_
                    refine HList.ops' rfl (HOp.alloc Tryd.zeroValue36) ?_
                    rintro _ H128 ⟨rfl, e129⟩
                    replace h := h H128 e129
                    refine HList.vals (v := (.int .i64 y103)) rfl (HVal.assign' rfl) ?_
                    obtain ⟨z132, h⟩ := h
                    refine HList.opsn (HOp.storeN' (l := [(.string x125), (.int .i64 x126), (Sl.v x127)]) Tryd.sizeOf36 rfl rfl rfl z132) ?_
                    rintro _ H130 e131
                    replace h := h H130 e131
                    refine HList.nil ?_
                    refine nt ?_
                    refine HW.seq ?_
                    refine HW.region ?_
                    obtain ⟨x134, x135, x136, c133, h⟩ := h
                    refine HList.vals (v := (.agg #[(.string x134), (.int .i64 x135), (Sl.v x136)])) rfl (HVal.loadN [(.string x134), (.int .i64 x135), (Sl.v x136)] Tryd.isAgg36 Tryd.sizeOf36 rfl c133) ?_
                    refine HList.vals (v := (.pointer (some (Addr.add ⟨H1.size, 0, none⟩ 8)))) rfl (HVal.fieldAddr' Tryd.runUnderlying41 rfl rfl Tryd.sizeOf9 rfl) ?_
                    obtain ⟨x138, c137, h⟩ := h
                    refine HList.vals (v := (.string x138)) rfl (HVal.load1 Tryd.isAgg9 rfl c137) ?_
                    refine HList.vals (v := (.pointer (some ⟨H.size, 0, none⟩))) rfl (HVal.fieldAddr0 Tryd.runUnderlying90 rfl rfl Tryd.sizeOf43 rfl) ?_
                    refine HList.vals (v := (.pointer (some (Addr.add ⟨H.size, 0, none⟩ 6)))) rfl (HVal.fieldAddr' Tryd.runUnderlying43 rfl rfl Tryd.sizeOf30 rfl) ?_
                    obtain ⟨x140, c139, h⟩ := h
                    refine HList.vals (v := (Sl.v x140)) rfl (HVal.load1 Tryd.isAgg30 rfl c139) ?_
                    refine HList.ops' rfl (HOp.call' 28 [(.agg #[(.string x134), (.int .i64 x135), (Sl.v x136)]), (.string x138), (Sl.v x140)] (cap := []) rfl rfl Tryd.call28 (walk28 h)) ?_
                    rintro _ H141 ⟨r143, r144, r145, r146, r147, rfl, h⟩
                    refine HList.vals (v := (.tuple #[(.agg #[(.int .i64 r143), (.int .i64 r144), (.string r145), (.bool r146)]), (.int .i64 r147)])) rfl (HVal.move' rfl) ?_
                    refine HList.vals (v := (.agg #[(.int .i64 r143), (.int .i64 r144), (.string r145), (.bool r146)])) rfl (HVal.extract rfl rfl) ?_
                    refine HList.vals (v := (.int .i64 r147)) rfl (HVal.extract rfl rfl) ?_
                    refine HList.ops' rfl (HOp.alloc Tryd.zeroValue38) ?_
                    rintro _ H148 ⟨rfl, e149⟩
                    replace h := h H148 e149
                    obtain ⟨z152, h⟩ := h
                    refine HList.opsn (HOp.storeN' (l := [(.int .i64 r143), (.int .i64 r144), (.string r145), (.bool r146)]) Tryd.sizeOf38 rfl rfl rfl z152) ?_
                    rintro _ H150 e151
                    replace h := h H150 e151
                    refine HList.vals (v := (.int .i64 r147)) rfl (HVal.assign' rfl) ?_
                    refine HList.nil ?_
                    refine nt ?_
                    refine HW.block ?_
                    refine HW.seq ?_
                    refine HW.region ?_
                    refine HList.vals (v := (.int .i64 r147)) rfl (HVal.move' rfl) ?_
                    refine HList.vals (v := (.bool (decide (r147 ≠ 0)))) rfl (HVal.neqI rfl rfl) ?_
                    refine HList.vals (v := (.bool (decide (r147 ≠ 0)))) rfl (HVal.assign' rfl) ?_
                    refine HList.nil ?_
                    refine nt ?_
                    obtain ⟨hT, hF⟩ := h
                    refine HW.cond (decide (r147 ≠ 0)) rfl (fun hb153 => ?_) (fun hb153 => ?_)
                    · have h := hT hb153
                      clear hT hF
                      refine HW.seq ?_
                      refine HW.region ?_
                      refine HList.vals (v := (.agg #[(.int .i64 0), (.int .i64 0), (.string (ByteArray.mk #[])), (.bool false)])) rfl (HVal.build' (cs := [(.int .i64 0), (.int .i64 0), (.string (ByteArray.mk #[])), (.bool false)]) Tryd.runUnderlying38 Tryd.zeroValue38 places38 rfl) ?_
                      refine HList.vals (v := (.int .i64 r147)) rfl (HVal.move' rfl) ?_
                      obtain ⟨z156, h⟩ := h
                      refine HList.opsn (HOp.storeN' (l := [(.int .i64 0), (.int .i64 0), (.string (ByteArray.mk #[])), (.bool false)]) Tryd.sizeOf38 rfl rfl rfl z156) ?_
                      rintro _ H154 e155
                      replace h := h H154 e155
                      refine HList.vals (v := (.int .i64 r147)) rfl (HVal.assign' rfl) ?_
                      refine HList.nil ?_
                      refine nt ?_
                      refine HW.ret ?_
                      refine br ?_
                      refine br ?_
                      refine tr ?_
                      refine tr ?_
                      refine br ?_
                      refine tr ?_
                      refine tr ?_
                      obtain ⟨x157, x158, x159, x160, c161, h⟩ := h
                      exact ⟨_, resOf2 rfl (Res1.n [(.int .i64 x157), (.int .i64 x158), (.string x159), (.bool x160)] Tryd.isAgg38 Tryd.sizeOf38 rfl c161) Res1.t, ⟨x157, x158, x159, x160, r147, rfl, h⟩⟩
                    · have h := hF hb153
                      clear hT hF
                      refine HW.seq ?_
                      refine HW.region ?_
                      refine HList.vals (v := (.pointer (some ⟨H141.size, 0, none⟩))) rfl (HVal.fieldAddr0 Tryd.runUnderlying38 rfl rfl Tryd.sizeOf3 rfl) ?_
                      obtain ⟨x163, c162, h⟩ := h
                      refine HList.vals (v := (.int .i64 x163)) rfl (HVal.load1 Tryd.isAgg3 rfl c162) ?_
                      refine HList.vals (v := (.bool (decide (x163 ≠ 1)))) rfl (HVal.neqI rfl rfl) ?_
                      refine HList.vals (v := (.bool (decide (x163 ≠ 1)))) rfl (HVal.assign' rfl) ?_
                      refine HList.nil ?_
                      refine nt ?_
                      obtain ⟨hT, hF⟩ := h
                      refine HW.cond (decide (x163 ≠ 1)) rfl (fun hb164 => ?_) (fun hb164 => ?_)
                      · have h := hT hb164
                        clear hT hF
                        refine HW.seq ?_
                        refine HW.region ?_
                        refine HList.vals (v := (.agg #[(.int .i64 0), (.int .i64 0), (.string (ByteArray.mk #[])), (.bool false)])) rfl (HVal.build' (cs := [(.int .i64 0), (.int .i64 0), (.string (ByteArray.mk #[])), (.bool false)]) Tryd.runUnderlying38 Tryd.zeroValue38 places38 rfl) ?_
                        obtain ⟨z167, h⟩ := h
                        refine HList.opsn (HOp.storeN' (l := [(.int .i64 0), (.int .i64 0), (.string (ByteArray.mk #[])), (.bool false)]) Tryd.sizeOf38 rfl rfl rfl z167) ?_
                        rintro _ H165 e166
                        replace h := h H165 e166
                        refine HList.vals (v := (.int .i64 10)) rfl (HVal.assign' rfl) ?_
                        refine HList.nil ?_
                        refine nt ?_
                        refine HW.ret ?_
                        refine br ?_
                        refine br ?_
                        refine tr ?_
                        refine tr ?_
                        refine br ?_
                        refine tr ?_
                        refine tr ?_
                        obtain ⟨x168, x169, x170, x171, c172, h⟩ := h
                        exact ⟨_, resOf2 rfl (Res1.n [(.int .i64 x168), (.int .i64 x169), (.string x170), (.bool x171)] Tryd.isAgg38 Tryd.sizeOf38 rfl c172) Res1.t, ⟨x168, x169, x170, x171, 10, rfl, h⟩⟩
                      · have h := hF hb164
                        clear hT hF
                        refine HW.seq ?_
                        refine HW.region ?_
                        refine HList.vals (v := (.int .i64 y103)) rfl (HVal.move' rfl) ?_
                        refine HList.vals (v := (.bool (decide (y103 = 0)))) rfl (HVal.eqlI rfl rfl) ?_
                        refine HList.vals (v := (.bool (decide (y103 = 0)))) rfl (HVal.assign' rfl) ?_
                        refine HList.nil ?_
                        refine nt ?_
                        obtain ⟨hT, hF⟩ := h
                        refine HW.cond (decide (y103 = 0)) rfl (fun hb173 => ?_) (fun hb173 => ?_)
                        · have h := hT hb173
                          clear hT hF
                          refine HW.region ?_
                          refine HList.vals (v := (.pointer (some (Addr.add ⟨H141.size, 0, none⟩ 1)))) rfl (HVal.fieldAddr' Tryd.runUnderlying38 rfl rfl Tryd.sizeOf2 rfl) ?_
                          obtain ⟨x175, c174, h⟩ := h
                          refine HList.vals (v := (.int .i64 x175)) rfl (HVal.load1 Tryd.isAgg2 rfl c174) ?_
                          refine HList.vals (v := (.int .i64 x175)) rfl (HVal.assign' rfl) ?_
                          refine HList.nil ?_
                          refine nb ?_
                          refine nb ?_
                          refine nt ?_
                          exact ⟨x175, ⟨rfl, rfl, rfl, rfl, rfl, rfl, rfl, rfl, rfl, trivial⟩, h⟩
                        · have h := hF hb173
                          clear hT hF
                          refine HW.region ?_
                          refine HList.vals (v := y95) rfl (HVal.move' rfl) ?_
                          refine HList.vals (v := (.int .i64 y102)) rfl (HVal.move' rfl) ?_
                          refine HList.vals (v := (.pointer (some (Addr.add ⟨H141.size, 0, none⟩ 1)))) rfl (HVal.fieldAddr' Tryd.runUnderlying38 rfl rfl Tryd.sizeOf2 rfl) ?_
                          obtain ⟨x178, c177, h⟩ := h
                          refine HList.vals (v := (.int .i64 x178)) rfl (HVal.load1 Tryd.isAgg2 rfl c177) ?_
                          refine HList.ops' rfl (HOp.callV [(.int .i64 y102), (.int .i64 x178)] rfl rfl (walkV57_78_79_80 h)) ?_
                          rintro _ H179 ⟨r181, rfl, h⟩
                          refine HList.vals (v := (.int .i64 r181)) rfl (HVal.assign' rfl) ?_
                          refine HList.nil ?_
                          refine nb ?_
                          refine nb ?_
                          refine nt ?_
                          exact ⟨r181, ⟨rfl, rfl, rfl, rfl, rfl, rfl, rfl, rfl, rfl, trivial⟩, h⟩
                  · rintro ρ H_6 ⟨y176, hI, h⟩
                    obtain ⟨ρ0, rfl⟩ : ∃ ρ0, ρ = (Env.set (Env.set (Env.set (Env.set (Env.set (Env.set (Env.set (Env.set (Env.set ρ0 8 (.int .i64 y176)) 66 (.int .i64 y103)) 65 (.int .i64 ((r46).n : Int))) 64 (Sl.v r46)) 9 y95) 6 (Sl.v r46)) 4 (.pointer (some ⟨H3.size, 0, none⟩))) 3 (.pointer (some ⟨H1.size, 0, none⟩))) 2 (.pointer (some ⟨H.size, 0, none⟩))) := ⟨ρ, hI.eq⟩
                    clear hI; unfold F57_6 at h
                    refine HW.region ?_
                    refine HList.vals (v := (.int .i64 (IntKind.i64.wrap (y103 + 1)))) rfl (HVal.add rfl rfl) ?_
                    refine HList.vals (v := (.int .i64 (IntKind.i64.wrap (y103 + 1)))) rfl (HVal.move' rfl) ?_
                    refine HList.nil ?_
                    refine nt ?_
                    exact (hX5 _ _ _).1 h _ ⟨rfl, rfl, rfl, rfl, rfl, rfl, rfl, rfl, rfl, trivial⟩
                · have h := hF hb111
                  clear hT hF
                  refine HW.exit ?_
                  refine te ?_
                  refine te ?_
                  refine be ?_
                  refine nt ?_
                  exact ⟨y102, ⟨rfl, rfl, rfl, rfl, trivial⟩, h⟩
              · rintro ρ H_4 ⟨y182, hI, h⟩
                obtain ⟨ρ0, rfl⟩ : ∃ ρ0, ρ = (Env.set (Env.set (Env.set (Env.set ρ0 8 (.int .i64 y182)) 6 (Sl.v r46)) 4 (.pointer (some ⟨H3.size, 0, none⟩))) 3 (.pointer (some ⟨H1.size, 0, none⟩))) := ⟨ρ, hI.eq⟩
                clear hI; unfold F57_4 at h
                refine HW.cut (fun ρ H_7 => ∃ (y189 : Bool), Env.Is ρ [(4, (.pointer (some ⟨H3.size, 0, none⟩))), (8, (.int .i64 y182)), (109, (.bool y189))] ∧ F57_7 Q ⟨H3.size, 0, none⟩ y182 y189 H_7) ?_ ?_
                · refine HW.region ?_
                  refine HList.vals (v := (Sl.v r46)) rfl (HVal.move' rfl) ?_
                  refine HList.vals (v := (.int .i64 ((r46).n : Int))) rfl (HVal.len Tryd.runUnderlying49 rfl) ?_
                  refine HList.vals (v := (.bool (decide (((r46).n : Int) = 0)))) rfl (HVal.eqlI rfl rfl) ?_
                  refine HList.vals (v := (.bool (decide (((r46).n : Int) = 0)))) rfl (HVal.move' rfl) ?_
                  obtain ⟨hT, hF⟩ := h
                  rcases Bool.eq_false_or_eq_true (decide (((r46).n : Int) = 0)) with hb185 | hb186
                  · have h := hT hb185
                    clear hT hF
                    refine HList.gvals (v := (.pointer (some (Addr.add ⟨H1.size, 0, none⟩ 1)))) rfl rfl rfl rfl (congrArg Value.bool hb185) (HVal.fieldAddr' Tryd.runUnderlying41 rfl rfl Tryd.sizeOf3 rfl) ?_
                    obtain ⟨x188, c187, h⟩ := h
                    refine HList.gvals (v := (.int .i64 x188)) rfl rfl rfl rfl (congrArg Value.bool hb185) (HVal.load1 Tryd.isAgg3 rfl c187) ?_
                    refine HList.gvals (v := (.bool (decide (x188 ≠ 2)))) rfl rfl rfl rfl (congrArg Value.bool hb185) (HVal.neqI rfl rfl) ?_
                    refine HList.vals (v := (.bool (decide (x188 ≠ 2)))) rfl (HVal.pickT rfl hb185 rfl) ?_
                    refine HList.nil ?_
                    refine nt ?_
                    exact ⟨(decide (x188 ≠ 2)), ⟨rfl, rfl, rfl, trivial⟩, h⟩
                  · have h := hF hb186
                    clear hT hF
                    refine HList.gskips rfl rfl rfl rfl (congrArg Value.bool hb186) ?_
                    refine HList.gskips rfl rfl rfl rfl (congrArg Value.bool hb186) ?_
                    refine HList.gskips rfl rfl rfl rfl (congrArg Value.bool hb186) ?_
                    refine HList.vals (v := (.bool false)) rfl (HVal.pickF rfl hb186 rfl) ?_
                    refine HList.nil ?_
                    refine nt ?_
                    exact ⟨false, ⟨rfl, rfl, rfl, trivial⟩, h⟩
                · rintro ρ H_7 ⟨y189, hI, h⟩
                  obtain ⟨ρ0, rfl⟩ : ∃ ρ0, ρ = (Env.set (Env.set (Env.set ρ0 109 (.bool y189)) 8 (.int .i64 y182)) 4 (.pointer (some ⟨H3.size, 0, none⟩))) := ⟨ρ, hI.eq⟩
                  clear hI; unfold F57_7 at h
                  obtain ⟨hT, hF⟩ := h
                  refine HW.cond y189 rfl (fun hb190 => ?_) (fun hb190 => ?_)
                  · have h := hT hb190
                    clear hT hF
                    refine HW.seq ?_
                    refine HW.region ?_
                    refine HList.vals (v := (.agg #[(.int .i64 0), (.int .i64 0), (.string (ByteArray.mk #[])), (.bool false)])) rfl (HVal.build' (cs := [(.int .i64 0), (.int .i64 0), (.string (ByteArray.mk #[])), (.bool false)]) Tryd.runUnderlying38 Tryd.zeroValue38 places38 rfl) ?_
                    obtain ⟨z193, h⟩ := h
                    refine HList.opsn (HOp.storeN' (l := [(.int .i64 0), (.int .i64 0), (.string (ByteArray.mk #[])), (.bool false)]) Tryd.sizeOf38 rfl rfl rfl z193) ?_
                    rintro _ H191 e192
                    replace h := h H191 e192
                    refine HList.vals (v := (.int .i64 110)) rfl (HVal.assign' rfl) ?_
                    refine HList.nil ?_
                    refine nt ?_
                    refine HW.ret ?_
                    refine tr ?_
                    obtain ⟨x194, x195, x196, x197, c198, h⟩ := h
                    exact ⟨_, resOf2 rfl (Res1.n [(.int .i64 x194), (.int .i64 x195), (.string x196), (.bool x197)] Tryd.isAgg38 Tryd.sizeOf38 rfl c198) Res1.t, ⟨x194, x195, x196, x197, 110, rfl, h⟩⟩
                  · have h := hF hb190
                    clear hT hF
                    refine HW.skip ?_
                    refine nt ?_
                    exact ⟨y182, ⟨rfl, rfl, trivial⟩, h⟩
            · have h := hF hb84
              clear hT hF
              refine HW.skip ?_
              refine nt ?_
              exact ⟨((r46).n : Int), ⟨rfl, rfl, trivial⟩, h⟩
          · rintro ρ H_3 ⟨y199, hI, h⟩
            obtain ⟨ρ0, rfl⟩ : ∃ ρ0, ρ = (Env.set (Env.set ρ0 8 (.int .i64 y199)) 4 (.pointer (some ⟨H3.size, 0, none⟩))) := ⟨ρ, hI.eq⟩
            clear hI; unfold F57_3 at h
            refine HW.seq ?_
            refine HW.region ?_
            refine HList.vals (v := (.int .i64 y199)) rfl (HVal.move' rfl) ?_
            refine HList.vals (v := (.agg #[(.int .i64 1), (.int .i64 y199), (.string (ByteArray.mk #[])), (.bool false)])) rfl (HVal.build' (cs := [(.int .i64 1), (.int .i64 y199), (.string (ByteArray.mk #[])), (.bool false)]) Tryd.runUnderlying38 Tryd.zeroValue38 places38 rfl) ?_
            obtain ⟨z202, h⟩ := h
            refine HList.opsn (HOp.storeN' (l := [(.int .i64 1), (.int .i64 y199), (.string (ByteArray.mk #[])), (.bool false)]) Tryd.sizeOf38 rfl rfl rfl z202) ?_
            rintro _ H200 e201
            replace h := h H200 e201
            refine HList.vals (v := (.int .i64 0)) rfl (HVal.assign' rfl) ?_
            refine HList.nil ?_
            refine nt ?_
            refine HW.ret ?_
            obtain ⟨x203, x204, x205, x206, c207, h⟩ := h
            exact ⟨_, resOf2 rfl (Res1.n [(.int .i64 x203), (.int .i64 x204), (.string x205), (.bool x206)] Tryd.isAgg38 Tryd.sizeOf38 rfl c207) Res1.t, ⟨x203, x204, x205, x206, 0, rfl, h⟩⟩

def F38_2 (X : Sl → Sl → ByteArray → ByteArray → Int → Sl → Sl → Int → Int → Int → Int → ByteArray → Bool → ByteArray → Int → ByteArray → Sl → Hp → (Int → Int → ByteArray → Bool → Int → Hp → Prop) → Prop) (Q : Int → Int → ByteArray → Bool → Int → Hp → Prop) (y159 : Addr) (y160 : Addr) (y161 : Addr) (H_2 : Hp) : Prop :=
∃ x233 : Int, cell H_2 y159 = some (.int .i64 x233) ∧ (
 ((decide (x233 = 4)) = true → (∃ x236 : Int, cell H_2 (Addr.add y159 1) = some (.int .i64 x236) ∧ (
 (0 : Int) ≤ 0 ∧ (0 : Int) < ((2 : Nat) : Int) ∧ (
 ∃ (x240 : Int) (x241 : Int) (x242 : ByteArray) (x243 : Bool), cells H_2 (Addr.add y161 ((0 : Int).toNat * 4)) [(.int .i64 x240), (.int .i64 x241), (.string x242), (.bool x243)] 0 ∧ (
 F58 x236 x240 x241 x242 x243 H_2 (fun (r246 : Int) (r247 : Int) (r248 : ByteArray) (r249 : Bool) (r250 : Int) (H244 : Hp) => 
 mayw H244 y160 4 0 ∧ ∀ H251 : Hp, H251 = sets H244 y160 [(.int .i64 r246), (.int .i64 r247), (.string r248), (.bool r249)] 0 → (
 ∃ (x254 : Int) (x255 : Int) (x256 : ByteArray) (x257 : Bool), cells H251 y160 [(.int .i64 x254), (.int .i64 x255), (.string x256), (.bool x257)] 0 ∧ (
 Q x254 x255 x256 x257 r250 H251)))))))) ∧
 ((decide (x233 = 4)) = false → (∃ x260 : Int, cell H_2 (Addr.add y159 1) = some (.int .i64 x260) ∧ (
 (0 : Int) ≤ 0 ∧ (0 : Int) < ((2 : Nat) : Int) ∧ (
 ∃ (x264 : Int) (x265 : Int) (x266 : ByteArray) (x267 : Bool), cells H_2 (Addr.add y161 ((0 : Int).toNat * 4)) [(.int .i64 x264), (.int .i64 x265), (.string x266), (.bool x267)] 0 ∧ (
 (0 : Int) ≤ 1 ∧ (1 : Int) < ((2 : Nat) : Int) ∧ (
 ∃ (x271 : Int) (x272 : Int) (x273 : ByteArray) (x274 : Bool), cells H_2 (Addr.add y161 ((1 : Int).toNat * 4)) [(.int .i64 x271), (.int .i64 x272), (.string x273), (.bool x274)] 0 ∧ (
 F59 x260 x264 x265 x266 x267 x271 x272 x273 x274 H_2 (fun (r277 : Int) (r278 : Int) (r279 : ByteArray) (r280 : Bool) (r281 : Int) (H275 : Hp) => 
 mayw H275 y160 4 0 ∧ ∀ H282 : Hp, H282 = sets H275 y160 [(.int .i64 r277), (.int .i64 r278), (.string r279), (.bool r280)] 0 → (
 ∃ (x285 : Int) (x286 : Int) (x287 : ByteArray) (x288 : Bool), cells H282 y160 [(.int .i64 x285), (.int .i64 x286), (.string x287), (.bool x288)] 0 ∧ (
 Q x285 x286 x287 x288 r281 H282)))))))))))
def F38_L3b (X : Sl → Sl → ByteArray → ByteArray → Int → Sl → Sl → Int → Int → Int → Int → ByteArray → Bool → ByteArray → Int → ByteArray → Sl → Hp → (Int → Int → ByteArray → Bool → Int → Hp → Prop) → Prop) (Q : Int → Int → ByteArray → Bool → Int → Hp → Prop) (X3 : Int → Hp → Prop) (y165 : Addr) (y166 : Addr) (y167 : Addr) (y168 : Addr) (y169 : Sl) (y170 : Int) (y164 : Int) (H_3 : Hp) : Prop :=
((decide (y164 < y170)) = true → (∃ a172 : Addr, (y169).b = some a172 ∧ (0 : Int) ≤ y164 ∧ y164 < ((y169).n : Int) ∧ (
 ∃ (x177 : Int) (x178 : Int) (x179 : Int) (x180 : Int) (x181 : ByteArray) (x182 : Bool) (x183 : ByteArray) (x184 : Int) (x185 : ByteArray) (x186 : Sl), cells H_3 (Addr.add a172 (y164.toNat * 10)) [(.int .i64 x177), (.int .i64 x178), (.int .i64 x179), (.int .i64 x180), (.string x181), (.bool x182), (.string x183), (.int .i64 x184), (.string x185), (Sl.v x186)] 0 ∧ (
 ∀ H187 : Hp, H187 = Array.push H_3 (.cells #[(.int .i64 0), (.int .i64 0), (.int .i64 0), (.int .i64 0), (.string (ByteArray.mk #[])), (.bool false), (.string (ByteArray.mk #[])), (.int .i64 0), (.string (ByteArray.mk #[])), (Sl.v Sl.nil)] 41) → (
 mayw H187 ⟨H_3.size, 0, none⟩ 10 0 ∧ ∀ H189 : Hp, H189 = sets H187 ⟨H_3.size, 0, none⟩ [(.int .i64 x177), (.int .i64 x178), (.int .i64 x179), (.int .i64 x180), (.string x181), (.bool x182), (.string x183), (.int .i64 x184), (.string x185), (Sl.v x186)] 0 → (
 ∃ (x193 : Sl) (x194 : Sl) (x195 : ByteArray) (x196 : ByteArray) (x197 : Int) (x198 : Sl) (x199 : Sl), cells H189 y165 [(Sl.v x193), (Sl.v x194), (.string x195), (.string x196), (.int .i64 x197), (Sl.v x198), (Sl.v x199)] 0 ∧ (
 ∃ (x201 : Int) (x202 : Int) (x203 : Int) (x204 : Int) (x205 : ByteArray) (x206 : Bool) (x207 : ByteArray) (x208 : Int) (x209 : ByteArray) (x210 : Sl), cells H189 ⟨H_3.size, 0, none⟩ [(.int .i64 x201), (.int .i64 x202), (.int .i64 x203), (.int .i64 x204), (.string x205), (.bool x206), (.string x207), (.int .i64 x208), (.string x209), (Sl.v x210)] 0 ∧ (
 X x193 x194 x195 x196 x197 x198 x199 x201 x202 x203 x204 x205 x206 x207 x208 x209 x210 H189 (fun (r213 : Int) (r214 : Int) (r215 : ByteArray) (r216 : Bool) (r217 : Int) (H211 : Hp) => 
 (0 : Int) ≤ y164 ∧ y164 < ((2 : Nat) : Int) ∧ (
 mayw H211 (Addr.add y168 (y164.toNat * 4)) 4 0 ∧ ∀ H220 : Hp, H220 = sets H211 (Addr.add y168 (y164.toNat * 4)) [(.int .i64 r213), (.int .i64 r214), (.string r215), (.bool r216)] 0 → (
 ((decide (r217 ≠ 0)) = true → (mayw H220 y167 4 0 ∧ ∀ H224 : Hp, H224 = sets H220 y167 [(.int .i64 0), (.int .i64 0), (.string (ByteArray.mk #[])), (.bool false)] 0 → (
 ∃ (x227 : Int) (x228 : Int) (x229 : ByteArray) (x230 : Bool), cells H224 y167 [(.int .i64 x227), (.int .i64 x228), (.string x229), (.bool x230)] 0 ∧ (
 Q x227 x228 x229 x230 r217 H224)))) ∧
 ((decide (r217 ≠ 0)) = false → (X3 (IntKind.i64.wrap (y164 + 1)) H220))))))))))))) ∧
 ((decide (y164 < y170)) = false → (F38_2 X Q y166 y167 y168 H_3))
def F38_L3 (X : Sl → Sl → ByteArray → ByteArray → Int → Sl → Sl → Int → Int → Int → Int → ByteArray → Bool → ByteArray → Int → ByteArray → Sl → Hp → (Int → Int → ByteArray → Bool → Int → Hp → Prop) → Prop) (Q : Int → Int → ByteArray → Bool → Int → Hp → Prop) (y165 : Addr) (y166 : Addr) (y167 : Addr) (y168 : Addr) (y169 : Sl) (y170 : Int) (y164 : Int) (H_3 : Hp) : Prop :=
  ∀ X3 : Int → Hp → Prop, (∀ (y164 : Int) (H_3 : Hp), F38_L3b X Q X3 y165 y166 y167 y168 y169 y170 y164 H_3 → X3 y164 H_3) → X3 y164 H_3
def F38_1 (X : Sl → Sl → ByteArray → ByteArray → Int → Sl → Sl → Int → Int → Int → Int → ByteArray → Bool → ByteArray → Int → ByteArray → Sl → Hp → (Int → Int → ByteArray → Bool → Int → Hp → Prop) → Prop) (Q : Int → Int → ByteArray → Bool → Int → Hp → Prop) (y138 : Addr) (y139 : Addr) (y140 : Addr) (y142 : Bool) (H_1 : Hp) : Prop :=
(y142 = true → (∃ x145 : Sl, cell H_1 (Addr.add y139 9) = some (Sl.v x145) ∧ (
 ∃ x147 : Int, cell H_1 y139 = some (.int .i64 x147) ∧ (
 ((decide (((x145).n : Int) ≠ (IntKind.i64.wrap ((IntKind.i64.wrap (x147 - 4)) + 1)))) = true → (mayw H_1 y140 4 0 ∧ ∀ H149 : Hp, H149 = sets H_1 y140 [(.int .i64 0), (.int .i64 0), (.string (ByteArray.mk #[])), (.bool false)] 0 → (
 ∃ (x152 : Int) (x153 : Int) (x154 : ByteArray) (x155 : Bool), cells H149 y140 [(.int .i64 x152), (.int .i64 x153), (.string x154), (.bool x155)] 0 ∧ (
 Q x152 x153 x154 x155 60 H149)))) ∧
 ((decide (((x145).n : Int) ≠ (IntKind.i64.wrap ((IntKind.i64.wrap (x147 - 4)) + 1)))) = false → (∀ H157 : Hp, H157 = Array.push H_1 (.cells #[(.int .i64 0), (.int .i64 0), (.string (ByteArray.mk #[])), (.bool false), (.int .i64 0), (.int .i64 0), (.string (ByteArray.mk #[])), (.bool false)] 109) → (
 ∃ x163 : Sl, cell H157 (Addr.add y139 9) = some (Sl.v x163) ∧ (
 F38_L3 X Q y138 y139 y140 ⟨H_1.size, 0, none⟩ x163 ((x163).n : Int) 0 H157)))))))) ∧
 (y142 = false → (mayw H_1 y140 4 0 ∧ ∀ H290 : Hp, H290 = sets H_1 y140 [(.int .i64 0), (.int .i64 0), (.string (ByteArray.mk #[])), (.bool false)] 0 → (
 ∃ (x293 : Int) (x294 : Int) (x295 : ByteArray) (x296 : Bool), cells H290 y140 [(.int .i64 x293), (.int .i64 x294), (.string x295), (.bool x296)] 0 ∧ (
 Q x293 x294 x295 x296 60 H290))))
def F38b (X : Sl → Sl → ByteArray → ByteArray → Int → Sl → Sl → Int → Int → Int → Int → ByteArray → Bool → ByteArray → Int → ByteArray → Sl → Hp → (Int → Int → ByteArray → Bool → Int → Hp → Prop) → Prop) (p0_0 : Sl) (p0_1 : Sl) (p0_2 : ByteArray) (p0_3 : ByteArray) (p0_4 : Int) (p0_5 : Sl) (p0_6 : Sl) (p1_0 : Int) (p1_1 : Int) (p1_2 : Int) (p1_3 : Int) (p1_4 : ByteArray) (p1_5 : Bool) (p1_6 : ByteArray) (p1_7 : Int) (p1_8 : ByteArray) (p1_9 : Sl) (H : Hp) (Q : Int → Int → ByteArray → Bool → Int → Hp → Prop) : Prop :=
∀ H1 : Hp, H1 = Array.push H (.cells #[(Sl.v p0_0), (Sl.v p0_1), (.string p0_2), (.string p0_3), (.int .i64 p0_4), (Sl.v p0_5), (Sl.v p0_6)] 90) → (
 ∀ H3 : Hp, H3 = Array.push H1 (.cells #[(.int .i64 p1_0), (.int .i64 p1_1), (.int .i64 p1_2), (.int .i64 p1_3), (.string p1_4), (.bool p1_5), (.string p1_6), (.int .i64 p1_7), (.string p1_8), (Sl.v p1_9)] 41) → (
 ∀ H5 : Hp, H5 = Array.push H3 (.cells #[(.int .i64 0), (.int .i64 0), (.string (ByteArray.mk #[])), (.bool false)] 38) → (
 ∃ x8 : Int, cell H5 ⟨H1.size, 0, none⟩ = some (.int .i64 x8) ∧ (
 ((decide (x8 = 1)) = true → (∃ (x11 : Int) (x12 : Int) (x13 : ByteArray) (x14 : Bool), cells H5 (Addr.add ⟨H1.size, 0, none⟩ 2) [(.int .i64 x11), (.int .i64 x12), (.string x13), (.bool x14)] 0 ∧ (
 F46 x11 x12 x13 x14 H5 (fun (r17 : Bool) (H15 : Hp) => 
 ((!r17) = true → (mayw H15 ⟨H3.size, 0, none⟩ 4 0 ∧ ∀ H19 : Hp, H19 = sets H15 ⟨H3.size, 0, none⟩ [(.int .i64 0), (.int .i64 0), (.string (ByteArray.mk #[])), (.bool false)] 0 → (
 ∃ (x22 : Int) (x23 : Int) (x24 : ByteArray) (x25 : Bool), cells H19 ⟨H3.size, 0, none⟩ [(.int .i64 x22), (.int .i64 x23), (.string x24), (.bool x25)] 0 ∧ (
 Q x22 x23 x24 x25 12 H19)))) ∧
 ((!r17) = false → (∃ (x28 : Int) (x29 : Int) (x30 : ByteArray) (x31 : Bool), cells H15 (Addr.add ⟨H1.size, 0, none⟩ 2) [(.int .i64 x28), (.int .i64 x29), (.string x30), (.bool x31)] 0 ∧ (
 mayw H15 ⟨H3.size, 0, none⟩ 4 0 ∧ ∀ H32 : Hp, H32 = sets H15 ⟨H3.size, 0, none⟩ [(.int .i64 x28), (.int .i64 x29), (.string x30), (.bool x31)] 0 → (
 ∃ (x35 : Int) (x36 : Int) (x37 : ByteArray) (x38 : Bool), cells H32 ⟨H3.size, 0, none⟩ [(.int .i64 x35), (.int .i64 x36), (.string x37), (.bool x38)] 0 ∧ (
 Q x35 x36 x37 x38 0 H32))))))))) ∧
 ((decide (x8 = 1)) = false → (((decide (x8 = 2)) = true → (∃ (x42 : Sl) (x43 : Sl) (x44 : ByteArray) (x45 : ByteArray) (x46 : Int) (x47 : Sl) (x48 : Sl), cells H5 ⟨H.size, 0, none⟩ [(Sl.v x42), (Sl.v x43), (.string x44), (.string x45), (.int .i64 x46), (Sl.v x47), (Sl.v x48)] 0 ∧ (
 ∃ (x50 : Int) (x51 : Int) (x52 : Int) (x53 : Int) (x54 : ByteArray) (x55 : Bool) (x56 : ByteArray) (x57 : Int) (x58 : ByteArray) (x59 : Sl), cells H5 ⟨H1.size, 0, none⟩ [(.int .i64 x50), (.int .i64 x51), (.int .i64 x52), (.int .i64 x53), (.string x54), (.bool x55), (.string x56), (.int .i64 x57), (.string x58), (Sl.v x59)] 0 ∧ (
 F56 x42 x43 x44 x45 x46 x47 x48 x50 x51 x52 x53 x54 x55 x56 x57 x58 x59 H5 (fun (r62 : ByteArray) (r63 : Int) (r64 : Sl) (r65 : Int) (H60 : Hp) => 
 ∀ H66 : Hp, H66 = Array.push H60 (.cells #[(.string (ByteArray.mk #[])), (.int .i64 0), (Sl.v Sl.nil)] 36) → (
 mayw H66 ⟨H60.size, 0, none⟩ 3 0 ∧ ∀ H68 : Hp, H68 = sets H66 ⟨H60.size, 0, none⟩ [(.string r62), (.int .i64 r63), (Sl.v r64)] 0 → (
 ((decide (r65 ≠ 0)) = true → (mayw H68 ⟨H3.size, 0, none⟩ 4 0 ∧ ∀ H72 : Hp, H72 = sets H68 ⟨H3.size, 0, none⟩ [(.int .i64 0), (.int .i64 0), (.string (ByteArray.mk #[])), (.bool false)] 0 → (
 ∃ (x75 : Int) (x76 : Int) (x77 : ByteArray) (x78 : Bool), cells H72 ⟨H3.size, 0, none⟩ [(.int .i64 x75), (.int .i64 x76), (.string x77), (.bool x78)] 0 ∧ (
 Q x75 x76 x77 x78 r65 H72)))) ∧
 ((decide (r65 ≠ 0)) = false → (∃ (x81 : ByteArray) (x82 : Int) (x83 : Sl), cells H68 ⟨H60.size, 0, none⟩ [(.string x81), (.int .i64 x82), (Sl.v x83)] 0 ∧ (
 ∃ x85 : ByteArray, cell H68 (Addr.add ⟨H1.size, 0, none⟩ 8) = some (.string x85) ∧ (
 ∃ x87 : Sl, cell H68 (Addr.add ⟨H.size, 0, none⟩ 6) = some (Sl.v x87) ∧ (
 F28 x81 x82 x83 x85 x87 H68 (fun (r90 : Int) (r91 : Int) (r92 : ByteArray) (r93 : Bool) (r94 : Int) (H88 : Hp) => 
 mayw H88 ⟨H3.size, 0, none⟩ 4 0 ∧ ∀ H95 : Hp, H95 = sets H88 ⟨H3.size, 0, none⟩ [(.int .i64 r90), (.int .i64 r91), (.string r92), (.bool r93)] 0 → (
 ∃ (x98 : Int) (x99 : Int) (x100 : ByteArray) (x101 : Bool), cells H95 ⟨H3.size, 0, none⟩ [(.int .i64 x98), (.int .i64 x99), (.string x100), (.bool x101)] 0 ∧ (
 Q x98 x99 x100 x101 r94 H95))))))))))))))) ∧
 ((decide (x8 = 2)) = false → (((decide (x8 = 3)) = true → (∃ (x105 : Sl) (x106 : Sl) (x107 : ByteArray) (x108 : ByteArray) (x109 : Int) (x110 : Sl) (x111 : Sl), cells H5 ⟨H.size, 0, none⟩ [(Sl.v x105), (Sl.v x106), (.string x107), (.string x108), (.int .i64 x109), (Sl.v x110), (Sl.v x111)] 0 ∧ (
 ∃ (x113 : Int) (x114 : Int) (x115 : Int) (x116 : Int) (x117 : ByteArray) (x118 : Bool) (x119 : ByteArray) (x120 : Int) (x121 : ByteArray) (x122 : Sl), cells H5 ⟨H1.size, 0, none⟩ [(.int .i64 x113), (.int .i64 x114), (.int .i64 x115), (.int .i64 x116), (.string x117), (.bool x118), (.string x119), (.int .i64 x120), (.string x121), (Sl.v x122)] 0 ∧ (
 F57 x105 x106 x107 x108 x109 x110 x111 x113 x114 x115 x116 x117 x118 x119 x120 x121 x122 H5 (fun (r125 : Int) (r126 : Int) (r127 : ByteArray) (r128 : Bool) (r129 : Int) (H123 : Hp) => 
 mayw H123 ⟨H3.size, 0, none⟩ 4 0 ∧ ∀ H130 : Hp, H130 = sets H123 ⟨H3.size, 0, none⟩ [(.int .i64 r125), (.int .i64 r126), (.string r127), (.bool r128)] 0 → (
 ∃ (x133 : Int) (x134 : Int) (x135 : ByteArray) (x136 : Bool), cells H130 ⟨H3.size, 0, none⟩ [(.int .i64 x133), (.int .i64 x134), (.string x135), (.bool x136)] 0 ∧ (
 Q x133 x134 x135 x136 r129 H130))))))) ∧
 ((decide (x8 = 3)) = false → (((decide (x8 = 4)) = true → (F38_1 X Q ⟨H.size, 0, none⟩ ⟨H1.size, 0, none⟩ ⟨H3.size, 0, none⟩ (decide (x8 = 4)) H5)) ∧
 ((decide (x8 = 4)) = false → (F38_1 X Q ⟨H.size, 0, none⟩ ⟨H1.size, 0, none⟩ ⟨H3.size, 0, none⟩ (decide (x8 = 5)) H5))))))))))))
def F38 (p0_0 : Sl) (p0_1 : Sl) (p0_2 : ByteArray) (p0_3 : ByteArray) (p0_4 : Int) (p0_5 : Sl) (p0_6 : Sl) (p1_0 : Int) (p1_1 : Int) (p1_2 : Int) (p1_3 : Int) (p1_4 : ByteArray) (p1_5 : Bool) (p1_6 : ByteArray) (p1_7 : Int) (p1_8 : ByteArray) (p1_9 : Sl) (H : Hp) (Q : Int → Int → ByteArray → Bool → Int → Hp → Prop) : Prop :=
  ∀ X : Sl → Sl → ByteArray → ByteArray → Int → Sl → Sl → Int → Int → Int → Int → ByteArray → Bool → ByteArray → Int → ByteArray → Sl → Hp → (Int → Int → ByteArray → Bool → Int → Hp → Prop) → Prop, (∀ (p0_0 : Sl) (p0_1 : Sl) (p0_2 : ByteArray) (p0_3 : ByteArray) (p0_4 : Int) (p0_5 : Sl) (p0_6 : Sl) (p1_0 : Int) (p1_1 : Int) (p1_2 : Int) (p1_3 : Int) (p1_4 : ByteArray) (p1_5 : Bool) (p1_6 : ByteArray) (p1_7 : Int) (p1_8 : ByteArray) (p1_9 : Sl) (H : Hp) (Q : Int → Int → ByteArray → Bool → Int → Hp → Prop), F38b X p0_0 p0_1 p0_2 p0_3 p0_4 p0_5 p0_6 p1_0 p1_1 p1_2 p1_3 p1_4 p1_5 p1_6 p1_7 p1_8 p1_9 H Q → X p0_0 p0_1 p0_2 p0_3 p0_4 p0_5 p0_6 p1_0 p1_1 p1_2 p1_3 p1_4 p1_5 p1_6 p1_7 p1_8 p1_9 H Q) → X p0_0 p0_1 p0_2 p0_3 p0_4 p0_5 p0_6 p1_0 p1_1 p1_2 p1_3 p1_4 p1_5 p1_6 p1_7 p1_8 p1_9 H Q
set_option maxRecDepth 100000 in
set_option maxHeartbeats 4000000 in
theorem walk38 {w0 : World} {p0_0 : Sl} {p0_1 : Sl} {p0_2 : ByteArray} {p0_3 : ByteArray} {p0_4 : Int} {p0_5 : Sl} {p0_6 : Sl} {p1_0 : Int} {p1_1 : Int} {p1_2 : Int} {p1_3 : Int} {p1_4 : ByteArray} {p1_5 : Bool} {p1_6 : ByteArray} {p1_7 : Int} {p1_8 : ByteArray} {p1_9 : Sl} {H : Hp} {Q : Int → Int → ByteArray → Bool → Int → Hp → Prop} (h : F38 p0_0 p0_1 p0_2 p0_3 p0_4 p0_5 p0_6 p1_0 p1_1 p1_2 p1_3 p1_4 p1_5 p1_6 p1_7 p1_8 p1_9 H Q) :
    Good Tryd.prog w0 38 #[(.agg #[(Sl.v p0_0), (Sl.v p0_1), (.string p0_2), (.string p0_3), (.int .i64 p0_4), (Sl.v p0_5), (Sl.v p0_6)]), (.agg #[(.int .i64 p1_0), (.int .i64 p1_1), (.int .i64 p1_2), (.int .i64 p1_3), (.string p1_4), (.bool p1_5), (.string p1_6), (.int .i64 p1_7), (.string p1_8), (Sl.v p1_9)])] H (fun v H => ∃ (r0 : Int) (r1 : Int) (r2 : ByteArray) (r3 : Bool) (r4 : Int) , v = (.tuple #[(.agg #[(.int .i64 r0), (.int .i64 r1), (.string r2), (.bool r3)]), (.int .i64 r4)]) ∧ Q r0 r1 r2 r3 r4 H) := by
  obtain ⟨X, hX⟩ : ∃ X : Sl → Sl → ByteArray → ByteArray → Int → Sl → Sl → Int → Int → Int → Int → ByteArray → Bool → ByteArray → Int → ByteArray → Sl → Hp → (Int → Int → ByteArray → Bool → Int → Hp → Prop) → Prop, ∀ (p0_0 : Sl) (p0_1 : Sl) (p0_2 : ByteArray) (p0_3 : ByteArray) (p0_4 : Int) (p0_5 : Sl) (p0_6 : Sl) (p1_0 : Int) (p1_1 : Int) (p1_2 : Int) (p1_3 : Int) (p1_4 : ByteArray) (p1_5 : Bool) (p1_6 : ByteArray) (p1_7 : Int) (p1_8 : ByteArray) (p1_9 : Sl) (H : Hp) (Q : Int → Int → ByteArray → Bool → Int → Hp → Prop), X p0_0 p0_1 p0_2 p0_3 p0_4 p0_5 p0_6 p1_0 p1_1 p1_2 p1_3 p1_4 p1_5 p1_6 p1_7 p1_8 p1_9 H Q ↔ Good Tryd.prog w0 38 #[(.agg #[(Sl.v p0_0), (Sl.v p0_1), (.string p0_2), (.string p0_3), (.int .i64 p0_4), (Sl.v p0_5), (Sl.v p0_6)]), (.agg #[(.int .i64 p1_0), (.int .i64 p1_1), (.int .i64 p1_2), (.int .i64 p1_3), (.string p1_4), (.bool p1_5), (.string p1_6), (.int .i64 p1_7), (.string p1_8), (Sl.v p1_9)])] H (fun v H => ∃ (r0 : Int) (r1 : Int) (r2 : ByteArray) (r3 : Bool) (r4 : Int) , v = (.tuple #[(.agg #[(.int .i64 r0), (.int .i64 r1), (.string r2), (.bool r3)]), (.int .i64 r4)]) ∧ Q r0 r1 r2 r3 r4 H) := ⟨_, fun _ _ _ _ _ _ _ _ _ _ _ _ _ _ _ _ _ _ _ => Iff.rfl⟩
  refine (hX _ _ _ _ _ _ _ _ _ _ _ _ _ _ _ _ _ _ _).1 (h X ?_)
  clear h
  intro p0_0 p0_1 p0_2 p0_3 p0_4 p0_5 p0_6 p1_0 p1_1 p1_2 p1_3 p1_4 p1_5 p1_6 p1_7 p1_8 p1_9 H Q h
  refine (hX _ _ _ _ _ _ _ _ _ _ _ _ _ _ _ _ _ _ _).2 ?_
  unfold F38b at h
  refine Good.enter' (fn := Tryd.f38) Tryd.func38 rfl rfl rfl ?_
  refine HW.seq ?_
  refine HW.region ?_
  refine HList.ops' rfl (HOp.box (v := (.agg #[(Sl.v p0_0), (Sl.v p0_1), (.string p0_2), (.string p0_3), (.int .i64 p0_4), (Sl.v p0_5), (Sl.v p0_6)])) rfl) ?_
  rintro _ H1 ⟨rfl, e2⟩
  replace h := h H1 e2
  refine HList.ops' rfl (HOp.box (v := (.agg #[(.int .i64 p1_0), (.int .i64 p1_1), (.int .i64 p1_2), (.int .i64 p1_3), (.string p1_4), (.bool p1_5), (.string p1_6), (.int .i64 p1_7), (.string p1_8), (Sl.v p1_9)])) rfl) ?_
  rintro _ H3 ⟨rfl, e4⟩
  replace h := h H3 e4
  refine HList.ops' rfl (HOp.alloc Tryd.zeroValue38) ?_
  rintro _ H5 ⟨rfl, e6⟩
  replace h := h H5 e6
  refine HList.vals (v := (.int .i64 0)) rfl (HVal.assign' rfl) ?_
  refine HList.nil ?_
  refine nt ?_
  refine HW.seq ?_
  refine HW.seq ?_
  refine HW.region ?_
  refine HList.vals (v := (.pointer (some ⟨H1.size, 0, none⟩))) rfl (HVal.fieldAddr0 Tryd.runUnderlying41 rfl rfl Tryd.sizeOf3 rfl) ?_
  obtain ⟨x8, c7, h⟩ := h
  refine HList.vals (v := (.int .i64 x8)) rfl (HVal.load1 Tryd.isAgg3 rfl c7) ?_
  refine HList.nil ?_
  refine nt ?_
  refine HW.block ?_
  refine HW.seq ?_
  refine HW.region ?_
  refine HList.vals (v := (.bool (decide (x8 = 1)))) rfl (HVal.eqlI rfl rfl) ?_
  refine HList.vals (v := (.bool (decide (x8 = 1)))) rfl (HVal.assign' rfl) ?_
  refine HList.nil ?_
  refine nt ?_
  obtain ⟨hT, hF⟩ := h
  refine HW.cond (decide (x8 = 1)) rfl (fun hb9 => ?_) (fun hb9 => ?_)
  · have h := hT hb9
    clear hT hF
    refine HW.seq ?_
    refine HW.seq ?_
    refine HW.region ?_
    refine HList.vals (v := (.pointer (some (Addr.add ⟨H1.size, 0, none⟩ 2)))) rfl (HVal.fieldAddr' Tryd.runUnderlying41 rfl rfl Tryd.sizeOf38 rfl) ?_
    obtain ⟨x11, x12, x13, x14, c10, h⟩ := h
    refine HList.vals (v := (.agg #[(.int .i64 x11), (.int .i64 x12), (.string x13), (.bool x14)])) rfl (HVal.loadN [(.int .i64 x11), (.int .i64 x12), (.string x13), (.bool x14)] Tryd.isAgg38 Tryd.sizeOf38 rfl c10) ?_
    refine HList.ops' rfl (HOp.call' 46 [(.agg #[(.int .i64 x11), (.int .i64 x12), (.string x13), (.bool x14)])] (cap := []) rfl rfl Tryd.call46 (walk46 h)) ?_
    rintro _ H15 ⟨r17, rfl, h⟩
    refine HList.vals (v := (.bool (!r17))) rfl (HVal.not rfl) ?_
    refine HList.nil ?_
    refine nt ?_
    obtain ⟨hT, hF⟩ := h
    refine HW.cond (!r17) rfl (fun hb18 => ?_) (fun hb18 => ?_)
    · have h := hT hb18
      clear hT hF
      refine HW.seq ?_
      refine HW.region ?_
      refine HList.vals (v := (.agg #[(.int .i64 0), (.int .i64 0), (.string (ByteArray.mk #[])), (.bool false)])) rfl (HVal.build' (cs := [(.int .i64 0), (.int .i64 0), (.string (ByteArray.mk #[])), (.bool false)]) Tryd.runUnderlying38 Tryd.zeroValue38 places38 rfl) ?_
      obtain ⟨z21, h⟩ := h
      refine HList.opsn (HOp.storeN' (l := [(.int .i64 0), (.int .i64 0), (.string (ByteArray.mk #[])), (.bool false)]) Tryd.sizeOf38 rfl rfl rfl z21) ?_
      rintro _ H19 e20
      replace h := h H19 e20
      refine HList.vals (v := (.int .i64 12)) rfl (HVal.assign' rfl) ?_
      refine HList.nil ?_
      refine nt ?_
      refine HW.ret ?_
      refine tr ?_
      refine br ?_
      refine tr ?_
      obtain ⟨x22, x23, x24, x25, c26, h⟩ := h
      exact ⟨_, resOf2 rfl (Res1.n [(.int .i64 x22), (.int .i64 x23), (.string x24), (.bool x25)] Tryd.isAgg38 Tryd.sizeOf38 rfl c26) Res1.t, ⟨x22, x23, x24, x25, 12, rfl, h⟩⟩
    · have h := hF hb18
      clear hT hF
      refine HW.skip ?_
      refine nt ?_
      refine HW.seq ?_
      refine HW.region ?_
      refine HList.vals (v := (.pointer (some (Addr.add ⟨H1.size, 0, none⟩ 2)))) rfl (HVal.fieldAddr' Tryd.runUnderlying41 rfl rfl Tryd.sizeOf38 rfl) ?_
      obtain ⟨x28, x29, x30, x31, c27, h⟩ := h
      refine HList.vals (v := (.agg #[(.int .i64 x28), (.int .i64 x29), (.string x30), (.bool x31)])) rfl (HVal.loadN [(.int .i64 x28), (.int .i64 x29), (.string x30), (.bool x31)] Tryd.isAgg38 Tryd.sizeOf38 rfl c27) ?_
      obtain ⟨z34, h⟩ := h
      refine HList.opsn (HOp.storeN' (l := [(.int .i64 x28), (.int .i64 x29), (.string x30), (.bool x31)]) Tryd.sizeOf38 rfl rfl rfl z34) ?_
      rintro _ H32 e33
      replace h := h H32 e33
      refine HList.vals (v := (.int .i64 0)) rfl (HVal.assign' rfl) ?_
      refine HList.nil ?_
      refine nt ?_
      refine HW.ret ?_
      refine br ?_
      refine tr ?_
      obtain ⟨x35, x36, x37, x38, c39, h⟩ := h
      exact ⟨_, resOf2 rfl (Res1.n [(.int .i64 x35), (.int .i64 x36), (.string x37), (.bool x38)] Tryd.isAgg38 Tryd.sizeOf38 rfl c39) Res1.t, ⟨x35, x36, x37, x38, 0, rfl, h⟩⟩
  · have h := hF hb9
    clear hT hF
    refine HW.seq ?_
    refine HW.region ?_
    refine HList.vals (v := (.bool (decide (x8 = 2)))) rfl (HVal.eqlI rfl rfl) ?_
    refine HList.vals (v := (.bool (decide (x8 = 2)))) rfl (HVal.assign' rfl) ?_
    refine HList.nil ?_
    refine nt ?_
    obtain ⟨hT, hF⟩ := h
    refine HW.cond (decide (x8 = 2)) rfl (fun hb40 => ?_) (fun hb40 => ?_)
    · have h := hT hb40
      clear hT hF
      refine HW.seq ?_
      refine HW.region ?_
      obtain ⟨x42, x43, x44, x45, x46, x47, x48, c41, h⟩ := h
      refine HList.vals (v := (.agg #[(Sl.v x42), (Sl.v x43), (.string x44), (.string x45), (.int .i64 x46), (Sl.v x47), (Sl.v x48)])) rfl (HVal.loadN [(Sl.v x42), (Sl.v x43), (.string x44), (.string x45), (.int .i64 x46), (Sl.v x47), (Sl.v x48)] Tryd.isAgg90 Tryd.sizeOf90 rfl c41) ?_
      obtain ⟨x50, x51, x52, x53, x54, x55, x56, x57, x58, x59, c49, h⟩ := h
      refine HList.vals (v := (.agg #[(.int .i64 x50), (.int .i64 x51), (.int .i64 x52), (.int .i64 x53), (.string x54), (.bool x55), (.string x56), (.int .i64 x57), (.string x58), (Sl.v x59)])) rfl (HVal.loadN [(.int .i64 x50), (.int .i64 x51), (.int .i64 x52), (.int .i64 x53), (.string x54), (.bool x55), (.string x56), (.int .i64 x57), (.string x58), (Sl.v x59)] Tryd.isAgg41 Tryd.sizeOf41 rfl c49) ?_
      refine HList.ops' rfl (HOp.call' 56 [(.agg #[(Sl.v x42), (Sl.v x43), (.string x44), (.string x45), (.int .i64 x46), (Sl.v x47), (Sl.v x48)]), (.agg #[(.int .i64 x50), (.int .i64 x51), (.int .i64 x52), (.int .i64 x53), (.string x54), (.bool x55), (.string x56), (.int .i64 x57), (.string x58), (Sl.v x59)])] (cap := []) rfl rfl Tryd.call56 (walk56 h)) ?_
      rintro _ H60 ⟨r62, r63, r64, r65, rfl, h⟩
      refine HList.vals (v := (.tuple #[(.agg #[(.string r62), (.int .i64 r63), (Sl.v r64)]), (.int .i64 r65)])) rfl (HVal.move' rfl) ?_
      refine HList.vals (v := (.agg #[(.string r62), (.int .i64 r63), (Sl.v r64)])) rfl (HVal.extract rfl rfl) ?_
      refine HList.vals (v := (.int .i64 r65)) rfl (HVal.extract rfl rfl) ?_
      refine HList.ops' rfl (HOp.alloc Tryd.zeroValue36) ?_
      rintro _ H66 ⟨rfl, e67⟩
      replace h := h H66 e67
      obtain ⟨z70, h⟩ := h
      refine HList.opsn (HOp.storeN' (l := [(.string r62), (.int .i64 r63), (Sl.v r64)]) Tryd.sizeOf36 rfl rfl rfl z70) ?_
      rintro _ H68 e69
      replace h := h H68 e69
      refine HList.vals (v := (.int .i64 r65)) rfl (HVal.assign' rfl) ?_
      refine HList.nil ?_
      refine nt ?_
      refine HW.seq ?_
      refine HW.seq ?_
      refine HW.region ?_
      refine HList.vals (v := (.int .i64 r65)) rfl (HVal.move' rfl) ?_
      refine HList.vals (v := (.bool (decide (r65 ≠ 0)))) rfl (HVal.neqI rfl rfl) ?_
      refine HList.nil ?_
      refine nt ?_
      obtain ⟨hT, hF⟩ := h
      refine HW.cond (decide (r65 ≠ 0)) rfl (fun hb71 => ?_) (fun hb71 => ?_)
      · have h := hT hb71
        clear hT hF
        refine HW.seq ?_
        refine HW.region ?_
        refine HList.vals (v := (.agg #[(.int .i64 0), (.int .i64 0), (.string (ByteArray.mk #[])), (.bool false)])) rfl (HVal.build' (cs := [(.int .i64 0), (.int .i64 0), (.string (ByteArray.mk #[])), (.bool false)]) Tryd.runUnderlying38 Tryd.zeroValue38 places38 rfl) ?_
        refine HList.vals (v := (.int .i64 r65)) rfl (HVal.move' rfl) ?_
        obtain ⟨z74, h⟩ := h
        refine HList.opsn (HOp.storeN' (l := [(.int .i64 0), (.int .i64 0), (.string (ByteArray.mk #[])), (.bool false)]) Tryd.sizeOf38 rfl rfl rfl z74) ?_
        rintro _ H72 e73
        replace h := h H72 e73
        refine HList.vals (v := (.int .i64 r65)) rfl (HVal.assign' rfl) ?_
        refine HList.nil ?_
        refine nt ?_
        refine HW.ret ?_
        refine tr ?_
        refine br ?_
        refine tr ?_
        obtain ⟨x75, x76, x77, x78, c79, h⟩ := h
        exact ⟨_, resOf2 rfl (Res1.n [(.int .i64 x75), (.int .i64 x76), (.string x77), (.bool x78)] Tryd.isAgg38 Tryd.sizeOf38 rfl c79) Res1.t, ⟨x75, x76, x77, x78, r65, rfl, h⟩⟩
      · have h := hF hb71
        clear hT hF
        refine HW.skip ?_
        refine nt ?_
        refine HW.seq ?_
        refine HW.region ?_
        obtain ⟨x81, x82, x83, c80, h⟩ := h
        refine HList.vals (v := (.agg #[(.string x81), (.int .i64 x82), (Sl.v x83)])) rfl (HVal.loadN [(.string x81), (.int .i64 x82), (Sl.v x83)] Tryd.isAgg36 Tryd.sizeOf36 rfl c80) ?_
        refine HList.vals (v := (.pointer (some (Addr.add ⟨H1.size, 0, none⟩ 8)))) rfl (HVal.fieldAddr' Tryd.runUnderlying41 rfl rfl Tryd.sizeOf9 rfl) ?_
        obtain ⟨x85, c84, h⟩ := h
        refine HList.vals (v := (.string x85)) rfl (HVal.load1 Tryd.isAgg9 rfl c84) ?_
        refine HList.vals (v := (.pointer (some ⟨H.size, 0, none⟩))) rfl (HVal.fieldAddr0 Tryd.runUnderlying90 rfl rfl Tryd.sizeOf43 rfl) ?_
        refine HList.vals (v := (.pointer (some (Addr.add ⟨H.size, 0, none⟩ 6)))) rfl (HVal.fieldAddr' Tryd.runUnderlying43 rfl rfl Tryd.sizeOf30 rfl) ?_
        obtain ⟨x87, c86, h⟩ := h
        refine HList.vals (v := (Sl.v x87)) rfl (HVal.load1 Tryd.isAgg30 rfl c86) ?_
        refine HList.ops' rfl (HOp.call' 28 [(.agg #[(.string x81), (.int .i64 x82), (Sl.v x83)]), (.string x85), (Sl.v x87)] (cap := []) rfl rfl Tryd.call28 (walk28 h)) ?_
        rintro _ H88 ⟨r90, r91, r92, r93, r94, rfl, h⟩
        refine HList.vals (v := (.agg #[(.int .i64 r90), (.int .i64 r91), (.string r92), (.bool r93)])) rfl (HVal.extract rfl rfl) ?_
        refine HList.vals (v := (.int .i64 r94)) rfl (HVal.extract rfl rfl) ?_
        obtain ⟨z97, h⟩ := h
        refine HList.opsn (HOp.storeN' (l := [(.int .i64 r90), (.int .i64 r91), (.string r92), (.bool r93)]) Tryd.sizeOf38 rfl rfl rfl z97) ?_
        rintro _ H95 e96
        replace h := h H95 e96
        refine HList.vals (v := (.int .i64 r94)) rfl (HVal.assign' rfl) ?_
        refine HList.nil ?_
        refine nt ?_
        refine HW.ret ?_
        refine br ?_
        refine tr ?_
        obtain ⟨x98, x99, x100, x101, c102, h⟩ := h
        exact ⟨_, resOf2 rfl (Res1.n [(.int .i64 x98), (.int .i64 x99), (.string x100), (.bool x101)] Tryd.isAgg38 Tryd.sizeOf38 rfl c102) Res1.t, ⟨x98, x99, x100, x101, r94, rfl, h⟩⟩
    · have h := hF hb40
      clear hT hF
      refine HW.seq ?_
      refine HW.region ?_
      refine HList.vals (v := (.bool (decide (x8 = 3)))) rfl (HVal.eqlI rfl rfl) ?_
      refine HList.vals (v := (.bool (decide (x8 = 3)))) rfl (HVal.assign' rfl) ?_
      refine HList.nil ?_
      refine nt ?_
      obtain ⟨hT, hF⟩ := h
      refine HW.cond (decide (x8 = 3)) rfl (fun hb103 => ?_) (fun hb103 => ?_)
      · have h := hT hb103
        clear hT hF
        refine HW.seq ?_
        refine HW.region ?_
        obtain ⟨x105, x106, x107, x108, x109, x110, x111, c104, h⟩ := h
        refine HList.vals (v := (.agg #[(Sl.v x105), (Sl.v x106), (.string x107), (.string x108), (.int .i64 x109), (Sl.v x110), (Sl.v x111)])) rfl (HVal.loadN [(Sl.v x105), (Sl.v x106), (.string x107), (.string x108), (.int .i64 x109), (Sl.v x110), (Sl.v x111)] Tryd.isAgg90 Tryd.sizeOf90 rfl c104) ?_
        obtain ⟨x113, x114, x115, x116, x117, x118, x119, x120, x121, x122, c112, h⟩ := h
        refine HList.vals (v := (.agg #[(.int .i64 x113), (.int .i64 x114), (.int .i64 x115), (.int .i64 x116), (.string x117), (.bool x118), (.string x119), (.int .i64 x120), (.string x121), (Sl.v x122)])) rfl (HVal.loadN [(.int .i64 x113), (.int .i64 x114), (.int .i64 x115), (.int .i64 x116), (.string x117), (.bool x118), (.string x119), (.int .i64 x120), (.string x121), (Sl.v x122)] Tryd.isAgg41 Tryd.sizeOf41 rfl c112) ?_
        refine HList.ops' rfl (HOp.call' 57 [(.agg #[(Sl.v x105), (Sl.v x106), (.string x107), (.string x108), (.int .i64 x109), (Sl.v x110), (Sl.v x111)]), (.agg #[(.int .i64 x113), (.int .i64 x114), (.int .i64 x115), (.int .i64 x116), (.string x117), (.bool x118), (.string x119), (.int .i64 x120), (.string x121), (Sl.v x122)])] (cap := []) rfl rfl Tryd.call57 (walk57 h)) ?_
        rintro _ H123 ⟨r125, r126, r127, r128, r129, rfl, h⟩
        refine HList.vals (v := (.agg #[(.int .i64 r125), (.int .i64 r126), (.string r127), (.bool r128)])) rfl (HVal.extract rfl rfl) ?_
        refine HList.vals (v := (.int .i64 r129)) rfl (HVal.extract rfl rfl) ?_
        obtain ⟨z132, h⟩ := h
        refine HList.opsn (HOp.storeN' (l := [(.int .i64 r125), (.int .i64 r126), (.string r127), (.bool r128)]) Tryd.sizeOf38 rfl rfl rfl z132) ?_
        rintro _ H130 e131
        replace h := h H130 e131
        refine HList.vals (v := (.int .i64 r129)) rfl (HVal.assign' rfl) ?_
        refine HList.nil ?_
        refine nt ?_
        refine HW.ret ?_
        refine br ?_
        refine tr ?_
        obtain ⟨x133, x134, x135, x136, c137, h⟩ := h
        exact ⟨_, resOf2 rfl (Res1.n [(.int .i64 x133), (.int .i64 x134), (.string x135), (.bool x136)] Tryd.isAgg38 Tryd.sizeOf38 rfl c137) Res1.t, ⟨x133, x134, x135, x136, r129, rfl, h⟩⟩
      · have h := hF hb103
        clear hT hF
        refine HW.cut (fun ρ H_1 => ∃ (y142 : Bool), Env.Is ρ [(2, (.pointer (some ⟨H.size, 0, none⟩))), (3, (.pointer (some ⟨H1.size, 0, none⟩))), (4, (.pointer (some ⟨H3.size, 0, none⟩))), (51, (.bool y142))] ∧ F38_1 X Q ⟨H.size, 0, none⟩ ⟨H1.size, 0, none⟩ ⟨H3.size, 0, none⟩ y142 H_1) ?_ ?_
        · refine HW.seq ?_
          refine HW.region ?_
          refine HList.vals (v := (.bool (decide (x8 = 4)))) rfl (HVal.eqlI rfl rfl) ?_
          refine HList.vals (v := (.bool (decide (x8 = 4)))) rfl (HVal.assign' rfl) ?_
          refine HList.nil ?_
          refine nt ?_
          obtain ⟨hT, hF⟩ := h
          refine HW.cond (decide (x8 = 4)) rfl (fun hb141 => ?_) (fun hb141 => ?_)
          · have h := hT hb141
            clear hT hF
            refine HW.skip ?_
            refine nt ?_
            exact ⟨(decide (x8 = 4)), ⟨rfl, rfl, rfl, rfl, trivial⟩, h⟩
          · have h := hF hb141
            clear hT hF
            refine HW.region ?_
            refine HList.vals (v := (.bool (decide (x8 = 5)))) rfl (HVal.eqlI rfl rfl) ?_
            refine HList.vals (v := (.bool (decide (x8 = 5)))) rfl (HVal.assign' rfl) ?_
            refine HList.nil ?_
            refine nt ?_
            exact ⟨(decide (x8 = 5)), ⟨rfl, rfl, rfl, rfl, trivial⟩, h⟩
        · rintro ρ H_1 ⟨y142, hI, h⟩
          obtain ⟨ρ0, rfl⟩ : ∃ ρ0, ρ = (Env.set (Env.set (Env.set (Env.set ρ0 51 (.bool y142)) 4 (.pointer (some ⟨H3.size, 0, none⟩))) 3 (.pointer (some ⟨H1.size, 0, none⟩))) 2 (.pointer (some ⟨H.size, 0, none⟩))) := ⟨ρ, hI.eq⟩
          clear hI; unfold F38_1 at h
          obtain ⟨hT, hF⟩ := h
          refine HW.cond y142 rfl (fun hb143 => ?_) (fun hb143 => ?_)
          · have h := hT hb143
            clear hT hF
            refine HW.seq ?_
            refine HW.seq ?_
            refine HW.region ?_
            refine HList.vals (v := (.pointer (some (Addr.add ⟨H1.size, 0, none⟩ 9)))) rfl (HVal.fieldAddr' Tryd.runUnderlying41 rfl rfl Tryd.sizeOf39 rfl) ?_
            obtain ⟨x145, c144, h⟩ := h
            refine HList.vals (v := (Sl.v x145)) rfl (HVal.load1 Tryd.isAgg39 rfl c144) ?_
            refine HList.vals (v := (.int .i64 ((x145).n : Int))) rfl (HVal.len Tryd.runUnderlying39 rfl) ?_
            refine HList.vals (v := (.pointer (some ⟨H1.size, 0, none⟩))) rfl (HVal.fieldAddr0 Tryd.runUnderlying41 rfl rfl Tryd.sizeOf3 rfl) ?_
            obtain ⟨x147, c146, h⟩ := h
            refine HList.vals (v := (.int .i64 x147)) rfl (HVal.load1 Tryd.isAgg3 rfl c146) ?_
            refine HList.vals (v := (.int .i64 (IntKind.i64.wrap (x147 - 4)))) rfl (HVal.sub rfl rfl) ?_
            refine HList.vals (v := (.int .i64 (IntKind.i64.wrap ((IntKind.i64.wrap (x147 - 4)) + 1)))) rfl (HVal.add rfl rfl) ?_
            refine HList.vals (v := (.bool (decide (((x145).n : Int) ≠ (IntKind.i64.wrap ((IntKind.i64.wrap (x147 - 4)) + 1)))))) rfl (HVal.neqI rfl rfl) ?_
            refine HList.nil ?_
            refine nt ?_
            obtain ⟨hT, hF⟩ := h
            refine HW.cond (decide (((x145).n : Int) ≠ (IntKind.i64.wrap ((IntKind.i64.wrap (x147 - 4)) + 1)))) rfl (fun hb148 => ?_) (fun hb148 => ?_)
            · have h := hT hb148
              clear hT hF
              refine HW.seq ?_
              refine HW.region ?_
              refine HList.vals (v := (.agg #[(.int .i64 0), (.int .i64 0), (.string (ByteArray.mk #[])), (.bool false)])) rfl (HVal.build' (cs := [(.int .i64 0), (.int .i64 0), (.string (ByteArray.mk #[])), (.bool false)]) Tryd.runUnderlying38 Tryd.zeroValue38 places38 rfl) ?_
              obtain ⟨z151, h⟩ := h
              refine HList.opsn (HOp.storeN' (l := [(.int .i64 0), (.int .i64 0), (.string (ByteArray.mk #[])), (.bool false)]) Tryd.sizeOf38 rfl rfl rfl z151) ?_
              rintro _ H149 e150
              replace h := h H149 e150
              refine HList.vals (v := (.int .i64 60)) rfl (HVal.assign' rfl) ?_
              refine HList.nil ?_
              refine nt ?_
              refine HW.ret ?_
              refine tr ?_
              refine br ?_
              refine tr ?_
              obtain ⟨x152, x153, x154, x155, c156, h⟩ := h
              exact ⟨_, resOf2 rfl (Res1.n [(.int .i64 x152), (.int .i64 x153), (.string x154), (.bool x155)] Tryd.isAgg38 Tryd.sizeOf38 rfl c156) Res1.t, ⟨x152, x153, x154, x155, 60, rfl, h⟩⟩
            · have h := hF hb148
              clear hT hF
              refine HW.skip ?_
              refine nt ?_
              refine HW.seq ?_
              refine HW.region ?_
              refine HList.ops' rfl (HOp.alloc Tryd.zeroValue109) ?_
              rintro _ H157 ⟨rfl, e158⟩
              replace h := h H157 e158
              refine HList.nil ?_
              refine nt ?_
              refine HW.cut (fun ρ H_2 => Env.Is ρ [(3, (.pointer (some ⟨H1.size, 0, none⟩))), (4, (.pointer (some ⟨H3.size, 0, none⟩))), (8, (.pointer (some ⟨H_1.size, 0, none⟩)))] ∧ F38_2 X Q ⟨H1.size, 0, none⟩ ⟨H3.size, 0, none⟩ ⟨H_1.size, 0, none⟩ H_2) ?_ ?_
              · refine HW.seq ?_
                refine HW.region ?_
                refine HList.vals (v := (.pointer (some (Addr.add ⟨H1.size, 0, none⟩ 9)))) rfl (HVal.fieldAddr' Tryd.runUnderlying41 rfl rfl Tryd.sizeOf39 rfl) ?_
                obtain ⟨x163, c162, h⟩ := h
                refine HList.vals (v := (Sl.v x163)) rfl (HVal.load1 Tryd.isAgg39 rfl c162) ?_
                refine HList.vals (v := (.int .i64 ((x163).n : Int))) rfl (HVal.len Tryd.runUnderlying39 rfl) ?_
                refine HList.vals (v := (.int .i64 0)) rfl (HVal.move' rfl) ?_
                refine HList.nil ?_
                refine nt ?_
                refine HW.block ?_
                refine HW.loop' (fun L3 hL3 => ?_)
                obtain ⟨X3, hX3⟩ : ∃ X3 : Int → Hp → Prop, ∀ (y164 : Int) (H_3 : Hp), X3 y164 H_3 ↔ ∀ ρ, Env.Is ρ [(2, (.pointer (some ⟨H.size, 0, none⟩))), (3, (.pointer (some ⟨H1.size, 0, none⟩))), (4, (.pointer (some ⟨H3.size, 0, none⟩))), (8, (.pointer (some ⟨H_1.size, 0, none⟩))), (64, (Sl.v x163)), (65, (.int .i64 ((x163).n : Int))), (66, (.int .i64 y164))] → L3 ρ H_3 := ⟨_, fun _ _ => Iff.rfl⟩
                refine (hX3 _ _).1 (h X3 ?_) _ ?_
                rotate_left
                · exact ⟨rfl, rfl, rfl, rfl, rfl, rfl, rfl, trivial⟩
                clear h
                intro y164 H_3 h
                refine (hX3 _ _).2 fun ρ hI => ?_
                obtain ⟨ρ0, rfl⟩ : ∃ ρ0, ρ = (Env.set (Env.set (Env.set (Env.set (Env.set (Env.set (Env.set ρ0 66 (.int .i64 y164)) 65 (.int .i64 ((x163).n : Int))) 64 (Sl.v x163)) 8 (.pointer (some ⟨H_1.size, 0, none⟩))) 4 (.pointer (some ⟨H3.size, 0, none⟩))) 3 (.pointer (some ⟨H1.size, 0, none⟩))) 2 (.pointer (some ⟨H.size, 0, none⟩))) := ⟨ρ, hI.eq⟩
                clear hI; unfold F38_L3b at h; refine hL3 _ _ ?_
                refine HW.seq ?_
                refine HW.region ?_
                refine HList.vals (v := (.bool (decide (y164 < ((x163).n : Int))))) rfl (HVal.lss rfl rfl) ?_
                refine HList.nil ?_
                refine nt ?_
                refine HW.seq ?_
                obtain ⟨hT, hF⟩ := h
                refine HW.cond (decide (y164 < ((x163).n : Int))) rfl (fun hb171 => ?_) (fun hb171 => ?_)
                · have h := hT hb171
                  clear hT hF
                  refine HW.skip ?_
                  refine nt ?_
                  refine HW.seq ?_
                  refine HW.block ?_
                  refine HW.seq ?_
                  refine HW.region ?_
                  refine HList.vals (v := (.int .i64 y164)) rfl (HVal.move' rfl) ?_
                  obtain ⟨a172, e173, b174, b175, h⟩ := h
                  refine HList.vals (v := (.pointer (some (Addr.add a172 (y164.toNat * 10))))) rfl (HVal.indexAddr Tryd.runUnderlying39 Tryd.sizeOf41 (Sl.v_some rfl e173) rfl b174 b175) ?_
                  obtain ⟨x177, x178, x179, x180, x181, x182, x183, x184, x185, x186, c176, h⟩ := h
                  refine HList.vals (v := (.agg #[(.int .i64 x177), (.int .i64 x178), (.int .i64 x179), (.int .i64 x180), (.string x181), (.bool x182), (.string x183), (.int .i64 x184), (.string x185), (Sl.v x186)])) rfl (HVal.loadN [(.int .i64 x177), (.int .i64 x178), (.int .i64 x179), (.int .i64 x180), (.string x181), (.bool x182), (.string x183), (.int .i64 x184), (.string x185), (Sl.v x186)] Tryd.isAgg41 Tryd.sizeOf41 rfl c176) ?_
                  refine HList.ops' rfl (HOp.alloc Tryd.zeroValue41) ?_
                  rintro _ H187 ⟨rfl, e188⟩
                  replace h := h H187 e188
                  refine HList.vals (v := (.int .i64 y164)) rfl (HVal.assign' rfl) ?_
                  obtain ⟨z191, h⟩ := h
                  refine HList.opsn (HOp.storeN' (l := [(.int .i64 x177), (.int .i64 x178), (.int .i64 x179), (.int .i64 x180), (.string x181), (.bool x182), (.string x183), (.int .i64 x184), (.string x185), (Sl.v x186)]) Tryd.sizeOf41 rfl rfl rfl z191) ?_
                  rintro _ H189 e190
                  replace h := h H189 e190
                  refine HList.nil ?_
                  refine nt ?_
                  refine HW.seq ?_
                  refine HW.region ?_
                  refine HList.vals (v := (.int .i64 0)) rfl (HVal.assign' rfl) ?_
                  refine HList.nil ?_
                  refine nt ?_
                  refine HW.seq ?_
                  refine HW.region ?_
                  refine HList.vals (v := (.int .i64 y164)) rfl (HVal.move' rfl) ?_
                  obtain ⟨x193, x194, x195, x196, x197, x198, x199, c192, h⟩ := h
                  refine HList.vals (v := (.agg #[(Sl.v x193), (Sl.v x194), (.string x195), (.string x196), (.int .i64 x197), (Sl.v x198), (Sl.v x199)])) rfl (HVal.loadN [(Sl.v x193), (Sl.v x194), (.string x195), (.string x196), (.int .i64 x197), (Sl.v x198), (Sl.v x199)] Tryd.isAgg90 Tryd.sizeOf90 rfl c192) ?_
                  obtain ⟨x201, x202, x203, x204, x205, x206, x207, x208, x209, x210, c200, h⟩ := h
                  refine HList.vals (v := (.agg #[(.int .i64 x201), (.int .i64 x202), (.int .i64 x203), (.int .i64 x204), (.string x205), (.bool x206), (.string x207), (.int .i64 x208), (.string x209), (Sl.v x210)])) rfl (HVal.loadN [(.int .i64 x201), (.int .i64 x202), (.int .i64 x203), (.int .i64 x204), (.string x205), (.bool x206), (.string x207), (.int .i64 x208), (.string x209), (Sl.v x210)] Tryd.isAgg41 Tryd.sizeOf41 rfl c200) ?_
                  refine HList.ops' rfl (HOp.call' 38 [(.agg #[(Sl.v x193), (Sl.v x194), (.string x195), (.string x196), (.int .i64 x197), (Sl.v x198), (Sl.v x199)]), (.agg #[(.int .i64 x201), (.int .i64 x202), (.int .i64 x203), (.int .i64 x204), (.string x205), (.bool x206), (.string x207), (.int .i64 x208), (.string x209), (Sl.v x210)])] (cap := []) rfl rfl Tryd.call38 ((hX _ _ _ _ _ _ _ _ _ _ _ _ _ _ _ _ _ _ _).1 h)) ?_
                  rintro _ H211 ⟨r213, r214, r215, r216, r217, rfl, h⟩
                  refine HList.vals (v := (.tuple #[(.agg #[(.int .i64 r213), (.int .i64 r214), (.string r215), (.bool r216)]), (.int .i64 r217)])) rfl (HVal.move' rfl) ?_
                  refine HList.vals (v := (.agg #[(.int .i64 r213), (.int .i64 r214), (.string r215), (.bool r216)])) rfl (HVal.extract rfl rfl) ?_
                  refine HList.vals (v := (.int .i64 r217)) rfl (HVal.extract rfl rfl) ?_
                  obtain ⟨b218, b219, h⟩ := h
                  refine HList.vals (v := (.pointer (some (Addr.add ⟨H_1.size, 0, none⟩ (y164.toNat * 4))))) rfl (HVal.indexAddrA Tryd.runUnderlying109 Tryd.sizeOf38 rfl rfl b218 b219) ?_
                  obtain ⟨z222, h⟩ := h
                  refine HList.opsn (HOp.storeN' (l := [(.int .i64 r213), (.int .i64 r214), (.string r215), (.bool r216)]) Tryd.sizeOf38 rfl rfl rfl z222) ?_
                  rintro _ H220 e221
                  replace h := h H220 e221
                  refine HList.vals (v := (.int .i64 r217)) rfl (HVal.assign' rfl) ?_
                  refine HList.nil ?_
                  refine nt ?_
                  refine HW.seq ?_
                  refine HW.region ?_
                  refine HList.vals (v := (.int .i64 r217)) rfl (HVal.move' rfl) ?_
                  refine HList.vals (v := (.bool (decide (r217 ≠ 0)))) rfl (HVal.neqI rfl rfl) ?_
                  refine HList.nil ?_
                  refine nt ?_
                  obtain ⟨hT, hF⟩ := h
                  refine HW.cond (decide (r217 ≠ 0)) rfl (fun hb223 => ?_) (fun hb223 => ?_)
                  · have h := hT hb223
                    clear hT hF
                    refine HW.seq ?_
                    refine HW.region ?_
                    refine HList.vals (v := (.agg #[(.int .i64 0), (.int .i64 0), (.string (ByteArray.mk #[])), (.bool false)])) rfl (HVal.build' (cs := [(.int .i64 0), (.int .i64 0), (.string (ByteArray.mk #[])), (.bool false)]) Tryd.runUnderlying38 Tryd.zeroValue38 places38 rfl) ?_
                    refine HList.vals (v := (.int .i64 r217)) rfl (HVal.move' rfl) ?_
                    obtain ⟨z226, h⟩ := h
                    refine HList.opsn (HOp.storeN' (l := [(.int .i64 0), (.int .i64 0), (.string (ByteArray.mk #[])), (.bool false)]) Tryd.sizeOf38 rfl rfl rfl z226) ?_
                    rintro _ H224 e225
                    replace h := h H224 e225
                    refine HList.vals (v := (.int .i64 r217)) rfl (HVal.assign' rfl) ?_
                    refine HList.nil ?_
                    refine nt ?_
                    refine HW.ret ?_
                    refine br ?_
                    refine tr ?_
                    refine tr ?_
                    refine br ?_
                    refine tr ?_
                    refine br ?_
                    refine tr ?_
                    obtain ⟨x227, x228, x229, x230, c231, h⟩ := h
                    exact ⟨_, resOf2 rfl (Res1.n [(.int .i64 x227), (.int .i64 x228), (.string x229), (.bool x230)] Tryd.isAgg38 Tryd.sizeOf38 rfl c231) Res1.t, ⟨x227, x228, x229, x230, r217, rfl, h⟩⟩
                  · have h := hF hb223
                    clear hT hF
                    refine HW.skip ?_
                    refine nb ?_
                    refine nt ?_
                    refine HW.region ?_
                    refine HList.vals (v := (.int .i64 (IntKind.i64.wrap (y164 + 1)))) rfl (HVal.add rfl rfl) ?_
                    refine HList.vals (v := (.int .i64 (IntKind.i64.wrap (y164 + 1)))) rfl (HVal.move' rfl) ?_
                    refine HList.nil ?_
                    refine nt ?_
                    exact (hX3 _ _).1 h _ ⟨rfl, rfl, rfl, rfl, rfl, rfl, rfl, trivial⟩
                · have h := hF hb171
                  clear hT hF
                  refine HW.exit ?_
                  refine te ?_
                  refine te ?_
                  refine be ?_
                  refine nt ?_
                  exact ⟨⟨rfl, rfl, rfl, trivial⟩, h⟩
              · rintro ρ H_2 ⟨hI, h⟩
                obtain ⟨ρ0, rfl⟩ : ∃ ρ0, ρ = (Env.set (Env.set (Env.set ρ0 8 (.pointer (some ⟨H_1.size, 0, none⟩))) 4 (.pointer (some ⟨H3.size, 0, none⟩))) 3 (.pointer (some ⟨H1.size, 0, none⟩))) := ⟨ρ, hI.eq⟩
                clear hI; unfold F38_2 at h
                refine HW.seq ?_
                refine HW.seq ?_
                refine HW.region ?_
                refine HList.vals (v := (.pointer (some ⟨H1.size, 0, none⟩))) rfl (HVal.fieldAddr0 Tryd.runUnderlying41 rfl rfl Tryd.sizeOf3 rfl) ?_
                obtain ⟨x233, c232, h⟩ := h
                refine HList.vals (v := (.int .i64 x233)) rfl (HVal.load1 Tryd.isAgg3 rfl c232) ?_
                refine HList.vals (v := (.bool (decide (x233 = 4)))) rfl (HVal.eqlI rfl rfl) ?_
                refine HList.nil ?_
                refine nt ?_
                obtain ⟨hT, hF⟩ := h
                refine HW.cond (decide (x233 = 4)) rfl (fun hb234 => ?_) (fun hb234 => ?_)
                · have h := hT hb234
                  clear hT hF
                  refine HW.seq ?_
                  refine HW.region ?_
                  refine HList.vals (v := (.pointer (some (Addr.add ⟨H1.size, 0, none⟩ 1)))) rfl (HVal.fieldAddr' Tryd.runUnderlying41 rfl rfl Tryd.sizeOf3 rfl) ?_
                  obtain ⟨x236, c235, h⟩ := h
                  refine HList.vals (v := (.int .i64 x236)) rfl (HVal.load1 Tryd.isAgg3 rfl c235) ?_
                  obtain ⟨b237, b238, h⟩ := h
                  refine HList.vals (v := (.pointer (some (Addr.add ⟨H_1.size, 0, none⟩ ((0 : Int).toNat * 4))))) rfl (HVal.indexAddrA Tryd.runUnderlying109 Tryd.sizeOf38 rfl rfl b237 b238) ?_
                  obtain ⟨x240, x241, x242, x243, c239, h⟩ := h
                  refine HList.vals (v := (.agg #[(.int .i64 x240), (.int .i64 x241), (.string x242), (.bool x243)])) rfl (HVal.loadN [(.int .i64 x240), (.int .i64 x241), (.string x242), (.bool x243)] Tryd.isAgg38 Tryd.sizeOf38 rfl c239) ?_
                  refine HList.ops' rfl (HOp.call' 58 [(.int .i64 x236), (.agg #[(.int .i64 x240), (.int .i64 x241), (.string x242), (.bool x243)])] (cap := []) rfl rfl Tryd.call58 (walk58 h)) ?_
                  rintro _ H244 ⟨r246, r247, r248, r249, r250, rfl, h⟩
                  refine HList.vals (v := (.agg #[(.int .i64 r246), (.int .i64 r247), (.string r248), (.bool r249)])) rfl (HVal.extract rfl rfl) ?_
                  refine HList.vals (v := (.int .i64 r250)) rfl (HVal.extract rfl rfl) ?_
                  obtain ⟨z253, h⟩ := h
                  refine HList.opsn (HOp.storeN' (l := [(.int .i64 r246), (.int .i64 r247), (.string r248), (.bool r249)]) Tryd.sizeOf38 rfl rfl rfl z253) ?_
                  rintro _ H251 e252
                  replace h := h H251 e252
                  refine HList.vals (v := (.int .i64 r250)) rfl (HVal.assign' rfl) ?_
                  refine HList.nil ?_
                  refine nt ?_
                  refine HW.ret ?_
                  refine tr ?_
                  refine br ?_
                  refine tr ?_
                  obtain ⟨x254, x255, x256, x257, c258, h⟩ := h
                  exact ⟨_, resOf2 rfl (Res1.n [(.int .i64 x254), (.int .i64 x255), (.string x256), (.bool x257)] Tryd.isAgg38 Tryd.sizeOf38 rfl c258) Res1.t, ⟨x254, x255, x256, x257, r250, rfl, h⟩⟩
                · have h := hF hb234
                  clear hT hF
                  refine HW.skip ?_
                  refine nt ?_
                  refine HW.seq ?_
                  refine HW.region ?_
                  refine HList.vals (v := (.pointer (some (Addr.add ⟨H1.size, 0, none⟩ 1)))) rfl (HVal.fieldAddr' Tryd.runUnderlying41 rfl rfl Tryd.sizeOf3 rfl) ?_
                  obtain ⟨x260, c259, h⟩ := h
                  refine HList.vals (v := (.int .i64 x260)) rfl (HVal.load1 Tryd.isAgg3 rfl c259) ?_
                  obtain ⟨b261, b262, h⟩ := h
                  refine HList.vals (v := (.pointer (some (Addr.add ⟨H_1.size, 0, none⟩ ((0 : Int).toNat * 4))))) rfl (HVal.indexAddrA Tryd.runUnderlying109 Tryd.sizeOf38 rfl rfl b261 b262) ?_
                  obtain ⟨x264, x265, x266, x267, c263, h⟩ := h
                  refine HList.vals (v := (.agg #[(.int .i64 x264), (.int .i64 x265), (.string x266), (.bool x267)])) rfl (HVal.loadN [(.int .i64 x264), (.int .i64 x265), (.string x266), (.bool x267)] Tryd.isAgg38 Tryd.sizeOf38 rfl c263) ?_
                  obtain ⟨b268, b269, h⟩ := h
                  refine HList.vals (v := (.pointer (some (Addr.add ⟨H_1.size, 0, none⟩ ((1 : Int).toNat * 4))))) rfl (HVal.indexAddrA Tryd.runUnderlying109 Tryd.sizeOf38 rfl rfl b268 b269) ?_
                  obtain ⟨x271, x272, x273, x274, c270, h⟩ := h
                  refine HList.vals (v := (.agg #[(.int .i64 x271), (.int .i64 x272), (.string x273), (.bool x274)])) rfl (HVal.loadN [(.int .i64 x271), (.int .i64 x272), (.string x273), (.bool x274)] Tryd.isAgg38 Tryd.sizeOf38 rfl c270) ?_
                  refine HList.ops' rfl (HOp.call' 59 [(.int .i64 x260), (.agg #[(.int .i64 x264), (.int .i64 x265), (.string x266), (.bool x267)]), (.agg #[(.int .i64 x271), (.int .i64 x272), (.string x273), (.bool x274)])] (cap := []) rfl rfl Tryd.call59 (walk59 h)) ?_
                  rintro _ H275 ⟨r277, r278, r279, r280, r281, rfl, h⟩
                  refine HList.vals (v := (.agg #[(.int .i64 r277), (.int .i64 r278), (.string r279), (.bool r280)])) rfl (HVal.extract rfl rfl) ?_
                  refine HList.vals (v := (.int .i64 r281)) rfl (HVal.extract rfl rfl) ?_
                  obtain ⟨z284, h⟩ := h
                  refine HList.opsn (HOp.storeN' (l := [(.int .i64 r277), (.int .i64 r278), (.string r279), (.bool r280)]) Tryd.sizeOf38 rfl rfl rfl z284) ?_
                  rintro _ H282 e283
                  replace h := h H282 e283
                  refine HList.vals (v := (.int .i64 r281)) rfl (HVal.assign' rfl) ?_
                  refine HList.nil ?_
                  refine nt ?_
                  refine HW.ret ?_
                  refine br ?_
                  refine tr ?_
                  obtain ⟨x285, x286, x287, x288, c289, h⟩ := h
                  exact ⟨_, resOf2 rfl (Res1.n [(.int .i64 x285), (.int .i64 x286), (.string x287), (.bool x288)] Tryd.isAgg38 Tryd.sizeOf38 rfl c289) Res1.t, ⟨x285, x286, x287, x288, r281, rfl, h⟩⟩
          · have h := hF hb143
            clear hT hF
            refine HW.skip ?_
            refine nb ?_
            refine nt ?_
            refine HW.seq ?_
            refine HW.region ?_
            refine HList.vals (v := (.agg #[(.int .i64 0), (.int .i64 0), (.string (ByteArray.mk #[])), (.bool false)])) rfl (HVal.build' (cs := [(.int .i64 0), (.int .i64 0), (.string (ByteArray.mk #[])), (.bool false)]) Tryd.runUnderlying38 Tryd.zeroValue38 places38 rfl) ?_
            obtain ⟨z292, h⟩ := h
            refine HList.opsn (HOp.storeN' (l := [(.int .i64 0), (.int .i64 0), (.string (ByteArray.mk #[])), (.bool false)]) Tryd.sizeOf38 rfl rfl rfl z292) ?_
            rintro _ H290 e291
            replace h := h H290 e291
            refine HList.vals (v := (.int .i64 60)) rfl (HVal.assign' rfl) ?_
            refine HList.nil ?_
            refine nt ?_
            refine HW.ret ?_
            obtain ⟨x293, x294, x295, x296, c297, h⟩ := h
            exact ⟨_, resOf2 rfl (Res1.n [(.int .i64 x293), (.int .i64 x294), (.string x295), (.bool x296)] Tryd.isAgg38 Tryd.sizeOf38 rfl c297) Res1.t, ⟨x293, x294, x295, x296, 60, rfl, h⟩⟩

def F22_1 (Q : Int → Int → ByteArray → Bool → Int → Hp → Prop) (y22 : Addr) (y23 : Addr) (y24 : Addr) (y27 : Bool) (H_1 : Hp) : Prop :=
(y27 = true → (mayw H_1 y24 4 0 ∧ ∀ H29 : Hp, H29 = sets H_1 y24 [(.int .i64 0), (.int .i64 0), (.string (ByteArray.mk #[])), (.bool false)] 0 → (
 ∃ (x32 : Int) (x33 : Int) (x34 : ByteArray) (x35 : Bool), cells H29 y24 [(.int .i64 x32), (.int .i64 x33), (.string x34), (.bool x35)] 0 ∧ (
 Q x32 x33 x34 x35 71 H29)))) ∧
 (y27 = false → (∃ (x38 : Sl) (x39 : Sl) (x40 : ByteArray) (x41 : ByteArray) (x42 : Int) (x43 : Sl) (x44 : Sl), cells H_1 y23 [(Sl.v x38), (Sl.v x39), (.string x40), (.string x41), (.int .i64 x42), (Sl.v x43), (Sl.v x44)] 0 ∧ (
 ∃ (x46 : Int) (x47 : Int) (x48 : Int) (x49 : Int) (x50 : ByteArray) (x51 : Bool) (x52 : ByteArray) (x53 : Int) (x54 : ByteArray) (x55 : Sl), cells H_1 y22 [(.int .i64 x46), (.int .i64 x47), (.int .i64 x48), (.int .i64 x49), (.string x50), (.bool x51), (.string x52), (.int .i64 x53), (.string x54), (Sl.v x55)] 0 ∧ (
 F38 x38 x39 x40 x41 x42 x43 x44 x46 x47 x48 x49 x50 x51 x52 x53 x54 x55 H_1 (fun (r58 : Int) (r59 : Int) (r60 : ByteArray) (r61 : Bool) (r62 : Int) (H56 : Hp) => 
 mayw H56 y24 4 0 ∧ ∀ H63 : Hp, H63 = sets H56 y24 [(.int .i64 r58), (.int .i64 r59), (.string r60), (.bool r61)] 0 → (
 ∃ (x66 : Int) (x67 : Int) (x68 : ByteArray) (x69 : Bool), cells H63 y24 [(.int .i64 x66), (.int .i64 x67), (.string x68), (.bool x69)] 0 ∧ (
 Q x66 x67 x68 x69 r62 H63)))))))
def F22 (p0_0 : Int) (p0_1 : Int) (p0_2 : Int) (p0_3 : Int) (p0_4 : ByteArray) (p0_5 : Bool) (p0_6 : ByteArray) (p0_7 : Int) (p0_8 : ByteArray) (p0_9 : Sl) (p1_0 : Sl) (p1_1 : Sl) (p1_2 : ByteArray) (p1_3 : ByteArray) (p1_4 : Int) (p1_5 : Sl) (p1_6 : Sl) (H : Hp) (Q : Int → Int → ByteArray → Bool → Int → Hp → Prop) : Prop :=
∀ H1 : Hp, H1 = Array.push H (.cells #[(.int .i64 p0_0), (.int .i64 p0_1), (.int .i64 p0_2), (.int .i64 p0_3), (.string p0_4), (.bool p0_5), (.string p0_6), (.int .i64 p0_7), (.string p0_8), (Sl.v p0_9)] 41) → (
 ∀ H3 : Hp, H3 = Array.push H1 (.cells #[(Sl.v p1_0), (Sl.v p1_1), (.string p1_2), (.string p1_3), (.int .i64 p1_4), (Sl.v p1_5), (Sl.v p1_6)] 43) → (
 ∀ H5 : Hp, H5 = Array.push H3 (.cells #[(.int .i64 0), (.int .i64 0), (.string (ByteArray.mk #[])), (.bool false)] 38) → (
 ∃ (x8 : Int) (x9 : Int) (x10 : Int) (x11 : Int) (x12 : ByteArray) (x13 : Bool) (x14 : ByteArray) (x15 : Int) (x16 : ByteArray) (x17 : Sl), cells H5 ⟨H.size, 0, none⟩ [(.int .i64 x8), (.int .i64 x9), (.int .i64 x10), (.int .i64 x11), (.string x12), (.bool x13), (.string x14), (.int .i64 x15), (.string x16), (Sl.v x17)] 0 ∧ (
 F37 x8 x9 x10 x11 x12 x13 x14 x15 x16 x17 H5 (fun (r20 : Int) (r21 : Int) (H18 : Hp) => 
 ((decide ((32 : Int) < r21)) = true → (F22_1 Q ⟨H.size, 0, none⟩ ⟨H1.size, 0, none⟩ ⟨H3.size, 0, none⟩ true H18)) ∧
 ((decide ((32 : Int) < r21)) = false → (F22_1 Q ⟨H.size, 0, none⟩ ⟨H1.size, 0, none⟩ ⟨H3.size, 0, none⟩ (decide ((256 : Int) < r20)) H18)))))))
set_option maxRecDepth 100000 in
set_option maxHeartbeats 4000000 in
theorem walk22 {w0 : World} {p0_0 : Int} {p0_1 : Int} {p0_2 : Int} {p0_3 : Int} {p0_4 : ByteArray} {p0_5 : Bool} {p0_6 : ByteArray} {p0_7 : Int} {p0_8 : ByteArray} {p0_9 : Sl} {p1_0 : Sl} {p1_1 : Sl} {p1_2 : ByteArray} {p1_3 : ByteArray} {p1_4 : Int} {p1_5 : Sl} {p1_6 : Sl} {H : Hp} {Q : Int → Int → ByteArray → Bool → Int → Hp → Prop} (h : F22 p0_0 p0_1 p0_2 p0_3 p0_4 p0_5 p0_6 p0_7 p0_8 p0_9 p1_0 p1_1 p1_2 p1_3 p1_4 p1_5 p1_6 H Q) :
    Good Tryd.prog w0 22 #[(.agg #[(.int .i64 p0_0), (.int .i64 p0_1), (.int .i64 p0_2), (.int .i64 p0_3), (.string p0_4), (.bool p0_5), (.string p0_6), (.int .i64 p0_7), (.string p0_8), (Sl.v p0_9)]), (.agg #[(Sl.v p1_0), (Sl.v p1_1), (.string p1_2), (.string p1_3), (.int .i64 p1_4), (Sl.v p1_5), (Sl.v p1_6)])] H (fun v H => ∃ (r0 : Int) (r1 : Int) (r2 : ByteArray) (r3 : Bool) (r4 : Int) , v = (.tuple #[(.agg #[(.int .i64 r0), (.int .i64 r1), (.string r2), (.bool r3)]), (.int .i64 r4)]) ∧ Q r0 r1 r2 r3 r4 H) := by
  unfold F22 at h
  refine Good.enter' (fn := Tryd.f22) Tryd.func22 rfl rfl rfl ?_
  refine HW.seq ?_
  refine HW.region ?_
  refine HList.ops' rfl (HOp.box (v := (.agg #[(.int .i64 p0_0), (.int .i64 p0_1), (.int .i64 p0_2), (.int .i64 p0_3), (.string p0_4), (.bool p0_5), (.string p0_6), (.int .i64 p0_7), (.string p0_8), (Sl.v p0_9)])) rfl) ?_
  rintro _ H1 ⟨rfl, e2⟩
  replace h := h H1 e2
  refine HList.ops' rfl (HOp.box (v := (.agg #[(Sl.v p1_0), (Sl.v p1_1), (.string p1_2), (.string p1_3), (.int .i64 p1_4), (Sl.v p1_5), (Sl.v p1_6)])) rfl) ?_
  rintro _ H3 ⟨rfl, e4⟩
  replace h := h H3 e4
  refine HList.ops' rfl (HOp.alloc Tryd.zeroValue38) ?_
  rintro _ H5 ⟨rfl, e6⟩
  replace h := h H5 e6
  refine HList.vals (v := (.int .i64 0)) rfl (HVal.assign' rfl) ?_
  refine HList.nil ?_
  refine nt ?_
  refine HW.seq ?_
  refine HW.seq ?_
  refine HW.region ?_
  obtain ⟨x8, x9, x10, x11, x12, x13, x14, x15, x16, x17, c7, h⟩ := h
  refine HList.vals (v := (.agg #[(.int .i64 x8), (.int .i64 x9), (.int .i64 x10), (.int .i64 x11), (.string x12), (.bool x13), (.string x14), (.int .i64 x15), (.string x16), (Sl.v x17)])) rfl (HVal.loadN [(.int .i64 x8), (.int .i64 x9), (.int .i64 x10), (.int .i64 x11), (.string x12), (.bool x13), (.string x14), (.int .i64 x15), (.string x16), (Sl.v x17)] Tryd.isAgg41 Tryd.sizeOf41 rfl c7) ?_
  refine HList.ops' rfl (HOp.call' 37 [(.agg #[(.int .i64 x8), (.int .i64 x9), (.int .i64 x10), (.int .i64 x11), (.string x12), (.bool x13), (.string x14), (.int .i64 x15), (.string x16), (Sl.v x17)])] (cap := []) rfl rfl Tryd.call37 (walk37 h)) ?_
  rintro _ H18 ⟨r20, r21, rfl, h⟩
  refine HList.vals (v := (.tuple #[(.int .i64 r20), (.int .i64 r21)])) rfl (HVal.move' rfl) ?_
  refine HList.vals (v := (.int .i64 r20)) rfl (HVal.extract rfl rfl) ?_
  refine HList.vals (v := (.int .i64 r21)) rfl (HVal.extract rfl rfl) ?_
  refine HList.vals (v := (.int .i64 r20)) rfl (HVal.assign' rfl) ?_
  refine HList.vals (v := (.int .i64 r21)) rfl (HVal.assign' rfl) ?_
  refine HList.nil ?_
  refine nt ?_
  refine HW.cut (fun ρ H_1 => ∃ (y27 : Bool), Env.Is ρ [(2, (.pointer (some ⟨H.size, 0, none⟩))), (3, (.pointer (some ⟨H1.size, 0, none⟩))), (4, (.pointer (some ⟨H3.size, 0, none⟩))), (18, (.bool y27))] ∧ F22_1 Q ⟨H.size, 0, none⟩ ⟨H1.size, 0, none⟩ ⟨H3.size, 0, none⟩ y27 H_1) ?_ ?_
  · refine HW.region ?_
    refine HList.vals (v := (.int .i64 r21)) rfl (HVal.move' rfl) ?_
    refine HList.vals (v := (.bool (decide ((32 : Int) < r21)))) rfl (HVal.gtr rfl rfl) ?_
    refine HList.vals (v := (.bool (decide ((32 : Int) < r21)))) rfl (HVal.move' rfl) ?_
    obtain ⟨hT, hF⟩ := h
    rcases Bool.eq_false_or_eq_true (decide ((32 : Int) < r21)) with hb25 | hb26
    · have h := hT hb25
      clear hT hF
      refine HList.gskips rfl rfl rfl rfl (congrArg Value.bool hb25) ?_
      refine HList.gskips rfl rfl rfl rfl (congrArg Value.bool hb25) ?_
      refine HList.vals (v := (.bool true)) rfl (HVal.pickT rfl hb25 rfl) ?_
      refine HList.nil ?_
      refine nt ?_
      exact ⟨true, ⟨rfl, rfl, rfl, rfl, trivial⟩, h⟩
    · have h := hF hb26
      clear hT hF
      refine HList.gvals (v := (.int .i64 r20)) rfl rfl rfl rfl (congrArg Value.bool hb26) (HVal.move' rfl) ?_
      refine HList.gvals (v := (.bool (decide ((256 : Int) < r20)))) rfl rfl rfl rfl (congrArg Value.bool hb26) (HVal.gtr rfl rfl) ?_
      refine HList.vals (v := (.bool (decide ((256 : Int) < r20)))) rfl (HVal.pickF rfl hb26 rfl) ?_
      refine HList.nil ?_
      refine nt ?_
      exact ⟨(decide ((256 : Int) < r20)), ⟨rfl, rfl, rfl, rfl, trivial⟩, h⟩
  · rintro ρ H_1 ⟨y27, hI, h⟩
    obtain ⟨ρ0, rfl⟩ : ∃ ρ0, ρ = (Env.set (Env.set (Env.set (Env.set ρ0 18 (.bool y27)) 4 (.pointer (some ⟨H3.size, 0, none⟩))) 3 (.pointer (some ⟨H1.size, 0, none⟩))) 2 (.pointer (some ⟨H.size, 0, none⟩))) := ⟨ρ, hI.eq⟩
    clear hI; unfold F22_1 at h
    obtain ⟨hT, hF⟩ := h
    refine HW.cond y27 rfl (fun hb28 => ?_) (fun hb28 => ?_)
    · have h := hT hb28
      clear hT hF
      refine HW.seq ?_
      refine HW.region ?_
      refine HList.vals (v := (.agg #[(.int .i64 0), (.int .i64 0), (.string (ByteArray.mk #[])), (.bool false)])) rfl (HVal.build' (cs := [(.int .i64 0), (.int .i64 0), (.string (ByteArray.mk #[])), (.bool false)]) Tryd.runUnderlying38 Tryd.zeroValue38 places38 rfl) ?_
      obtain ⟨z31, h⟩ := h
      refine HList.opsn (HOp.storeN' (l := [(.int .i64 0), (.int .i64 0), (.string (ByteArray.mk #[])), (.bool false)]) Tryd.sizeOf38 rfl rfl rfl z31) ?_
      rintro _ H29 e30
      replace h := h H29 e30
      refine HList.vals (v := (.int .i64 71)) rfl (HVal.assign' rfl) ?_
      refine HList.nil ?_
      refine nt ?_
      refine HW.ret ?_
      refine tr ?_
      obtain ⟨x32, x33, x34, x35, c36, h⟩ := h
      exact ⟨_, resOf2 rfl (Res1.n [(.int .i64 x32), (.int .i64 x33), (.string x34), (.bool x35)] Tryd.isAgg38 Tryd.sizeOf38 rfl c36) Res1.t, ⟨x32, x33, x34, x35, 71, rfl, h⟩⟩
    · have h := hF hb28
      clear hT hF
      refine HW.skip ?_
      refine nt ?_
      refine HW.seq ?_
      refine HW.region ?_
      obtain ⟨x38, x39, x40, x41, x42, x43, x44, c37, h⟩ := h
      refine HList.vals (v := (.agg #[(Sl.v x38), (Sl.v x39), (.string x40), (.string x41), (.int .i64 x42), (Sl.v x43), (Sl.v x44)])) rfl (HVal.loadN [(Sl.v x38), (Sl.v x39), (.string x40), (.string x41), (.int .i64 x42), (Sl.v x43), (Sl.v x44)] Tryd.isAgg43 Tryd.sizeOf43 rfl c37) ?_
      refine HList.vals (v := (.agg #[(Sl.v x38), (Sl.v x39), (.string x40), (.string x41), (.int .i64 x42), (Sl.v x43), (Sl.v x44)])) rfl (HVal.build' (cs := [(Sl.v x38), (Sl.v x39), (.string x40), (.string x41), (.int .i64 x42), (Sl.v x43), (Sl.v x44)]) Tryd.runUnderlying90 Tryd.zeroValue90 places90 (by kernel_rfl)) ?_
      obtain ⟨x46, x47, x48, x49, x50, x51, x52, x53, x54, x55, c45, h⟩ := h
      refine HList.vals (v := (.agg #[(.int .i64 x46), (.int .i64 x47), (.int .i64 x48), (.int .i64 x49), (.string x50), (.bool x51), (.string x52), (.int .i64 x53), (.string x54), (Sl.v x55)])) rfl (HVal.loadN [(.int .i64 x46), (.int .i64 x47), (.int .i64 x48), (.int .i64 x49), (.string x50), (.bool x51), (.string x52), (.int .i64 x53), (.string x54), (Sl.v x55)] Tryd.isAgg41 Tryd.sizeOf41 rfl c45) ?_
      refine HList.ops' rfl (HOp.call' 38 [(.agg #[(Sl.v x38), (Sl.v x39), (.string x40), (.string x41), (.int .i64 x42), (Sl.v x43), (Sl.v x44)]), (.agg #[(.int .i64 x46), (.int .i64 x47), (.int .i64 x48), (.int .i64 x49), (.string x50), (.bool x51), (.string x52), (.int .i64 x53), (.string x54), (Sl.v x55)])] (cap := []) rfl rfl Tryd.call38 (walk38 h)) ?_
      rintro _ H56 ⟨r58, r59, r60, r61, r62, rfl, h⟩
      refine HList.vals (v := (.agg #[(.int .i64 r58), (.int .i64 r59), (.string r60), (.bool r61)])) rfl (HVal.extract rfl rfl) ?_
      refine HList.vals (v := (.int .i64 r62)) rfl (HVal.extract rfl rfl) ?_
      obtain ⟨z65, h⟩ := h
      refine HList.opsn (HOp.storeN' (l := [(.int .i64 r58), (.int .i64 r59), (.string r60), (.bool r61)]) Tryd.sizeOf38 rfl rfl rfl z65) ?_
      rintro _ H63 e64
      replace h := h H63 e64
      refine HList.vals (v := (.int .i64 r62)) rfl (HVal.assign' rfl) ?_
      refine HList.nil ?_
      refine nt ?_
      refine HW.ret ?_
      obtain ⟨x66, x67, x68, x69, c70, h⟩ := h
      exact ⟨_, resOf2 rfl (Res1.n [(.int .i64 x66), (.int .i64 x67), (.string x68), (.bool x69)] Tryd.isAgg38 Tryd.sizeOf38 rfl c70) Res1.t, ⟨x66, x67, x68, x69, r62, rfl, h⟩⟩

def F21_2 (Q : Bool → Hp → Prop) (X1 : Int → Hp → Prop) (y59 : Addr) (y60 : Sl) (y61 : Int) (y62 : Int) (y65 : Bool) (H_2 : Hp) : Prop :=
(y65 = true → (Q false H_2)) ∧
 (y65 = false → (X1 (IntKind.i64.wrap (y62 + 1)) H_2))
def F21_L1b (Q : Bool → Hp → Prop) (X1 : Int → Hp → Prop) (y4 : Addr) (y5 : Sl) (y6 : Int) (y3 : Int) (H_1 : Hp) : Prop :=
((decide (y3 < y6)) = true → (∃ a8 : Addr, (y5).b = some a8 ∧ (0 : Int) ≤ y3 ∧ y3 < ((y5).n : Int) ∧ (
 ∃ (x13 : Int) (x14 : Int) (x15 : Int) (x16 : Int) (x17 : ByteArray) (x18 : Bool) (x19 : ByteArray) (x20 : Int) (x21 : ByteArray) (x22 : Sl), cells H_1 (Addr.add a8 (y3.toNat * 10)) [(.int .i64 x13), (.int .i64 x14), (.int .i64 x15), (.int .i64 x16), (.string x17), (.bool x18), (.string x19), (.int .i64 x20), (.string x21), (Sl.v x22)] 0 ∧ (
 ∀ H23 : Hp, H23 = Array.push H_1 (.cells #[(.int .i64 0), (.int .i64 0), (.int .i64 0), (.int .i64 0), (.string (ByteArray.mk #[])), (.bool false), (.string (ByteArray.mk #[])), (.int .i64 0), (.string (ByteArray.mk #[])), (Sl.v Sl.nil)] 41) → (
 mayw H23 ⟨H_1.size, 0, none⟩ 10 0 ∧ ∀ H25 : Hp, H25 = sets H23 ⟨H_1.size, 0, none⟩ [(.int .i64 x13), (.int .i64 x14), (.int .i64 x15), (.int .i64 x16), (.string x17), (.bool x18), (.string x19), (.int .i64 x20), (.string x21), (Sl.v x22)] 0 → (
 ∃ (x29 : Int) (x30 : Int) (x31 : Int) (x32 : Int) (x33 : ByteArray) (x34 : Bool) (x35 : ByteArray) (x36 : Int) (x37 : ByteArray) (x38 : Sl), cells H25 ⟨H_1.size, 0, none⟩ [(.int .i64 x29), (.int .i64 x30), (.int .i64 x31), (.int .i64 x32), (.string x33), (.bool x34), (.string x35), (.int .i64 x36), (.string x37), (Sl.v x38)] 0 ∧ (
 ∃ (x40 : Sl) (x41 : Sl) (x42 : ByteArray) (x43 : ByteArray) (x44 : Int) (x45 : Sl) (x46 : Sl), cells H25 y4 [(Sl.v x40), (Sl.v x41), (.string x42), (.string x43), (.int .i64 x44), (Sl.v x45), (Sl.v x46)] 0 ∧ (
 F22 x29 x30 x31 x32 x33 x34 x35 x36 x37 x38 x40 x41 x42 x43 x44 x45 x46 H25 (fun (r49 : Int) (r50 : Int) (r51 : ByteArray) (r52 : Bool) (r53 : Int) (H47 : Hp) => 
 ∀ H54 : Hp, H54 = Array.push H47 (.cells #[(.int .i64 0), (.int .i64 0), (.string (ByteArray.mk #[])), (.bool false)] 38) → (
 mayw H54 ⟨H47.size, 0, none⟩ 4 0 ∧ ∀ H56 : Hp, H56 = sets H54 ⟨H47.size, 0, none⟩ [(.int .i64 r49), (.int .i64 r50), (.string r51), (.bool r52)] 0 → (
 ((decide (r53 ≠ 0)) = true → (F21_2 Q X1 y4 y5 y6 y3 true H56)) ∧
 ((decide (r53 ≠ 0)) = false → (∃ x67 : Int, cell H56 ⟨H47.size, 0, none⟩ = some (.int .i64 x67) ∧ (
 ((decide (x67 ≠ 3)) = true → (F21_2 Q X1 y4 y5 y6 y3 true H56)) ∧
 ((decide (x67 ≠ 3)) = false → (∃ x71 : Bool, cell H56 (Addr.add ⟨H47.size, 0, none⟩ 3) = some (.bool x71) ∧ (
 F21_2 Q X1 y4 y5 y6 y3 (!x71) H56))))))))))))))))) ∧
 ((decide (y3 < y6)) = false → (Q true H_1))
def F21_L1 (Q : Bool → Hp → Prop) (y4 : Addr) (y5 : Sl) (y6 : Int) (y3 : Int) (H_1 : Hp) : Prop :=
  ∀ X1 : Int → Hp → Prop, (∀ (y3 : Int) (H_1 : Hp), F21_L1b Q X1 y4 y5 y6 y3 H_1 → X1 y3 H_1) → X1 y3 H_1
def F21 (p0 : Sl) (p1_0 : Sl) (p1_1 : Sl) (p1_2 : ByteArray) (p1_3 : ByteArray) (p1_4 : Int) (p1_5 : Sl) (p1_6 : Sl) (H : Hp) (Q : Bool → Hp → Prop) : Prop :=
∀ H1 : Hp, H1 = Array.push H (.cells #[(Sl.v p1_0), (Sl.v p1_1), (.string p1_2), (.string p1_3), (.int .i64 p1_4), (Sl.v p1_5), (Sl.v p1_6)] 43) → (
 F21_L1 Q ⟨H.size, 0, none⟩ p0 ((p0).n : Int) 0 H1)
set_option maxRecDepth 100000 in
set_option maxHeartbeats 4000000 in
theorem walk21 {w0 : World} {p0 : Sl} {p1_0 : Sl} {p1_1 : Sl} {p1_2 : ByteArray} {p1_3 : ByteArray} {p1_4 : Int} {p1_5 : Sl} {p1_6 : Sl} {H : Hp} {Q : Bool → Hp → Prop} (h : F21 p0 p1_0 p1_1 p1_2 p1_3 p1_4 p1_5 p1_6 H Q) :
    Good Tryd.prog w0 21 #[(Sl.v p0), (.agg #[(Sl.v p1_0), (Sl.v p1_1), (.string p1_2), (.string p1_3), (.int .i64 p1_4), (Sl.v p1_5), (Sl.v p1_6)])] H (fun v H => ∃ (r0 : Bool) , v = (.bool r0) ∧ Q r0 H) := by
  unfold F21 at h
  refine Good.enter' (fn := Tryd.f21) Tryd.func21 rfl rfl rfl ?_
  refine HW.seq ?_
  refine HW.region ?_
  refine HList.ops' rfl (HOp.box (v := (.agg #[(Sl.v p1_0), (Sl.v p1_1), (.string p1_2), (.string p1_3), (.int .i64 p1_4), (Sl.v p1_5), (Sl.v p1_6)])) rfl) ?_
  rintro _ H1 ⟨rfl, e2⟩
  replace h := h H1 e2
  refine HList.vals (v := (.bool false)) rfl (HVal.assign' rfl) ?_
  refine HList.nil ?_
  refine nt ?_
  refine HW.seq ?_
  refine HW.seq ?_
  refine HW.region ?_
  refine HList.vals (v := (Sl.v p0)) rfl (HVal.move' rfl) ?_
  refine HList.vals (v := (.int .i64 ((p0).n : Int))) rfl (HVal.len Tryd.runUnderlying39 rfl) ?_
  refine HList.vals (v := (.int .i64 0)) rfl (HVal.move' rfl) ?_
  refine HList.nil ?_
  refine nt ?_
  refine HW.block ?_
  refine HW.loop' (fun L1 hL1 => ?_)
  obtain ⟨X1, hX1⟩ : ∃ X1 : Int → Hp → Prop, ∀ (y3 : Int) (H_1 : Hp), X1 y3 H_1 ↔ ∀ ρ, Env.Is ρ [(3, (.pointer (some ⟨H.size, 0, none⟩))), (9, (Sl.v p0)), (10, (.int .i64 ((p0).n : Int))), (11, (.int .i64 y3))] → L1 ρ H_1 := ⟨_, fun _ _ => Iff.rfl⟩
  refine (hX1 _ _).1 (h X1 ?_) _ ?_
  rotate_left
  · exact ⟨rfl, rfl, rfl, rfl, trivial⟩
  clear h
  intro y3 H_1 h
  refine (hX1 _ _).2 fun ρ hI => ?_
  obtain ⟨ρ0, rfl⟩ : ∃ ρ0, ρ = (Env.set (Env.set (Env.set (Env.set ρ0 11 (.int .i64 y3)) 10 (.int .i64 ((p0).n : Int))) 9 (Sl.v p0)) 3 (.pointer (some ⟨H.size, 0, none⟩))) := ⟨ρ, hI.eq⟩
  clear hI; unfold F21_L1b at h; refine hL1 _ _ ?_
  refine HW.seq ?_
  refine HW.region ?_
  refine HList.vals (v := (.bool (decide (y3 < ((p0).n : Int))))) rfl (HVal.lss rfl rfl) ?_
  refine HList.nil ?_
  refine nt ?_
  refine HW.seq ?_
  obtain ⟨hT, hF⟩ := h
  refine HW.cond (decide (y3 < ((p0).n : Int))) rfl (fun hb7 => ?_) (fun hb7 => ?_)
  · have h := hT hb7
    clear hT hF
    refine HW.skip ?_
    refine nt ?_
    refine HW.seq ?_
    refine HW.block ?_
    refine HW.seq ?_
    refine HW.region ?_
    obtain ⟨a8, e9, b10, b11, h⟩ := h
    refine HList.vals (v := (.pointer (some (Addr.add a8 (y3.toNat * 10))))) rfl (HVal.indexAddr Tryd.runUnderlying39 Tryd.sizeOf41 (Sl.v_some rfl e9) rfl b10 b11) ?_
    obtain ⟨x13, x14, x15, x16, x17, x18, x19, x20, x21, x22, c12, h⟩ := h
    refine HList.vals (v := (.agg #[(.int .i64 x13), (.int .i64 x14), (.int .i64 x15), (.int .i64 x16), (.string x17), (.bool x18), (.string x19), (.int .i64 x20), (.string x21), (Sl.v x22)])) rfl (HVal.loadN [(.int .i64 x13), (.int .i64 x14), (.int .i64 x15), (.int .i64 x16), (.string x17), (.bool x18), (.string x19), (.int .i64 x20), (.string x21), (Sl.v x22)] Tryd.isAgg41 Tryd.sizeOf41 rfl c12) ?_
    refine HList.ops' rfl (HOp.alloc Tryd.zeroValue41) ?_
    rintro _ H23 ⟨rfl, e24⟩
    replace h := h H23 e24
    obtain ⟨z27, h⟩ := h
    refine HList.opsn (HOp.storeN' (l := [(.int .i64 x13), (.int .i64 x14), (.int .i64 x15), (.int .i64 x16), (.string x17), (.bool x18), (.string x19), (.int .i64 x20), (.string x21), (Sl.v x22)]) Tryd.sizeOf41 rfl rfl rfl z27) ?_
    rintro _ H25 e26
    replace h := h H25 e26
    refine HList.nil ?_
    refine nt ?_
    refine HW.seq ?_
    refine HW.region ?_
    obtain ⟨x29, x30, x31, x32, x33, x34, x35, x36, x37, x38, c28, h⟩ := h
    refine HList.vals (v := (.agg #[(.int .i64 x29), (.int .i64 x30), (.int .i64 x31), (.int .i64 x32), (.string x33), (.bool x34), (.string x35), (.int .i64 x36), (.string x37), (Sl.v x38)])) rfl (HVal.loadN [(.int .i64 x29), (.int .i64 x30), (.int .i64 x31), (.int .i64 x32), (.string x33), (.bool x34), (.string x35), (.int .i64 x36), (.string x37), (Sl.v x38)] Tryd.isAgg41 Tryd.sizeOf41 rfl c28) ?_
    obtain ⟨x40, x41, x42, x43, x44, x45, x46, c39, h⟩ := h
    refine HList.vals (v := (.agg #[(Sl.v x40), (Sl.v x41), (.string x42), (.string x43), (.int .i64 x44), (Sl.v x45), (Sl.v x46)])) rfl (HVal.loadN [(Sl.v x40), (Sl.v x41), (.string x42), (.string x43), (.int .i64 x44), (Sl.v x45), (Sl.v x46)] Tryd.isAgg43 Tryd.sizeOf43 rfl c39) ?_
    refine HList.ops' rfl (HOp.call' 22 [(.agg #[(.int .i64 x29), (.int .i64 x30), (.int .i64 x31), (.int .i64 x32), (.string x33), (.bool x34), (.string x35), (.int .i64 x36), (.string x37), (Sl.v x38)]), (.agg #[(Sl.v x40), (Sl.v x41), (.string x42), (.string x43), (.int .i64 x44), (Sl.v x45), (Sl.v x46)])] (cap := []) rfl rfl Tryd.call22 (walk22 h)) ?_
    rintro _ H47 ⟨r49, r50, r51, r52, r53, rfl, h⟩
    refine HList.vals (v := (.tuple #[(.agg #[(.int .i64 r49), (.int .i64 r50), (.string r51), (.bool r52)]), (.int .i64 r53)])) rfl (HVal.move' rfl) ?_
    refine HList.vals (v := (.agg #[(.int .i64 r49), (.int .i64 r50), (.string r51), (.bool r52)])) rfl (HVal.extract rfl rfl) ?_
    refine HList.vals (v := (.int .i64 r53)) rfl (HVal.extract rfl rfl) ?_
    refine HList.ops' rfl (HOp.alloc Tryd.zeroValue38) ?_
    rintro _ H54 ⟨rfl, e55⟩
    replace h := h H54 e55
    obtain ⟨z58, h⟩ := h
    refine HList.opsn (HOp.storeN' (l := [(.int .i64 r49), (.int .i64 r50), (.string r51), (.bool r52)]) Tryd.sizeOf38 rfl rfl rfl z58) ?_
    rintro _ H56 e57
    replace h := h H56 e57
    refine HList.vals (v := (.int .i64 r53)) rfl (HVal.assign' rfl) ?_
    refine HList.nil ?_
    refine nt ?_
    refine HW.cut (fun ρ H_2 => ∃ (y65 : Bool), Env.Is ρ [(3, (.pointer (some ⟨H.size, 0, none⟩))), (9, (Sl.v p0)), (10, (.int .i64 ((p0).n : Int))), (11, (.int .i64 y3)), (32, (.bool y65))] ∧ F21_2 Q X1 ⟨H.size, 0, none⟩ p0 ((p0).n : Int) y3 y65 H_2) ?_ ?_
    · refine HW.region ?_
      refine HList.vals (v := (.int .i64 r53)) rfl (HVal.move' rfl) ?_
      refine HList.vals (v := (.bool (decide (r53 ≠ 0)))) rfl (HVal.neqI rfl rfl) ?_
      refine HList.vals (v := (.bool (decide (r53 ≠ 0)))) rfl (HVal.move' rfl) ?_
      obtain ⟨hT, hF⟩ := h
      rcases Bool.eq_false_or_eq_true (decide (r53 ≠ 0)) with hb63 | hb64
      · have h := hT hb63
        clear hT hF
        refine HList.gskips rfl rfl rfl rfl (congrArg Value.bool hb63) ?_
        refine HList.gskips rfl rfl rfl rfl (congrArg Value.bool hb63) ?_
        refine HList.gskips rfl rfl rfl rfl (congrArg Value.bool hb63) ?_
        refine HList.vals (v := (.bool true)) rfl (HVal.pickT rfl hb63 rfl) ?_
        refine HList.vals (v := (.bool true)) rfl (HVal.move' rfl) ?_
        refine HList.gskips rfl rfl rfl rfl rfl ?_
        refine HList.gskips rfl rfl rfl rfl rfl ?_
        refine HList.gskips rfl rfl rfl rfl rfl ?_
        refine HList.vals (v := (.bool true)) rfl (HVal.pickT rfl rfl rfl) ?_
        refine HList.nil ?_
        refine nt ?_
        exact ⟨true, ⟨rfl, rfl, rfl, rfl, rfl, trivial⟩, h⟩
      · have h := hF hb64
        clear hT hF
        refine HList.gvals (v := (.pointer (some ⟨H47.size, 0, none⟩))) rfl rfl rfl rfl (congrArg Value.bool hb64) (HVal.fieldAddr0 Tryd.runUnderlying38 rfl rfl Tryd.sizeOf3 rfl) ?_
        obtain ⟨x67, c66, h⟩ := h
        refine HList.gvals (v := (.int .i64 x67)) rfl rfl rfl rfl (congrArg Value.bool hb64) (HVal.load1 Tryd.isAgg3 rfl c66) ?_
        refine HList.gvals (v := (.bool (decide (x67 ≠ 3)))) rfl rfl rfl rfl (congrArg Value.bool hb64) (HVal.neqI rfl rfl) ?_
        refine HList.vals (v := (.bool (decide (x67 ≠ 3)))) rfl (HVal.pickF rfl hb64 rfl) ?_
        refine HList.vals (v := (.bool (decide (x67 ≠ 3)))) rfl (HVal.move' rfl) ?_
        obtain ⟨hT, hF⟩ := h
        rcases Bool.eq_false_or_eq_true (decide (x67 ≠ 3)) with hb68 | hb69
        · have h := hT hb68
          clear hT hF
          refine HList.gskips rfl rfl rfl rfl (congrArg Value.bool hb68) ?_
          refine HList.gskips rfl rfl rfl rfl (congrArg Value.bool hb68) ?_
          refine HList.gskips rfl rfl rfl rfl (congrArg Value.bool hb68) ?_
          refine HList.vals (v := (.bool true)) rfl (HVal.pickT rfl hb68 rfl) ?_
          refine HList.nil ?_
          refine nt ?_
          exact ⟨true, ⟨rfl, rfl, rfl, rfl, rfl, trivial⟩, h⟩
        · have h := hF hb69
          clear hT hF
          refine HList.gvals (v := (.pointer (some (Addr.add ⟨H47.size, 0, none⟩ 3)))) rfl rfl rfl rfl (congrArg Value.bool hb69) (HVal.fieldAddr' Tryd.runUnderlying38 rfl rfl Tryd.sizeOf4 rfl) ?_
          obtain ⟨x71, c70, h⟩ := h
          refine HList.gvals (v := (.bool x71)) rfl rfl rfl rfl (congrArg Value.bool hb69) (HVal.load1 Tryd.isAgg4 rfl c70) ?_
          refine HList.gvals (v := (.bool (!x71))) rfl rfl rfl rfl (congrArg Value.bool hb69) (HVal.not rfl) ?_
          refine HList.vals (v := (.bool (!x71))) rfl (HVal.pickF rfl hb69 rfl) ?_
          refine HList.nil ?_
          refine nt ?_
          exact ⟨(!x71), ⟨rfl, rfl, rfl, rfl, rfl, trivial⟩, h⟩
    · rintro ρ H_2 ⟨y65, hI, h⟩
      obtain ⟨ρ0, rfl⟩ : ∃ ρ0, ρ = (Env.set (Env.set (Env.set (Env.set (Env.set ρ0 32 (.bool y65)) 11 (.int .i64 y3)) 10 (.int .i64 ((p0).n : Int))) 9 (Sl.v p0)) 3 (.pointer (some ⟨H.size, 0, none⟩))) := ⟨ρ, hI.eq⟩
      clear hI; unfold F21_2 at h
      obtain ⟨hT, hF⟩ := h
      refine HW.cond y65 rfl (fun hb72 => ?_) (fun hb72 => ?_)
      · have h := hT hb72
        clear hT hF
        refine HW.seq ?_
        refine HW.region ?_
        refine HList.vals (v := (.bool false)) rfl (HVal.assign' rfl) ?_
        refine HList.nil ?_
        refine nt ?_
        refine HW.ret ?_
        refine br ?_
        refine tr ?_
        refine tr ?_
        refine br ?_
        refine tr ?_
        exact ⟨_, resOf1 rfl Res1.t, ⟨false, rfl, h⟩⟩
      · have h := hF hb72
        clear hT hF
        refine HW.skip ?_
        refine nb ?_
        refine nt ?_
        refine HW.region ?_
        refine HList.vals (v := (.int .i64 (IntKind.i64.wrap (y3 + 1)))) rfl (HVal.add rfl rfl) ?_
        refine HList.vals (v := (.int .i64 (IntKind.i64.wrap (y3 + 1)))) rfl (HVal.move' rfl) ?_
        refine HList.nil ?_
        refine nt ?_
        exact (hX1 _ _).1 h _ ⟨rfl, rfl, rfl, rfl, trivial⟩
  · have h := hF hb7
    clear hT hF
    refine HW.exit ?_
    refine te ?_
    refine te ?_
    refine be ?_
    refine nt ?_
    refine HW.seq ?_
    refine HW.region ?_
    refine HList.vals (v := (.bool true)) rfl (HVal.assign' rfl) ?_
    refine HList.nil ?_
    refine nt ?_
    refine HW.ret ?_
    exact ⟨_, resOf1 rfl Res1.t, ⟨true, rfl, h⟩⟩

def F8 (H : Hp) (Q : Bool → Hp → Prop) : Prop :=
F16 S_a 1 S_x H (fun (r3 : Int) (r4 : Int) (r5 : Int) (r6 : Int) (r7 : ByteArray) (r8 : Bool) (r9 : ByteArray) (r10 : Int) (r11 : ByteArray) (r12 : Sl) (H1 : Hp) => 
 F16 S_b 2 S_x H1 (fun (r15 : Int) (r16 : Int) (r17 : Int) (r18 : Int) (r19 : ByteArray) (r20 : Bool) (r21 : ByteArray) (r22 : Int) (r23 : ByteArray) (r24 : Sl) (H13 : Hp) => 
 F19 2 H13 (fun (r27 : Int) (r28 : Int) (r29 : Int) (r30 : Int) (r31 : ByteArray) (r32 : Bool) (r33 : ByteArray) (r34 : Int) (r35 : ByteArray) (r36 : Sl) (H25 : Hp) => 
 F18 5 r15 r16 r17 r18 r19 r20 r21 r22 r23 r24 r27 r28 r29 r30 r31 r32 r33 r34 r35 r36 H25 (fun (r39 : Int) (r40 : Int) (r41 : Int) (r42 : Int) (r43 : ByteArray) (r44 : Bool) (r45 : ByteArray) (r46 : Int) (r47 : ByteArray) (r48 : Sl) (H37 : Hp) => 
 F18 3 r3 r4 r5 r6 r7 r8 r9 r10 r11 r12 r39 r40 r41 r42 r43 r44 r45 r46 r47 r48 H37 (fun (r51 : Int) (r52 : Int) (r53 : Int) (r54 : Int) (r55 : ByteArray) (r56 : Bool) (r57 : ByteArray) (r58 : Int) (r59 : ByteArray) (r60 : Sl) (H49 : Hp) => 
 F17 H49 (fun (r63 : Sl) (r64 : Sl) (r65 : ByteArray) (r66 : ByteArray) (r67 : Int) (r68 : Sl) (r69 : Sl) (H61 : Hp) => 
 F22 r51 r52 r53 r54 r55 r56 r57 r58 r59 r60 r63 r64 r65 r66 r67 r68 r69 H61 (fun (r72 : Int) (r73 : Int) (r74 : ByteArray) (r75 : Bool) (r76 : Int) (H70 : Hp) => 
 ∀ H77 : Hp, H77 = Array.push H70 (.cells #[(.int .i64 0), (.int .i64 0), (.string (ByteArray.mk #[])), (.bool false)] 38) → (
 mayw H77 ⟨H70.size, 0, none⟩ 4 0 ∧ ∀ H79 : Hp, H79 = sets H77 ⟨H70.size, 0, none⟩ [(.int .i64 r72), (.int .i64 r73), (.string r74), (.bool r75)] 0 → (
 F14 2 S_b 7 S_x H79 (fun (r84 : Int) (r85 : Int) (r86 : Int) (r87 : Int) (r88 : ByteArray) (r89 : Bool) (r90 : ByteArray) (r91 : Int) (r92 : ByteArray) (r93 : Sl) (H82 : Hp) => 
 F17 H82 (fun (r96 : Sl) (r97 : Sl) (r98 : ByteArray) (r99 : ByteArray) (r100 : Int) (r101 : Sl) (r102 : Sl) (H94 : Hp) => 
 F22 r84 r85 r86 r87 r88 r89 r90 r91 r92 r93 r96 r97 r98 r99 r100 r101 r102 H94 (fun (r105 : Int) (r106 : Int) (r107 : ByteArray) (r108 : Bool) (r109 : Int) (H103 : Hp) => 
 ∀ H110 : Hp, H110 = Array.push H103 (.cells #[(.int .i64 0), (.int .i64 0), (.string (ByteArray.mk #[])), (.bool false)] 38) → (
 mayw H110 ⟨H103.size, 0, none⟩ 4 0 ∧ ∀ H112 : Hp, H112 = sets H110 ⟨H103.size, 0, none⟩ [(.int .i64 r105), (.int .i64 r106), (.string r107), (.bool r108)] 0 → (
 F16 S_d 1 S_x H112 (fun (r117 : Int) (r118 : Int) (r119 : Int) (r120 : Int) (r121 : ByteArray) (r122 : Bool) (r123 : ByteArray) (r124 : Int) (r125 : ByteArray) (r126 : Sl) (H115 : Hp) => 
 F17 H115 (fun (r129 : Sl) (r130 : Sl) (r131 : ByteArray) (r132 : ByteArray) (r133 : Int) (r134 : Sl) (r135 : Sl) (H127 : Hp) => 
 F22 r117 r118 r119 r120 r121 r122 r123 r124 r125 r126 r129 r130 r131 r132 r133 r134 r135 H127 (fun (r138 : Int) (r139 : Int) (r140 : ByteArray) (r141 : Bool) (r142 : Int) (H136 : Hp) => 
 ∀ H143 : Hp, H143 = Array.push H136 (.cells #[(.int .i64 0), (.int .i64 0), (.string (ByteArray.mk #[])), (.bool false)] 38) → (
 mayw H143 ⟨H136.size, 0, none⟩ 4 0 ∧ ∀ H145 : Hp, H145 = sets H143 ⟨H136.size, 0, none⟩ [(.int .i64 r138), (.int .i64 r139), (.string r140), (.bool r141)] 0 → (
 ∃ (x149 : Int) (x150 : Int) (x151 : ByteArray) (x152 : Bool), cells H145 ⟨H70.size, 0, none⟩ [(.int .i64 x149), (.int .i64 x150), (.string x151), (.bool x152)] 0 ∧ (
 F23 23 H145 (fun (r155 : Int) (r156 : Int) (r157 : ByteArray) (r158 : Bool) (H153 : Hp) => 
 cells H153 ⟨H70.size, 0, none⟩ [(.int .i64 x149), (.int .i64 x150), (.string x151), (.bool x152)] 0 ∧ (
 ((decide (x149 = r155) && (decide (x150 = r156) && (seq x151 r157 && (x152 == r158)))) = true → (((decide (r76 = 0)) = true → (∃ (x165 : Int) (x166 : Int) (x167 : ByteArray) (x168 : Bool), cells H153 ⟨H103.size, 0, none⟩ [(.int .i64 x165), (.int .i64 x166), (.string x167), (.bool x168)] 0 ∧ (
 F23 13 H153 (fun (r171 : Int) (r172 : Int) (r173 : ByteArray) (r174 : Bool) (H169 : Hp) => 
 cells H169 ⟨H103.size, 0, none⟩ [(.int .i64 x165), (.int .i64 x166), (.string x167), (.bool x168)] 0 ∧ cells H169 ⟨H70.size, 0, none⟩ [(.int .i64 x149), (.int .i64 x150), (.string x151), (.bool x152)] 0 ∧ (
 ((decide (x165 = r171) && (decide (x166 = r172) && (seq x167 r173 && (x168 == r174)))) = true → (((decide (r109 = 0)) = true → (((decide (r142 = 110)) = true → (F17 H169 (fun (r185 : Sl) (r186 : Sl) (r187 : ByteArray) (r188 : ByteArray) (r189 : Int) (r190 : Sl) (r191 : Sl) (H183 : Hp) => 
 cells H183 ⟨H103.size, 0, none⟩ [(.int .i64 x165), (.int .i64 x166), (.string x167), (.bool x168)] 0 ∧ cells H183 ⟨H70.size, 0, none⟩ [(.int .i64 x149), (.int .i64 x150), (.string x151), (.bool x152)] 0 ∧ (
 F21 Sl.nil r185 r186 r187 r188 r189 r190 r191 H183 (fun (r196 : Bool) (H194 : Hp) => 
 cells H194 ⟨H103.size, 0, none⟩ [(.int .i64 x165), (.int .i64 x166), (.string x167), (.bool x168)] 0 ∧ cells H194 ⟨H70.size, 0, none⟩ [(.int .i64 x149), (.int .i64 x150), (.string x151), (.bool x152)] 0 ∧ (
 Q r196 H194)))))) ∧
 ((decide (r142 = 110)) = false → (Q false H169)))) ∧
 ((decide (r109 = 0)) = false → (Q false H169)))) ∧
 ((decide (x165 = r171) && (decide (x166 = r172) && (seq x167 r173 && (x168 == r174)))) = false → (Q false H169))))))) ∧
 ((decide (r76 = 0)) = false → (Q false H153)))) ∧
 ((decide (x149 = r155) && (decide (x150 = r156) && (seq x151 r157 && (x152 == r158)))) = false → (Q false H153))))))))))))))))))))))))
set_option maxRecDepth 100000 in
set_option maxHeartbeats 4000000 in
theorem walk8 {w0 : World} {H : Hp} {Q : Bool → Hp → Prop} (h : F8 H Q) :
    Good Tryd.prog w0 8 #[] H (fun v H => ∃ (r0 : Bool) , v = (.bool r0) ∧ Q r0 H) := by
  unfold F8 at h
  refine Good.enter' (fn := Tryd.f8) Tryd.func8 rfl rfl rfl ?_
  refine HW.seq ?_
  refine HW.region ?_
  refine HList.vals (v := (.bool false)) rfl (HVal.assign' rfl) ?_
  refine HList.nil ?_
  refine nt ?_
  refine HW.seq ?_
  refine HW.region ?_
  refine HList.ops' rfl (HOp.call' 16 [(.string S_a), (.int .i64 1), (.string S_x)] (cap := []) rfl rfl Tryd.call16 (walk16 h)) ?_
  rintro _ H1 ⟨r3, r4, r5, r6, r7, r8, r9, r10, r11, r12, rfl, h⟩
  refine HList.ops' rfl (HOp.call' 16 [(.string S_b), (.int .i64 2), (.string S_x)] (cap := []) rfl rfl Tryd.call16 (walk16 h)) ?_
  rintro _ H13 ⟨r15, r16, r17, r18, r19, r20, r21, r22, r23, r24, rfl, h⟩
  refine HList.ops' rfl (HOp.call' 19 [(.int .i64 2)] (cap := []) rfl rfl Tryd.call19 (walk19 h)) ?_
  rintro _ H25 ⟨r27, r28, r29, r30, r31, r32, r33, r34, r35, r36, rfl, h⟩
  refine HList.ops' rfl (HOp.call' 18 [(.int .i64 5), (.agg #[(.int .i64 r15), (.int .i64 r16), (.int .i64 r17), (.int .i64 r18), (.string r19), (.bool r20), (.string r21), (.int .i64 r22), (.string r23), (Sl.v r24)]), (.agg #[(.int .i64 r27), (.int .i64 r28), (.int .i64 r29), (.int .i64 r30), (.string r31), (.bool r32), (.string r33), (.int .i64 r34), (.string r35), (Sl.v r36)])] (cap := []) rfl rfl Tryd.call18 (walk18 h)) ?_
  rintro _ H37 ⟨r39, r40, r41, r42, r43, r44, r45, r46, r47, r48, rfl, h⟩
  refine HList.ops' rfl (HOp.call' 18 [(.int .i64 3), (.agg #[(.int .i64 r3), (.int .i64 r4), (.int .i64 r5), (.int .i64 r6), (.string r7), (.bool r8), (.string r9), (.int .i64 r10), (.string r11), (Sl.v r12)]), (.agg #[(.int .i64 r39), (.int .i64 r40), (.int .i64 r41), (.int .i64 r42), (.string r43), (.bool r44), (.string r45), (.int .i64 r46), (.string r47), (Sl.v r48)])] (cap := []) rfl rfl Tryd.call18 (walk18 h)) ?_
  rintro _ H49 ⟨r51, r52, r53, r54, r55, r56, r57, r58, r59, r60, rfl, h⟩
  refine HList.ops' rfl (HOp.call' 17 [] (cap := []) rfl rfl Tryd.call17 (walk17 h)) ?_
  rintro _ H61 ⟨r63, r64, r65, r66, r67, r68, r69, rfl, h⟩
  refine HList.ops' rfl (HOp.call' 22 [(.agg #[(.int .i64 r51), (.int .i64 r52), (.int .i64 r53), (.int .i64 r54), (.string r55), (.bool r56), (.string r57), (.int .i64 r58), (.string r59), (Sl.v r60)]), (.agg #[(Sl.v r63), (Sl.v r64), (.string r65), (.string r66), (.int .i64 r67), (Sl.v r68), (Sl.v r69)])] (cap := []) rfl rfl Tryd.call22 (walk22 h)) ?_
  rintro _ H70 ⟨r72, r73, r74, r75, r76, rfl, h⟩
  refine HList.vals (v := (.tuple #[(.agg #[(.int .i64 r72), (.int .i64 r73), (.string r74), (.bool r75)]), (.int .i64 r76)])) rfl (HVal.move' rfl) ?_
  refine HList.vals (v := (.agg #[(.int .i64 r72), (.int .i64 r73), (.string r74), (.bool r75)])) rfl (HVal.extract rfl rfl) ?_
  refine HList.vals (v := (.int .i64 r76)) rfl (HVal.extract rfl rfl) ?_
  refine HList.ops' rfl (HOp.alloc Tryd.zeroValue38) ?_
  rintro _ H77 ⟨rfl, e78⟩
  replace h := h H77 e78
  obtain ⟨z81, h⟩ := h
  refine HList.opsn (HOp.storeN' (l := [(.int .i64 r72), (.int .i64 r73), (.string r74), (.bool r75)]) Tryd.sizeOf38 rfl rfl rfl z81) ?_
  rintro _ H79 e80
  replace h := h H79 e80
  refine HList.vals (v := (.int .i64 r76)) rfl (HVal.assign' rfl) ?_
  refine HList.nil ?_
  refine nt ?_
  refine HW.seq ?_
  refine HW.region ?_
  refine HList.ops' rfl (HOp.call' 14 [(.int .i64 2), (.string S_b), (.int .i64 7), (.string S_x)] (cap := []) rfl rfl Tryd.call14 (walk14 h)) ?_
  rintro _ H82 ⟨r84, r85, r86, r87, r88, r89, r90, r91, r92, r93, rfl, h⟩
  refine HList.ops' rfl (HOp.call' 17 [] (cap := []) rfl rfl Tryd.call17 (walk17 h)) ?_
  rintro _ H94 ⟨r96, r97, r98, r99, r100, r101, r102, rfl, h⟩
  refine HList.ops' rfl (HOp.call' 22 [(.agg #[(.int .i64 r84), (.int .i64 r85), (.int .i64 r86), (.int .i64 r87), (.string r88), (.bool r89), (.string r90), (.int .i64 r91), (.string r92), (Sl.v r93)]), (.agg #[(Sl.v r96), (Sl.v r97), (.string r98), (.string r99), (.int .i64 r100), (Sl.v r101), (Sl.v r102)])] (cap := []) rfl rfl Tryd.call22 (walk22 h)) ?_
  rintro _ H103 ⟨r105, r106, r107, r108, r109, rfl, h⟩
  refine HList.vals (v := (.tuple #[(.agg #[(.int .i64 r105), (.int .i64 r106), (.string r107), (.bool r108)]), (.int .i64 r109)])) rfl (HVal.move' rfl) ?_
  refine HList.vals (v := (.agg #[(.int .i64 r105), (.int .i64 r106), (.string r107), (.bool r108)])) rfl (HVal.extract rfl rfl) ?_
  refine HList.vals (v := (.int .i64 r109)) rfl (HVal.extract rfl rfl) ?_
  refine HList.ops' rfl (HOp.alloc Tryd.zeroValue38) ?_
  rintro _ H110 ⟨rfl, e111⟩
  replace h := h H110 e111
  obtain ⟨z114, h⟩ := h
  refine HList.opsn (HOp.storeN' (l := [(.int .i64 r105), (.int .i64 r106), (.string r107), (.bool r108)]) Tryd.sizeOf38 rfl rfl rfl z114) ?_
  rintro _ H112 e113
  replace h := h H112 e113
  refine HList.vals (v := (.int .i64 r109)) rfl (HVal.assign' rfl) ?_
  refine HList.nil ?_
  refine nt ?_
  refine HW.seq ?_
  refine HW.region ?_
  refine HList.ops' rfl (HOp.call' 16 [(.string S_d), (.int .i64 1), (.string S_x)] (cap := []) rfl rfl Tryd.call16 (walk16 h)) ?_
  rintro _ H115 ⟨r117, r118, r119, r120, r121, r122, r123, r124, r125, r126, rfl, h⟩
  refine HList.ops' rfl (HOp.call' 17 [] (cap := []) rfl rfl Tryd.call17 (walk17 h)) ?_
  rintro _ H127 ⟨r129, r130, r131, r132, r133, r134, r135, rfl, h⟩
  refine HList.ops' rfl (HOp.call' 22 [(.agg #[(.int .i64 r117), (.int .i64 r118), (.int .i64 r119), (.int .i64 r120), (.string r121), (.bool r122), (.string r123), (.int .i64 r124), (.string r125), (Sl.v r126)]), (.agg #[(Sl.v r129), (Sl.v r130), (.string r131), (.string r132), (.int .i64 r133), (Sl.v r134), (Sl.v r135)])] (cap := []) rfl rfl Tryd.call22 (walk22 h)) ?_
  rintro _ H136 ⟨r138, r139, r140, r141, r142, rfl, h⟩
  refine HList.vals (v := (.tuple #[(.agg #[(.int .i64 r138), (.int .i64 r139), (.string r140), (.bool r141)]), (.int .i64 r142)])) rfl (HVal.move' rfl) ?_
  refine HList.vals (v := (.agg #[(.int .i64 r138), (.int .i64 r139), (.string r140), (.bool r141)])) rfl (HVal.extract rfl rfl) ?_
  refine HList.vals (v := (.int .i64 r142)) rfl (HVal.extract rfl rfl) ?_
  refine HList.ops' rfl (HOp.alloc Tryd.zeroValue38) ?_
  rintro _ H143 ⟨rfl, e144⟩
  replace h := h H143 e144
  obtain ⟨z147, h⟩ := h
  refine HList.opsn (HOp.storeN' (l := [(.int .i64 r138), (.int .i64 r139), (.string r140), (.bool r141)]) Tryd.sizeOf38 rfl rfl rfl z147) ?_
  rintro _ H145 e146
  replace h := h H145 e146
  refine HList.vals (v := (.int .i64 r142)) rfl (HVal.assign' rfl) ?_
  refine HList.nil ?_
  refine nt ?_
  refine HW.seq ?_
  refine HW.draw mixed [(0, some []), (1, none), (2, some []), (3, some []), (4, some []), (5, some []), (6, some []), (7, some []), (8, some []), (9, none), (10, some []), (11, some []), (12, some []), (13, some []), (14, some []), (15, some []), (16, some []), (17, some []), (18, some []), (19, some []), (20, some []), (21, none), (22, none), (23, some []), (24, some [])] rfl (by kernel_rfl) (by kernel_rfl) ?_
  obtain ⟨x149, x150, x151, x152, c148, h⟩ := h
  refine HPlan.takel (v := (.agg #[(.int .i64 x149), (.int .i64 x150), (.string x151), (.bool x152)])) (fun X => cells X ⟨H70.size, 0, none⟩ [(.int .i64 x149), (.int .i64 x150), (.string x151), (.bool x152)] 0) rfl rfl (fun _ hX => HVal.loadN [(.int .i64 x149), (.int .i64 x150), (.string x151), (.bool x152)] Tryd.isAgg38 Tryd.sizeOf38 rfl hX) c148 ?_
  refine HPlan.ops' rfl rfl (HOp.call' 23 [(.int .i64 23)] (cap := []) rfl rfl Tryd.call23 (walk23 h)) ?_
  rintro _ H153 ⟨r155, r156, r157, r158, rfl, h⟩
  obtain ⟨s159, h⟩ := h
  refine ⟨SC_of ⟨fun _ => s159, trivial⟩, ?_⟩
  refine HPlan.takev (v := (.bool (decide (x149 = r155) && (decide (x150 = r156) && (seq x151 r157 && (x152 == r158)))))) rfl rfl (fun _ => eqs38_eql rfl rfl) ?_
  refine HPlan.takev (v := (.bool (decide (x149 = r155) && (decide (x150 = r156) && (seq x151 r157 && (x152 == r158)))))) rfl rfl (fun _ => HVal.move' rfl) ?_
  obtain ⟨hT, hF⟩ := h
  rcases Bool.eq_false_or_eq_true (decide (x149 = r155) && (decide (x150 = r156) && (seq x151 r157 && (x152 == r158)))) with hb160 | hb161
  · have h := hT hb160
    clear hT hF
    refine HPlan.gtakev (v := (.int .i64 r76)) rfl rfl rfl rfl rfl (congrArg Value.bool hb160) (fun _ => HVal.move' rfl) ?_
    refine HPlan.gtakev (v := (.bool (decide (r76 = 0)))) rfl rfl rfl rfl rfl (congrArg Value.bool hb160) (fun _ => HVal.eqlI rfl rfl) ?_
    refine HPlan.takev (v := (.bool (decide (r76 = 0)))) rfl rfl (fun _ => HVal.pickT rfl hb160 rfl) ?_
    refine HPlan.takev (v := (.bool (decide (r76 = 0)))) rfl rfl (fun _ => HVal.move' rfl) ?_
    obtain ⟨hT, hF⟩ := h
    rcases Bool.eq_false_or_eq_true (decide (r76 = 0)) with hb162 | hb163
    · have h := hT hb162
      clear hT hF
      obtain ⟨x165, x166, x167, x168, c164, h⟩ := h
      refine HPlan.gtakel (v := (.agg #[(.int .i64 x165), (.int .i64 x166), (.string x167), (.bool x168)])) (fun X => cells X ⟨H103.size, 0, none⟩ [(.int .i64 x165), (.int .i64 x166), (.string x167), (.bool x168)] 0) rfl rfl rfl rfl rfl (congrArg Value.bool hb162) (fun _ hX => HVal.loadN [(.int .i64 x165), (.int .i64 x166), (.string x167), (.bool x168)] Tryd.isAgg38 Tryd.sizeOf38 rfl hX) c164 ?_
      refine HPlan.gops rfl rfl rfl rfl rfl (congrArg Value.bool hb162) (HOp.call' 23 [(.int .i64 13)] (cap := []) rfl rfl Tryd.call23 (walk23 h)) ?_
      rintro _ H169 ⟨r171, r172, r173, r174, rfl, h⟩
      obtain ⟨s175, s176, h⟩ := h
      refine ⟨SC_of ⟨fun _ => s175, fun _ => s176, trivial⟩, ?_⟩
      refine HPlan.gtakev (v := (.bool (decide (x165 = r171) && (decide (x166 = r172) && (seq x167 r173 && (x168 == r174)))))) rfl rfl rfl rfl rfl (congrArg Value.bool hb162) (fun _ => eqs38_eql rfl rfl) ?_
      refine HPlan.takev (v := (.bool (decide (x165 = r171) && (decide (x166 = r172) && (seq x167 r173 && (x168 == r174)))))) rfl rfl (fun _ => HVal.pickT rfl hb162 rfl) ?_
      refine HPlan.takev (v := (.bool (decide (x165 = r171) && (decide (x166 = r172) && (seq x167 r173 && (x168 == r174)))))) rfl rfl (fun _ => HVal.move' rfl) ?_
      obtain ⟨hT, hF⟩ := h
      rcases Bool.eq_false_or_eq_true (decide (x165 = r171) && (decide (x166 = r172) && (seq x167 r173 && (x168 == r174)))) with hb177 | hb178
      · have h := hT hb177
        clear hT hF
        refine HPlan.gtakev (v := (.int .i64 r109)) rfl rfl rfl rfl rfl (congrArg Value.bool hb177) (fun _ => HVal.move' rfl) ?_
        refine HPlan.gtakev (v := (.bool (decide (r109 = 0)))) rfl rfl rfl rfl rfl (congrArg Value.bool hb177) (fun _ => HVal.eqlI rfl rfl) ?_
        refine HPlan.takev (v := (.bool (decide (r109 = 0)))) rfl rfl (fun _ => HVal.pickT rfl hb177 rfl) ?_
        refine HPlan.takev (v := (.bool (decide (r109 = 0)))) rfl rfl (fun _ => HVal.move' rfl) ?_
        obtain ⟨hT, hF⟩ := h
        rcases Bool.eq_false_or_eq_true (decide (r109 = 0)) with hb179 | hb180
        · have h := hT hb179
          clear hT hF
          refine HPlan.gtakev (v := (.int .i64 r142)) rfl rfl rfl rfl rfl (congrArg Value.bool hb179) (fun _ => HVal.move' rfl) ?_
          refine HPlan.gtakev (v := (.bool (decide (r142 = 110)))) rfl rfl rfl rfl rfl (congrArg Value.bool hb179) (fun _ => HVal.eqlI rfl rfl) ?_
          refine HPlan.takev (v := (.bool (decide (r142 = 110)))) rfl rfl (fun _ => HVal.pickT rfl hb179 rfl) ?_
          refine HPlan.takev (v := (.bool (decide (r142 = 110)))) rfl rfl (fun _ => HVal.move' rfl) ?_
          obtain ⟨hT, hF⟩ := h
          rcases Bool.eq_false_or_eq_true (decide (r142 = 110)) with hb181 | hb182
          · have h := hT hb181
            clear hT hF
            refine HPlan.gops rfl rfl rfl rfl rfl (congrArg Value.bool hb181) (HOp.call' 17 [] (cap := []) rfl rfl Tryd.call17 (walk17 h)) ?_
            rintro _ H183 ⟨r185, r186, r187, r188, r189, r190, r191, rfl, h⟩
            obtain ⟨s192, s193, h⟩ := h
            refine ⟨SC_of ⟨fun _ => s192, fun _ => s193, trivial⟩, ?_⟩
            refine HPlan.gops rfl rfl rfl rfl rfl (congrArg Value.bool hb181) (HOp.call' 21 [(Sl.v Sl.nil), (.agg #[(Sl.v r185), (Sl.v r186), (.string r187), (.string r188), (.int .i64 r189), (Sl.v r190), (Sl.v r191)])] (cap := []) rfl rfl Tryd.call21 (walk21 h)) ?_
            rintro _ H194 ⟨r196, rfl, h⟩
            obtain ⟨s197, s198, h⟩ := h
            refine ⟨SC_of ⟨fun _ => s197, fun _ => s198, trivial⟩, ?_⟩
            refine HPlan.takev (v := (.bool r196)) rfl rfl (fun _ => HVal.pickT rfl hb181 rfl) ?_
            refine HPlan.takev (v := (.bool r196)) rfl rfl (fun _ => HVal.assign' rfl) ?_
            refine HPlan.done ?_
            refine nt ?_
            refine HW.ret ?_
            exact ⟨_, resOf1 rfl Res1.t, ⟨r196, rfl, h⟩⟩
          · have h := hF hb182
            clear hT hF
            refine HPlan.opgskip rfl rfl rfl rfl (congrArg Value.bool hb182) ?_
            refine HPlan.opgskip rfl rfl rfl rfl (congrArg Value.bool hb182) ?_
            refine HPlan.takev (v := (.bool false)) rfl rfl (fun _ => HVal.pickF rfl hb182 rfl) ?_
            refine HPlan.takev (v := (.bool false)) rfl rfl (fun _ => HVal.assign' rfl) ?_
            refine HPlan.done ?_
            refine nt ?_
            refine HW.ret ?_
            exact ⟨_, resOf1 rfl Res1.t, ⟨false, rfl, h⟩⟩
        · have h := hF hb180
          clear hT hF
          refine HPlan.takegskip rfl rfl rfl rfl (congrArg Value.bool hb180) ?_
          refine HPlan.takegskip rfl rfl rfl rfl (congrArg Value.bool hb180) ?_
          refine HPlan.takev (v := (.bool false)) rfl rfl (fun _ => HVal.pickF rfl hb180 rfl) ?_
          refine HPlan.takev (v := (.bool false)) rfl rfl (fun _ => HVal.move' rfl) ?_
          refine HPlan.opgskip rfl rfl rfl rfl rfl ?_
          refine HPlan.opgskip rfl rfl rfl rfl rfl ?_
          refine HPlan.takev (v := (.bool false)) rfl rfl (fun _ => HVal.pickF rfl rfl rfl) ?_
          refine HPlan.takev (v := (.bool false)) rfl rfl (fun _ => HVal.assign' rfl) ?_
          refine HPlan.done ?_
          refine nt ?_
          refine HW.ret ?_
          exact ⟨_, resOf1 rfl Res1.t, ⟨false, rfl, h⟩⟩
      · have h := hF hb178
        clear hT hF
        refine HPlan.takegskip rfl rfl rfl rfl (congrArg Value.bool hb178) ?_
        refine HPlan.takegskip rfl rfl rfl rfl (congrArg Value.bool hb178) ?_
        refine HPlan.takev (v := (.bool false)) rfl rfl (fun _ => HVal.pickF rfl hb178 rfl) ?_
        refine HPlan.takev (v := (.bool false)) rfl rfl (fun _ => HVal.move' rfl) ?_
        refine HPlan.takegskip rfl rfl rfl rfl rfl ?_
        refine HPlan.takegskip rfl rfl rfl rfl rfl ?_
        refine HPlan.takev (v := (.bool false)) rfl rfl (fun _ => HVal.pickF rfl rfl rfl) ?_
        refine HPlan.takev (v := (.bool false)) rfl rfl (fun _ => HVal.move' rfl) ?_
        refine HPlan.opgskip rfl rfl rfl rfl rfl ?_
        refine HPlan.opgskip rfl rfl rfl rfl rfl ?_
        refine HPlan.takev (v := (.bool false)) rfl rfl (fun _ => HVal.pickF rfl rfl rfl) ?_
        refine HPlan.takev (v := (.bool false)) rfl rfl (fun _ => HVal.assign' rfl) ?_
        refine HPlan.done ?_
        refine nt ?_
        refine HW.ret ?_
        exact ⟨_, resOf1 rfl Res1.t, ⟨false, rfl, h⟩⟩
    · have h := hF hb163
      clear hT hF
      refine HPlan.takegskip rfl rfl rfl rfl (congrArg Value.bool hb163) ?_
      refine HPlan.opgskip rfl rfl rfl rfl (congrArg Value.bool hb163) ?_
      refine HPlan.takegskip rfl rfl rfl rfl (congrArg Value.bool hb163) ?_
      refine HPlan.takev (v := (.bool false)) rfl rfl (fun _ => HVal.pickF rfl hb163 rfl) ?_
      refine HPlan.takev (v := (.bool false)) rfl rfl (fun _ => HVal.move' rfl) ?_
      refine HPlan.takegskip rfl rfl rfl rfl rfl ?_
      refine HPlan.takegskip rfl rfl rfl rfl rfl ?_
      refine HPlan.takev (v := (.bool false)) rfl rfl (fun _ => HVal.pickF rfl rfl rfl) ?_
      refine HPlan.takev (v := (.bool false)) rfl rfl (fun _ => HVal.move' rfl) ?_
      refine HPlan.takegskip rfl rfl rfl rfl rfl ?_
      refine HPlan.takegskip rfl rfl rfl rfl rfl ?_
      refine HPlan.takev (v := (.bool false)) rfl rfl (fun _ => HVal.pickF rfl rfl rfl) ?_
      refine HPlan.takev (v := (.bool false)) rfl rfl (fun _ => HVal.move' rfl) ?_
      refine HPlan.opgskip rfl rfl rfl rfl rfl ?_
      refine HPlan.opgskip rfl rfl rfl rfl rfl ?_
      refine HPlan.takev (v := (.bool false)) rfl rfl (fun _ => HVal.pickF rfl rfl rfl) ?_
      refine HPlan.takev (v := (.bool false)) rfl rfl (fun _ => HVal.assign' rfl) ?_
      refine HPlan.done ?_
      refine nt ?_
      refine HW.ret ?_
      exact ⟨_, resOf1 rfl Res1.t, ⟨false, rfl, h⟩⟩
  · have h := hF hb161
    clear hT hF
    refine HPlan.takegskip rfl rfl rfl rfl (congrArg Value.bool hb161) ?_
    refine HPlan.takegskip rfl rfl rfl rfl (congrArg Value.bool hb161) ?_
    refine HPlan.takev (v := (.bool false)) rfl rfl (fun _ => HVal.pickF rfl hb161 rfl) ?_
    refine HPlan.takev (v := (.bool false)) rfl rfl (fun _ => HVal.move' rfl) ?_
    refine HPlan.takegskip rfl rfl rfl rfl rfl ?_
    refine HPlan.opgskip rfl rfl rfl rfl rfl ?_
    refine HPlan.takegskip rfl rfl rfl rfl rfl ?_
    refine HPlan.takev (v := (.bool false)) rfl rfl (fun _ => HVal.pickF rfl rfl rfl) ?_
    refine HPlan.takev (v := (.bool false)) rfl rfl (fun _ => HVal.move' rfl) ?_
    refine HPlan.takegskip rfl rfl rfl rfl rfl ?_
    refine HPlan.takegskip rfl rfl rfl rfl rfl ?_
    refine HPlan.takev (v := (.bool false)) rfl rfl (fun _ => HVal.pickF rfl rfl rfl) ?_
    refine HPlan.takev (v := (.bool false)) rfl rfl (fun _ => HVal.move' rfl) ?_
    refine HPlan.takegskip rfl rfl rfl rfl rfl ?_
    refine HPlan.takegskip rfl rfl rfl rfl rfl ?_
    refine HPlan.takev (v := (.bool false)) rfl rfl (fun _ => HVal.pickF rfl rfl rfl) ?_
    refine HPlan.takev (v := (.bool false)) rfl rfl (fun _ => HVal.move' rfl) ?_
    refine HPlan.opgskip rfl rfl rfl rfl rfl ?_
    refine HPlan.opgskip rfl rfl rfl rfl rfl ?_
    refine HPlan.takev (v := (.bool false)) rfl rfl (fun _ => HVal.pickF rfl rfl rfl) ?_
    refine HPlan.takev (v := (.bool false)) rfl rfl (fun _ => HVal.assign' rfl) ?_
    refine HPlan.done ?_
    refine nt ?_
    refine HW.ret ?_
    exact ⟨_, resOf1 rfl Res1.t, ⟨false, rfl, h⟩⟩

def F13 (p0_0 : Int) (p0_1 : Int) (p0_2 : Int) (p0_3 : Int) (p0_4 : ByteArray) (p0_5 : Bool) (p0_6 : ByteArray) (p0_7 : Int) (p0_8 : ByteArray) (p0_9 : Sl) (p1_0 : Sl) (p1_1 : Sl) (p1_2 : ByteArray) (p1_3 : ByteArray) (p1_4 : Int) (p1_5 : Sl) (p1_6 : Sl) (p2 : Int) (H : Hp) (Q : Bool → Hp → Prop) : Prop :=
∀ H1 : Hp, H1 = Array.push H (.cells #[(.int .i64 p0_0), (.int .i64 p0_1), (.int .i64 p0_2), (.int .i64 p0_3), (.string p0_4), (.bool p0_5), (.string p0_6), (.int .i64 p0_7), (.string p0_8), (Sl.v p0_9)] 41) → (
 ∀ H3 : Hp, H3 = Array.push H1 (.cells #[(Sl.v p1_0), (Sl.v p1_1), (.string p1_2), (.string p1_3), (.int .i64 p1_4), (Sl.v p1_5), (Sl.v p1_6)] 43) → (
 ∃ (x6 : Int) (x7 : Int) (x8 : Int) (x9 : Int) (x10 : ByteArray) (x11 : Bool) (x12 : ByteArray) (x13 : Int) (x14 : ByteArray) (x15 : Sl), cells H3 ⟨H.size, 0, none⟩ [(.int .i64 x6), (.int .i64 x7), (.int .i64 x8), (.int .i64 x9), (.string x10), (.bool x11), (.string x12), (.int .i64 x13), (.string x14), (Sl.v x15)] 0 ∧ (
 ∃ (x17 : Sl) (x18 : Sl) (x19 : ByteArray) (x20 : ByteArray) (x21 : Int) (x22 : Sl) (x23 : Sl), cells H3 ⟨H1.size, 0, none⟩ [(Sl.v x17), (Sl.v x18), (.string x19), (.string x20), (.int .i64 x21), (Sl.v x22), (Sl.v x23)] 0 ∧ (
 F22 x6 x7 x8 x9 x10 x11 x12 x13 x14 x15 x17 x18 x19 x20 x21 x22 x23 H3 (fun (r26 : Int) (r27 : Int) (r28 : ByteArray) (r29 : Bool) (r30 : Int) (H24 : Hp) => 
 ∀ H31 : Hp, H31 = Array.push H24 (.cells #[(.int .i64 0), (.int .i64 0), (.string (ByteArray.mk #[])), (.bool false)] 38) → (
 mayw H31 ⟨H24.size, 0, none⟩ 4 0 ∧ ∀ H33 : Hp, H33 = sets H31 ⟨H24.size, 0, none⟩ [(.int .i64 r26), (.int .i64 r27), (.string r28), (.bool r29)] 0 → (
 ((decide (r30 = 0)) = true → (∃ (x39 : Int) (x40 : Int) (x41 : ByteArray) (x42 : Bool), cells H33 ⟨H24.size, 0, none⟩ [(.int .i64 x39), (.int .i64 x40), (.string x41), (.bool x42)] 0 ∧ (
 F23 p2 H33 (fun (r45 : Int) (r46 : Int) (r47 : ByteArray) (r48 : Bool) (H43 : Hp) => 
 cells H43 ⟨H24.size, 0, none⟩ [(.int .i64 x39), (.int .i64 x40), (.string x41), (.bool x42)] 0 ∧ (
 Q (decide (x39 = r45) && (decide (x40 = r46) && (seq x41 r47 && (x42 == r48)))) H43))))) ∧
 ((decide (r30 = 0)) = false → (Q false H33)))))))))
set_option maxRecDepth 100000 in
set_option maxHeartbeats 4000000 in
theorem walk13 {w0 : World} {p0_0 : Int} {p0_1 : Int} {p0_2 : Int} {p0_3 : Int} {p0_4 : ByteArray} {p0_5 : Bool} {p0_6 : ByteArray} {p0_7 : Int} {p0_8 : ByteArray} {p0_9 : Sl} {p1_0 : Sl} {p1_1 : Sl} {p1_2 : ByteArray} {p1_3 : ByteArray} {p1_4 : Int} {p1_5 : Sl} {p1_6 : Sl} {p2 : Int} {H : Hp} {Q : Bool → Hp → Prop} (h : F13 p0_0 p0_1 p0_2 p0_3 p0_4 p0_5 p0_6 p0_7 p0_8 p0_9 p1_0 p1_1 p1_2 p1_3 p1_4 p1_5 p1_6 p2 H Q) :
    Good Tryd.prog w0 13 #[(.agg #[(.int .i64 p0_0), (.int .i64 p0_1), (.int .i64 p0_2), (.int .i64 p0_3), (.string p0_4), (.bool p0_5), (.string p0_6), (.int .i64 p0_7), (.string p0_8), (Sl.v p0_9)]), (.agg #[(Sl.v p1_0), (Sl.v p1_1), (.string p1_2), (.string p1_3), (.int .i64 p1_4), (Sl.v p1_5), (Sl.v p1_6)]), (.int .i64 p2)] H (fun v H => ∃ (r0 : Bool) , v = (.bool r0) ∧ Q r0 H) := by
  unfold F13 at h
  refine Good.enter' (fn := Tryd.f13) Tryd.func13 rfl rfl rfl ?_
  refine HW.seq ?_
  refine HW.region ?_
  refine HList.ops' rfl (HOp.box (v := (.agg #[(.int .i64 p0_0), (.int .i64 p0_1), (.int .i64 p0_2), (.int .i64 p0_3), (.string p0_4), (.bool p0_5), (.string p0_6), (.int .i64 p0_7), (.string p0_8), (Sl.v p0_9)])) rfl) ?_
  rintro _ H1 ⟨rfl, e2⟩
  replace h := h H1 e2
  refine HList.ops' rfl (HOp.box (v := (.agg #[(Sl.v p1_0), (Sl.v p1_1), (.string p1_2), (.string p1_3), (.int .i64 p1_4), (Sl.v p1_5), (Sl.v p1_6)])) rfl) ?_
  rintro _ H3 ⟨rfl, e4⟩
  replace h := h H3 e4
  refine HList.vals (v := (.bool false)) rfl (HVal.assign' rfl) ?_
  refine HList.nil ?_
  refine nt ?_
  refine HW.seq ?_
  refine HW.region ?_
  obtain ⟨x6, x7, x8, x9, x10, x11, x12, x13, x14, x15, c5, h⟩ := h
  refine HList.vals (v := (.agg #[(.int .i64 x6), (.int .i64 x7), (.int .i64 x8), (.int .i64 x9), (.string x10), (.bool x11), (.string x12), (.int .i64 x13), (.string x14), (Sl.v x15)])) rfl (HVal.loadN [(.int .i64 x6), (.int .i64 x7), (.int .i64 x8), (.int .i64 x9), (.string x10), (.bool x11), (.string x12), (.int .i64 x13), (.string x14), (Sl.v x15)] Tryd.isAgg41 Tryd.sizeOf41 rfl c5) ?_
  obtain ⟨x17, x18, x19, x20, x21, x22, x23, c16, h⟩ := h
  refine HList.vals (v := (.agg #[(Sl.v x17), (Sl.v x18), (.string x19), (.string x20), (.int .i64 x21), (Sl.v x22), (Sl.v x23)])) rfl (HVal.loadN [(Sl.v x17), (Sl.v x18), (.string x19), (.string x20), (.int .i64 x21), (Sl.v x22), (Sl.v x23)] Tryd.isAgg43 Tryd.sizeOf43 rfl c16) ?_
  refine HList.ops' rfl (HOp.call' 22 [(.agg #[(.int .i64 x6), (.int .i64 x7), (.int .i64 x8), (.int .i64 x9), (.string x10), (.bool x11), (.string x12), (.int .i64 x13), (.string x14), (Sl.v x15)]), (.agg #[(Sl.v x17), (Sl.v x18), (.string x19), (.string x20), (.int .i64 x21), (Sl.v x22), (Sl.v x23)])] (cap := []) rfl rfl Tryd.call22 (walk22 h)) ?_
  rintro _ H24 ⟨r26, r27, r28, r29, r30, rfl, h⟩
  refine HList.vals (v := (.tuple #[(.agg #[(.int .i64 r26), (.int .i64 r27), (.string r28), (.bool r29)]), (.int .i64 r30)])) rfl (HVal.move' rfl) ?_
  refine HList.vals (v := (.agg #[(.int .i64 r26), (.int .i64 r27), (.string r28), (.bool r29)])) rfl (HVal.extract rfl rfl) ?_
  refine HList.vals (v := (.int .i64 r30)) rfl (HVal.extract rfl rfl) ?_
  refine HList.ops' rfl (HOp.alloc Tryd.zeroValue38) ?_
  rintro _ H31 ⟨rfl, e32⟩
  replace h := h H31 e32
  obtain ⟨z35, h⟩ := h
  refine HList.opsn (HOp.storeN' (l := [(.int .i64 r26), (.int .i64 r27), (.string r28), (.bool r29)]) Tryd.sizeOf38 rfl rfl rfl z35) ?_
  rintro _ H33 e34
  replace h := h H33 e34
  refine HList.vals (v := (.int .i64 r30)) rfl (HVal.assign' rfl) ?_
  refine HList.nil ?_
  refine nt ?_
  refine HW.seq ?_
  refine HW.draw mixed [(0, some []), (1, some []), (2, some []), (3, some []), (4, some []), (5, none), (6, some []), (7, some []), (8, some [])] rfl (by kernel_rfl) (by kernel_rfl) ?_
  refine HPlan.takev (v := (.int .i64 r30)) rfl rfl (fun _ => HVal.move' rfl) ?_
  refine HPlan.takev (v := (.bool (decide (r30 = 0)))) rfl rfl (fun _ => HVal.eqlI rfl rfl) ?_
  refine HPlan.takev (v := (.bool (decide (r30 = 0)))) rfl rfl (fun _ => HVal.move' rfl) ?_
  obtain ⟨hT, hF⟩ := h
  rcases Bool.eq_false_or_eq_true (decide (r30 = 0)) with hb36 | hb37
  · have h := hT hb36
    clear hT hF
    obtain ⟨x39, x40, x41, x42, c38, h⟩ := h
    refine HPlan.gtakel (v := (.agg #[(.int .i64 x39), (.int .i64 x40), (.string x41), (.bool x42)])) (fun X => cells X ⟨H24.size, 0, none⟩ [(.int .i64 x39), (.int .i64 x40), (.string x41), (.bool x42)] 0) rfl rfl rfl rfl rfl (congrArg Value.bool hb36) (fun _ hX => HVal.loadN [(.int .i64 x39), (.int .i64 x40), (.string x41), (.bool x42)] Tryd.isAgg38 Tryd.sizeOf38 rfl hX) c38 ?_
    refine HPlan.gtakev (v := (.int .i64 p2)) rfl rfl rfl rfl rfl (congrArg Value.bool hb36) (fun _ => HVal.move' rfl) ?_
    refine HPlan.gops rfl rfl rfl rfl rfl (congrArg Value.bool hb36) (HOp.call' 23 [(.int .i64 p2)] (cap := []) rfl rfl Tryd.call23 (walk23 h)) ?_
    rintro _ H43 ⟨r45, r46, r47, r48, rfl, h⟩
    obtain ⟨s49, h⟩ := h
    refine ⟨SC_of ⟨fun _ => s49, trivial⟩, ?_⟩
    refine HPlan.gtakev (v := (.bool (decide (x39 = r45) && (decide (x40 = r46) && (seq x41 r47 && (x42 == r48)))))) rfl rfl rfl rfl rfl (congrArg Value.bool hb36) (fun _ => eqs38_eql rfl rfl) ?_
    refine HPlan.takev (v := (.bool (decide (x39 = r45) && (decide (x40 = r46) && (seq x41 r47 && (x42 == r48)))))) rfl rfl (fun _ => HVal.pickT rfl hb36 rfl) ?_
    refine HPlan.takev (v := (.bool (decide (x39 = r45) && (decide (x40 = r46) && (seq x41 r47 && (x42 == r48)))))) rfl rfl (fun _ => HVal.assign' rfl) ?_
    refine HPlan.done ?_
    refine nt ?_
    refine HW.ret ?_
    exact ⟨_, resOf1 rfl Res1.t, ⟨(decide (x39 = r45) && (decide (x40 = r46) && (seq x41 r47 && (x42 == r48)))), rfl, h⟩⟩
  · have h := hF hb37
    clear hT hF
    refine HPlan.takegskip rfl rfl rfl rfl (congrArg Value.bool hb37) ?_
    refine HPlan.takegskip rfl rfl rfl rfl (congrArg Value.bool hb37) ?_
    refine HPlan.opgskip rfl rfl rfl rfl (congrArg Value.bool hb37) ?_
    refine HPlan.takegskip rfl rfl rfl rfl (congrArg Value.bool hb37) ?_
    refine HPlan.takev (v := (.bool false)) rfl rfl (fun _ => HVal.pickF rfl hb37 rfl) ?_
    refine HPlan.takev (v := (.bool false)) rfl rfl (fun _ => HVal.assign' rfl) ?_
    refine HPlan.done ?_
    refine nt ?_
    refine HW.ret ?_
    exact ⟨_, resOf1 rfl Res1.t, ⟨false, rfl, h⟩⟩

def F15 (p0_0 : Int) (p0_1 : Int) (p0_2 : Int) (p0_3 : Int) (p0_4 : ByteArray) (p0_5 : Bool) (p0_6 : ByteArray) (p0_7 : Int) (p0_8 : ByteArray) (p0_9 : Sl) (p1_0 : Sl) (p1_1 : Sl) (p1_2 : ByteArray) (p1_3 : ByteArray) (p1_4 : Int) (p1_5 : Sl) (p1_6 : Sl) (p2 : Int) (H : Hp) (Q : Bool → Hp → Prop) : Prop :=
∀ H1 : Hp, H1 = Array.push H (.cells #[(.int .i64 p0_0), (.int .i64 p0_1), (.int .i64 p0_2), (.int .i64 p0_3), (.string p0_4), (.bool p0_5), (.string p0_6), (.int .i64 p0_7), (.string p0_8), (Sl.v p0_9)] 41) → (
 ∀ H3 : Hp, H3 = Array.push H1 (.cells #[(Sl.v p1_0), (Sl.v p1_1), (.string p1_2), (.string p1_3), (.int .i64 p1_4), (Sl.v p1_5), (Sl.v p1_6)] 43) → (
 ∃ (x6 : Int) (x7 : Int) (x8 : Int) (x9 : Int) (x10 : ByteArray) (x11 : Bool) (x12 : ByteArray) (x13 : Int) (x14 : ByteArray) (x15 : Sl), cells H3 ⟨H.size, 0, none⟩ [(.int .i64 x6), (.int .i64 x7), (.int .i64 x8), (.int .i64 x9), (.string x10), (.bool x11), (.string x12), (.int .i64 x13), (.string x14), (Sl.v x15)] 0 ∧ (
 ∃ (x17 : Sl) (x18 : Sl) (x19 : ByteArray) (x20 : ByteArray) (x21 : Int) (x22 : Sl) (x23 : Sl), cells H3 ⟨H1.size, 0, none⟩ [(Sl.v x17), (Sl.v x18), (.string x19), (.string x20), (.int .i64 x21), (Sl.v x22), (Sl.v x23)] 0 ∧ (
 F22 x6 x7 x8 x9 x10 x11 x12 x13 x14 x15 x17 x18 x19 x20 x21 x22 x23 H3 (fun (r26 : Int) (r27 : Int) (r28 : ByteArray) (r29 : Bool) (r30 : Int) (H24 : Hp) => 
 ∀ H31 : Hp, H31 = Array.push H24 (.cells #[(.int .i64 0), (.int .i64 0), (.string (ByteArray.mk #[])), (.bool false)] 38) → (
 mayw H31 ⟨H24.size, 0, none⟩ 4 0 ∧ ∀ H33 : Hp, H33 = sets H31 ⟨H24.size, 0, none⟩ [(.int .i64 r26), (.int .i64 r27), (.string r28), (.bool r29)] 0 → (
 ((decide (r30 = p2)) = true → (∃ (x39 : Int) (x40 : Int) (x41 : ByteArray) (x42 : Bool), cells H33 ⟨H24.size, 0, none⟩ [(.int .i64 x39), (.int .i64 x40), (.string x41), (.bool x42)] 0 ∧ (
 Q (decide (x39 = 0) && (decide (x40 = 0) && (seq x41 (ByteArray.mk #[]) && (x42 == false)))) H33))) ∧
 ((decide (r30 = p2)) = false → (Q false H33)))))))))
set_option maxRecDepth 100000 in
set_option maxHeartbeats 4000000 in
theorem walk15 {w0 : World} {p0_0 : Int} {p0_1 : Int} {p0_2 : Int} {p0_3 : Int} {p0_4 : ByteArray} {p0_5 : Bool} {p0_6 : ByteArray} {p0_7 : Int} {p0_8 : ByteArray} {p0_9 : Sl} {p1_0 : Sl} {p1_1 : Sl} {p1_2 : ByteArray} {p1_3 : ByteArray} {p1_4 : Int} {p1_5 : Sl} {p1_6 : Sl} {p2 : Int} {H : Hp} {Q : Bool → Hp → Prop} (h : F15 p0_0 p0_1 p0_2 p0_3 p0_4 p0_5 p0_6 p0_7 p0_8 p0_9 p1_0 p1_1 p1_2 p1_3 p1_4 p1_5 p1_6 p2 H Q) :
    Good Tryd.prog w0 15 #[(.agg #[(.int .i64 p0_0), (.int .i64 p0_1), (.int .i64 p0_2), (.int .i64 p0_3), (.string p0_4), (.bool p0_5), (.string p0_6), (.int .i64 p0_7), (.string p0_8), (Sl.v p0_9)]), (.agg #[(Sl.v p1_0), (Sl.v p1_1), (.string p1_2), (.string p1_3), (.int .i64 p1_4), (Sl.v p1_5), (Sl.v p1_6)]), (.int .i64 p2)] H (fun v H => ∃ (r0 : Bool) , v = (.bool r0) ∧ Q r0 H) := by
  unfold F15 at h
  refine Good.enter' (fn := Tryd.f15) Tryd.func15 rfl rfl rfl ?_
  refine HW.seq ?_
  refine HW.region ?_
  refine HList.ops' rfl (HOp.box (v := (.agg #[(.int .i64 p0_0), (.int .i64 p0_1), (.int .i64 p0_2), (.int .i64 p0_3), (.string p0_4), (.bool p0_5), (.string p0_6), (.int .i64 p0_7), (.string p0_8), (Sl.v p0_9)])) rfl) ?_
  rintro _ H1 ⟨rfl, e2⟩
  replace h := h H1 e2
  refine HList.ops' rfl (HOp.box (v := (.agg #[(Sl.v p1_0), (Sl.v p1_1), (.string p1_2), (.string p1_3), (.int .i64 p1_4), (Sl.v p1_5), (Sl.v p1_6)])) rfl) ?_
  rintro _ H3 ⟨rfl, e4⟩
  replace h := h H3 e4
  refine HList.vals (v := (.bool false)) rfl (HVal.assign' rfl) ?_
  refine HList.nil ?_
  refine nt ?_
  refine HW.seq ?_
  refine HW.region ?_
  obtain ⟨x6, x7, x8, x9, x10, x11, x12, x13, x14, x15, c5, h⟩ := h
  refine HList.vals (v := (.agg #[(.int .i64 x6), (.int .i64 x7), (.int .i64 x8), (.int .i64 x9), (.string x10), (.bool x11), (.string x12), (.int .i64 x13), (.string x14), (Sl.v x15)])) rfl (HVal.loadN [(.int .i64 x6), (.int .i64 x7), (.int .i64 x8), (.int .i64 x9), (.string x10), (.bool x11), (.string x12), (.int .i64 x13), (.string x14), (Sl.v x15)] Tryd.isAgg41 Tryd.sizeOf41 rfl c5) ?_
  obtain ⟨x17, x18, x19, x20, x21, x22, x23, c16, h⟩ := h
  refine HList.vals (v := (.agg #[(Sl.v x17), (Sl.v x18), (.string x19), (.string x20), (.int .i64 x21), (Sl.v x22), (Sl.v x23)])) rfl (HVal.loadN [(Sl.v x17), (Sl.v x18), (.string x19), (.string x20), (.int .i64 x21), (Sl.v x22), (Sl.v x23)] Tryd.isAgg43 Tryd.sizeOf43 rfl c16) ?_
  refine HList.ops' rfl (HOp.call' 22 [(.agg #[(.int .i64 x6), (.int .i64 x7), (.int .i64 x8), (.int .i64 x9), (.string x10), (.bool x11), (.string x12), (.int .i64 x13), (.string x14), (Sl.v x15)]), (.agg #[(Sl.v x17), (Sl.v x18), (.string x19), (.string x20), (.int .i64 x21), (Sl.v x22), (Sl.v x23)])] (cap := []) rfl rfl Tryd.call22 (walk22 h)) ?_
  rintro _ H24 ⟨r26, r27, r28, r29, r30, rfl, h⟩
  refine HList.vals (v := (.tuple #[(.agg #[(.int .i64 r26), (.int .i64 r27), (.string r28), (.bool r29)]), (.int .i64 r30)])) rfl (HVal.move' rfl) ?_
  refine HList.vals (v := (.agg #[(.int .i64 r26), (.int .i64 r27), (.string r28), (.bool r29)])) rfl (HVal.extract rfl rfl) ?_
  refine HList.vals (v := (.int .i64 r30)) rfl (HVal.extract rfl rfl) ?_
  refine HList.ops' rfl (HOp.alloc Tryd.zeroValue38) ?_
  rintro _ H31 ⟨rfl, e32⟩
  replace h := h H31 e32
  obtain ⟨z35, h⟩ := h
  refine HList.opsn (HOp.storeN' (l := [(.int .i64 r26), (.int .i64 r27), (.string r28), (.bool r29)]) Tryd.sizeOf38 rfl rfl rfl z35) ?_
  rintro _ H33 e34
  replace h := h H33 e34
  refine HList.vals (v := (.int .i64 r30)) rfl (HVal.assign' rfl) ?_
  refine HList.nil ?_
  refine nt ?_
  refine HW.seq ?_
  refine HW.region ?_
  refine HList.vals (v := (.int .i64 r30)) rfl (HVal.move' rfl) ?_
  refine HList.vals (v := (.int .i64 p2)) rfl (HVal.move' rfl) ?_
  refine HList.vals (v := (.bool (decide (r30 = p2)))) rfl (HVal.eqlI rfl rfl) ?_
  refine HList.vals (v := (.bool (decide (r30 = p2)))) rfl (HVal.move' rfl) ?_
  obtain ⟨hT, hF⟩ := h
  rcases Bool.eq_false_or_eq_true (decide (r30 = p2)) with hb36 | hb37
  · have h := hT hb36
    clear hT hF
    obtain ⟨x39, x40, x41, x42, c38, h⟩ := h
    refine HList.gvals (v := (.agg #[(.int .i64 x39), (.int .i64 x40), (.string x41), (.bool x42)])) rfl rfl rfl rfl (congrArg Value.bool hb36) (HVal.loadN [(.int .i64 x39), (.int .i64 x40), (.string x41), (.bool x42)] Tryd.isAgg38 Tryd.sizeOf38 rfl c38) ?_
    refine HList.gvals (v := (.agg #[(.int .i64 0), (.int .i64 0), (.string (ByteArray.mk #[])), (.bool false)])) rfl rfl rfl rfl (congrArg Value.bool hb36) (HVal.build' (cs := [(.int .i64 0), (.int .i64 0), (.string (ByteArray.mk #[])), (.bool false)]) Tryd.runUnderlying38 Tryd.zeroValue38 places38 rfl) ?_
    refine HList.gvals (v := (.bool (decide (x39 = 0) && (decide (x40 = 0) && (seq x41 (ByteArray.mk #[]) && (x42 == false)))))) rfl rfl rfl rfl (congrArg Value.bool hb36) (eqs38_eql rfl rfl) ?_
    refine HList.vals (v := (.bool (decide (x39 = 0) && (decide (x40 = 0) && (seq x41 (ByteArray.mk #[]) && (x42 == false)))))) rfl (HVal.pickT rfl hb36 rfl) ?_
    refine HList.vals (v := (.bool (decide (x39 = 0) && (decide (x40 = 0) && (seq x41 (ByteArray.mk #[]) && (x42 == false)))))) rfl (HVal.assign' rfl) ?_
    refine HList.nil ?_
    refine nt ?_
    refine HW.ret ?_
    exact ⟨_, resOf1 rfl Res1.t, ⟨(decide (x39 = 0) && (decide (x40 = 0) && (seq x41 (ByteArray.mk #[]) && (x42 == false)))), rfl, h⟩⟩
  · have h := hF hb37
    clear hT hF
    refine HList.gskips rfl rfl rfl rfl (congrArg Value.bool hb37) ?_
    refine HList.gskips rfl rfl rfl rfl (congrArg Value.bool hb37) ?_
    refine HList.gskips rfl rfl rfl rfl (congrArg Value.bool hb37) ?_
    refine HList.vals (v := (.bool false)) rfl (HVal.pickF rfl hb37 rfl) ?_
    refine HList.vals (v := (.bool false)) rfl (HVal.assign' rfl) ?_
    refine HList.nil ?_
    refine nt ?_
    refine HW.ret ?_
    exact ⟨_, resOf1 rfl Res1.t, ⟨false, rfl, h⟩⟩

end Go.Hw
