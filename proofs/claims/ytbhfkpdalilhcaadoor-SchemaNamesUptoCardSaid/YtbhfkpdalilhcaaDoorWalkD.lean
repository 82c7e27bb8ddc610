/- The walks of this seat, printed by a program of this session (wip/tools/gen.py): of each function what it does to the heap, and that it does so. -/
import Derived.Test.YtbhfkpdalilhcaaDoorHwT
import Derived.Test.YtbhfkpdalilhcaaDoorProg
import Derived.Test.YtbhfkpdalilhcaaDoorWAux
import Derived.Test.YtbhfkpdalilhcaaDoorWalkC
set_option linter.unusedVariables false
set_option linter.unusedSimpArgs false
namespace Go.Hw
open Go Go.Proofs
def F63_1 (Q : Int → Hp → Prop) (y41 : (Option Addr)) (y42 : (Option Addr)) (y43 : Addr) (H_1 : Hp) : Prop :=
∃ x95 : Int, cell H_1 (Addr.add y43 1) = some (.int .i64 x95) ∧ (
 ((decide (x95 = 0)) = true → (Q 24 H_1)) ∧
 ((decide (x95 = 0)) = false → (F60 y41 H_1 (fun (H97 : Hp) => 
 ∃ a99 : Addr, y42 = some a99 ∧ (
 ∃ x102 : Sl, cell H97 (Addr.add a99 1) = some (Sl.v x102) ∧ (
 ∃ (x104 : ByteArray) (x105 : Int), cells H97 y43 [(.string x104), (.int .i64 x105)] 0 ∧ (
 ∀ H106 : Hp, H106 = Array.push H97 (.cells #[(.string x104), (.int .i64 x105)] 38) → (
 cell H106 (Addr.add a99 1) = some (Sl.v x102) ∧ (
 AppendF H106 38 2 24 #[(.string (ByteArray.mk #[])), (.int .i64 0)] x102 ((Sl.mk (some ⟨H97.size, 0, none⟩) 1 1)).b ((Sl.mk (some ⟨H97.size, 0, none⟩) 1 1)).n (fun (r111 : Sl) (H109 : Hp) => 
 ∃ a112 : Addr, y42 = some a112 ∧ (
 (cell H109 (Addr.add a112 1)).isSome = true ∧ frz H109 (Addr.add a112 1) = false ∧ ∀ H114 : Hp, H114 = setc H109 (Addr.add a112 1) (Sl.v r111) → (
 Q 0 H114))))))))))))
def F63_3 (Q : Int → Hp → Prop) (X2 : Int → Hp → Prop) (y58 : (Option Addr)) (y59 : (Option Addr)) (y60 : Addr) (y61 : ByteArray) (y62 : ByteArray) (y63 : ByteArray) (y64 : ByteArray) (y65 : Int) (H_3 : Hp) : Prop :=
X2 (IntKind.i64.wrap (y65 + 1)) H_3
def F63_4 (Q : Int → Hp → Prop) (X2 : Int → Hp → Prop) (y70 : (Option Addr)) (y71 : (Option Addr)) (y72 : Addr) (y73 : Int) (y74 : ByteArray) (y75 : ByteArray) (y76 : ByteArray) (y77 : ByteArray) (y78 : Int) (y88 : Bool) (H_4 : Hp) : Prop :=
(y88 = true → ((cell H_4 (Addr.add y72 1)).isSome = true ∧ frz H_4 (Addr.add y72 1) = false ∧ ∀ H90 : Hp, H90 = setc H_4 (Addr.add y72 1) (.int .i64 y73) → (
 F63_3 Q X2 y70 y71 y72 y74 y75 y76 y77 y78 H90))) ∧
 (y88 = false → (F63_3 Q X2 y70 y71 y72 y74 y75 y76 y77 y78 H_4))
def F63_L2b (Q : Int → Hp → Prop) (X2 : Int → Hp → Prop) (y50 : (Option Addr)) (y51 : (Option Addr)) (y52 : Addr) (y53 : ByteArray) (y54 : ByteArray) (y55 : ByteArray) (y56 : ByteArray) (y49 : Int) (H_2 : Hp) : Prop :=
((decide (y49 < 4)) = true → ((0 : Int) ≤ y49 ∧ y49 < (4 : Int) ∧ ∃ y66 : ByteArray, ([y53, y54, y55, y56] : List ByteArray)[y49.toNat]? = some y66 ∧ (
 F53 y49 H_2 (fun (r81 : Bool) (H79 : Hp) => 
 (r81 = true → (∃ a84 : Addr, y50 = some a84 ∧ (
 ∃ x87 : ByteArray, cell H79 (Addr.add a84 3) = some (.string x87) ∧ (
 F63_4 Q X2 y50 y51 y52 y49 y53 y54 y55 y56 y49 (seq x87 y66) H79)))) ∧
 (r81 = false → (F63_4 Q X2 y50 y51 y52 y49 y53 y54 y55 y56 y49 false H79)))))) ∧
 ((decide (y49 < 4)) = false → (F63_1 Q y50 y51 y52 H_2))
def F63_L2 (Q : Int → Hp → Prop) (y50 : (Option Addr)) (y51 : (Option Addr)) (y52 : Addr) (y53 : ByteArray) (y54 : ByteArray) (y55 : ByteArray) (y56 : ByteArray) (y49 : Int) (H_2 : Hp) : Prop :=
  ∀ X2 : Int → Hp → Prop, (∀ (y49 : Int) (H_2 : Hp), F63_L2b Q X2 y50 y51 y52 y53 y54 y55 y56 y49 H_2 → X2 y49 H_2) → X2 y49 H_2
def F63 (p0 : (Option Addr)) (p1 : (Option Addr)) (H : Hp) (Q : Int → Hp → Prop) : Prop :=
F62 p0 H (fun (r3 : Bool) (H1 : Hp) => 
 ((!r3) = true → (Q 24 H1)) ∧
 ((!r3) = false → (∃ a5 : Addr, p1 = some a5 ∧ (
 ∃ x8 : Sl, cell H1 (Addr.add a5 1) = some (Sl.v x8) ∧ (
 ((decide (((x8).n : Int) = 16)) = true → (Q 2 H1)) ∧
 ((decide (((x8).n : Int) = 16)) = false → (∃ a10 : Addr, p0 = some a10 ∧ (
 ∃ x13 : ByteArray, cell H1 (Addr.add a10 3) = some (.string x13) ∧ (
 F52 x13 H1 (fun (r16 : Bool) (H14 : Hp) => 
 ((!r16) = true → (Q 20 H14)) ∧
 ((!r16) = false → (∃ a18 : Addr, p1 = some a18 ∧ (
 ∃ x21 : Sl, cell H14 (Addr.add a18 1) = some (Sl.v x21) ∧ (
 ∃ a22 : Addr, p0 = some a22 ∧ (
 ∃ x25 : ByteArray, cell H14 (Addr.add a22 3) = some (.string x25) ∧ (
 F54 x21 x25 H14 (fun (r28 : Bool) (H26 : Hp) => 
 (r28 = true → (Q 5 H26)) ∧
 (r28 = false → (∃ a30 : Addr, p0 = some a30 ∧ (
 ∃ x33 : ByteArray, cell H26 (Addr.add a30 3) = some (.string x33) ∧ (
 ∀ H34 : Hp, H34 = Array.push H26 (.cells #[(.string (ByteArray.mk #[])), (.int .i64 0)] 38) → (
 mayw H34 ⟨H26.size, 0, none⟩ 2 0 ∧ ∀ H36 : Hp, H36 = sets H34 ⟨H26.size, 0, none⟩ [(.string x33), (.int .i64 0)] 0 → (
 F60 p0 H36 (fun (H39 : Hp) => 
 ∃ (x45 : ByteArray) (x46 : ByteArray) (x47 : ByteArray) (x48 : ByteArray), cells H39 ⟨0, 0, none⟩ [(.string x45), (.string x46), (.string x47), (.string x48)] 0 ∧ (
 F63_L2 Q p0 p1 ⟨H26.size, 0, none⟩ x45 x46 x47 x48 0 H39)))))))))))))))))))))))))
set_option maxRecDepth 100000 in
set_option maxHeartbeats 4000000 in
theorem walk63 {w0 : World} {p0 : (Option Addr)} {p1 : (Option Addr)} {H : Hp} {Q : Int → Hp → Prop} (h : F63 p0 p1 H Q) :
    Good Tryd.prog w0 63 #[(.pointer p0), (.pointer p1)] H (fun v H => ∃ (r0 : Int) , v = (.int .i64 r0) ∧ Q r0 H) := by
  unfold F63 at h
  refine Good.enter' (fn := Tryd.f63) Tryd.func63 rfl rfl rfl ?_
  refine HW.seq ?_
  refine HW.region ?_
  refine HList.vals (v := (.int .i64 0)) rfl (HVal.assign' rfl) ?_
  refine HList.nil ?_
  refine nt ?_
  refine HW.seq ?_
  refine HW.seq ?_
  refine HW.region ?_
  refine HList.vals (v := (.pointer p0)) rfl (HVal.move' rfl) ?_
  refine HList.ops' rfl (HOp.call' 62 [(.pointer p0)] (cap := []) rfl rfl Tryd.call62 (walk62 h)) ?_
  rintro _ H1 ⟨r3, rfl, h⟩
  refine HList.vals (v := (.bool (!r3))) rfl (HVal.not rfl) ?_
  refine HList.nil ?_
  refine nt ?_
  obtain ⟨hT, hF⟩ := h
  refine HW.cond (!r3) rfl (fun hb4 => ?_) (fun hb4 => ?_)
  · have h := hT hb4
    clear hT hF
    refine HW.seq ?_
    refine HW.region ?_
    refine HList.vals (v := (.int .i64 24)) rfl (HVal.assign' rfl) ?_
    refine HList.nil ?_
    refine nt ?_
    refine HW.ret ?_
    refine tr ?_
    exact ⟨_, resOf1 rfl Res1.t, ⟨24, rfl, h⟩⟩
  · have h := hF hb4
    clear hT hF
    refine HW.skip ?_
    refine nt ?_
    refine HW.seq ?_
    refine HW.block ?_
    refine HW.seq ?_
    refine HW.region ?_
    refine HList.vals (v := (.pointer p1)) rfl (HVal.move' rfl) ?_
    obtain ⟨a5, e6, h⟩ := h
    refine HList.vals (v := (.pointer (some a5))) rfl (HVal.nilCheck (congrArg Value.pointer e6)) ?_
    refine HList.vals (v := (.pointer (some (Addr.add a5 1)))) rfl (HVal.fieldAddr' Tryd.runUnderlying27 rfl rfl Tryd.sizeOf25 rfl) ?_
    obtain ⟨x8, c7, h⟩ := h
    refine HList.vals (v := (Sl.v x8)) rfl (HVal.load1 Tryd.isAgg25 rfl c7) ?_
    refine HList.vals (v := (.int .i64 ((x8).n : Int))) rfl (HVal.len Tryd.runUnderlying25 rfl) ?_
    refine HList.vals (v := (.bool (decide (((x8).n : Int) = 16)))) rfl (HVal.eqlI rfl rfl) ?_
    refine HList.vals (v := (.bool (decide (((x8).n : Int) = 16)))) rfl (HVal.assign' rfl) ?_
    refine HList.nil ?_
    refine nt ?_
    obtain ⟨hT, hF⟩ := h
    refine HW.cond (decide (((x8).n : Int) = 16)) rfl (fun hb9 => ?_) (fun hb9 => ?_)
    · have h := hT hb9
      clear hT hF
      refine HW.seq ?_
      refine HW.region ?_
      refine HList.vals (v := (.int .i64 2)) rfl (HVal.assign' rfl) ?_
      refine HList.nil ?_
      refine nt ?_
      refine HW.ret ?_
      refine br ?_
      refine tr ?_
      exact ⟨_, resOf1 rfl Res1.t, ⟨2, rfl, h⟩⟩
    · have h := hF hb9
      clear hT hF
      refine HW.seq ?_
      refine HW.region ?_
      refine HList.vals (v := (.pointer p0)) rfl (HVal.move' rfl) ?_
      obtain ⟨a10, e11, h⟩ := h
      refine HList.vals (v := (.pointer (some a10))) rfl (HVal.nilCheck (congrArg Value.pointer e11)) ?_
      refine HList.vals (v := (.pointer (some (Addr.add a10 3)))) rfl (HVal.fieldAddr' Tryd.runUnderlying89 rfl rfl Tryd.sizeOf9 rfl) ?_
      obtain ⟨x13, c12, h⟩ := h
      refine HList.vals (v := (.string x13)) rfl (HVal.load1 Tryd.isAgg9 rfl c12) ?_
      refine HList.ops' rfl (HOp.call' 52 [(.string x13)] (cap := []) rfl rfl Tryd.call52 (walk52 h)) ?_
      rintro _ H14 ⟨r16, rfl, h⟩
      refine HList.vals (v := (.bool (!r16))) rfl (HVal.not rfl) ?_
      refine HList.vals (v := (.bool (!r16))) rfl (HVal.assign' rfl) ?_
      refine HList.nil ?_
      refine nt ?_
      obtain ⟨hT, hF⟩ := h
      refine HW.cond (!r16) rfl (fun hb17 => ?_) (fun hb17 => ?_)
      · have h := hT hb17
        clear hT hF
        refine HW.seq ?_
        refine HW.region ?_
        refine HList.vals (v := (.int .i64 20)) rfl (HVal.assign' rfl) ?_
        refine HList.nil ?_
        refine nt ?_
        refine HW.ret ?_
        refine br ?_
        refine tr ?_
        exact ⟨_, resOf1 rfl Res1.t, ⟨20, rfl, h⟩⟩
      · have h := hF hb17
        clear hT hF
        refine HW.seq ?_
        refine HW.draw mixed [(0, some []), (1, some []), (2, some []), (3, some [8]), (4, some []), (5, some []), (6, some []), (7, some [8]), (8, none), (9, some [])] rfl (by kernel_rfl) (by kernel_rfl) ?_
        refine HPlan.takev (v := (.pointer p1)) rfl rfl (fun _ => HVal.move' rfl) ?_
        obtain ⟨a18, e19, h⟩ := h
        refine HPlan.takev (v := (.pointer (some a18))) rfl rfl (fun _ => HVal.nilCheck (congrArg Value.pointer e19)) ?_
        refine HPlan.takev (v := (.pointer (some (Addr.add a18 1)))) rfl rfl (fun _ => HVal.fieldAddr' Tryd.runUnderlying27 rfl rfl Tryd.sizeOf25 rfl) ?_
        obtain ⟨x21, c20, h⟩ := h
        refine HPlan.takel (v := (Sl.v x21)) (fun X => cell X (Addr.add a18 1) = some (Sl.v x21)) rfl rfl (fun _ hX => HVal.load1 Tryd.isAgg25 rfl hX) c20 ?_
        refine HPlan.takev (v := (.pointer p0)) rfl rfl (fun _ => HVal.move' rfl) ?_
        obtain ⟨a22, e23, h⟩ := h
        refine HPlan.takev (v := (.pointer (some a22))) rfl rfl (fun _ => HVal.nilCheck (congrArg Value.pointer e23)) ?_
        refine HPlan.takev (v := (.pointer (some (Addr.add a22 3)))) rfl rfl (fun _ => HVal.fieldAddr' Tryd.runUnderlying89 rfl rfl Tryd.sizeOf9 rfl) ?_
        obtain ⟨x25, c24, h⟩ := h
        refine HPlan.takel (v := (.string x25)) (fun X => cell X (Addr.add a22 3) = some (.string x25)) rfl rfl (fun _ hX => HVal.load1 Tryd.isAgg9 rfl hX) c24 ?_
        refine HPlan.ops' rfl rfl (HOp.call' 54 [(Sl.v x21), (.string x25)] (cap := []) rfl rfl Tryd.call54 (walk54 h)) ?_
        rintro _ H26 ⟨r28, rfl, h⟩
        refine ⟨SC_of ⟨fun e => absurd e (by decide), fun e => absurd e (by decide), trivial⟩, ?_⟩
        refine HPlan.takev (v := (.bool r28)) rfl rfl (fun _ => HVal.assign' rfl) ?_
        refine HPlan.done ?_
        refine nt ?_
        obtain ⟨hT, hF⟩ := h
        refine HW.cond r28 rfl (fun hb29 => ?_) (fun hb29 => ?_)
        · have h := hT hb29
          clear hT hF
          refine HW.seq ?_
          refine HW.region ?_
          refine HList.vals (v := (.int .i64 5)) rfl (HVal.assign' rfl) ?_
          refine HList.nil ?_
          refine nt ?_
          refine HW.ret ?_
          refine br ?_
          refine tr ?_
          exact ⟨_, resOf1 rfl Res1.t, ⟨5, rfl, h⟩⟩
        · have h := hF hb29
          clear hT hF
          refine HW.skip ?_
          refine nb ?_
          refine nt ?_
          refine HW.seq ?_
          refine HW.region ?_
          refine HList.vals (v := (.pointer p0)) rfl (HVal.move' rfl) ?_
          obtain ⟨a30, e31, h⟩ := h
          refine HList.vals (v := (.pointer (some a30))) rfl (HVal.nilCheck (congrArg Value.pointer e31)) ?_
          refine HList.vals (v := (.pointer (some (Addr.add a30 3)))) rfl (HVal.fieldAddr' Tryd.runUnderlying89 rfl rfl Tryd.sizeOf9 rfl) ?_
          obtain ⟨x33, c32, h⟩ := h
          refine HList.vals (v := (.string x33)) rfl (HVal.load1 Tryd.isAgg9 rfl c32) ?_
          refine HList.vals (v := (.agg #[(.string x33), (.int .i64 0)])) rfl (HVal.build' (cs := [(.string x33), (.int .i64 0)]) Tryd.runUnderlying38 Tryd.zeroValue38 places38 rfl) ?_
          refine HList.ops' rfl (HOp.alloc Tryd.zeroValue38) ?_
          rintro _ H34 ⟨rfl, e35⟩
          replace h := h H34 e35
          obtain ⟨z38, h⟩ := h
          refine HList.opsn (HOp.storeN' (l := [(.string x33), (.int .i64 0)]) Tryd.sizeOf38 rfl rfl rfl z38) ?_
          rintro _ H36 e37
          replace h := h H36 e37
          refine HList.nil ?_
          refine nt ?_
          refine HW.seq ?_
          refine HW.region ?_
          refine HList.vals (v := (.pointer p0)) rfl (HVal.move' rfl) ?_
          refine HList.ops' rfl (HOp.call' 60 [(.pointer p0)] (cap := []) rfl rfl Tryd.call60 (walk60 h)) ?_
          rintro _ H39 ⟨rfl, h⟩
          refine HList.nil ?_
          refine nt ?_
          refine HW.cut (fun ρ H_1 => Env.Is ρ [(0, (.pointer p0)), (1, (.pointer p1)), (5, (.pointer (some ⟨H26.size, 0, none⟩)))] ∧ F63_1 Q p0 p1 ⟨H26.size, 0, none⟩ H_1) ?_ ?_
          · refine HW.seq ?_
            refine HW.region ?_
            obtain ⟨x45, x46, x47, x48, c44, h⟩ := h
            refine HList.vals (v := (.agg #[(.string x45), (.string x46), (.string x47), (.string x48)])) rfl (HVal.loadN [(.string x45), (.string x46), (.string x47), (.string x48)] Tryd.isAgg49 Tryd.sizeOf49 rfl c44) ?_
            refine HList.vals (v := (.int .i64 0)) rfl (HVal.move' rfl) ?_
            refine HList.nil ?_
            refine nt ?_
            refine HW.block ?_
            refine HW.loop' (fun L2 hL2 => ?_)
            obtain ⟨X2, hX2⟩ : ∃ X2 : Int → Hp → Prop, ∀ (y49 : Int) (H_2 : Hp), X2 y49 H_2 ↔ ∀ ρ, Env.Is ρ [(0, (.pointer p0)), (1, (.pointer p1)), (5, (.pointer (some ⟨H26.size, 0, none⟩))), (42, (.agg #[(.string x45), (.string x46), (.string x47), (.string x48)])), (43, (.int .i64 y49))] → L2 ρ H_2 := ⟨_, fun _ _ => Iff.rfl⟩
            refine (hX2 _ _).1 (h X2 ?_) _ ?_
            rotate_left
            · exact ⟨rfl, rfl, rfl, rfl, rfl, trivial⟩
            clear h
            intro y49 H_2 h
            refine (hX2 _ _).2 fun ρ hI => ?_
            obtain ⟨ρ0, rfl⟩ : ∃ ρ0, ρ = (Env.set (Env.set (Env.set (Env.set (Env.set ρ0 43 (.int .i64 y49)) 42 (.agg #[(.string x45), (.string x46), (.string x47), (.string x48)])) 5 (.pointer (some ⟨H26.size, 0, none⟩))) 1 (.pointer p1)) 0 (.pointer p0)) := ⟨ρ, hI.eq⟩
            clear hI; unfold F63_L2b at h; refine hL2 _ _ ?_
            refine HW.seq ?_
            refine HW.region ?_
            refine HList.vals (v := (.bool (decide (y49 < 4)))) rfl (HVal.lss rfl rfl) ?_
            refine HList.nil ?_
            refine nt ?_
            refine HW.seq ?_
            obtain ⟨hT, hF⟩ := h
            refine HW.cond (decide (y49 < 4)) rfl (fun hb57 => ?_) (fun hb57 => ?_)
            · have h := hT hb57
              clear hT hF
              refine HW.skip ?_
              refine nt ?_
              refine HW.cut (fun ρ H_3 => Env.Is ρ [(0, (.pointer p0)), (1, (.pointer p1)), (5, (.pointer (some ⟨H26.size, 0, none⟩))), (42, (.agg #[(.string x45), (.string x46), (.string x47), (.string x48)])), (43, (.int .i64 y49))] ∧ F63_3 Q X2 p0 p1 ⟨H26.size, 0, none⟩ x45 x46 x47 x48 y49 H_3) ?_ ?_
              · refine HW.block ?_
                refine HW.seq ?_
                refine HW.region ?_
                refine HList.vals (v := (.int .i64 y49)) rfl (HVal.move' rfl) ?_
                obtain ⟨b67, b68, y66, b69, h⟩ := h
                refine HList.vals (v := (.string y66)) rfl (HVal.indexA Value.string [x45, x46, x47, x48] Tryd.runUnderlying49 Tryd.isAgg9 Tryd.sizeOf9 rfl rfl b67 b68 b69) ?_
                refine HList.vals (v := (.int .i64 y49)) rfl (HVal.assign' rfl) ?_
                refine HList.vals (v := (.string y66)) rfl (HVal.assign' rfl) ?_
                refine HList.nil ?_
                refine nt ?_
                refine HW.cut (fun ρ H_4 => ∃ (y88 : Bool), Env.Is ρ [(0, (.pointer p0)), (1, (.pointer p1)), (5, (.pointer (some ⟨H26.size, 0, none⟩))), (6, (.int .i64 y49)), (42, (.agg #[(.string x45), (.string x46), (.string x47), (.string x48)])), (43, (.int .i64 y49)), (56, (.bool y88))] ∧ F63_4 Q X2 p0 p1 ⟨H26.size, 0, none⟩ y49 x45 x46 x47 x48 y49 y88 H_4) ?_ ?_
                · refine HW.region ?_
                  refine HList.vals (v := (.int .i64 y49)) rfl (HVal.move' rfl) ?_
                  refine HList.ops' rfl (HOp.call' 53 [(.int .i64 y49)] (cap := []) rfl rfl Tryd.call53 (walk53 h)) ?_
                  rintro _ H79 ⟨r81, rfl, h⟩
                  refine HList.vals (v := (.bool r81)) rfl (HVal.move' rfl) ?_
                  obtain ⟨hT, hF⟩ := h
                  rcases Bool.eq_false_or_eq_true r81 with hb82 | hb83
                  · have h := hT hb82
                    clear hT hF
                    refine HList.gvals (v := (.pointer p0)) rfl rfl rfl rfl (congrArg Value.bool hb82) (HVal.move' rfl) ?_
                    obtain ⟨a84, e85, h⟩ := h
                    refine HList.gvals (v := (.pointer (some a84))) rfl rfl rfl rfl (congrArg Value.bool hb82) (HVal.nilCheck (congrArg Value.pointer e85)) ?_
                    refine HList.gvals (v := (.pointer (some (Addr.add a84 3)))) rfl rfl rfl rfl (congrArg Value.bool hb82) (HVal.fieldAddr' Tryd.runUnderlying89 rfl rfl Tryd.sizeOf9 rfl) ?_
                    obtain ⟨x87, c86, h⟩ := h
                    refine HList.gvals (v := (.string x87)) rfl rfl rfl rfl (congrArg Value.bool hb82) (HVal.load1 Tryd.isAgg9 rfl c86) ?_
                    refine HList.gvals (v := (.string y66)) rfl rfl rfl rfl (congrArg Value.bool hb82) (HVal.move' rfl) ?_
                    refine HList.gvals (v := (.bool (seq x87 y66))) rfl rfl rfl rfl (congrArg Value.bool hb82) (HVal.eqlS rfl rfl) ?_
                    refine HList.vals (v := (.bool (seq x87 y66))) rfl (HVal.pickT rfl hb82 rfl) ?_
                    refine HList.nil ?_
                    refine nt ?_
                    exact ⟨(seq x87 y66), ⟨rfl, rfl, rfl, rfl, rfl, rfl, rfl, trivial⟩, h⟩
                  · have h := hF hb83
                    clear hT hF
                    refine HList.gskips rfl rfl rfl rfl (congrArg Value.bool hb83) ?_
                    refine HList.gskips rfl rfl rfl rfl (congrArg Value.bool hb83) ?_
                    refine HList.gskips rfl rfl rfl rfl (congrArg Value.bool hb83) ?_
                    refine HList.gskips rfl rfl rfl rfl (congrArg Value.bool hb83) ?_
                    refine HList.gskips rfl rfl rfl rfl (congrArg Value.bool hb83) ?_
                    refine HList.gskips rfl rfl rfl rfl (congrArg Value.bool hb83) ?_
                    refine HList.vals (v := (.bool false)) rfl (HVal.pickF rfl hb83 rfl) ?_
                    refine HList.nil ?_
                    refine nt ?_
                    exact ⟨false, ⟨rfl, rfl, rfl, rfl, rfl, rfl, rfl, trivial⟩, h⟩
                · rintro ρ H_4 ⟨y88, hI, h⟩
                  obtain ⟨ρ0, rfl⟩ : ∃ ρ0, ρ = (Env.set (Env.set (Env.set (Env.set (Env.set (Env.set (Env.set ρ0 56 (.bool y88)) 43 (.int .i64 y49)) 42 (.agg #[(.string x45), (.string x46), (.string x47), (.string x48)])) 6 (.int .i64 y49)) 5 (.pointer (some ⟨H26.size, 0, none⟩))) 1 (.pointer p1)) 0 (.pointer p0)) := ⟨ρ, hI.eq⟩
                  clear hI; unfold F63_4 at h
                  obtain ⟨hT, hF⟩ := h
                  refine HW.cond y88 rfl (fun hb89 => ?_) (fun hb89 => ?_)
                  · have h := hT hb89
                    clear hT hF
                    refine HW.region ?_
                    refine HList.vals (v := (.int .i64 y49)) rfl (HVal.move' rfl) ?_
                    refine HList.vals (v := (.pointer (some (Addr.add ⟨H26.size, 0, none⟩ 1)))) rfl (HVal.fieldAddr' Tryd.runUnderlying38 rfl rfl Tryd.sizeOf3 rfl) ?_
                    obtain ⟨z92, z93, h⟩ := h
                    refine HList.opsn (HOp.store1 Tryd.sizeOf3 rfl rfl rfl z92 z93) ?_
                    rintro _ H90 e91
                    replace h := h H90 e91
                    refine HList.nil ?_
                    refine nb ?_
                    refine nt ?_
                    exact ⟨⟨rfl, rfl, rfl, rfl, rfl, trivial⟩, h⟩
                  · have h := hF hb89
                    clear hT hF
                    refine HW.skip ?_
                    refine nb ?_
                    refine nt ?_
                    exact ⟨⟨rfl, rfl, rfl, rfl, rfl, trivial⟩, h⟩
              · rintro ρ H_3 ⟨hI, h⟩
                obtain ⟨ρ0, rfl⟩ : ∃ ρ0, ρ = (Env.set (Env.set (Env.set (Env.set (Env.set ρ0 43 (.int .i64 y49)) 42 (.agg #[(.string x45), (.string x46), (.string x47), (.string x48)])) 5 (.pointer (some ⟨H26.size, 0, none⟩))) 1 (.pointer p1)) 0 (.pointer p0)) := ⟨ρ, hI.eq⟩
                clear hI; unfold F63_3 at h
                refine HW.region ?_
                refine HList.vals (v := (.int .i64 (IntKind.i64.wrap (y49 + 1)))) rfl (HVal.add rfl rfl) ?_
                refine HList.vals (v := (.int .i64 (IntKind.i64.wrap (y49 + 1)))) rfl (HVal.move' rfl) ?_
                refine HList.nil ?_
                refine nt ?_
                exact (hX2 _ _).1 h _ ⟨rfl, rfl, rfl, rfl, rfl, trivial⟩
            · have h := hF hb57
              clear hT hF
              refine HW.exit ?_
              refine te ?_
              refine te ?_
              refine be ?_
              refine nt ?_
              exact ⟨⟨rfl, rfl, rfl, trivial⟩, h⟩
          · rintro ρ H_1 ⟨hI, h⟩
            obtain ⟨ρ0, rfl⟩ : ∃ ρ0, ρ = (Env.set (Env.set (Env.set ρ0 5 (.pointer (some ⟨H26.size, 0, none⟩))) 1 (.pointer p1)) 0 (.pointer p0)) := ⟨ρ, hI.eq⟩
            clear hI; unfold F63_1 at h
            refine HW.seq ?_
            refine HW.seq ?_
            refine HW.region ?_
            refine HList.vals (v := (.pointer (some (Addr.add ⟨H26.size, 0, none⟩ 1)))) rfl (HVal.fieldAddr' Tryd.runUnderlying38 rfl rfl Tryd.sizeOf3 rfl) ?_
            obtain ⟨x95, c94, h⟩ := h
            refine HList.vals (v := (.int .i64 x95)) rfl (HVal.load1 Tryd.isAgg3 rfl c94) ?_
            refine HList.vals (v := (.bool (decide (x95 = 0)))) rfl (HVal.eqlI rfl rfl) ?_
            refine HList.nil ?_
            refine nt ?_
            obtain ⟨hT, hF⟩ := h
            refine HW.cond (decide (x95 = 0)) rfl (fun hb96 => ?_) (fun hb96 => ?_)
            · have h := hT hb96
              clear hT hF
              refine HW.seq ?_
              refine HW.region ?_
              refine HList.vals (v := (.int .i64 24)) rfl (HVal.assign' rfl) ?_
              refine HList.nil ?_
              refine nt ?_
              refine HW.ret ?_
              refine tr ?_
              exact ⟨_, resOf1 rfl Res1.t, ⟨24, rfl, h⟩⟩
            · have h := hF hb96
              clear hT hF
              refine HW.skip ?_
              refine nt ?_
              refine HW.seq ?_
              refine HW.region ?_
              refine HList.vals (v := (.pointer p0)) rfl (HVal.move' rfl) ?_
              refine HList.ops' rfl (HOp.call' 60 [(.pointer p0)] (cap := []) rfl rfl Tryd.call60 (walk60 h)) ?_
              rintro _ H97 ⟨rfl, h⟩
              refine HList.nil ?_
              refine nt ?_
              refine HW.seq ?_
              refine HW.draw mixed [(0, some []), (1, some []), (2, some []), (3, some []), (4, some [7, 10]), (5, some [6, 10]), (6, none), (7, none), (8, some []), (9, some []), (10, none)] rfl (by kernel_rfl) (by kernel_rfl) ?_
              refine HPlan.takev (v := (.pointer p1)) rfl rfl (fun _ => HVal.move' rfl) ?_
              refine HPlan.takev (v := (.pointer p1)) rfl rfl (fun _ => HVal.move' rfl) ?_
              obtain ⟨a99, e100, h⟩ := h
              refine HPlan.takev (v := (.pointer (some a99))) rfl rfl (fun _ => HVal.nilCheck (congrArg Value.pointer e100)) ?_
              refine HPlan.takev (v := (.pointer (some (Addr.add a99 1)))) rfl rfl (fun _ => HVal.fieldAddr' Tryd.runUnderlying27 rfl rfl Tryd.sizeOf25 rfl) ?_
              obtain ⟨x102, c101, h⟩ := h
              refine HPlan.takel (v := (Sl.v x102)) (fun X => cell X (Addr.add a99 1) = some (Sl.v x102)) rfl rfl (fun _ hX => HVal.load1 Tryd.isAgg25 rfl hX) c101 ?_
              obtain ⟨x104, x105, c103, h⟩ := h
              refine HPlan.takel (v := (.agg #[(.string x104), (.int .i64 x105)])) (fun X => cells X ⟨H26.size, 0, none⟩ [(.string x104), (.int .i64 x105)] 0) rfl rfl (fun _ hX => HVal.loadN [(.string x104), (.int .i64 x105)] Tryd.isAgg38 Tryd.sizeOf38 rfl hX) c103 ?_
              refine HPlan.ops' rfl rfl (HOp.buildSlice' (zs := [(.string (ByteArray.mk #[])), (.int .i64 0)]) (cs := [(.string x104), (.int .i64 x105)]) Tryd.runUnderlying25 Tryd.sizeOf38 Tryd.zeroValue38 (by decide) (by kernel_rfl) rfl (by decide)) ?_
              rintro _ H106 ⟨rfl, e107⟩
              replace h := h H106 e107
              obtain ⟨s108, h⟩ := h
              refine ⟨SC_of ⟨fun e => absurd e (by decide), fun _ => s108, trivial⟩, ?_⟩
              refine HPlan.ops' rfl rfl (HOp.append (k := 2) (b := 24) Tryd.runUnderlying25 Tryd.runUnderlying25 Tryd.typeInfo38 rfl rfl Tryd.zeroValue38 rfl rfl h) ?_
              rintro _ H109 ⟨r111, rfl, h⟩
              refine ⟨SC_of ⟨fun e => absurd e (by decide), fun e => absurd e (by decide), trivial⟩, ?_⟩
              obtain ⟨a112, e113, h⟩ := h
              refine HPlan.takev (v := (.pointer (some a112))) rfl rfl (fun _ => HVal.nilCheck (congrArg Value.pointer e113)) ?_
              refine HPlan.takev (v := (.pointer (some (Addr.add a112 1)))) rfl rfl (fun _ => HVal.fieldAddr' Tryd.runUnderlying27 rfl rfl Tryd.sizeOf25 rfl) ?_
              obtain ⟨z116, z117, h⟩ := h
              refine HPlan.opsn rfl (HOp.store1 Tryd.sizeOf25 rfl rfl rfl z116 z117) ?_
              rintro _ H114 e115
              replace h := h H114 e115
              refine ⟨SC_of ⟨fun e => absurd e (by decide), fun e => absurd e (by decide), trivial⟩, ?_⟩
              refine HPlan.done ?_
              refine nt ?_
              refine HW.seq ?_
              refine HW.region ?_
              refine HList.vals (v := (.int .i64 0)) rfl (HVal.assign' rfl) ?_
              refine HList.nil ?_
              refine nt ?_
              refine HW.ret ?_
              exact ⟨_, resOf1 rfl Res1.t, ⟨0, rfl, h⟩⟩

def F31_2 (Q : Int → Hp → Prop) (y39 : (Option Addr)) (H_2 : Hp) : Prop :=
F60 y39 H_2 (fun (H64 : Hp) => 
 F64 y39 H64 (fun (r68 : Bool) (H66 : Hp) => 
 ((!r68) = true → (Q 24 H66)) ∧
 ((!r68) = false → (Q 0 H66))))
def F31_4 (Q : Int → Hp → Prop) (X3 : Hp → Prop) (y47 : (Option Addr)) (y48 : (Option Addr)) (y58 : Bool) (H_4 : Hp) : Prop :=
(y58 = true → (Q 24 H_4)) ∧
 (y58 = false → (F63 y47 y48 H_4 (fun (r62 : Int) (H60 : Hp) => 
 ((decide (r62 ≠ 0)) = true → (Q r62 H60)) ∧
 ((decide (r62 ≠ 0)) = false → (X3 H60)))))
def F31_L3b (Q : Int → Hp → Prop) (X3 : Hp → Prop) (y40 : (Option Addr)) (y41 : (Option Addr)) (H_3 : Hp) : Prop :=
∃ a42 : Addr, y40 = some a42 ∧ (
 ∃ x45 : ByteArray, cell H_3 (Addr.add a42 3) = some (.string x45) ∧ (
 ((!(seq x45 S___)) = true → (∃ a49 : Addr, y41 = some a49 ∧ (
 ∃ x52 : Sl, cell H_3 (Addr.add a49 1) = some (Sl.v x52) ∧ (
 ((decide ((0 : Int) < ((x52).n : Int))) = true → (F61 y40 S____ H_3 (fun (r57 : Bool) (H55 : Hp) => 
 F31_4 Q X3 y40 y41 (!r57) H55))) ∧
 ((decide ((0 : Int) < ((x52).n : Int))) = false → (F31_4 Q X3 y40 y41 false H_3)))))) ∧
 ((!(seq x45 S___)) = false → (F31_2 Q y40 H_3))))
def F31_L3 (Q : Int → Hp → Prop) (y40 : (Option Addr)) (y41 : (Option Addr)) (H_3 : Hp) : Prop :=
  ∀ X3 : Hp → Prop, (∀ (H_3 : Hp), F31_L3b Q X3 y40 y41 H_3 → X3 H_3) → X3 H_3
def F31_1 (Q : Int → Hp → Prop) (y3 : (Option Addr)) (y4 : (Option Addr)) (y10 : Bool) (H_1 : Hp) : Prop :=
(y10 = true → (Q 24 H_1)) ∧
 (y10 = false → (∃ a15 : Addr, y3 = some a15 ∧ (
 ∃ x18 : ByteArray, cell H_1 (Addr.add a15 3) = some (.string x18) ∧ (
 F17 x18 H_1 (fun (r21 : Bool) (H19 : Hp) => 
 ((!r21) = true → (Q 20 H19)) ∧
 ((!r21) = false → (∃ a23 : Addr, y3 = some a23 ∧ (
 ∃ x26 : ByteArray, cell H19 (Addr.add a23 3) = some (.string x26) ∧ (
 ∃ a27 : Addr, y4 = some a27 ∧ (
 (cell H19 a27).isSome = true ∧ frz H19 a27 = false ∧ ∀ H29 : Hp, H29 = setc H19 a27 (.string x26) → (
 F60 y3 H29 (fun (H33 : Hp) => 
 F61 y3 S__ H33 (fun (r37 : Bool) (H35 : Hp) => 
 ((!r37) = true → (Q 24 H35)) ∧
 ((!r37) = false → (F31_L3 Q y3 y4 H35)))))))))))))))
def F31 (p0 : (Option Addr)) (p1 : (Option Addr)) (H : Hp) (Q : Int → Hp → Prop) : Prop :=
F60 p0 H (fun (H1 : Hp) => 
 F61 p0 S_TYPE H1 (fun (r7 : Bool) (H5 : Hp) => 
 ((!r7) = true → (F31_1 Q p0 p1 true H5)) ∧
 ((!r7) = false → (F62 p0 H5 (fun (r13 : Bool) (H11 : Hp) => 
 F31_1 Q p0 p1 (!r13) H11)))))
set_option maxRecDepth 100000 in
set_option maxHeartbeats 4000000 in
theorem walk31 {w0 : World} {p0 : (Option Addr)} {p1 : (Option Addr)} {H : Hp} {Q : Int → Hp → Prop} (h : F31 p0 p1 H Q) :
    Good Tryd.prog w0 31 #[(.pointer p0), (.pointer p1)] H (fun v H => ∃ (r0 : Int) , v = (.int .i64 r0) ∧ Q r0 H) := by
  unfold F31 at h
  refine Good.enter' (fn := Tryd.f31) Tryd.func31 rfl rfl rfl ?_
  refine HW.seq ?_
  refine HW.region ?_
  refine HList.vals (v := (.int .i64 0)) rfl (HVal.assign' rfl) ?_
  refine HList.nil ?_
  refine nt ?_
  refine HW.seq ?_
  refine HW.region ?_
  refine HList.vals (v := (.pointer p0)) rfl (HVal.move' rfl) ?_
  refine HList.ops' rfl (HOp.call' 60 [(.pointer p0)] (cap := []) rfl rfl Tryd.call60 (walk60 h)) ?_
  rintro _ H1 ⟨rfl, h⟩
  refine HList.nil ?_
  refine nt ?_
  refine HW.seq ?_
  refine HW.cut (fun ρ H_1 => ∃ (y10 : Bool), Env.Is ρ [(0, (.pointer p0)), (1, (.pointer p1)), (15, (.bool y10))] ∧ F31_1 Q p0 p1 y10 H_1) ?_ ?_
  · refine HW.region ?_
    refine HList.vals (v := (.pointer p0)) rfl (HVal.move' rfl) ?_
    refine HList.ops' rfl (HOp.call' 61 [(.pointer p0), (.string S_TYPE)] (cap := []) rfl rfl Tryd.call61 (walk61 h)) ?_
    rintro _ H5 ⟨r7, rfl, h⟩
    refine HList.vals (v := (.bool (!r7))) rfl (HVal.not rfl) ?_
    refine HList.vals (v := (.bool (!r7))) rfl (HVal.move' rfl) ?_
    obtain ⟨hT, hF⟩ := h
    rcases Bool.eq_false_or_eq_true (!r7) with hb8 | hb9
    · have h := hT hb8
      clear hT hF
      refine HList.gskips rfl rfl rfl rfl (congrArg Value.bool hb8) ?_
      refine HList.gskips rfl rfl rfl rfl (congrArg Value.bool hb8) ?_
      refine HList.gskips rfl rfl rfl rfl (congrArg Value.bool hb8) ?_
      refine HList.vals (v := (.bool true)) rfl (HVal.pickT rfl hb8 rfl) ?_
      refine HList.nil ?_
      refine nt ?_
      exact ⟨true, ⟨rfl, rfl, rfl, trivial⟩, h⟩
    · have h := hF hb9
      clear hT hF
      refine HList.gvals (v := (.pointer p0)) rfl rfl rfl rfl (congrArg Value.bool hb9) (HVal.move' rfl) ?_
      refine HList.gops rfl rfl rfl rfl (congrArg Value.bool hb9) (HOp.call' 62 [(.pointer p0)] (cap := []) rfl rfl Tryd.call62 (walk62 h)) ?_
      rintro _ H11 ⟨r13, rfl, h⟩
      refine HList.gvals (v := (.bool (!r13))) rfl rfl rfl rfl (congrArg Value.bool hb9) (HVal.not rfl) ?_
      refine HList.vals (v := (.bool (!r13))) rfl (HVal.pickF rfl hb9 rfl) ?_
      refine HList.nil ?_
      refine nt ?_
      exact ⟨(!r13), ⟨rfl, rfl, rfl, trivial⟩, h⟩
  · rintro ρ H_1 ⟨y10, hI, h⟩
    obtain ⟨ρ0, rfl⟩ : ∃ ρ0, ρ = (Env.set (Env.set (Env.set ρ0 15 (.bool y10)) 1 (.pointer p1)) 0 (.pointer p0)) := ⟨ρ, hI.eq⟩
    clear hI; unfold F31_1 at h
    obtain ⟨hT, hF⟩ := h
    refine HW.cond y10 rfl (fun hb14 => ?_) (fun hb14 => ?_)
    · have h := hT hb14
      clear hT hF
      refine HW.seq ?_
      refine HW.region ?_
      refine HList.vals (v := (.int .i64 24)) rfl (HVal.assign' rfl) ?_
      refine HList.nil ?_
      refine nt ?_
      refine HW.ret ?_
      refine tr ?_
      exact ⟨_, resOf1 rfl Res1.t, ⟨24, rfl, h⟩⟩
    · have h := hF hb14
      clear hT hF
      refine HW.skip ?_
      refine nt ?_
      refine HW.seq ?_
      refine HW.seq ?_
      refine HW.region ?_
      refine HList.vals (v := (.pointer p0)) rfl (HVal.move' rfl) ?_
      obtain ⟨a15, e16, h⟩ := h
      refine HList.vals (v := (.pointer (some a15))) rfl (HVal.nilCheck (congrArg Value.pointer e16)) ?_
      refine HList.vals (v := (.pointer (some (Addr.add a15 3)))) rfl (HVal.fieldAddr' Tryd.runUnderlying89 rfl rfl Tryd.sizeOf9 rfl) ?_
      obtain ⟨x18, c17, h⟩ := h
      refine HList.vals (v := (.string x18)) rfl (HVal.load1 Tryd.isAgg9 rfl c17) ?_
      refine HList.ops' rfl (HOp.call' 17 [(.string x18)] (cap := []) rfl rfl Tryd.call17 (walk17 h)) ?_
      rintro _ H19 ⟨r21, rfl, h⟩
      refine HList.vals (v := (.bool (!r21))) rfl (HVal.not rfl) ?_
      refine HList.nil ?_
      refine nt ?_
      obtain ⟨hT, hF⟩ := h
      refine HW.cond (!r21) rfl (fun hb22 => ?_) (fun hb22 => ?_)
      · have h := hT hb22
        clear hT hF
        refine HW.seq ?_
        refine HW.region ?_
        refine HList.vals (v := (.int .i64 20)) rfl (HVal.assign' rfl) ?_
        refine HList.nil ?_
        refine nt ?_
        refine HW.ret ?_
        refine tr ?_
        exact ⟨_, resOf1 rfl Res1.t, ⟨20, rfl, h⟩⟩
      · have h := hF hb22
        clear hT hF
        refine HW.skip ?_
        refine nt ?_
        refine HW.seq ?_
        refine HW.region ?_
        refine HList.vals (v := (.pointer p1)) rfl (HVal.move' rfl) ?_
        refine HList.vals (v := (.pointer p0)) rfl (HVal.move' rfl) ?_
        obtain ⟨a23, e24, h⟩ := h
        refine HList.vals (v := (.pointer (some a23))) rfl (HVal.nilCheck (congrArg Value.pointer e24)) ?_
        refine HList.vals (v := (.pointer (some (Addr.add a23 3)))) rfl (HVal.fieldAddr' Tryd.runUnderlying89 rfl rfl Tryd.sizeOf9 rfl) ?_
        obtain ⟨x26, c25, h⟩ := h
        refine HList.vals (v := (.string x26)) rfl (HVal.load1 Tryd.isAgg9 rfl c25) ?_
        obtain ⟨a27, e28, h⟩ := h
        refine HList.vals (v := (.pointer (some a27))) rfl (HVal.nilCheck (congrArg Value.pointer e28)) ?_
        refine HList.vals (v := (.pointer (some a27))) rfl (HVal.fieldAddr0 Tryd.runUnderlying27 rfl rfl Tryd.sizeOf9 rfl) ?_
        obtain ⟨z31, z32, h⟩ := h
        refine HList.opsn (HOp.store1 Tryd.sizeOf9 rfl rfl rfl z31 z32) ?_
        rintro _ H29 e30
        replace h := h H29 e30
        refine HList.nil ?_
        refine nt ?_
        refine HW.seq ?_
        refine HW.region ?_
        refine HList.vals (v := (.pointer p0)) rfl (HVal.move' rfl) ?_
        refine HList.ops' rfl (HOp.call' 60 [(.pointer p0)] (cap := []) rfl rfl Tryd.call60 (walk60 h)) ?_
        rintro _ H33 ⟨rfl, h⟩
        refine HList.nil ?_
        refine nt ?_
        refine HW.seq ?_
        refine HW.seq ?_
        refine HW.region ?_
        refine HList.vals (v := (.pointer p0)) rfl (HVal.move' rfl) ?_
        refine HList.ops' rfl (HOp.call' 61 [(.pointer p0), (.string S__)] (cap := []) rfl rfl Tryd.call61 (walk61 h)) ?_
        rintro _ H35 ⟨r37, rfl, h⟩
        refine HList.vals (v := (.bool (!r37))) rfl (HVal.not rfl) ?_
        refine HList.nil ?_
        refine nt ?_
        obtain ⟨hT, hF⟩ := h
        refine HW.cond (!r37) rfl (fun hb38 => ?_) (fun hb38 => ?_)
        · have h := hT hb38
          clear hT hF
          refine HW.seq ?_
          refine HW.region ?_
          refine HList.vals (v := (.int .i64 24)) rfl (HVal.assign' rfl) ?_
          refine HList.nil ?_
          refine nt ?_
          refine HW.ret ?_
          refine tr ?_
          exact ⟨_, resOf1 rfl Res1.t, ⟨24, rfl, h⟩⟩
        · have h := hF hb38
          clear hT hF
          refine HW.skip ?_
          refine nt ?_
          refine HW.cut (fun ρ H_2 => Env.Is ρ [(0, (.pointer p0))] ∧ F31_2 Q p0 H_2) ?_ ?_
          · refine HW.block ?_
            refine HW.loop' (fun L3 hL3 => ?_)
            obtain ⟨X3, hX3⟩ : ∃ X3 : Hp → Prop, ∀ (H_3 : Hp), X3 H_3 ↔ ∀ ρ, Env.Is ρ [(0, (.pointer p0)), (1, (.pointer p1))] → L3 ρ H_3 := ⟨_, fun _ => Iff.rfl⟩
            refine (hX3 _).1 (h X3 ?_) _ ?_
            rotate_left
            · exact ⟨rfl, rfl, trivial⟩
            clear h
            intro H_3 h
            refine (hX3 _).2 fun ρ hI => ?_
            obtain ⟨ρ0, rfl⟩ : ∃ ρ0, ρ = (Env.set (Env.set ρ0 1 (.pointer p1)) 0 (.pointer p0)) := ⟨ρ, hI.eq⟩
            clear hI; unfold F31_L3b at h; refine hL3 _ _ ?_
            refine HW.seq ?_
            refine HW.seq ?_
            refine HW.region ?_
            refine HList.vals (v := (.pointer p0)) rfl (HVal.move' rfl) ?_
            obtain ⟨a42, e43, h⟩ := h
            refine HList.vals (v := (.pointer (some a42))) rfl (HVal.nilCheck (congrArg Value.pointer e43)) ?_
            refine HList.vals (v := (.pointer (some (Addr.add a42 3)))) rfl (HVal.fieldAddr' Tryd.runUnderlying89 rfl rfl Tryd.sizeOf9 rfl) ?_
            obtain ⟨x45, c44, h⟩ := h
            refine HList.vals (v := (.string x45)) rfl (HVal.load1 Tryd.isAgg9 rfl c44) ?_
            refine HList.vals (v := (.bool (!(seq x45 S___)))) rfl (HVal.neqS rfl rfl) ?_
            refine HList.nil ?_
            refine nt ?_
            obtain ⟨hT, hF⟩ := h
            refine HW.cond (!(seq x45 S___)) rfl (fun hb46 => ?_) (fun hb46 => ?_)
            · have h := hT hb46
              clear hT hF
              refine HW.skip ?_
              refine nt ?_
              refine HW.block ?_
              refine HW.seq ?_
              refine HW.cut (fun ρ H_4 => ∃ (y58 : Bool), Env.Is ρ [(0, (.pointer p0)), (1, (.pointer p1)), (49, (.bool y58))] ∧ F31_4 Q X3 p0 p1 y58 H_4) ?_ ?_
              · refine HW.region ?_
                refine HList.vals (v := (.pointer p1)) rfl (HVal.move' rfl) ?_
                obtain ⟨a49, e50, h⟩ := h
                refine HList.vals (v := (.pointer (some a49))) rfl (HVal.nilCheck (congrArg Value.pointer e50)) ?_
                refine HList.vals (v := (.pointer (some (Addr.add a49 1)))) rfl (HVal.fieldAddr' Tryd.runUnderlying27 rfl rfl Tryd.sizeOf25 rfl) ?_
                obtain ⟨x52, c51, h⟩ := h
                refine HList.vals (v := (Sl.v x52)) rfl (HVal.load1 Tryd.isAgg25 rfl c51) ?_
                refine HList.vals (v := (.int .i64 ((x52).n : Int))) rfl (HVal.len Tryd.runUnderlying25 rfl) ?_
                refine HList.vals (v := (.bool (decide ((0 : Int) < ((x52).n : Int))))) rfl (HVal.gtr rfl rfl) ?_
                refine HList.vals (v := (.bool (decide ((0 : Int) < ((x52).n : Int))))) rfl (HVal.move' rfl) ?_
                obtain ⟨hT, hF⟩ := h
                rcases Bool.eq_false_or_eq_true (decide ((0 : Int) < ((x52).n : Int))) with hb53 | hb54
                · have h := hT hb53
                  clear hT hF
                  refine HList.gvals (v := (.pointer p0)) rfl rfl rfl rfl (congrArg Value.bool hb53) (HVal.move' rfl) ?_
                  refine HList.gops rfl rfl rfl rfl (congrArg Value.bool hb53) (HOp.call' 61 [(.pointer p0), (.string S____)] (cap := []) rfl rfl Tryd.call61 (walk61 h)) ?_
                  rintro _ H55 ⟨r57, rfl, h⟩
                  refine HList.gvals (v := (.bool (!r57))) rfl rfl rfl rfl (congrArg Value.bool hb53) (HVal.not rfl) ?_
                  refine HList.vals (v := (.bool (!r57))) rfl (HVal.pickT rfl hb53 rfl) ?_
                  refine HList.nil ?_
                  refine nt ?_
                  exact ⟨(!r57), ⟨rfl, rfl, rfl, trivial⟩, h⟩
                · have h := hF hb54
                  clear hT hF
                  refine HList.gskips rfl rfl rfl rfl (congrArg Value.bool hb54) ?_
                  refine HList.gskips rfl rfl rfl rfl (congrArg Value.bool hb54) ?_
                  refine HList.gskips rfl rfl rfl rfl (congrArg Value.bool hb54) ?_
                  refine HList.vals (v := (.bool false)) rfl (HVal.pickF rfl hb54 rfl) ?_
                  refine HList.nil ?_
                  refine nt ?_
                  exact ⟨false, ⟨rfl, rfl, rfl, trivial⟩, h⟩
              · rintro ρ H_4 ⟨y58, hI, h⟩
                obtain ⟨ρ0, rfl⟩ : ∃ ρ0, ρ = (Env.set (Env.set (Env.set ρ0 49 (.bool y58)) 1 (.pointer p1)) 0 (.pointer p0)) := ⟨ρ, hI.eq⟩
                clear hI; unfold F31_4 at h
                obtain ⟨hT, hF⟩ := h
                refine HW.cond y58 rfl (fun hb59 => ?_) (fun hb59 => ?_)
                · have h := hT hb59
                  clear hT hF
                  refine HW.seq ?_
                  refine HW.region ?_
                  refine HList.vals (v := (.int .i64 24)) rfl (HVal.assign' rfl) ?_
                  refine HList.nil ?_
                  refine nt ?_
                  refine HW.ret ?_
                  refine tr ?_
                  refine br ?_
                  refine tr ?_
                  refine br ?_
                  refine tr ?_
                  exact ⟨_, resOf1 rfl Res1.t, ⟨24, rfl, h⟩⟩
                · have h := hF hb59
                  clear hT hF
                  refine HW.skip ?_
                  refine nt ?_
                  refine HW.seq ?_
                  refine HW.region ?_
                  refine HList.vals (v := (.pointer p0)) rfl (HVal.move' rfl) ?_
                  refine HList.vals (v := (.pointer p1)) rfl (HVal.move' rfl) ?_
                  refine HList.ops' rfl (HOp.call' 63 [(.pointer p0), (.pointer p1)] (cap := []) rfl rfl Tryd.call63 (walk63 h)) ?_
                  rintro _ H60 ⟨r62, rfl, h⟩
                  refine HList.vals (v := (.int .i64 r62)) rfl (HVal.assign' rfl) ?_
                  refine HList.nil ?_
                  refine nt ?_
                  refine HW.seq ?_
                  refine HW.region ?_
                  refine HList.vals (v := (.int .i64 r62)) rfl (HVal.move' rfl) ?_
                  refine HList.vals (v := (.bool (decide (r62 ≠ 0)))) rfl (HVal.neqI rfl rfl) ?_
                  refine HList.nil ?_
                  refine nt ?_
                  obtain ⟨hT, hF⟩ := h
                  refine HW.cond (decide (r62 ≠ 0)) rfl (fun hb63 => ?_) (fun hb63 => ?_)
                  · have h := hT hb63
                    clear hT hF
                    refine HW.seq ?_
                    refine HW.region ?_
                    refine HList.vals (v := (.int .i64 r62)) rfl (HVal.move' rfl) ?_
                    refine HList.vals (v := (.int .i64 r62)) rfl (HVal.assign' rfl) ?_
                    refine HList.nil ?_
                    refine nt ?_
                    refine HW.ret ?_
                    refine br ?_
                    refine tr ?_
                    refine br ?_
                    refine tr ?_
                    exact ⟨_, resOf1 rfl Res1.t, ⟨r62, rfl, h⟩⟩
                  · have h := hF hb63
                    clear hT hF
                    refine HW.skip ?_
                    refine nb ?_
                    refine nt ?_
                    exact (hX3 _).1 h _ ⟨rfl, rfl, trivial⟩
            · have h := hF hb46
              clear hT hF
              refine HW.exit ?_
              refine te ?_
              refine te ?_
              refine be ?_
              refine nt ?_
              exact ⟨⟨rfl, trivial⟩, h⟩
          · rintro ρ H_2 ⟨hI, h⟩
            obtain ⟨ρ0, rfl⟩ : ∃ ρ0, ρ = (Env.set ρ0 0 (.pointer p0)) := ⟨ρ, hI.eq⟩
            clear hI; unfold F31_2 at h
            refine HW.seq ?_
            refine HW.region ?_
            refine HList.vals (v := (.pointer p0)) rfl (HVal.move' rfl) ?_
            refine HList.ops' rfl (HOp.call' 60 [(.pointer p0)] (cap := []) rfl rfl Tryd.call60 (walk60 h)) ?_
            rintro _ H64 ⟨rfl, h⟩
            refine HList.nil ?_
            refine nt ?_
            refine HW.seq ?_
            refine HW.seq ?_
            refine HW.region ?_
            refine HList.vals (v := (.pointer p0)) rfl (HVal.move' rfl) ?_
            refine HList.ops' rfl (HOp.call' 64 [(.pointer p0)] (cap := []) rfl rfl Tryd.call64 (walk64 h)) ?_
            rintro _ H66 ⟨r68, rfl, h⟩
            refine HList.vals (v := (.bool (!r68))) rfl (HVal.not rfl) ?_
            refine HList.nil ?_
            refine nt ?_
            obtain ⟨hT, hF⟩ := h
            refine HW.cond (!r68) rfl (fun hb69 => ?_) (fun hb69 => ?_)
            · have h := hT hb69
              clear hT hF
              refine HW.seq ?_
              refine HW.region ?_
              refine HList.vals (v := (.int .i64 24)) rfl (HVal.assign' rfl) ?_
              refine HList.nil ?_
              refine nt ?_
              refine HW.ret ?_
              refine tr ?_
              exact ⟨_, resOf1 rfl Res1.t, ⟨24, rfl, h⟩⟩
            · have h := hF hb69
              clear hT hF
              refine HW.skip ?_
              refine nt ?_
              refine HW.seq ?_
              refine HW.region ?_
              refine HList.vals (v := (.int .i64 0)) rfl (HVal.assign' rfl) ?_
              refine HList.nil ?_
              refine nt ?_
              refine HW.ret ?_
              exact ⟨_, resOf1 rfl Res1.t, ⟨0, rfl, h⟩⟩

def F14 (p0 : ByteArray) (H : Hp) (Q : ByteArray → Sl → Int → Int → Hp → Prop) : Prop :=
∀ H1 : Hp, H1 = Array.push H (.cells #[(.string (ByteArray.mk #[])), (Sl.v Sl.nil)] 27) → (
 ((decide ((4096 : Int) < ((p0).size : Int))) = true → (mayw H1 ⟨H.size, 0, none⟩ 2 0 ∧ ∀ H4 : Hp, H4 = sets H1 ⟨H.size, 0, none⟩ [(.string (ByteArray.mk #[])), (Sl.v Sl.nil)] 0 → (
 ∃ (x7 : ByteArray) (x8 : Sl), cells H4 ⟨H.size, 0, none⟩ [(.string x7), (Sl.v x8)] 0 ∧ (
 Q x7 x8 0 2 H4)))) ∧
 ((decide ((4096 : Int) < ((p0).size : Int))) = false → (∀ H10 : Hp, H10 = Array.push H1 (.cells #[(.string p0), (.int .i64 0), (.int .i64 0), (.string (ByteArray.mk #[]))] 89) → (
 ∀ H12 : Hp, H12 = Array.push H10 (.cells #[(.string (ByteArray.mk #[])), (Sl.v Sl.nil)] 27) → (
 F31 (some ⟨H1.size, 0, none⟩) (some ⟨H10.size, 0, none⟩) H12 (fun (r16 : Int) (H14 : Hp) => 
 ((decide (r16 ≠ 0)) = true → (∃ x19 : Int, cell H14 (Addr.add ⟨H1.size, 0, none⟩ 1) = some (.int .i64 x19) ∧ (
 mayw H14 ⟨H.size, 0, none⟩ 2 0 ∧ ∀ H20 : Hp, H20 = sets H14 ⟨H.size, 0, none⟩ [(.string (ByteArray.mk #[])), (Sl.v Sl.nil)] 0 → (
 cell H20 (Addr.add ⟨H1.size, 0, none⟩ 1) = some (.int .i64 x19) ∧ (
 ∃ (x24 : ByteArray) (x25 : Sl), cells H20 ⟨H.size, 0, none⟩ [(.string x24), (Sl.v x25)] 0 ∧ (
 Q x24 x25 x19 r16 H20)))))) ∧
 ((decide (r16 ≠ 0)) = false → (∃ (x28 : ByteArray) (x29 : Sl), cells H14 ⟨H10.size, 0, none⟩ [(.string x28), (Sl.v x29)] 0 ∧ (
 mayw H14 ⟨H.size, 0, none⟩ 2 0 ∧ ∀ H30 : Hp, H30 = sets H14 ⟨H.size, 0, none⟩ [(.string x28), (Sl.v x29)] 0 → (
 ∃ (x33 : ByteArray) (x34 : Sl), cells H30 ⟨H.size, 0, none⟩ [(.string x33), (Sl.v x34)] 0 ∧ (
 Q x33 x34 0 0 H30)))))))))))
set_option maxRecDepth 100000 in
set_option maxHeartbeats 4000000 in
theorem walk14 {w0 : World} {p0 : ByteArray} {H : Hp} {Q : ByteArray → Sl → Int → Int → Hp → Prop} (h : F14 p0 H Q) :
    Good Tryd.prog w0 14 #[(.string p0)] H (fun v H => ∃ (r0 : ByteArray) (r1 : Sl) (r2 : Int) (r3 : Int) , v = (.tuple #[(.agg #[(.string r0), (Sl.v r1)]), (.int .i64 r2), (.int .i64 r3)]) ∧ Q r0 r1 r2 r3 H) := by
  unfold F14 at h
  refine Good.enter' (fn := Tryd.f14) Tryd.func14 rfl rfl rfl ?_
  refine HW.seq ?_
  refine HW.region ?_
  refine HList.ops' rfl (HOp.alloc Tryd.zeroValue27) ?_
  rintro _ H1 ⟨rfl, e2⟩
  replace h := h H1 e2
  refine HList.vals (v := (.int .i64 0)) rfl (HVal.assign' rfl) ?_
  refine HList.vals (v := (.int .i64 0)) rfl (HVal.assign' rfl) ?_
  refine HList.nil ?_
  refine nt ?_
  refine HW.seq ?_
  refine HW.seq ?_
  refine HW.region ?_
  refine HList.vals (v := (.string p0)) rfl (HVal.move' rfl) ?_
  refine HList.vals (v := (.int .i64 ((p0).size : Int))) rfl (HVal.lenS Tryd.runUnderlying9 rfl) ?_
  refine HList.vals (v := (.bool (decide ((4096 : Int) < ((p0).size : Int))))) rfl (HVal.gtr rfl rfl) ?_
  refine HList.nil ?_
  refine nt ?_
  obtain ⟨hT, hF⟩ := h
  refine HW.cond (decide ((4096 : Int) < ((p0).size : Int))) rfl (fun hb3 => ?_) (fun hb3 => ?_)
  · have h := hT hb3
    clear hT hF
    refine HW.seq ?_
    refine HW.region ?_
    refine HList.vals (v := (.agg #[(.string (ByteArray.mk #[])), (Sl.v Sl.nil)])) rfl (HVal.build' (cs := [(.string (ByteArray.mk #[])), (Sl.v Sl.nil)]) Tryd.runUnderlying27 Tryd.zeroValue27 places27 rfl) ?_
    obtain ⟨z6, h⟩ := h
    refine HList.opsn (HOp.storeN' (l := [(.string (ByteArray.mk #[])), (Sl.v Sl.nil)]) Tryd.sizeOf27 rfl rfl rfl z6) ?_
    rintro _ H4 e5
    replace h := h H4 e5
    refine HList.vals (v := (.int .i64 0)) rfl (HVal.assign' rfl) ?_
    refine HList.vals (v := (.int .i64 2)) rfl (HVal.assign' rfl) ?_
    refine HList.nil ?_
    refine nt ?_
    refine HW.ret ?_
    refine tr ?_
    obtain ⟨x7, x8, c9, h⟩ := h
    exact ⟨_, resOf3 rfl (Res1.n [(.string x7), (Sl.v x8)] Tryd.isAgg27 Tryd.sizeOf27 rfl c9) Res1.t Res1.t, ⟨x7, x8, 0, 2, rfl, h⟩⟩
  · have h := hF hb3
    clear hT hF
    refine HW.skip ?_
    refine nt ?_
    refine HW.seq ?_
    refine HW.region ?_
    refine HList.vals (v := (.string p0)) rfl (HVal.move' rfl) ?_
    refine HList.vals (v := (.agg #[(.string p0), (.int .i64 0), (.int .i64 0), (.string (ByteArray.mk #[]))])) rfl (HVal.build' (cs := [(.string p0), (.int .i64 0), (.int .i64 0), (.string (ByteArray.mk #[]))]) Tryd.runUnderlying89 Tryd.zeroValue89 places89 rfl) ?_
    refine HList.ops' rfl (HOp.box (v := (.agg #[(.string p0), (.int .i64 0), (.int .i64 0), (.string (ByteArray.mk #[]))])) rfl) ?_
    rintro _ H10 ⟨rfl, e11⟩
    replace h := h H10 e11
    refine HList.vals (v := (.pointer (some ⟨H1.size, 0, none⟩))) rfl (HVal.assign' rfl) ?_
    refine HList.nil ?_
    refine nt ?_
    refine HW.seq ?_
    refine HW.region ?_
    refine HList.ops' rfl (HOp.alloc Tryd.zeroValue27) ?_
    rintro _ H12 ⟨rfl, e13⟩
    replace h := h H12 e13
    refine HList.nil ?_
    refine nt ?_
    refine HW.seq ?_
    refine HW.seq ?_
    refine HW.region ?_
    refine HList.vals (v := (.pointer (some ⟨H1.size, 0, none⟩))) rfl (HVal.move' rfl) ?_
    refine HList.ops' rfl (HOp.call' 31 [(.pointer (some ⟨H1.size, 0, none⟩)), (.pointer (some ⟨H10.size, 0, none⟩))] (cap := []) rfl rfl Tryd.call31 (walk31 h)) ?_
    rintro _ H14 ⟨r16, rfl, h⟩
    refine HList.vals (v := (.int .i64 r16)) rfl (HVal.assign' rfl) ?_
    refine HList.nil ?_
    refine nt ?_
    refine HW.seq ?_
    refine HW.region ?_
    refine HList.vals (v := (.int .i64 r16)) rfl (HVal.move' rfl) ?_
    refine HList.vals (v := (.bool (decide (r16 ≠ 0)))) rfl (HVal.neqI rfl rfl) ?_
    refine HList.nil ?_
    refine nt ?_
    obtain ⟨hT, hF⟩ := h
    refine HW.cond (decide (r16 ≠ 0)) rfl (fun hb17 => ?_) (fun hb17 => ?_)
    · have h := hT hb17
      clear hT hF
      refine HW.seq ?_
      refine HW.draw mixed [(0, some []), (1, some []), (2, some []), (3, some []), (4, some []), (5, some []), (6, none), (7, some []), (8, some [])] rfl (by kernel_rfl) (by kernel_rfl) ?_
      refine HPlan.takev (v := (.agg #[(.string (ByteArray.mk #[])), (Sl.v Sl.nil)])) rfl rfl (fun _ => HVal.build' (cs := [(.string (ByteArray.mk #[])), (Sl.v Sl.nil)]) Tryd.runUnderlying27 Tryd.zeroValue27 places27 rfl) ?_
      refine HPlan.takev (v := (.pointer (some ⟨H1.size, 0, none⟩))) rfl rfl (fun _ => HVal.move' rfl) ?_
      refine HPlan.takev (v := (.pointer (some ⟨H1.size, 0, none⟩))) rfl rfl (fun _ => HVal.nilCheck rfl) ?_
      refine HPlan.takev (v := (.pointer (some (Addr.add ⟨H1.size, 0, none⟩ 1)))) rfl rfl (fun _ => HVal.fieldAddr' Tryd.runUnderlying89 rfl rfl Tryd.sizeOf3 rfl) ?_
      obtain ⟨x19, c18, h⟩ := h
      refine HPlan.takel (v := (.int .i64 x19)) (fun X => cell X (Addr.add ⟨H1.size, 0, none⟩ 1) = some (.int .i64 x19)) rfl rfl (fun _ hX => HVal.load1 Tryd.isAgg3 rfl hX) c18 ?_
      refine HPlan.takev (v := (.int .i64 r16)) rfl rfl (fun _ => HVal.move' rfl) ?_
      obtain ⟨z22, h⟩ := h
      refine HPlan.opsn rfl (HOp.storeN' (l := [(.string (ByteArray.mk #[])), (Sl.v Sl.nil)]) Tryd.sizeOf27 rfl rfl rfl z22) ?_
      rintro _ H20 e21
      replace h := h H20 e21
      obtain ⟨s23, h⟩ := h
      refine ⟨SC_of ⟨fun _ => s23, trivial⟩, ?_⟩
      refine HPlan.takev (v := (.int .i64 x19)) rfl rfl (fun _ => HVal.assign' rfl) ?_
      refine HPlan.takev (v := (.int .i64 r16)) rfl rfl (fun _ => HVal.assign' rfl) ?_
      refine HPlan.done ?_
      refine nt ?_
      refine HW.ret ?_
      refine tr ?_
      obtain ⟨x24, x25, c26, h⟩ := h
      exact ⟨_, resOf3 rfl (Res1.n [(.string x24), (Sl.v x25)] Tryd.isAgg27 Tryd.sizeOf27 rfl c26) Res1.t Res1.t, ⟨x24, x25, x19, r16, rfl, h⟩⟩
    · have h := hF hb17
      clear hT hF
      refine HW.skip ?_
      refine nt ?_
      refine HW.seq ?_
      refine HW.region ?_
      obtain ⟨x28, x29, c27, h⟩ := h
      refine HList.vals (v := (.agg #[(.string x28), (Sl.v x29)])) rfl (HVal.loadN [(.string x28), (Sl.v x29)] Tryd.isAgg27 Tryd.sizeOf27 rfl c27) ?_
      obtain ⟨z32, h⟩ := h
      refine HList.opsn (HOp.storeN' (l := [(.string x28), (Sl.v x29)]) Tryd.sizeOf27 rfl rfl rfl z32) ?_
      rintro _ H30 e31
      replace h := h H30 e31
      refine HList.vals (v := (.int .i64 0)) rfl (HVal.assign' rfl) ?_
      refine HList.vals (v := (.int .i64 0)) rfl (HVal.assign' rfl) ?_
      refine HList.nil ?_
      refine nt ?_
      refine HW.ret ?_
      obtain ⟨x33, x34, c35, h⟩ := h
      exact ⟨_, resOf3 rfl (Res1.n [(.string x33), (Sl.v x34)] Tryd.isAgg27 Tryd.sizeOf27 rfl c35) Res1.t Res1.t, ⟨x33, x34, 0, 0, rfl, h⟩⟩

def F4_2 (Q : Bool → Hp → Prop) (y77 : Sl) (y78 : Addr) (y79 : ByteArray) (y138 : ByteArray) (y139 : Int) (H_2 : Hp) : Prop :=
F16 y77 y139 false H_2 (fun (r142 : ByteArray) (H140 : Hp) => 
 (y138).size + (r142).size ≤ 9223372036854775807 ∧ (
 ((y138 ++ r142)).size + (S___).size ≤ 9223372036854775807 ∧ (
 F16 y77 (IntKind.i64.wrap (y139 + 1)) false H140 (fun (r147 : ByteArray) (H145 : Hp) => 
 (((y138 ++ r142) ++ S___)).size + (r147).size ≤ 9223372036854775807 ∧ (
 F14 (((y138 ++ r142) ++ S___) ++ r147) H145 (fun (r151 : ByteArray) (r152 : Sl) (r153 : Int) (r154 : Int) (H149 : Hp) => 
 ∀ H155 : Hp, H155 = Array.push H149 (.cells #[(.string (ByteArray.mk #[])), (Sl.v Sl.nil)] 27) → (
 mayw H155 ⟨H149.size, 0, none⟩ 2 0 ∧ ∀ H157 : Hp, H157 = sets H155 ⟨H149.size, 0, none⟩ [(.string r151), (Sl.v r152)] 0 → (
 ∃ (x161 : ByteArray) (x162 : Sl), cells H157 ⟨H149.size, 0, none⟩ [(.string x161), (Sl.v x162)] 0 ∧ (
 F13 x161 x162 H157 (fun (r165 : ByteArray) (r166 : Int) (H163 : Hp) => 
 ((decide (r154 = 0)) = true → (((decide (r153 = 0)) = true → (∃ (x172 : ByteArray) (x173 : Sl), cells H163 y78 [(.string x172), (Sl.v x173)] 0 ∧ (
 ∃ (x175 : ByteArray) (x176 : Sl), cells H163 ⟨H149.size, 0, none⟩ [(.string x175), (Sl.v x176)] 0 ∧ (
 F15 x172 x173 x175 x176 H163 (fun (r179 : Bool) (H177 : Hp) => 
 (r179 = true → (((decide (r166 = 0)) = true → (Q (seq r165 y79) H177)) ∧
 ((decide (r166 = 0)) = false → (Q false H177)))) ∧
 (r179 = false → (Q false H177))))))) ∧
 ((decide (r153 = 0)) = false → (Q false H163)))) ∧
 ((decide (r154 = 0)) = false → (Q false H163))))))))))))
def F4_4 (Q : Bool → Hp → Prop) (X3 : ByteArray → Int → Int → Hp → Prop) (y90 : Sl) (y91 : Addr) (y92 : ByteArray) (y93 : Addr) (y94 : Int) (y95 : Int) (y106 : ByteArray) (H_4 : Hp) : Prop :=
∃ x108 : Sl, cell H_4 (Addr.add y91 1) = some (Sl.v x108) ∧ (
 ∃ a109 : Addr, (x108).b = some a109 ∧ (0 : Int) ≤ y95 ∧ y95 < ((x108).n : Int) ∧ (
 ∃ x114 : ByteArray, cell H_4 (Addr.add a109 (y95.toNat * 2)) = some (.string x114) ∧ (
 (y106).size + (x114).size ≤ 9223372036854775807 ∧ (
 ∃ x117 : Sl, cell H_4 (Addr.add y91 1) = some (Sl.v x117) ∧ (
 ∃ a118 : Addr, (x117).b = some a118 ∧ (0 : Int) ≤ y95 ∧ y95 < ((x117).n : Int) ∧ (
 ∃ x123 : Int, cell H_4 (Addr.add (Addr.add a118 (y95.toNat * 2)) 1) = some (.int .i64 x123) ∧ (
 (0 : Int) ≤ x123 ∧ x123 < ((4 : Nat) : Int) ∧ (
 ∃ x127 : ByteArray, cell H_4 (Addr.add y93 (x123.toNat * 1)) = some (.string x127) ∧ (
 F16 y90 (IntKind.i64.wrap (y94 + 2)) true H_4 (fun (r130 : ByteArray) (H128 : Hp) => 
 cell H128 (Addr.add y93 (x123.toNat * 1)) = some (.string x127) ∧ cell H128 (Addr.add (Addr.add a118 (y95.toNat * 2)) 1) = some (.int .i64 x123) ∧ cell H128 (Addr.add y91 1) = some (Sl.v x117) ∧ cell H128 (Addr.add a109 (y95.toNat * 2)) = some (.string x114) ∧ cell H128 (Addr.add y91 1) = some (Sl.v x108) ∧ (
 ((y106 ++ x114)).size + (r130).size ≤ 9223372036854775807 ∧ (
 (((y106 ++ x114) ++ r130)).size + (x127).size ≤ 9223372036854775807 ∧ (
 X3 (((y106 ++ x114) ++ r130) ++ x127) (IntKind.i64.wrap (y94 + 3)) (IntKind.i64.wrap (y95 + 1)) H128)))))))))))))
def F4_L3b (Q : Bool → Hp → Prop) (X3 : ByteArray → Int → Int → Hp → Prop) (y83 : Sl) (y84 : Addr) (y85 : ByteArray) (y86 : Addr) (y80 : ByteArray) (y81 : Int) (y82 : Int) (H_3 : Hp) : Prop :=
∃ x88 : Sl, cell H_3 (Addr.add y84 1) = some (Sl.v x88) ∧ (
 ((decide (y82 < ((x88).n : Int))) = true → (((decide ((0 : Int) < y82)) = true → (F16 y83 y81 false H_3 (fun (r99 : ByteArray) (H97 : Hp) => 
 (y80).size + (r99).size ≤ 9223372036854775807 ∧ (
 ((y80 ++ r99)).size + (S____).size ≤ 9223372036854775807 ∧ (
 F16 y83 (IntKind.i64.wrap (y81 + 1)) false H97 (fun (r104 : ByteArray) (H102 : Hp) => 
 (((y80 ++ r99) ++ S____)).size + (r104).size ≤ 9223372036854775807 ∧ (
 F4_4 Q X3 y83 y84 y85 y86 y81 y82 (((y80 ++ r99) ++ S____) ++ r104) H102))))))) ∧
 ((decide ((0 : Int) < y82)) = false → (F4_4 Q X3 y83 y84 y85 y86 y81 y82 y80 H_3)))) ∧
 ((decide (y82 < ((x88).n : Int))) = false → (F4_2 Q y83 y84 y85 y80 y81 H_3)))
def F4_L3 (Q : Bool → Hp → Prop) (y83 : Sl) (y84 : Addr) (y85 : ByteArray) (y86 : Addr) (y80 : ByteArray) (y81 : Int) (y82 : Int) (H_3 : Hp) : Prop :=
  ∀ X3 : ByteArray → Int → Int → Hp → Prop, (∀ (y80 : ByteArray) (y81 : Int) (y82 : Int) (H_3 : Hp), F4_L3b Q X3 y83 y84 y85 y86 y80 y81 y82 H_3 → X3 y80 y81 y82 H_3) → X3 y80 y81 y82 H_3
def F4_1 (Q : Bool → Hp → Prop) (y28 : Sl) (y29 : Addr) (y30 : ByteArray) (y33 : Bool) (H_1 : Hp) : Prop :=
(y33 = true → (Q false H_1)) ∧
 (y33 = false → (∀ H48 : Hp, H48 = Array.push H_1 (.cells #[(.string (ByteArray.mk #[])), (.string (ByteArray.mk #[])), (.string (ByteArray.mk #[])), (.string (ByteArray.mk #[]))] 49) → (
 mayw H48 ⟨H_1.size, 0, none⟩ 4 0 ∧ ∀ H50 : Hp, H50 = sets H48 ⟨H_1.size, 0, none⟩ [(.string (ByteArray.mk #[])), (.string S_INT), (.string S_STR), (.string S_BOOL)] 0 → (
 ∃ x54 : ByteArray, cell H50 y29 = some (.string x54) ∧ (
 F16 y28 0 false H50 (fun (r57 : ByteArray) (H55 : Hp) => 
 cell H55 y29 = some (.string x54) ∧ (
 (r57).size + (S_TYPE).size ≤ 9223372036854775807 ∧ (
 F16 y28 1 true H55 (fun (r62 : ByteArray) (H60 : Hp) => 
 cell H60 y29 = some (.string x54) ∧ (
 ((r57 ++ S_TYPE)).size + (r62).size ≤ 9223372036854775807 ∧ (
 (((r57 ++ S_TYPE) ++ r62)).size + (x54).size ≤ 9223372036854775807 ∧ (
 F16 y28 2 false H60 (fun (r68 : ByteArray) (H66 : Hp) => 
 cell H66 y29 = some (.string x54) ∧ (
 ((((r57 ++ S_TYPE) ++ r62) ++ x54)).size + (r68).size ≤ 9223372036854775807 ∧ (
 (((((r57 ++ S_TYPE) ++ r62) ++ x54) ++ r68)).size + (S__).size ≤ 9223372036854775807 ∧ (
 F16 y28 3 false H66 (fun (r74 : ByteArray) (H72 : Hp) => 
 cell H72 y29 = some (.string x54) ∧ (
 ((((((r57 ++ S_TYPE) ++ r62) ++ x54) ++ r68) ++ S__)).size + (r74).size ≤ 9223372036854775807 ∧ (
 F4_L3 Q y28 y29 y30 ⟨H_1.size, 0, none⟩ ((((((r57 ++ S_TYPE) ++ r62) ++ x54) ++ r68) ++ S__) ++ r74) 4 0 H72)))))))))))))))))))
def F4 (p0 : ByteArray) (p1 : Sl) (p2 : Sl) (p3 : Sl) (H : Hp) (Q : Bool → Hp → Prop) : Prop :=
F8 p0 p1 p2 H (fun (r3 : ByteArray) (r4 : Sl) (H1 : Hp) => 
 ∀ H5 : Hp, H5 = Array.push H1 (.cells #[(.string (ByteArray.mk #[])), (Sl.v Sl.nil)] 27) → (
 mayw H5 ⟨H1.size, 0, none⟩ 2 0 ∧ ∀ H7 : Hp, H7 = sets H5 ⟨H1.size, 0, none⟩ [(.string r3), (Sl.v r4)] 0 → (
 ∃ (x11 : ByteArray) (x12 : Sl), cells H7 ⟨H1.size, 0, none⟩ [(.string x11), (Sl.v x12)] 0 ∧ (
 F13 x11 x12 H7 (fun (r15 : ByteArray) (r16 : Int) (H13 : Hp) => 
 F14 r15 H13 (fun (r19 : ByteArray) (r20 : Sl) (r21 : Int) (r22 : Int) (H17 : Hp) => 
 ∀ H23 : Hp, H23 = Array.push H17 (.cells #[(.string (ByteArray.mk #[])), (Sl.v Sl.nil)] 27) → (
 mayw H23 ⟨H17.size, 0, none⟩ 2 0 ∧ ∀ H25 : Hp, H25 = sets H23 ⟨H17.size, 0, none⟩ [(.string r19), (Sl.v r20)] 0 → (
 ((decide (r16 ≠ 0)) = true → (F4_1 Q p3 ⟨H1.size, 0, none⟩ r15 true H25)) ∧
 ((decide (r16 ≠ 0)) = false → (((decide (r22 ≠ 0)) = true → (F4_1 Q p3 ⟨H1.size, 0, none⟩ r15 true H25)) ∧
 ((decide (r22 ≠ 0)) = false → (((decide (r21 ≠ 0)) = true → (F4_1 Q p3 ⟨H1.size, 0, none⟩ r15 true H25)) ∧
 ((decide (r21 ≠ 0)) = false → (∃ (x39 : ByteArray) (x40 : Sl), cells H25 ⟨H1.size, 0, none⟩ [(.string x39), (Sl.v x40)] 0 ∧ (
 ∃ (x42 : ByteArray) (x43 : Sl), cells H25 ⟨H17.size, 0, none⟩ [(.string x42), (Sl.v x43)] 0 ∧ (
 F15 x39 x40 x42 x43 H25 (fun (r46 : Bool) (H44 : Hp) => 
 F4_1 Q p3 ⟨H1.size, 0, none⟩ r15 (!r46) H44)))))))))))))))))
set_option maxRecDepth 100000 in
set_option maxHeartbeats 4000000 in
theorem walk4 {w0 : World} {p0 : ByteArray} {p1 : Sl} {p2 : Sl} {p3 : Sl} {H : Hp} {Q : Bool → Hp → Prop} (h : F4 p0 p1 p2 p3 H Q) :
    Good Tryd.prog w0 4 #[(.string p0), (Sl.v p1), (Sl.v p2), (Sl.v p3)] H (fun v H => ∃ (r0 : Bool) , v = (.bool r0) ∧ Q r0 H) := by
  unfold F4 at h
  refine Good.enter' (fn := Tryd.f4) Tryd.func4 rfl rfl rfl ?_
  refine HW.seq ?_
  refine HW.region ?_
  refine HList.vals (v := (.bool false)) rfl (HVal.assign' rfl) ?_
  refine HList.nil ?_
  refine nt ?_
  refine HW.seq ?_
  refine HW.region ?_
  refine HList.vals (v := (.string p0)) rfl (HVal.move' rfl) ?_
  refine HList.vals (v := (Sl.v p1)) rfl (HVal.move' rfl) ?_
  refine HList.vals (v := (Sl.v p2)) rfl (HVal.move' rfl) ?_
  refine HList.ops' rfl (HOp.call' 8 [(.string p0), (Sl.v p1), (Sl.v p2)] (cap := []) rfl rfl Tryd.call8 (walk8 h)) ?_
  rintro _ H1 ⟨r3, r4, rfl, h⟩
  refine HList.ops' rfl (HOp.alloc Tryd.zeroValue27) ?_
  rintro _ H5 ⟨rfl, e6⟩
  replace h := h H5 e6
  obtain ⟨z9, h⟩ := h
  refine HList.opsn (HOp.storeN' (l := [(.string r3), (Sl.v r4)]) Tryd.sizeOf27 rfl rfl rfl z9) ?_
  rintro _ H7 e8
  replace h := h H7 e8
  refine HList.nil ?_
  refine nt ?_
  refine HW.seq ?_
  refine HW.region ?_
  obtain ⟨x11, x12, c10, h⟩ := h
  refine HList.vals (v := (.agg #[(.string x11), (Sl.v x12)])) rfl (HVal.loadN [(.string x11), (Sl.v x12)] Tryd.isAgg27 Tryd.sizeOf27 rfl c10) ?_
  refine HList.ops' rfl (HOp.call' 13 [(.agg #[(.string x11), (Sl.v x12)])] (cap := []) rfl rfl Tryd.call13 (walk13 h)) ?_
  rintro _ H13 ⟨r15, r16, rfl, h⟩
  refine HList.vals (v := (.tuple #[(.string r15), (.int .i64 r16)])) rfl (HVal.move' rfl) ?_
  refine HList.vals (v := (.string r15)) rfl (HVal.extract rfl rfl) ?_
  refine HList.vals (v := (.int .i64 r16)) rfl (HVal.extract rfl rfl) ?_
  refine HList.vals (v := (.string r15)) rfl (HVal.assign' rfl) ?_
  refine HList.vals (v := (.int .i64 r16)) rfl (HVal.assign' rfl) ?_
  refine HList.nil ?_
  refine nt ?_
  refine HW.seq ?_
  refine HW.region ?_
  refine HList.vals (v := (.string r15)) rfl (HVal.move' rfl) ?_
  refine HList.ops' rfl (HOp.call' 14 [(.string r15)] (cap := []) rfl rfl Tryd.call14 (walk14 h)) ?_
  rintro _ H17 ⟨r19, r20, r21, r22, rfl, h⟩
  refine HList.vals (v := (.tuple #[(.agg #[(.string r19), (Sl.v r20)]), (.int .i64 r21), (.int .i64 r22)])) rfl (HVal.move' rfl) ?_
  refine HList.vals (v := (.agg #[(.string r19), (Sl.v r20)])) rfl (HVal.extract rfl rfl) ?_
  refine HList.vals (v := (.int .i64 r21)) rfl (HVal.extract rfl rfl) ?_
  refine HList.vals (v := (.int .i64 r22)) rfl (HVal.extract rfl rfl) ?_
  refine HList.ops' rfl (HOp.alloc Tryd.zeroValue27) ?_
  rintro _ H23 ⟨rfl, e24⟩
  replace h := h H23 e24
  obtain ⟨z27, h⟩ := h
  refine HList.opsn (HOp.storeN' (l := [(.string r19), (Sl.v r20)]) Tryd.sizeOf27 rfl rfl rfl z27) ?_
  rintro _ H25 e26
  replace h := h H25 e26
  refine HList.vals (v := (.int .i64 r21)) rfl (HVal.assign' rfl) ?_
  refine HList.vals (v := (.int .i64 r22)) rfl (HVal.assign' rfl) ?_
  refine HList.nil ?_
  refine nt ?_
  refine HW.seq ?_
  refine HW.cut (fun ρ H_1 => ∃ (y33 : Bool), Env.Is ρ [(3, (Sl.v p3)), (9, (.pointer (some ⟨H1.size, 0, none⟩))), (10, (.string r15)), (53, (.bool y33))] ∧ F4_1 Q p3 ⟨H1.size, 0, none⟩ r15 y33 H_1) ?_ ?_
  · refine HW.region ?_
    refine HList.vals (v := (.int .i64 r16)) rfl (HVal.move' rfl) ?_
    refine HList.vals (v := (.bool (decide (r16 ≠ 0)))) rfl (HVal.neqI rfl rfl) ?_
    refine HList.vals (v := (.bool (decide (r16 ≠ 0)))) rfl (HVal.move' rfl) ?_
    obtain ⟨hT, hF⟩ := h
    rcases Bool.eq_false_or_eq_true (decide (r16 ≠ 0)) with hb31 | hb32
    · have h := hT hb31
      clear hT hF
      refine HList.gskips rfl rfl rfl rfl (congrArg Value.bool hb31) ?_
      refine HList.gskips rfl rfl rfl rfl (congrArg Value.bool hb31) ?_
      refine HList.vals (v := (.bool true)) rfl (HVal.pickT rfl hb31 rfl) ?_
      refine HList.vals (v := (.bool true)) rfl (HVal.move' rfl) ?_
      refine HList.gskips rfl rfl rfl rfl rfl ?_
      refine HList.gskips rfl rfl rfl rfl rfl ?_
      refine HList.vals (v := (.bool true)) rfl (HVal.pickT rfl rfl rfl) ?_
      refine HList.vals (v := (.bool true)) rfl (HVal.move' rfl) ?_
      refine HList.gskips rfl rfl rfl rfl rfl ?_
      refine HList.gskips rfl rfl rfl rfl rfl ?_
      refine HList.gskips rfl rfl rfl rfl rfl ?_
      refine HList.gskips rfl rfl rfl rfl rfl ?_
      refine HList.vals (v := (.bool true)) rfl (HVal.pickT rfl rfl rfl) ?_
      refine HList.nil ?_
      refine nt ?_
      exact ⟨true, ⟨rfl, rfl, rfl, rfl, trivial⟩, h⟩
    · have h := hF hb32
      clear hT hF
      refine HList.gvals (v := (.int .i64 r22)) rfl rfl rfl rfl (congrArg Value.bool hb32) (HVal.move' rfl) ?_
      refine HList.gvals (v := (.bool (decide (r22 ≠ 0)))) rfl rfl rfl rfl (congrArg Value.bool hb32) (HVal.neqI rfl rfl) ?_
      refine HList.vals (v := (.bool (decide (r22 ≠ 0)))) rfl (HVal.pickF rfl hb32 rfl) ?_
      refine HList.vals (v := (.bool (decide (r22 ≠ 0)))) rfl (HVal.move' rfl) ?_
      obtain ⟨hT, hF⟩ := h
      rcases Bool.eq_false_or_eq_true (decide (r22 ≠ 0)) with hb34 | hb35
      · have h := hT hb34
        clear hT hF
        refine HList.gskips rfl rfl rfl rfl (congrArg Value.bool hb34) ?_
        refine HList.gskips rfl rfl rfl rfl (congrArg Value.bool hb34) ?_
        refine HList.vals (v := (.bool true)) rfl (HVal.pickT rfl hb34 rfl) ?_
        refine HList.vals (v := (.bool true)) rfl (HVal.move' rfl) ?_
        refine HList.gskips rfl rfl rfl rfl rfl ?_
        refine HList.gskips rfl rfl rfl rfl rfl ?_
        refine HList.gskips rfl rfl rfl rfl rfl ?_
        refine HList.gskips rfl rfl rfl rfl rfl ?_
        refine HList.vals (v := (.bool true)) rfl (HVal.pickT rfl rfl rfl) ?_
        refine HList.nil ?_
        refine nt ?_
        exact ⟨true, ⟨rfl, rfl, rfl, rfl, trivial⟩, h⟩
      · have h := hF hb35
        clear hT hF
        refine HList.gvals (v := (.int .i64 r21)) rfl rfl rfl rfl (congrArg Value.bool hb35) (HVal.move' rfl) ?_
        refine HList.gvals (v := (.bool (decide (r21 ≠ 0)))) rfl rfl rfl rfl (congrArg Value.bool hb35) (HVal.neqI rfl rfl) ?_
        refine HList.vals (v := (.bool (decide (r21 ≠ 0)))) rfl (HVal.pickF rfl hb35 rfl) ?_
        refine HList.vals (v := (.bool (decide (r21 ≠ 0)))) rfl (HVal.move' rfl) ?_
        obtain ⟨hT, hF⟩ := h
        rcases Bool.eq_false_or_eq_true (decide (r21 ≠ 0)) with hb36 | hb37
        · have h := hT hb36
          clear hT hF
          refine HList.gskips rfl rfl rfl rfl (congrArg Value.bool hb36) ?_
          refine HList.gskips rfl rfl rfl rfl (congrArg Value.bool hb36) ?_
          refine HList.gskips rfl rfl rfl rfl (congrArg Value.bool hb36) ?_
          refine HList.gskips rfl rfl rfl rfl (congrArg Value.bool hb36) ?_
          refine HList.vals (v := (.bool true)) rfl (HVal.pickT rfl hb36 rfl) ?_
          refine HList.nil ?_
          refine nt ?_
          exact ⟨true, ⟨rfl, rfl, rfl, rfl, trivial⟩, h⟩
        · have h := hF hb37
          clear hT hF
          obtain ⟨x39, x40, c38, h⟩ := h
          refine HList.gvals (v := (.agg #[(.string x39), (Sl.v x40)])) rfl rfl rfl rfl (congrArg Value.bool hb37) (HVal.loadN [(.string x39), (Sl.v x40)] Tryd.isAgg27 Tryd.sizeOf27 rfl c38) ?_
          obtain ⟨x42, x43, c41, h⟩ := h
          refine HList.gvals (v := (.agg #[(.string x42), (Sl.v x43)])) rfl rfl rfl rfl (congrArg Value.bool hb37) (HVal.loadN [(.string x42), (Sl.v x43)] Tryd.isAgg27 Tryd.sizeOf27 rfl c41) ?_
          refine HList.gops rfl rfl rfl rfl (congrArg Value.bool hb37) (HOp.call' 15 [(.agg #[(.string x39), (Sl.v x40)]), (.agg #[(.string x42), (Sl.v x43)])] (cap := []) rfl rfl Tryd.call15 (walk15 h)) ?_
          rintro _ H44 ⟨r46, rfl, h⟩
          refine HList.gvals (v := (.bool (!r46))) rfl rfl rfl rfl (congrArg Value.bool hb37) (HVal.not rfl) ?_
          refine HList.vals (v := (.bool (!r46))) rfl (HVal.pickF rfl hb37 rfl) ?_
          refine HList.nil ?_
          refine nt ?_
          exact ⟨(!r46), ⟨rfl, rfl, rfl, rfl, trivial⟩, h⟩
  · rintro ρ H_1 ⟨y33, hI, h⟩
    obtain ⟨ρ0, rfl⟩ : ∃ ρ0, ρ = (Env.set (Env.set (Env.set (Env.set ρ0 53 (.bool y33)) 10 (.string r15)) 9 (.pointer (some ⟨H1.size, 0, none⟩))) 3 (Sl.v p3)) := ⟨ρ, hI.eq⟩
    clear hI; unfold F4_1 at h
    obtain ⟨hT, hF⟩ := h
    refine HW.cond y33 rfl (fun hb47 => ?_) (fun hb47 => ?_)
    · have h := hT hb47
      clear hT hF
      refine HW.seq ?_
      refine HW.region ?_
      refine HList.vals (v := (.bool false)) rfl (HVal.assign' rfl) ?_
      refine HList.nil ?_
      refine nt ?_
      refine HW.ret ?_
      refine tr ?_
      exact ⟨_, resOf1 rfl Res1.t, ⟨false, rfl, h⟩⟩
    · have h := hF hb47
      clear hT hF
      refine HW.skip ?_
      refine nt ?_
      refine HW.seq ?_
      refine HW.region ?_
      refine HList.vals (v := (.agg #[(.string (ByteArray.mk #[])), (.string S_INT), (.string S_STR), (.string S_BOOL)])) rfl (HVal.buildA' (cs := [(.string (ByteArray.mk #[])), (.string S_INT), (.string S_STR), (.string S_BOOL)]) Tryd.runUnderlying49 Tryd.zeroValue49 Tryd.sizeOf9 rfl) ?_
      refine HList.ops' rfl (HOp.alloc Tryd.zeroValue49) ?_
      rintro _ H48 ⟨rfl, e49⟩
      replace h := h H48 e49
      obtain ⟨z52, h⟩ := h
      refine HList.opsn (HOp.storeN' (l := [(.string (ByteArray.mk #[])), (.string S_INT), (.string S_STR), (.string S_BOOL)]) Tryd.sizeOf49 rfl rfl rfl z52) ?_
      rintro _ H50 e51
      replace h := h H50 e51
      refine HList.nil ?_
      refine nt ?_
      refine HW.seq ?_
      refine HW.draw mixed [(0, some []), (3, some []), (6, some []), (7, some []), (9, some []), (13, some []), (1, none), (2, some []), (4, none), (5, some []), (8, some []), (10, none), (11, some []), (12, some []), (14, none), (15, some []), (16, some [])] rfl (by kernel_rfl) (by kernel_rfl) ?_
      refine HPlan.takev (v := (Sl.v p3)) rfl rfl (fun _ => HVal.move' rfl) ?_
      refine HPlan.takev (v := (Sl.v p3)) rfl rfl (fun _ => HVal.move' rfl) ?_
      refine HPlan.takev (v := (.pointer (some ⟨H1.size, 0, none⟩))) rfl rfl (fun _ => HVal.fieldAddr0 Tryd.runUnderlying27 rfl rfl Tryd.sizeOf9 rfl) ?_
      obtain ⟨x54, c53, h⟩ := h
      refine HPlan.takel (v := (.string x54)) (fun X => cell X ⟨H1.size, 0, none⟩ = some (.string x54)) rfl rfl (fun _ hX => HVal.load1 Tryd.isAgg9 rfl hX) c53 ?_
      refine HPlan.takev (v := (Sl.v p3)) rfl rfl (fun _ => HVal.move' rfl) ?_
      refine HPlan.takev (v := (Sl.v p3)) rfl rfl (fun _ => HVal.move' rfl) ?_
      refine HPlan.ops' rfl rfl (HOp.call' 16 [(Sl.v p3), (.int .i64 0), (.bool false)] (cap := []) rfl rfl Tryd.call16 (walk16 h)) ?_
      rintro _ H55 ⟨r57, rfl, h⟩
      obtain ⟨s58, h⟩ := h
      refine ⟨SC_of ⟨fun _ => s58, trivial⟩, ?_⟩
      obtain ⟨z59, h⟩ := h
      refine HPlan.takev (v := (.string (r57 ++ S_TYPE))) rfl rfl (fun _ => HVal.addS rfl rfl z59) ?_
      refine HPlan.ops' rfl rfl (HOp.call' 16 [(Sl.v p3), (.int .i64 1), (.bool true)] (cap := []) rfl rfl Tryd.call16 (walk16 h)) ?_
      rintro _ H60 ⟨r62, rfl, h⟩
      obtain ⟨s63, h⟩ := h
      refine ⟨SC_of ⟨fun _ => s63, trivial⟩, ?_⟩
      obtain ⟨z64, h⟩ := h
      refine HPlan.takev (v := (.string ((r57 ++ S_TYPE) ++ r62))) rfl rfl (fun _ => HVal.addS rfl rfl z64) ?_
      obtain ⟨z65, h⟩ := h
      refine HPlan.takev (v := (.string (((r57 ++ S_TYPE) ++ r62) ++ x54))) rfl rfl (fun _ => HVal.addS rfl rfl z65) ?_
      refine HPlan.ops' rfl rfl (HOp.call' 16 [(Sl.v p3), (.int .i64 2), (.bool false)] (cap := []) rfl rfl Tryd.call16 (walk16 h)) ?_
      rintro _ H66 ⟨r68, rfl, h⟩
      obtain ⟨s69, h⟩ := h
      refine ⟨SC_of ⟨fun _ => s69, trivial⟩, ?_⟩
      obtain ⟨z70, h⟩ := h
      refine HPlan.takev (v := (.string ((((r57 ++ S_TYPE) ++ r62) ++ x54) ++ r68))) rfl rfl (fun _ => HVal.addS rfl rfl z70) ?_
      obtain ⟨z71, h⟩ := h
      refine HPlan.takev (v := (.string (((((r57 ++ S_TYPE) ++ r62) ++ x54) ++ r68) ++ S__))) rfl rfl (fun _ => HVal.addS rfl rfl z71) ?_
      refine HPlan.ops' rfl rfl (HOp.call' 16 [(Sl.v p3), (.int .i64 3), (.bool false)] (cap := []) rfl rfl Tryd.call16 (walk16 h)) ?_
      rintro _ H72 ⟨r74, rfl, h⟩
      obtain ⟨s75, h⟩ := h
      refine ⟨SC_of ⟨fun _ => s75, trivial⟩, ?_⟩
      obtain ⟨z76, h⟩ := h
      refine HPlan.takev (v := (.string ((((((r57 ++ S_TYPE) ++ r62) ++ x54) ++ r68) ++ S__) ++ r74))) rfl rfl (fun _ => HVal.addS rfl rfl z76) ?_
      refine HPlan.takev (v := (.string ((((((r57 ++ S_TYPE) ++ r62) ++ x54) ++ r68) ++ S__) ++ r74))) rfl rfl (fun _ => HVal.assign' rfl) ?_
      refine HPlan.done ?_
      refine nt ?_
      refine HW.seq ?_
      refine HW.region ?_
      refine HList.vals (v := (.int .i64 4)) rfl (HVal.assign' rfl) ?_
      refine HList.nil ?_
      refine nt ?_
      refine HW.cut (fun ρ H_2 => ∃ (y138 : ByteArray) (y139 : Int), Env.Is ρ [(3, (Sl.v p3)), (9, (.pointer (some ⟨H1.size, 0, none⟩))), (10, (.string r15)), (16, (.string y138)), (17, (.int .i64 y139))] ∧ F4_2 Q p3 ⟨H1.size, 0, none⟩ r15 y138 y139 H_2) ?_ ?_
      · refine HW.seq ?_
        refine HW.region ?_
        refine HList.vals (v := (.int .i64 0)) rfl (HVal.assign' rfl) ?_
        refine HList.nil ?_
        refine nt ?_
        refine HW.block ?_
        refine HW.loop' (fun L3 hL3 => ?_)
        obtain ⟨X3, hX3⟩ : ∃ X3 : ByteArray → Int → Int → Hp → Prop, ∀ (y80 : ByteArray) (y81 : Int) (y82 : Int) (H_3 : Hp), X3 y80 y81 y82 H_3 ↔ ∀ ρ, Env.Is ρ [(3, (Sl.v p3)), (9, (.pointer (some ⟨H1.size, 0, none⟩))), (10, (.string r15)), (15, (.pointer (some ⟨H_1.size, 0, none⟩))), (16, (.string y80)), (17, (.int .i64 y81)), (18, (.int .i64 y82))] → L3 ρ H_3 := ⟨_, fun _ _ _ _ => Iff.rfl⟩
        refine (hX3 _ _ _ _).1 (h X3 ?_) _ ?_
        rotate_left
        · exact ⟨rfl, rfl, rfl, rfl, rfl, rfl, rfl, trivial⟩
        clear h
        intro y80 y81 y82 H_3 h
        refine (hX3 _ _ _ _).2 fun ρ hI => ?_
        obtain ⟨ρ0, rfl⟩ : ∃ ρ0, ρ = (Env.set (Env.set (Env.set (Env.set (Env.set (Env.set (Env.set ρ0 18 (.int .i64 y82)) 17 (.int .i64 y81)) 16 (.string y80)) 15 (.pointer (some ⟨H_1.size, 0, none⟩))) 10 (.string r15)) 9 (.pointer (some ⟨H1.size, 0, none⟩))) 3 (Sl.v p3)) := ⟨ρ, hI.eq⟩
        clear hI; unfold F4_L3b at h; refine hL3 _ _ ?_
        refine HW.seq ?_
        refine HW.seq ?_
        refine HW.region ?_
        refine HList.vals (v := (.int .i64 y82)) rfl (HVal.move' rfl) ?_
        refine HList.vals (v := (.pointer (some (Addr.add ⟨H1.size, 0, none⟩ 1)))) rfl (HVal.fieldAddr' Tryd.runUnderlying27 rfl rfl Tryd.sizeOf25 rfl) ?_
        obtain ⟨x88, c87, h⟩ := h
        refine HList.vals (v := (Sl.v x88)) rfl (HVal.load1 Tryd.isAgg25 rfl c87) ?_
        refine HList.vals (v := (.int .i64 ((x88).n : Int))) rfl (HVal.len Tryd.runUnderlying25 rfl) ?_
        refine HList.vals (v := (.bool (decide (y82 < ((x88).n : Int))))) rfl (HVal.lss rfl rfl) ?_
        refine HList.nil ?_
        refine nt ?_
        obtain ⟨hT, hF⟩ := h
        refine HW.cond (decide (y82 < ((x88).n : Int))) rfl (fun hb89 => ?_) (fun hb89 => ?_)
        · have h := hT hb89
          clear hT hF
          refine HW.skip ?_
          refine nt ?_
          refine HW.seq ?_
          refine HW.block ?_
          refine HW.cut (fun ρ H_4 => ∃ (y106 : ByteArray), Env.Is ρ [(3, (Sl.v p3)), (9, (.pointer (some ⟨H1.size, 0, none⟩))), (10, (.string r15)), (15, (.pointer (some ⟨H_1.size, 0, none⟩))), (17, (.int .i64 y81)), (18, (.int .i64 y82)), (16, (.string y106))] ∧ F4_4 Q X3 p3 ⟨H1.size, 0, none⟩ r15 ⟨H_1.size, 0, none⟩ y81 y82 y106 H_4) ?_ ?_
          · refine HW.seq ?_
            refine HW.region ?_
            refine HList.vals (v := (.int .i64 y82)) rfl (HVal.move' rfl) ?_
            refine HList.vals (v := (.bool (decide ((0 : Int) < y82)))) rfl (HVal.gtr rfl rfl) ?_
            refine HList.nil ?_
            refine nt ?_
            obtain ⟨hT, hF⟩ := h
            refine HW.cond (decide ((0 : Int) < y82)) rfl (fun hb96 => ?_) (fun hb96 => ?_)
            · have h := hT hb96
              clear hT hF
              refine HW.region ?_
              refine HList.vals (v := (.string y80)) rfl (HVal.move' rfl) ?_
              refine HList.vals (v := (Sl.v p3)) rfl (HVal.move' rfl) ?_
              refine HList.vals (v := (.int .i64 y81)) rfl (HVal.move' rfl) ?_
              refine HList.ops' rfl (HOp.call' 16 [(Sl.v p3), (.int .i64 y81), (.bool false)] (cap := []) rfl rfl Tryd.call16 (walk16 h)) ?_
              rintro _ H97 ⟨r99, rfl, h⟩
              obtain ⟨z100, h⟩ := h
              refine HList.vals (v := (.string (y80 ++ r99))) rfl (HVal.addS rfl rfl z100) ?_
              obtain ⟨z101, h⟩ := h
              refine HList.vals (v := (.string ((y80 ++ r99) ++ S____))) rfl (HVal.addS rfl rfl z101) ?_
              refine HList.vals (v := (Sl.v p3)) rfl (HVal.move' rfl) ?_
              refine HList.vals (v := (.int .i64 y81)) rfl (HVal.move' rfl) ?_
              refine HList.vals (v := (.int .i64 (IntKind.i64.wrap (y81 + 1)))) rfl (HVal.add rfl rfl) ?_
              refine HList.ops' rfl (HOp.call' 16 [(Sl.v p3), (.int .i64 (IntKind.i64.wrap (y81 + 1))), (.bool false)] (cap := []) rfl rfl Tryd.call16 (walk16 h)) ?_
              rintro _ H102 ⟨r104, rfl, h⟩
              obtain ⟨z105, h⟩ := h
              refine HList.vals (v := (.string (((y80 ++ r99) ++ S____) ++ r104))) rfl (HVal.addS rfl rfl z105) ?_
              refine HList.vals (v := (.string (((y80 ++ r99) ++ S____) ++ r104))) rfl (HVal.assign' rfl) ?_
              refine HList.nil ?_
              refine nt ?_
              exact ⟨(((y80 ++ r99) ++ S____) ++ r104), ⟨rfl, rfl, rfl, rfl, rfl, rfl, rfl, trivial⟩, h⟩
            · have h := hF hb96
              clear hT hF
              refine HW.skip ?_
              refine nt ?_
              exact ⟨y80, ⟨rfl, rfl, rfl, rfl, rfl, rfl, rfl, trivial⟩, h⟩
          · rintro ρ H_4 ⟨y106, hI, h⟩
            obtain ⟨ρ0, rfl⟩ : ∃ ρ0, ρ = (Env.set (Env.set (Env.set (Env.set (Env.set (Env.set (Env.set ρ0 16 (.string y106)) 18 (.int .i64 y82)) 17 (.int .i64 y81)) 15 (.pointer (some ⟨H_1.size, 0, none⟩))) 10 (.string r15)) 9 (.pointer (some ⟨H1.size, 0, none⟩))) 3 (Sl.v p3)) := ⟨ρ, hI.eq⟩
            clear hI; unfold F4_4 at h
            refine HW.seq ?_
            refine HW.draw mixed [(0, some []), (1, some []), (2, some []), (3, some []), (4, some []), (5, some []), (6, some []), (7, some []), (8, some []), (9, some []), (10, some []), (13, some []), (14, some []), (15, some []), (16, some []), (17, some []), (18, some []), (19, some []), (20, some []), (11, none), (12, some []), (21, some []), (22, some [])] rfl (by kernel_rfl) (by kernel_rfl) ?_
            refine HPlan.takev (v := (.string y106)) rfl rfl (fun _ => HVal.move' rfl) ?_
            refine HPlan.takev (v := (.pointer (some (Addr.add ⟨H1.size, 0, none⟩ 1)))) rfl rfl (fun _ => HVal.fieldAddr' Tryd.runUnderlying27 rfl rfl Tryd.sizeOf25 rfl) ?_
            obtain ⟨x108, c107, h⟩ := h
            refine HPlan.takel (v := (Sl.v x108)) (fun X => cell X (Addr.add ⟨H1.size, 0, none⟩ 1) = some (Sl.v x108)) rfl rfl (fun _ hX => HVal.load1 Tryd.isAgg25 rfl hX) c107 ?_
            refine HPlan.takev (v := (.int .i64 y82)) rfl rfl (fun _ => HVal.move' rfl) ?_
            obtain ⟨a109, e110, b111, b112, h⟩ := h
            refine HPlan.takev (v := (.pointer (some (Addr.add a109 (y82.toNat * 2))))) rfl rfl (fun _ => HVal.indexAddr Tryd.runUnderlying25 Tryd.sizeOf38 (Sl.v_some rfl e110) rfl b111 b112) ?_
            refine HPlan.takev (v := (.pointer (some (Addr.add a109 (y82.toNat * 2))))) rfl rfl (fun _ => HVal.fieldAddr0 Tryd.runUnderlying38 rfl rfl Tryd.sizeOf9 rfl) ?_
            obtain ⟨x114, c113, h⟩ := h
            refine HPlan.takel (v := (.string x114)) (fun X => cell X (Addr.add a109 (y82.toNat * 2)) = some (.string x114)) rfl rfl (fun _ hX => HVal.load1 Tryd.isAgg9 rfl hX) c113 ?_
            obtain ⟨z115, h⟩ := h
            refine HPlan.takev (v := (.string (y106 ++ x114))) rfl rfl (fun _ => HVal.addS rfl rfl z115) ?_
            refine HPlan.takev (v := (Sl.v p3)) rfl rfl (fun _ => HVal.move' rfl) ?_
            refine HPlan.takev (v := (.int .i64 y81)) rfl rfl (fun _ => HVal.move' rfl) ?_
            refine HPlan.takev (v := (.int .i64 (IntKind.i64.wrap (y81 + 2)))) rfl rfl (fun _ => HVal.add rfl rfl) ?_
            refine HPlan.takev (v := (.pointer (some (Addr.add ⟨H1.size, 0, none⟩ 1)))) rfl rfl (fun _ => HVal.fieldAddr' Tryd.runUnderlying27 rfl rfl Tryd.sizeOf25 rfl) ?_
            obtain ⟨x117, c116, h⟩ := h
            refine HPlan.takel (v := (Sl.v x117)) (fun X => cell X (Addr.add ⟨H1.size, 0, none⟩ 1) = some (Sl.v x117)) rfl rfl (fun _ hX => HVal.load1 Tryd.isAgg25 rfl hX) c116 ?_
            refine HPlan.takev (v := (.int .i64 y82)) rfl rfl (fun _ => HVal.move' rfl) ?_
            obtain ⟨a118, e119, b120, b121, h⟩ := h
            refine HPlan.takev (v := (.pointer (some (Addr.add a118 (y82.toNat * 2))))) rfl rfl (fun _ => HVal.indexAddr Tryd.runUnderlying25 Tryd.sizeOf38 (Sl.v_some rfl e119) rfl b120 b121) ?_
            refine HPlan.takev (v := (.pointer (some (Addr.add (Addr.add a118 (y82.toNat * 2)) 1)))) rfl rfl (fun _ => HVal.fieldAddr' Tryd.runUnderlying38 rfl rfl Tryd.sizeOf3 rfl) ?_
            obtain ⟨x123, c122, h⟩ := h
            refine HPlan.takel (v := (.int .i64 x123)) (fun X => cell X (Addr.add (Addr.add a118 (y82.toNat * 2)) 1) = some (.int .i64 x123)) rfl rfl (fun _ hX => HVal.load1 Tryd.isAgg3 rfl hX) c122 ?_
            obtain ⟨b124, b125, h⟩ := h
            refine HPlan.takev (v := (.pointer (some (Addr.add ⟨H_1.size, 0, none⟩ (x123.toNat * 1))))) rfl rfl (fun _ => HVal.indexAddrA Tryd.runUnderlying49 Tryd.sizeOf9 rfl rfl b124 b125) ?_
            obtain ⟨x127, c126, h⟩ := h
            refine HPlan.takel (v := (.string x127)) (fun X => cell X (Addr.add ⟨H_1.size, 0, none⟩ (x123.toNat * 1)) = some (.string x127)) rfl rfl (fun _ hX => HVal.load1 Tryd.isAgg9 rfl hX) c126 ?_
            refine HPlan.ops' rfl rfl (HOp.call' 16 [(Sl.v p3), (.int .i64 (IntKind.i64.wrap (y81 + 2))), (.bool true)] (cap := []) rfl rfl Tryd.call16 (walk16 h)) ?_
            rintro _ H128 ⟨r130, rfl, h⟩
            obtain ⟨s131, s132, s133, s134, s135, h⟩ := h
            refine ⟨SC_of ⟨fun _ => s131, fun _ => s132, fun _ => s133, fun _ => s134, fun _ => s135, trivial⟩, ?_⟩
            obtain ⟨z136, h⟩ := h
            refine HPlan.takev (v := (.string ((y106 ++ x114) ++ r130))) rfl rfl (fun _ => HVal.addS rfl rfl z136) ?_
            obtain ⟨z137, h⟩ := h
            refine HPlan.takev (v := (.string (((y106 ++ x114) ++ r130) ++ x127))) rfl rfl (fun _ => HVal.addS rfl rfl z137) ?_
            refine HPlan.takev (v := (.string (((y106 ++ x114) ++ r130) ++ x127))) rfl rfl (fun _ => HVal.assign' rfl) ?_
            refine HPlan.done ?_
            refine nt ?_
            refine HW.region ?_
            refine HList.vals (v := (.int .i64 y81)) rfl (HVal.move' rfl) ?_
            refine HList.vals (v := (.int .i64 (IntKind.i64.wrap (y81 + 3)))) rfl (HVal.add rfl rfl) ?_
            refine HList.vals (v := (.int .i64 (IntKind.i64.wrap (y81 + 3)))) rfl (HVal.assign' rfl) ?_
            refine HList.nil ?_
            refine nb ?_
            refine nt ?_
            refine HW.region ?_
            refine HList.vals (v := (.int .i64 y82)) rfl (HVal.move' rfl) ?_
            refine HList.vals (v := (.int .i64 (IntKind.i64.wrap (y82 + 1)))) rfl (HVal.add rfl rfl) ?_
            refine HList.vals (v := (.int .i64 (IntKind.i64.wrap (y82 + 1)))) rfl (HVal.assign' rfl) ?_
            refine HList.nil ?_
            refine nt ?_
            exact (hX3 _ _ _ _).1 h _ ⟨rfl, rfl, rfl, rfl, rfl, rfl, rfl, trivial⟩
        · have h := hF hb89
          clear hT hF
          refine HW.exit ?_
          refine te ?_
          refine te ?_
          refine be ?_
          refine nt ?_
          exact ⟨y80, y81, ⟨rfl, rfl, rfl, rfl, rfl, trivial⟩, h⟩
      · rintro ρ H_2 ⟨y138, y139, hI, h⟩
        obtain ⟨ρ0, rfl⟩ : ∃ ρ0, ρ = (Env.set (Env.set (Env.set (Env.set (Env.set ρ0 17 (.int .i64 y139)) 16 (.string y138)) 10 (.string r15)) 9 (.pointer (some ⟨H1.size, 0, none⟩))) 3 (Sl.v p3)) := ⟨ρ, hI.eq⟩
        clear hI; unfold F4_2 at h
        refine HW.seq ?_
        refine HW.region ?_
        refine HList.vals (v := (.string y138)) rfl (HVal.move' rfl) ?_
        refine HList.vals (v := (Sl.v p3)) rfl (HVal.move' rfl) ?_
        refine HList.vals (v := (.int .i64 y139)) rfl (HVal.move' rfl) ?_
        refine HList.ops' rfl (HOp.call' 16 [(Sl.v p3), (.int .i64 y139), (.bool false)] (cap := []) rfl rfl Tryd.call16 (walk16 h)) ?_
        rintro _ H140 ⟨r142, rfl, h⟩
        obtain ⟨z143, h⟩ := h
        refine HList.vals (v := (.string (y138 ++ r142))) rfl (HVal.addS rfl rfl z143) ?_
        obtain ⟨z144, h⟩ := h
        refine HList.vals (v := (.string ((y138 ++ r142) ++ S___))) rfl (HVal.addS rfl rfl z144) ?_
        refine HList.vals (v := (Sl.v p3)) rfl (HVal.move' rfl) ?_
        refine HList.vals (v := (.int .i64 y139)) rfl (HVal.move' rfl) ?_
        refine HList.vals (v := (.int .i64 (IntKind.i64.wrap (y139 + 1)))) rfl (HVal.add rfl rfl) ?_
        refine HList.ops' rfl (HOp.call' 16 [(Sl.v p3), (.int .i64 (IntKind.i64.wrap (y139 + 1))), (.bool false)] (cap := []) rfl rfl Tryd.call16 (walk16 h)) ?_
        rintro _ H145 ⟨r147, rfl, h⟩
        obtain ⟨z148, h⟩ := h
        refine HList.vals (v := (.string (((y138 ++ r142) ++ S___) ++ r147))) rfl (HVal.addS rfl rfl z148) ?_
        refine HList.vals (v := (.string (((y138 ++ r142) ++ S___) ++ r147))) rfl (HVal.assign' rfl) ?_
        refine HList.nil ?_
        refine nt ?_
        refine HW.seq ?_
        refine HW.region ?_
        refine HList.vals (v := (.string (((y138 ++ r142) ++ S___) ++ r147))) rfl (HVal.move' rfl) ?_
        refine HList.ops' rfl (HOp.call' 14 [(.string (((y138 ++ r142) ++ S___) ++ r147))] (cap := []) rfl rfl Tryd.call14 (walk14 h)) ?_
        rintro _ H149 ⟨r151, r152, r153, r154, rfl, h⟩
        refine HList.vals (v := (.tuple #[(.agg #[(.string r151), (Sl.v r152)]), (.int .i64 r153), (.int .i64 r154)])) rfl (HVal.move' rfl) ?_
        refine HList.vals (v := (.agg #[(.string r151), (Sl.v r152)])) rfl (HVal.extract rfl rfl) ?_
        refine HList.vals (v := (.int .i64 r153)) rfl (HVal.extract rfl rfl) ?_
        refine HList.vals (v := (.int .i64 r154)) rfl (HVal.extract rfl rfl) ?_
        refine HList.ops' rfl (HOp.alloc Tryd.zeroValue27) ?_
        rintro _ H155 ⟨rfl, e156⟩
        replace h := h H155 e156
        obtain ⟨z159, h⟩ := h
        refine HList.opsn (HOp.storeN' (l := [(.string r151), (Sl.v r152)]) Tryd.sizeOf27 rfl rfl rfl z159) ?_
        rintro _ H157 e158
        replace h := h H157 e158
        refine HList.vals (v := (.int .i64 r153)) rfl (HVal.assign' rfl) ?_
        refine HList.vals (v := (.int .i64 r154)) rfl (HVal.assign' rfl) ?_
        refine HList.nil ?_
        refine nt ?_
        refine HW.seq ?_
        refine HW.region ?_
        obtain ⟨x161, x162, c160, h⟩ := h
        refine HList.vals (v := (.agg #[(.string x161), (Sl.v x162)])) rfl (HVal.loadN [(.string x161), (Sl.v x162)] Tryd.isAgg27 Tryd.sizeOf27 rfl c160) ?_
        refine HList.ops' rfl (HOp.call' 13 [(.agg #[(.string x161), (Sl.v x162)])] (cap := []) rfl rfl Tryd.call13 (walk13 h)) ?_
        rintro _ H163 ⟨r165, r166, rfl, h⟩
        refine HList.vals (v := (.tuple #[(.string r165), (.int .i64 r166)])) rfl (HVal.move' rfl) ?_
        refine HList.vals (v := (.string r165)) rfl (HVal.extract rfl rfl) ?_
        refine HList.vals (v := (.int .i64 r166)) rfl (HVal.extract rfl rfl) ?_
        refine HList.vals (v := (.string r165)) rfl (HVal.assign' rfl) ?_
        refine HList.vals (v := (.int .i64 r166)) rfl (HVal.assign' rfl) ?_
        refine HList.nil ?_
        refine nt ?_
        refine HW.seq ?_
        refine HW.region ?_
        refine HList.vals (v := (.int .i64 r154)) rfl (HVal.move' rfl) ?_
        refine HList.vals (v := (.bool (decide (r154 = 0)))) rfl (HVal.eqlI rfl rfl) ?_
        refine HList.vals (v := (.bool (decide (r154 = 0)))) rfl (HVal.move' rfl) ?_
        obtain ⟨hT, hF⟩ := h
        rcases Bool.eq_false_or_eq_true (decide (r154 = 0)) with hb167 | hb168
        · have h := hT hb167
          clear hT hF
          refine HList.gvals (v := (.int .i64 r153)) rfl rfl rfl rfl (congrArg Value.bool hb167) (HVal.move' rfl) ?_
          refine HList.gvals (v := (.bool (decide (r153 = 0)))) rfl rfl rfl rfl (congrArg Value.bool hb167) (HVal.eqlI rfl rfl) ?_
          refine HList.vals (v := (.bool (decide (r153 = 0)))) rfl (HVal.pickT rfl hb167 rfl) ?_
          refine HList.vals (v := (.bool (decide (r153 = 0)))) rfl (HVal.move' rfl) ?_
          obtain ⟨hT, hF⟩ := h
          rcases Bool.eq_false_or_eq_true (decide (r153 = 0)) with hb169 | hb170
          · have h := hT hb169
            clear hT hF
            obtain ⟨x172, x173, c171, h⟩ := h
            refine HList.gvals (v := (.agg #[(.string x172), (Sl.v x173)])) rfl rfl rfl rfl (congrArg Value.bool hb169) (HVal.loadN [(.string x172), (Sl.v x173)] Tryd.isAgg27 Tryd.sizeOf27 rfl c171) ?_
            obtain ⟨x175, x176, c174, h⟩ := h
            refine HList.gvals (v := (.agg #[(.string x175), (Sl.v x176)])) rfl rfl rfl rfl (congrArg Value.bool hb169) (HVal.loadN [(.string x175), (Sl.v x176)] Tryd.isAgg27 Tryd.sizeOf27 rfl c174) ?_
            refine HList.gops rfl rfl rfl rfl (congrArg Value.bool hb169) (HOp.call' 15 [(.agg #[(.string x172), (Sl.v x173)]), (.agg #[(.string x175), (Sl.v x176)])] (cap := []) rfl rfl Tryd.call15 (walk15 h)) ?_
            rintro _ H177 ⟨r179, rfl, h⟩
            refine HList.vals (v := (.bool r179)) rfl (HVal.pickT rfl hb169 rfl) ?_
            refine HList.vals (v := (.bool r179)) rfl (HVal.move' rfl) ?_
            obtain ⟨hT, hF⟩ := h
            rcases Bool.eq_false_or_eq_true r179 with hb180 | hb181
            · have h := hT hb180
              clear hT hF
              refine HList.gvals (v := (.int .i64 r166)) rfl rfl rfl rfl (congrArg Value.bool hb180) (HVal.move' rfl) ?_
              refine HList.gvals (v := (.bool (decide (r166 = 0)))) rfl rfl rfl rfl (congrArg Value.bool hb180) (HVal.eqlI rfl rfl) ?_
              refine HList.vals (v := (.bool (decide (r166 = 0)))) rfl (HVal.pickT rfl hb180 rfl) ?_
              refine HList.vals (v := (.bool (decide (r166 = 0)))) rfl (HVal.move' rfl) ?_
              obtain ⟨hT, hF⟩ := h
              rcases Bool.eq_false_or_eq_true (decide (r166 = 0)) with hb182 | hb183
              · have h := hT hb182
                clear hT hF
                refine HList.gvals (v := (.string r165)) rfl rfl rfl rfl (congrArg Value.bool hb182) (HVal.move' rfl) ?_
                refine HList.gvals (v := (.string r15)) rfl rfl rfl rfl (congrArg Value.bool hb182) (HVal.move' rfl) ?_
                refine HList.gvals (v := (.bool (seq r165 r15))) rfl rfl rfl rfl (congrArg Value.bool hb182) (HVal.eqlS rfl rfl) ?_
                refine HList.vals (v := (.bool (seq r165 r15))) rfl (HVal.pickT rfl hb182 rfl) ?_
                refine HList.vals (v := (.bool (seq r165 r15))) rfl (HVal.assign' rfl) ?_
                refine HList.nil ?_
                refine nt ?_
                refine HW.ret ?_
                exact ⟨_, resOf1 rfl Res1.t, ⟨(seq r165 r15), rfl, h⟩⟩
              · have h := hF hb183
                clear hT hF
                refine HList.gskips rfl rfl rfl rfl (congrArg Value.bool hb183) ?_
                refine HList.gskips rfl rfl rfl rfl (congrArg Value.bool hb183) ?_
                refine HList.gskips rfl rfl rfl rfl (congrArg Value.bool hb183) ?_
                refine HList.vals (v := (.bool false)) rfl (HVal.pickF rfl hb183 rfl) ?_
                refine HList.vals (v := (.bool false)) rfl (HVal.assign' rfl) ?_
                refine HList.nil ?_
                refine nt ?_
                refine HW.ret ?_
                exact ⟨_, resOf1 rfl Res1.t, ⟨false, rfl, h⟩⟩
            · have h := hF hb181
              clear hT hF
              refine HList.gskips rfl rfl rfl rfl (congrArg Value.bool hb181) ?_
              refine HList.gskips rfl rfl rfl rfl (congrArg Value.bool hb181) ?_
              refine HList.vals (v := (.bool false)) rfl (HVal.pickF rfl hb181 rfl) ?_
              refine HList.vals (v := (.bool false)) rfl (HVal.move' rfl) ?_
              refine HList.gskips rfl rfl rfl rfl rfl ?_
              refine HList.gskips rfl rfl rfl rfl rfl ?_
              refine HList.gskips rfl rfl rfl rfl rfl ?_
              refine HList.vals (v := (.bool false)) rfl (HVal.pickF rfl rfl rfl) ?_
              refine HList.vals (v := (.bool false)) rfl (HVal.assign' rfl) ?_
              refine HList.nil ?_
              refine nt ?_
              refine HW.ret ?_
              exact ⟨_, resOf1 rfl Res1.t, ⟨false, rfl, h⟩⟩
          · have h := hF hb170
            clear hT hF
            refine HList.gskips rfl rfl rfl rfl (congrArg Value.bool hb170) ?_
            refine HList.gskips rfl rfl rfl rfl (congrArg Value.bool hb170) ?_
            refine HList.gskips rfl rfl rfl rfl (congrArg Value.bool hb170) ?_
            refine HList.vals (v := (.bool false)) rfl (HVal.pickF rfl hb170 rfl) ?_
            refine HList.vals (v := (.bool false)) rfl (HVal.move' rfl) ?_
            refine HList.gskips rfl rfl rfl rfl rfl ?_
            refine HList.gskips rfl rfl rfl rfl rfl ?_
            refine HList.vals (v := (.bool false)) rfl (HVal.pickF rfl rfl rfl) ?_
            refine HList.vals (v := (.bool false)) rfl (HVal.move' rfl) ?_
            refine HList.gskips rfl rfl rfl rfl rfl ?_
            refine HList.gskips rfl rfl rfl rfl rfl ?_
            refine HList.gskips rfl rfl rfl rfl rfl ?_
            refine HList.vals (v := (.bool false)) rfl (HVal.pickF rfl rfl rfl) ?_
            refine HList.vals (v := (.bool false)) rfl (HVal.assign' rfl) ?_
            refine HList.nil ?_
            refine nt ?_
            refine HW.ret ?_
            exact ⟨_, resOf1 rfl Res1.t, ⟨false, rfl, h⟩⟩
        · have h := hF hb168
          clear hT hF
          refine HList.gskips rfl rfl rfl rfl (congrArg Value.bool hb168) ?_
          refine HList.gskips rfl rfl rfl rfl (congrArg Value.bool hb168) ?_
          refine HList.vals (v := (.bool false)) rfl (HVal.pickF rfl hb168 rfl) ?_
          refine HList.vals (v := (.bool false)) rfl (HVal.move' rfl) ?_
          refine HList.gskips rfl rfl rfl rfl rfl ?_
          refine HList.gskips rfl rfl rfl rfl rfl ?_
          refine HList.gskips rfl rfl rfl rfl rfl ?_
          refine HList.vals (v := (.bool false)) rfl (HVal.pickF rfl rfl rfl) ?_
          refine HList.vals (v := (.bool false)) rfl (HVal.move' rfl) ?_
          refine HList.gskips rfl rfl rfl rfl rfl ?_
          refine HList.gskips rfl rfl rfl rfl rfl ?_
          refine HList.vals (v := (.bool false)) rfl (HVal.pickF rfl rfl rfl) ?_
          refine HList.vals (v := (.bool false)) rfl (HVal.move' rfl) ?_
          refine HList.gskips rfl rfl rfl rfl rfl ?_
          refine HList.gskips rfl rfl rfl rfl rfl ?_
          refine HList.gskips rfl rfl rfl rfl rfl ?_
          refine HList.vals (v := (.bool false)) rfl (HVal.pickF rfl rfl rfl) ?_
          refine HList.vals (v := (.bool false)) rfl (HVal.assign' rfl) ?_
          refine HList.nil ?_
          refine nt ?_
          refine HW.ret ?_
          exact ⟨_, resOf1 rfl Res1.t, ⟨false, rfl, h⟩⟩

def F5_11 (Q : Bool → Hp → Prop) (y73 : ByteArray) (y74 : Bool) (y75 : (Option Addr)) (y78 : Bool) (H_11 : Hp) : Prop :=
(y78 = true → (Q false H_11)) ∧
 (y78 = false → (F9 y75 y73 Sl.nil H_11 (fun (r90 : Int) (H88 : Hp) => 
 ∀ H91 : Hp, H91 = Array.push H88 (.cells #[(.string y73), (.int .i64 1)] 38) → (
 F9 y75 S_Other (Sl.mk (some ⟨H88.size, 0, none⟩) 1 1) H91 (fun (r95 : Int) (H93 : Hp) => 
 ((!y74) = true → (F17 y73 H93 (fun (r99 : Bool) (H97 : Hp) => 
 ((!r99) = true → (((decide (r90 = 20)) = true → (((decide (r95 = 20)) = true → (F18 y75 H97 (fun (r108 : Sl) (H106 : Hp) => 
 Q (decide (((r108).n : Int) = 0)) H106))) ∧
 ((decide (r95 = 20)) = false → (Q false H97)))) ∧
 ((decide (r90 = 20)) = false → (Q false H97)))) ∧
 ((!r99) = false → (Q false H97))))) ∧
 ((!y74) = false → (((seq y73 S_Other) = true → (F17 y73 H93 (fun (r112 : Bool) (H110 : Hp) => 
 (r112 = true → (((decide (r90 = 0)) = true → (Q (decide (r95 = 5)) H110)) ∧
 ((decide (r90 = 0)) = false → (Q false H110)))) ∧
 (r112 = false → (Q false H110))))) ∧
 ((seq y73 S_Other) = false → (F17 y73 H93 (fun (r119 : Bool) (H117 : Hp) => 
 (r119 = true → (((decide (r90 = 0)) = true → ((((decide (r95 = 0)) == (!(seq y73 S_time))) = true → (Q ((decide (r95 = 20)) == (seq y73 S_time)) H117)) ∧
 (((decide (r95 = 0)) == (!(seq y73 S_time))) = false → (Q false H117)))) ∧
 ((decide (r90 = 0)) = false → (Q false H117)))) ∧
 (r119 = false → (Q false H117))))))))))))
def F5_8 (Q : Bool → Hp → Prop) (y54 : ByteArray) (y69 : Bool) (H_8 : Hp) : Prop :=
F7 H_8 (fun (r72 : (Option Addr)) (H70 : Hp) => 
 ((r72.isNone) = true → (F5_11 Q y54 y69 r72 true H70)) ∧
 ((r72.isNone) = false → (F17 S_x H70 (fun (r81 : Bool) (H79 : Hp) => 
 ((!r81) = true → (F5_11 Q y54 y69 r72 true H79)) ∧
 ((!r81) = false → (F17 S_INT H79 (fun (r86 : Bool) (H84 : Hp) => 
 F5_11 Q y54 y69 r72 r86 H84)))))))
def F5_10 (Q : Bool → Hp → Prop) (X9 : Bool → Int → Hp → Prop) (y60 : ByteArray) (y61 : Addr) (y62 : Int) (y68 : Bool) (H_10 : Hp) : Prop :=
X9 y68 (IntKind.i64.wrap (y62 + 1)) H_10
def F5_L9b (Q : Bool → Hp → Prop) (X9 : Bool → Int → Hp → Prop) (y57 : ByteArray) (y58 : Addr) (y55 : Bool) (y56 : Int) (H_9 : Hp) : Prop :=
((decide (y56 < 16)) = true → ((0 : Int) ≤ y56 ∧ y56 < ((16 : Nat) : Int) ∧ (
 ∃ x66 : ByteArray, cell H_9 (Addr.add y58 (y56.toNat * 1)) = some (.string x66) ∧ (
 ((seq x66 y57) = true → (F5_10 Q X9 y57 y58 y56 false H_9)) ∧
 ((seq x66 y57) = false → (F5_10 Q X9 y57 y58 y56 y55 H_9)))))) ∧
 ((decide (y56 < 16)) = false → (F5_8 Q y57 y55 H_9))
def F5_L9 (Q : Bool → Hp → Prop) (y57 : ByteArray) (y58 : Addr) (y55 : Bool) (y56 : Int) (H_9 : Hp) : Prop :=
  ∀ X9 : Bool → Int → Hp → Prop, (∀ (y55 : Bool) (y56 : Int) (H_9 : Hp), F5_L9b Q X9 y57 y58 y55 y56 H_9 → X9 y55 y56 H_9) → X9 y55 y56 H_9
def F5_2 (Q : Bool → Hp → Prop) (y5 : ByteArray) (y48 : Bool) (H_2 : Hp) : Prop :=
∀ H49 : Hp, H49 = Array.push H_2 (.cells #[(.string (ByteArray.mk #[])), (.string (ByteArray.mk #[])), (.string (ByteArray.mk #[])), (.string (ByteArray.mk #[])), (.string (ByteArray.mk #[])), (.string (ByteArray.mk #[])), (.string (ByteArray.mk #[])), (.string (ByteArray.mk #[])), (.string (ByteArray.mk #[])), (.string (ByteArray.mk #[])), (.string (ByteArray.mk #[])), (.string (ByteArray.mk #[])), (.string (ByteArray.mk #[])), (.string (ByteArray.mk #[])), (.string (ByteArray.mk #[])), (.string (ByteArray.mk #[]))] 52) → (
 mayw H49 ⟨H_2.size, 0, none⟩ 16 0 ∧ ∀ H51 : Hp, H51 = sets H49 ⟨H_2.size, 0, none⟩ [(.string S_PATTERN), (.string S_SEQ), (.string S_PARTITION), (.string S_BY), (.string S_WHERE), (.string S_WITHIN), (.string S_RETURN), (.string S_AND), (.string S_OR), (.string S_NOT), (.string S_TRUE), (.string S_FALSE), (.string S_TYPE), (.string S_INT), (.string S_STR), (.string S_BOOL)] 0 → (
 F5_L9 Q y5 ⟨H_2.size, 0, none⟩ y48 0 H51))
def F5_4 (Q : Bool → Hp → Prop) (X3 : Bool → Int → Hp → Prop) (y10 : ByteArray) (y11 : Int) (y47 : Bool) (H_4 : Hp) : Prop :=
X3 y47 (IntKind.i64.wrap (y11 + 1)) H_4
def F5_7 (Q : Bool → Hp → Prop) (X3 : Bool → Int → Hp → Prop) (y38 : ByteArray) (y39 : Bool) (y40 : Int) (y45 : Bool) (H_7 : Hp) : Prop :=
(y45 = true → (F5_4 Q X3 y38 y40 false H_7)) ∧
 (y45 = false → (F5_4 Q X3 y38 y40 y39 H_7))
def F5_6 (Q : Bool → Hp → Prop) (X3 : Bool → Int → Hp → Prop) (y21 : ByteArray) (y22 : Bool) (y23 : Int) (y24 : Bool) (y29 : Bool) (H_6 : Hp) : Prop :=
((!y29) = true → (((!y24) = true → (F5_7 Q X3 y21 y22 y23 true H_6)) ∧
 ((!y24) = false → (F5_7 Q X3 y21 y22 y23 (decide (y23 = 0)) H_6)))) ∧
 ((!y29) = false → (F5_7 Q X3 y21 y22 y23 false H_6))
def F5_5 (Q : Bool → Hp → Prop) (X3 : Bool → Int → Hp → Prop) (y14 : ByteArray) (y15 : Bool) (y16 : Int) (y17 : Int) (y20 : Bool) (H_5 : Hp) : Prop :=
((decide ((97 : Int) ≤ y17)) = true → (((decide (y17 ≤ 122)) = true → (F5_6 Q X3 y14 y15 y16 y20 true H_5)) ∧
 ((decide (y17 ≤ 122)) = false → (((decide ((65 : Int) ≤ y17)) = true → (((decide (y17 ≤ 90)) = true → (F5_6 Q X3 y14 y15 y16 y20 true H_5)) ∧
 ((decide (y17 ≤ 90)) = false → (F5_6 Q X3 y14 y15 y16 y20 (decide (y17 = 95)) H_5)))) ∧
 ((decide ((65 : Int) ≤ y17)) = false → (F5_6 Q X3 y14 y15 y16 y20 (decide (y17 = 95)) H_5)))))) ∧
 ((decide ((97 : Int) ≤ y17)) = false → (((decide ((65 : Int) ≤ y17)) = true → (((decide (y17 ≤ 90)) = true → (F5_6 Q X3 y14 y15 y16 y20 true H_5)) ∧
 ((decide (y17 ≤ 90)) = false → (F5_6 Q X3 y14 y15 y16 y20 (decide (y17 = 95)) H_5)))) ∧
 ((decide ((65 : Int) ≤ y17)) = false → (F5_6 Q X3 y14 y15 y16 y20 (decide (y17 = 95)) H_5))))
def F5_L3b (Q : Bool → Hp → Prop) (X3 : Bool → Int → Hp → Prop) (y8 : ByteArray) (y6 : Bool) (y7 : Int) (H_3 : Hp) : Prop :=
((decide (y7 < ((y8).size : Int))) = true → ((0 : Int) ≤ y7 ∧ y7.toNat < (y8).size ∧ (
 ((decide ((48 : Int) ≤ (bt y8 y7.toNat))) = true → (F5_5 Q X3 y8 y6 y7 (bt y8 y7.toNat) (decide ((bt y8 y7.toNat) ≤ 57)) H_3)) ∧
 ((decide ((48 : Int) ≤ (bt y8 y7.toNat))) = false → (F5_5 Q X3 y8 y6 y7 (bt y8 y7.toNat) false H_3))))) ∧
 ((decide (y7 < ((y8).size : Int))) = false → (F5_2 Q y8 y6 H_3))
def F5_L3 (Q : Bool → Hp → Prop) (y8 : ByteArray) (y6 : Bool) (y7 : Int) (H_3 : Hp) : Prop :=
  ∀ X3 : Bool → Int → Hp → Prop, (∀ (y6 : Bool) (y7 : Int) (H_3 : Hp), F5_L3b Q X3 y8 y6 y7 H_3 → X3 y6 y7 H_3) → X3 y6 y7 H_3
def F5_1 (Q : Bool → Hp → Prop) (y1 : ByteArray) (y4 : Bool) (H_1 : Hp) : Prop :=
F5_L3 Q y1 y4 0 H_1
def F5 (p0 : ByteArray) (H : Hp) (Q : Bool → Hp → Prop) : Prop :=
((decide ((1 : Int) ≤ ((p0).size : Int))) = true → (F5_1 Q p0 (decide (((p0).size : Int) ≤ 32)) H)) ∧
 ((decide ((1 : Int) ≤ ((p0).size : Int))) = false → (F5_1 Q p0 false H))
set_option maxRecDepth 100000 in
set_option maxHeartbeats 4000000 in
theorem walk5 {w0 : World} {p0 : ByteArray} {H : Hp} {Q : Bool → Hp → Prop} (h : F5 p0 H Q) :
    Good Tryd.prog w0 5 #[(.string p0)] H (fun v H => ∃ (r0 : Bool) , v = (.bool r0) ∧ Q r0 H) := by
  unfold F5 at h
  refine Good.enter' (fn := Tryd.f5) Tryd.func5 rfl rfl rfl ?_
  refine HW.seq ?_
  refine HW.region ?_
  refine HList.vals (v := (.bool false)) rfl (HVal.assign' rfl) ?_
  refine HList.nil ?_
  refine nt ?_
  refine HW.cut (fun ρ H_1 => ∃ (y4 : Bool), Env.Is ρ [(0, (.string p0)), (3, (.bool y4))] ∧ F5_1 Q p0 y4 H_1) ?_ ?_
  · refine HW.region ?_
    refine HList.vals (v := (.string p0)) rfl (HVal.move' rfl) ?_
    refine HList.vals (v := (.int .i64 ((p0).size : Int))) rfl (HVal.lenS Tryd.runUnderlying9 rfl) ?_
    refine HList.vals (v := (.bool (decide ((1 : Int) ≤ ((p0).size : Int))))) rfl (HVal.geq rfl rfl) ?_
    refine HList.vals (v := (.bool (decide ((1 : Int) ≤ ((p0).size : Int))))) rfl (HVal.move' rfl) ?_
    obtain ⟨hT, hF⟩ := h
    rcases Bool.eq_false_or_eq_true (decide ((1 : Int) ≤ ((p0).size : Int))) with hb2 | hb3
    · have h := hT hb2
      clear hT hF
      refine HList.gvals (v := (.string p0)) rfl rfl rfl rfl (congrArg Value.bool hb2) (HVal.move' rfl) ?_
      refine HList.gvals (v := (.int .i64 ((p0).size : Int))) rfl rfl rfl rfl (congrArg Value.bool hb2) (HVal.lenS Tryd.runUnderlying9 rfl) ?_
      refine HList.gvals (v := (.bool (decide (((p0).size : Int) ≤ 32)))) rfl rfl rfl rfl (congrArg Value.bool hb2) (HVal.leq rfl rfl) ?_
      refine HList.vals (v := (.bool (decide (((p0).size : Int) ≤ 32)))) rfl (HVal.pickT rfl hb2 rfl) ?_
      refine HList.vals (v := (.bool (decide (((p0).size : Int) ≤ 32)))) rfl (HVal.assign' rfl) ?_
      refine HList.nil ?_
      refine nt ?_
      exact ⟨(decide (((p0).size : Int) ≤ 32)), ⟨rfl, rfl, trivial⟩, h⟩
    · have h := hF hb3
      clear hT hF
      refine HList.gskips rfl rfl rfl rfl (congrArg Value.bool hb3) ?_
      refine HList.gskips rfl rfl rfl rfl (congrArg Value.bool hb3) ?_
      refine HList.gskips rfl rfl rfl rfl (congrArg Value.bool hb3) ?_
      refine HList.vals (v := (.bool false)) rfl (HVal.pickF rfl hb3 rfl) ?_
      refine HList.vals (v := (.bool false)) rfl (HVal.assign' rfl) ?_
      refine HList.nil ?_
      refine nt ?_
      exact ⟨false, ⟨rfl, rfl, trivial⟩, h⟩
  · rintro ρ H_1 ⟨y4, hI, h⟩
    obtain ⟨ρ0, rfl⟩ : ∃ ρ0, ρ = (Env.set (Env.set ρ0 3 (.bool y4)) 0 (.string p0)) := ⟨ρ, hI.eq⟩
    clear hI; unfold F5_1 at h
    refine HW.cut (fun ρ H_2 => ∃ (y48 : Bool), Env.Is ρ [(0, (.string p0)), (3, (.bool y48))] ∧ F5_2 Q p0 y48 H_2) ?_ ?_
    · refine HW.seq ?_
      refine HW.region ?_
      refine HList.vals (v := (.int .i64 0)) rfl (HVal.assign' rfl) ?_
      refine HList.nil ?_
      refine nt ?_
      refine HW.block ?_
      refine HW.loop' (fun L3 hL3 => ?_)
      obtain ⟨X3, hX3⟩ : ∃ X3 : Bool → Int → Hp → Prop, ∀ (y6 : Bool) (y7 : Int) (H_3 : Hp), X3 y6 y7 H_3 ↔ ∀ ρ, Env.Is ρ [(0, (.string p0)), (3, (.bool y6)), (4, (.int .i64 y7))] → L3 ρ H_3 := ⟨_, fun _ _ _ => Iff.rfl⟩
      refine (hX3 _ _ _).1 (h X3 ?_) _ ?_
      rotate_left
      · exact ⟨rfl, rfl, rfl, trivial⟩
      clear h
      intro y6 y7 H_3 h
      refine (hX3 _ _ _).2 fun ρ hI => ?_
      obtain ⟨ρ0, rfl⟩ : ∃ ρ0, ρ = (Env.set (Env.set (Env.set ρ0 4 (.int .i64 y7)) 3 (.bool y6)) 0 (.string p0)) := ⟨ρ, hI.eq⟩
      clear hI; unfold F5_L3b at h; refine hL3 _ _ ?_
      refine HW.seq ?_
      refine HW.seq ?_
      refine HW.region ?_
      refine HList.vals (v := (.int .i64 y7)) rfl (HVal.move' rfl) ?_
      refine HList.vals (v := (.string p0)) rfl (HVal.move' rfl) ?_
      refine HList.vals (v := (.int .i64 ((p0).size : Int))) rfl (HVal.lenS Tryd.runUnderlying9 rfl) ?_
      refine HList.vals (v := (.bool (decide (y7 < ((p0).size : Int))))) rfl (HVal.lss rfl rfl) ?_
      refine HList.nil ?_
      refine nt ?_
      obtain ⟨hT, hF⟩ := h
      refine HW.cond (decide (y7 < ((p0).size : Int))) rfl (fun hb9 => ?_) (fun hb9 => ?_)
      · have h := hT hb9
        clear hT hF
        refine HW.skip ?_
        refine nt ?_
        refine HW.cut (fun ρ H_4 => ∃ (y47 : Bool), Env.Is ρ [(0, (.string p0)), (4, (.int .i64 y7)), (3, (.bool y47))] ∧ F5_4 Q X3 p0 y7 y47 H_4) ?_ ?_
        · refine HW.block ?_
          refine HW.seq ?_
          refine HW.region ?_
          refine HList.vals (v := (.string p0)) rfl (HVal.move' rfl) ?_
          refine HList.vals (v := (.int .i64 y7)) rfl (HVal.move' rfl) ?_
          obtain ⟨b12, b13, h⟩ := h
          refine HList.vals (v := (.int .u8 (bt p0 y7.toNat))) rfl (HVal.indexS' Tryd.runUnderlying9 rfl rfl b12 b13) ?_
          refine HList.vals (v := (.int .u8 (bt p0 y7.toNat))) rfl (HVal.assign' rfl) ?_
          refine HList.nil ?_
          refine nt ?_
          refine HW.cut (fun ρ H_5 => ∃ (y20 : Bool), Env.Is ρ [(0, (.string p0)), (3, (.bool y6)), (4, (.int .i64 y7)), (5, (.int .u8 (bt p0 y7.toNat))), (6, (.bool y20))] ∧ F5_5 Q X3 p0 y6 y7 (bt p0 y7.toNat) y20 H_5) ?_ ?_
          · refine HW.region ?_
            refine HList.vals (v := (.int .u8 (bt p0 y7.toNat))) rfl (HVal.move' rfl) ?_
            refine HList.vals (v := (.bool (decide ((48 : Int) ≤ (bt p0 y7.toNat))))) rfl (HVal.geq rfl rfl) ?_
            refine HList.vals (v := (.bool (decide ((48 : Int) ≤ (bt p0 y7.toNat))))) rfl (HVal.move' rfl) ?_
            obtain ⟨hT, hF⟩ := h
            rcases Bool.eq_false_or_eq_true (decide ((48 : Int) ≤ (bt p0 y7.toNat))) with hb18 | hb19
            · have h := hT hb18
              clear hT hF
              refine HList.gvals (v := (.int .u8 (bt p0 y7.toNat))) rfl rfl rfl rfl (congrArg Value.bool hb18) (HVal.move' rfl) ?_
              refine HList.gvals (v := (.bool (decide ((bt p0 y7.toNat) ≤ 57)))) rfl rfl rfl rfl (congrArg Value.bool hb18) (HVal.leq rfl rfl) ?_
              refine HList.vals (v := (.bool (decide ((bt p0 y7.toNat) ≤ 57)))) rfl (HVal.pickT rfl hb18 rfl) ?_
              refine HList.vals (v := (.bool (decide ((bt p0 y7.toNat) ≤ 57)))) rfl (HVal.assign' rfl) ?_
              refine HList.nil ?_
              refine nt ?_
              exact ⟨(decide ((bt p0 y7.toNat) ≤ 57)), ⟨rfl, rfl, rfl, rfl, rfl, trivial⟩, h⟩
            · have h := hF hb19
              clear hT hF
              refine HList.gskips rfl rfl rfl rfl (congrArg Value.bool hb19) ?_
              refine HList.gskips rfl rfl rfl rfl (congrArg Value.bool hb19) ?_
              refine HList.vals (v := (.bool false)) rfl (HVal.pickF rfl hb19 rfl) ?_
              refine HList.vals (v := (.bool false)) rfl (HVal.assign' rfl) ?_
              refine HList.nil ?_
              refine nt ?_
              exact ⟨false, ⟨rfl, rfl, rfl, rfl, rfl, trivial⟩, h⟩
          · rintro ρ H_5 ⟨y20, hI, h⟩
            obtain ⟨ρ0, rfl⟩ : ∃ ρ0, ρ = (Env.set (Env.set (Env.set (Env.set (Env.set ρ0 6 (.bool y20)) 5 (.int .u8 (bt p0 y7.toNat))) 4 (.int .i64 y7)) 3 (.bool y6)) 0 (.string p0)) := ⟨ρ, hI.eq⟩
            clear hI; unfold F5_5 at h
            refine HW.cut (fun ρ H_6 => ∃ (y29 : Bool), Env.Is ρ [(0, (.string p0)), (3, (.bool y6)), (4, (.int .i64 y7)), (6, (.bool y20)), (7, (.bool y29))] ∧ F5_6 Q X3 p0 y6 y7 y20 y29 H_6) ?_ ?_
            · refine HW.region ?_
              refine HList.vals (v := (.int .u8 (bt p0 y7.toNat))) rfl (HVal.move' rfl) ?_
              refine HList.vals (v := (.bool (decide ((97 : Int) ≤ (bt p0 y7.toNat))))) rfl (HVal.geq rfl rfl) ?_
              refine HList.vals (v := (.bool (decide ((97 : Int) ≤ (bt p0 y7.toNat))))) rfl (HVal.move' rfl) ?_
              obtain ⟨hT, hF⟩ := h
              rcases Bool.eq_false_or_eq_true (decide ((97 : Int) ≤ (bt p0 y7.toNat))) with hb25 | hb26
              · have h := hT hb25
                clear hT hF
                refine HList.gvals (v := (.int .u8 (bt p0 y7.toNat))) rfl rfl rfl rfl (congrArg Value.bool hb25) (HVal.move' rfl) ?_
                refine HList.gvals (v := (.bool (decide ((bt p0 y7.toNat) ≤ 122)))) rfl rfl rfl rfl (congrArg Value.bool hb25) (HVal.leq rfl rfl) ?_
                refine HList.vals (v := (.bool (decide ((bt p0 y7.toNat) ≤ 122)))) rfl (HVal.pickT rfl hb25 rfl) ?_
                refine HList.vals (v := (.bool (decide ((bt p0 y7.toNat) ≤ 122)))) rfl (HVal.move' rfl) ?_
                obtain ⟨hT, hF⟩ := h
                rcases Bool.eq_false_or_eq_true (decide ((bt p0 y7.toNat) ≤ 122)) with hb27 | hb28
                · have h := hT hb27
                  clear hT hF
                  refine HList.gskips rfl rfl rfl rfl (congrArg Value.bool hb27) ?_
                  refine HList.gskips rfl rfl rfl rfl (congrArg Value.bool hb27) ?_
                  refine HList.gskips rfl rfl rfl rfl (congrArg Value.bool hb27) ?_
                  refine HList.uskips rfl rfl rfl rfl rfl ?_
                  refine HList.uskips rfl rfl rfl rfl rfl ?_
                  refine HList.gskips rfl rfl rfl rfl (congrArg Value.bool hb27) ?_
                  refine HList.vals (v := (.bool true)) rfl (HVal.pickT rfl hb27 rfl) ?_
                  refine HList.vals (v := (.bool true)) rfl (HVal.move' rfl) ?_
                  refine HList.gskips rfl rfl rfl rfl rfl ?_
                  refine HList.gskips rfl rfl rfl rfl rfl ?_
                  refine HList.vals (v := (.bool true)) rfl (HVal.pickT rfl rfl rfl) ?_
                  refine HList.vals (v := (.bool true)) rfl (HVal.assign' rfl) ?_
                  refine HList.nil ?_
                  refine nt ?_
                  exact ⟨true, ⟨rfl, rfl, rfl, rfl, rfl, trivial⟩, h⟩
                · have h := hF hb28
                  clear hT hF
                  refine HList.gvals (v := (.int .u8 (bt p0 y7.toNat))) rfl rfl rfl rfl (congrArg Value.bool hb28) (HVal.move' rfl) ?_
                  refine HList.gvals (v := (.bool (decide ((65 : Int) ≤ (bt p0 y7.toNat))))) rfl rfl rfl rfl (congrArg Value.bool hb28) (HVal.geq rfl rfl) ?_
                  refine HList.gvals (v := (.bool (decide ((65 : Int) ≤ (bt p0 y7.toNat))))) rfl rfl rfl rfl (congrArg Value.bool hb28) (HVal.move' rfl) ?_
                  obtain ⟨hT, hF⟩ := h
                  rcases Bool.eq_false_or_eq_true (decide ((65 : Int) ≤ (bt p0 y7.toNat))) with hb30 | hb31
                  · have h := hT hb30
                    clear hT hF
                    refine HList.gvals (v := (.int .u8 (bt p0 y7.toNat))) rfl rfl rfl rfl (congrArg Value.bool hb30) (HVal.move' rfl) ?_
                    refine HList.gvals (v := (.bool (decide ((bt p0 y7.toNat) ≤ 90)))) rfl rfl rfl rfl (congrArg Value.bool hb30) (HVal.leq rfl rfl) ?_
                    refine HList.gvals (v := (.bool (decide ((bt p0 y7.toNat) ≤ 90)))) rfl rfl rfl rfl (congrArg Value.bool hb28) (HVal.pickT rfl hb30 rfl) ?_
                    refine HList.vals (v := (.bool (decide ((bt p0 y7.toNat) ≤ 90)))) rfl (HVal.pickF rfl hb28 rfl) ?_
                    refine HList.vals (v := (.bool (decide ((bt p0 y7.toNat) ≤ 90)))) rfl (HVal.move' rfl) ?_
                    obtain ⟨hT, hF⟩ := h
                    rcases Bool.eq_false_or_eq_true (decide ((bt p0 y7.toNat) ≤ 90)) with hb32 | hb33
                    · have h := hT hb32
                      clear hT hF
                      refine HList.gskips rfl rfl rfl rfl (congrArg Value.bool hb32) ?_
                      refine HList.gskips rfl rfl rfl rfl (congrArg Value.bool hb32) ?_
                      refine HList.vals (v := (.bool true)) rfl (HVal.pickT rfl hb32 rfl) ?_
                      refine HList.vals (v := (.bool true)) rfl (HVal.assign' rfl) ?_
                      refine HList.nil ?_
                      refine nt ?_
                      exact ⟨true, ⟨rfl, rfl, rfl, rfl, rfl, trivial⟩, h⟩
                    · have h := hF hb33
                      clear hT hF
                      refine HList.gvals (v := (.int .u8 (bt p0 y7.toNat))) rfl rfl rfl rfl (congrArg Value.bool hb33) (HVal.move' rfl) ?_
                      refine HList.gvals (v := (.bool (decide ((bt p0 y7.toNat) = 95)))) rfl rfl rfl rfl (congrArg Value.bool hb33) (HVal.eqlI rfl rfl) ?_
                      refine HList.vals (v := (.bool (decide ((bt p0 y7.toNat) = 95)))) rfl (HVal.pickF rfl hb33 rfl) ?_
                      refine HList.vals (v := (.bool (decide ((bt p0 y7.toNat) = 95)))) rfl (HVal.assign' rfl) ?_
                      refine HList.nil ?_
                      refine nt ?_
                      exact ⟨(decide ((bt p0 y7.toNat) = 95)), ⟨rfl, rfl, rfl, rfl, rfl, trivial⟩, h⟩
                  · have h := hF hb31
                    clear hT hF
                    refine HList.gskips rfl rfl rfl rfl (congrArg Value.bool hb31) ?_
                    refine HList.gskips rfl rfl rfl rfl (congrArg Value.bool hb31) ?_
                    refine HList.gvals (v := (.bool false)) rfl rfl rfl rfl (congrArg Value.bool hb28) (HVal.pickF rfl hb31 rfl) ?_
                    refine HList.vals (v := (.bool false)) rfl (HVal.pickF rfl hb28 rfl) ?_
                    refine HList.vals (v := (.bool false)) rfl (HVal.move' rfl) ?_
                    refine HList.gvals (v := (.int .u8 (bt p0 y7.toNat))) rfl rfl rfl rfl rfl (HVal.move' rfl) ?_
                    refine HList.gvals (v := (.bool (decide ((bt p0 y7.toNat) = 95)))) rfl rfl rfl rfl rfl (HVal.eqlI rfl rfl) ?_
                    refine HList.vals (v := (.bool (decide ((bt p0 y7.toNat) = 95)))) rfl (HVal.pickF rfl rfl rfl) ?_
                    refine HList.vals (v := (.bool (decide ((bt p0 y7.toNat) = 95)))) rfl (HVal.assign' rfl) ?_
                    refine HList.nil ?_
                    refine nt ?_
                    exact ⟨(decide ((bt p0 y7.toNat) = 95)), ⟨rfl, rfl, rfl, rfl, rfl, trivial⟩, h⟩
              · have h := hF hb26
                clear hT hF
                refine HList.gskips rfl rfl rfl rfl (congrArg Value.bool hb26) ?_
                refine HList.gskips rfl rfl rfl rfl (congrArg Value.bool hb26) ?_
                refine HList.vals (v := (.bool false)) rfl (HVal.pickF rfl hb26 rfl) ?_
                refine HList.vals (v := (.bool false)) rfl (HVal.move' rfl) ?_
                refine HList.gvals (v := (.int .u8 (bt p0 y7.toNat))) rfl rfl rfl rfl rfl (HVal.move' rfl) ?_
                refine HList.gvals (v := (.bool (decide ((65 : Int) ≤ (bt p0 y7.toNat))))) rfl rfl rfl rfl rfl (HVal.geq rfl rfl) ?_
                refine HList.gvals (v := (.bool (decide ((65 : Int) ≤ (bt p0 y7.toNat))))) rfl rfl rfl rfl rfl (HVal.move' rfl) ?_
                obtain ⟨hT, hF⟩ := h
                rcases Bool.eq_false_or_eq_true (decide ((65 : Int) ≤ (bt p0 y7.toNat))) with hb34 | hb35
                · have h := hT hb34
                  clear hT hF
                  refine HList.gvals (v := (.int .u8 (bt p0 y7.toNat))) rfl rfl rfl rfl (congrArg Value.bool hb34) (HVal.move' rfl) ?_
                  refine HList.gvals (v := (.bool (decide ((bt p0 y7.toNat) ≤ 90)))) rfl rfl rfl rfl (congrArg Value.bool hb34) (HVal.leq rfl rfl) ?_
                  refine HList.gvals (v := (.bool (decide ((bt p0 y7.toNat) ≤ 90)))) rfl rfl rfl rfl rfl (HVal.pickT rfl hb34 rfl) ?_
                  refine HList.vals (v := (.bool (decide ((bt p0 y7.toNat) ≤ 90)))) rfl (HVal.pickF rfl rfl rfl) ?_
                  refine HList.vals (v := (.bool (decide ((bt p0 y7.toNat) ≤ 90)))) rfl (HVal.move' rfl) ?_
                  obtain ⟨hT, hF⟩ := h
                  rcases Bool.eq_false_or_eq_true (decide ((bt p0 y7.toNat) ≤ 90)) with hb36 | hb37
                  · have h := hT hb36
                    clear hT hF
                    refine HList.gskips rfl rfl rfl rfl (congrArg Value.bool hb36) ?_
                    refine HList.gskips rfl rfl rfl rfl (congrArg Value.bool hb36) ?_
                    refine HList.vals (v := (.bool true)) rfl (HVal.pickT rfl hb36 rfl) ?_
                    refine HList.vals (v := (.bool true)) rfl (HVal.assign' rfl) ?_
                    refine HList.nil ?_
                    refine nt ?_
                    exact ⟨true, ⟨rfl, rfl, rfl, rfl, rfl, trivial⟩, h⟩
                  · have h := hF hb37
                    clear hT hF
                    refine HList.gvals (v := (.int .u8 (bt p0 y7.toNat))) rfl rfl rfl rfl (congrArg Value.bool hb37) (HVal.move' rfl) ?_
                    refine HList.gvals (v := (.bool (decide ((bt p0 y7.toNat) = 95)))) rfl rfl rfl rfl (congrArg Value.bool hb37) (HVal.eqlI rfl rfl) ?_
                    refine HList.vals (v := (.bool (decide ((bt p0 y7.toNat) = 95)))) rfl (HVal.pickF rfl hb37 rfl) ?_
                    refine HList.vals (v := (.bool (decide ((bt p0 y7.toNat) = 95)))) rfl (HVal.assign' rfl) ?_
                    refine HList.nil ?_
                    refine nt ?_
                    exact ⟨(decide ((bt p0 y7.toNat) = 95)), ⟨rfl, rfl, rfl, rfl, rfl, trivial⟩, h⟩
                · have h := hF hb35
                  clear hT hF
                  refine HList.gskips rfl rfl rfl rfl (congrArg Value.bool hb35) ?_
                  refine HList.gskips rfl rfl rfl rfl (congrArg Value.bool hb35) ?_
                  refine HList.gvals (v := (.bool false)) rfl rfl rfl rfl rfl (HVal.pickF rfl hb35 rfl) ?_
                  refine HList.vals (v := (.bool false)) rfl (HVal.pickF rfl rfl rfl) ?_
                  refine HList.vals (v := (.bool false)) rfl (HVal.move' rfl) ?_
                  refine HList.gvals (v := (.int .u8 (bt p0 y7.toNat))) rfl rfl rfl rfl rfl (HVal.move' rfl) ?_
                  refine HList.gvals (v := (.bool (decide ((bt p0 y7.toNat) = 95)))) rfl rfl rfl rfl rfl (HVal.eqlI rfl rfl) ?_
                  refine HList.vals (v := (.bool (decide ((bt p0 y7.toNat) = 95)))) rfl (HVal.pickF rfl rfl rfl) ?_
                  refine HList.vals (v := (.bool (decide ((bt p0 y7.toNat) = 95)))) rfl (HVal.assign' rfl) ?_
                  refine HList.nil ?_
                  refine nt ?_
                  exact ⟨(decide ((bt p0 y7.toNat) = 95)), ⟨rfl, rfl, rfl, rfl, rfl, trivial⟩, h⟩
            · rintro ρ H_6 ⟨y29, hI, h⟩
              obtain ⟨ρ0, rfl⟩ : ∃ ρ0, ρ = (Env.set (Env.set (Env.set (Env.set (Env.set ρ0 7 (.bool y29)) 6 (.bool y20)) 4 (.int .i64 y7)) 3 (.bool y6)) 0 (.string p0)) := ⟨ρ, hI.eq⟩
              clear hI; unfold F5_6 at h
              refine HW.cut (fun ρ H_7 => ∃ (y45 : Bool), Env.Is ρ [(0, (.string p0)), (3, (.bool y6)), (4, (.int .i64 y7)), (63, (.bool y45))] ∧ F5_7 Q X3 p0 y6 y7 y45 H_7) ?_ ?_
              · refine HW.region ?_
                refine HList.vals (v := (.bool y29)) rfl (HVal.move' rfl) ?_
                refine HList.vals (v := (.bool (!y29))) rfl (HVal.not rfl) ?_
                refine HList.vals (v := (.bool (!y29))) rfl (HVal.move' rfl) ?_
                obtain ⟨hT, hF⟩ := h
                rcases Bool.eq_false_or_eq_true (!y29) with hb41 | hb42
                · have h := hT hb41
                  clear hT hF
                  refine HList.gvals (v := (.bool y20)) rfl rfl rfl rfl (congrArg Value.bool hb41) (HVal.move' rfl) ?_
                  refine HList.gvals (v := (.bool (!y20))) rfl rfl rfl rfl (congrArg Value.bool hb41) (HVal.not rfl) ?_
                  refine HList.gvals (v := (.bool (!y20))) rfl rfl rfl rfl (congrArg Value.bool hb41) (HVal.move' rfl) ?_
                  obtain ⟨hT, hF⟩ := h
                  rcases Bool.eq_false_or_eq_true (!y20) with hb43 | hb44
                  · have h := hT hb43
                    clear hT hF
                    refine HList.gskips rfl rfl rfl rfl (congrArg Value.bool hb43) ?_
                    refine HList.gskips rfl rfl rfl rfl (congrArg Value.bool hb43) ?_
                    refine HList.gvals (v := (.bool true)) rfl rfl rfl rfl (congrArg Value.bool hb41) (HVal.pickT rfl hb43 rfl) ?_
                    refine HList.vals (v := (.bool true)) rfl (HVal.pickT rfl hb41 rfl) ?_
                    refine HList.nil ?_
                    refine nt ?_
                    exact ⟨true, ⟨rfl, rfl, rfl, rfl, trivial⟩, h⟩
                  · have h := hF hb44
                    clear hT hF
                    refine HList.gvals (v := (.int .i64 y7)) rfl rfl rfl rfl (congrArg Value.bool hb44) (HVal.move' rfl) ?_
                    refine HList.gvals (v := (.bool (decide (y7 = 0)))) rfl rfl rfl rfl (congrArg Value.bool hb44) (HVal.eqlI rfl rfl) ?_
                    refine HList.gvals (v := (.bool (decide (y7 = 0)))) rfl rfl rfl rfl (congrArg Value.bool hb41) (HVal.pickF rfl hb44 rfl) ?_
                    refine HList.vals (v := (.bool (decide (y7 = 0)))) rfl (HVal.pickT rfl hb41 rfl) ?_
                    refine HList.nil ?_
                    refine nt ?_
                    exact ⟨(decide (y7 = 0)), ⟨rfl, rfl, rfl, rfl, trivial⟩, h⟩
                · have h := hF hb42
                  clear hT hF
                  refine HList.gskips rfl rfl rfl rfl (congrArg Value.bool hb42) ?_
                  refine HList.gskips rfl rfl rfl rfl (congrArg Value.bool hb42) ?_
                  refine HList.gskips rfl rfl rfl rfl (congrArg Value.bool hb42) ?_
                  refine HList.uskips rfl rfl rfl rfl rfl ?_
                  refine HList.uskips rfl rfl rfl rfl rfl ?_
                  refine HList.gskips rfl rfl rfl rfl (congrArg Value.bool hb42) ?_
                  refine HList.vals (v := (.bool false)) rfl (HVal.pickF rfl hb42 rfl) ?_
                  refine HList.nil ?_
                  refine nt ?_
                  exact ⟨false, ⟨rfl, rfl, rfl, rfl, trivial⟩, h⟩
              · rintro ρ H_7 ⟨y45, hI, h⟩
                obtain ⟨ρ0, rfl⟩ : ∃ ρ0, ρ = (Env.set (Env.set (Env.set (Env.set ρ0 63 (.bool y45)) 4 (.int .i64 y7)) 3 (.bool y6)) 0 (.string p0)) := ⟨ρ, hI.eq⟩
                clear hI; unfold F5_7 at h
                obtain ⟨hT, hF⟩ := h
                refine HW.cond y45 rfl (fun hb46 => ?_) (fun hb46 => ?_)
                · have h := hT hb46
                  clear hT hF
                  refine HW.region ?_
                  refine HList.vals (v := (.bool false)) rfl (HVal.assign' rfl) ?_
                  refine HList.nil ?_
                  refine nb ?_
                  refine nt ?_
                  exact ⟨false, ⟨rfl, rfl, rfl, trivial⟩, h⟩
                · have h := hF hb46
                  clear hT hF
                  refine HW.skip ?_
                  refine nb ?_
                  refine nt ?_
                  exact ⟨y6, ⟨rfl, rfl, rfl, trivial⟩, h⟩
        · rintro ρ H_4 ⟨y47, hI, h⟩
          obtain ⟨ρ0, rfl⟩ : ∃ ρ0, ρ = (Env.set (Env.set (Env.set ρ0 3 (.bool y47)) 4 (.int .i64 y7)) 0 (.string p0)) := ⟨ρ, hI.eq⟩
          clear hI; unfold F5_4 at h
          refine HW.region ?_
          refine HList.vals (v := (.int .i64 y7)) rfl (HVal.move' rfl) ?_
          refine HList.vals (v := (.int .i64 (IntKind.i64.wrap (y7 + 1)))) rfl (HVal.add rfl rfl) ?_
          refine HList.vals (v := (.int .i64 (IntKind.i64.wrap (y7 + 1)))) rfl (HVal.assign' rfl) ?_
          refine HList.nil ?_
          refine nt ?_
          exact (hX3 _ _ _).1 h _ ⟨rfl, rfl, rfl, trivial⟩
      · have h := hF hb9
        clear hT hF
        refine HW.exit ?_
        refine te ?_
        refine te ?_
        refine be ?_
        refine nt ?_
        exact ⟨y6, ⟨rfl, rfl, trivial⟩, h⟩
    · rintro ρ H_2 ⟨y48, hI, h⟩
      obtain ⟨ρ0, rfl⟩ : ∃ ρ0, ρ = (Env.set (Env.set ρ0 3 (.bool y48)) 0 (.string p0)) := ⟨ρ, hI.eq⟩
      clear hI; unfold F5_2 at h
      refine HW.seq ?_
      refine HW.region ?_
      refine HList.vals (v := (.agg #[(.string S_PATTERN), (.string S_SEQ), (.string S_PARTITION), (.string S_BY), (.string S_WHERE), (.string S_WITHIN), (.string S_RETURN), (.string S_AND), (.string S_OR), (.string S_NOT), (.string S_TRUE), (.string S_FALSE), (.string S_TYPE), (.string S_INT), (.string S_STR), (.string S_BOOL)])) rfl (HVal.buildA' (cs := [(.string S_PATTERN), (.string S_SEQ), (.string S_PARTITION), (.string S_BY), (.string S_WHERE), (.string S_WITHIN), (.string S_RETURN), (.string S_AND), (.string S_OR), (.string S_NOT), (.string S_TRUE), (.string S_FALSE), (.string S_TYPE), (.string S_INT), (.string S_STR), (.string S_BOOL)]) Tryd.runUnderlying52 Tryd.zeroValue52 Tryd.sizeOf9 (by kernel_rfl)) ?_
      refine HList.ops' rfl (HOp.alloc Tryd.zeroValue52) ?_
      rintro _ H49 ⟨rfl, e50⟩
      replace h := h H49 e50
      obtain ⟨z53, h⟩ := h
      refine HList.opsn (HOp.storeN' (l := [(.string S_PATTERN), (.string S_SEQ), (.string S_PARTITION), (.string S_BY), (.string S_WHERE), (.string S_WITHIN), (.string S_RETURN), (.string S_AND), (.string S_OR), (.string S_NOT), (.string S_TRUE), (.string S_FALSE), (.string S_TYPE), (.string S_INT), (.string S_STR), (.string S_BOOL)]) Tryd.sizeOf52 rfl rfl rfl z53) ?_
      rintro _ H51 e52
      replace h := h H51 e52
      refine HList.nil ?_
      refine nt ?_
      refine HW.cut (fun ρ H_8 => ∃ (y69 : Bool), Env.Is ρ [(0, (.string p0)), (3, (.bool y69))] ∧ F5_8 Q p0 y69 H_8) ?_ ?_
      · refine HW.seq ?_
        refine HW.region ?_
        refine HList.vals (v := (.int .i64 0)) rfl (HVal.assign' rfl) ?_
        refine HList.nil ?_
        refine nt ?_
        refine HW.block ?_
        refine HW.loop' (fun L9 hL9 => ?_)
        obtain ⟨X9, hX9⟩ : ∃ X9 : Bool → Int → Hp → Prop, ∀ (y55 : Bool) (y56 : Int) (H_9 : Hp), X9 y55 y56 H_9 ↔ ∀ ρ, Env.Is ρ [(0, (.string p0)), (8, (.pointer (some ⟨H_2.size, 0, none⟩))), (3, (.bool y55)), (9, (.int .i64 y56))] → L9 ρ H_9 := ⟨_, fun _ _ _ => Iff.rfl⟩
        refine (hX9 _ _ _).1 (h X9 ?_) _ ?_
        rotate_left
        · exact ⟨rfl, rfl, rfl, rfl, trivial⟩
        clear h
        intro y55 y56 H_9 h
        refine (hX9 _ _ _).2 fun ρ hI => ?_
        obtain ⟨ρ0, rfl⟩ : ∃ ρ0, ρ = (Env.set (Env.set (Env.set (Env.set ρ0 9 (.int .i64 y56)) 3 (.bool y55)) 8 (.pointer (some ⟨H_2.size, 0, none⟩))) 0 (.string p0)) := ⟨ρ, hI.eq⟩
        clear hI; unfold F5_L9b at h; refine hL9 _ _ ?_
        refine HW.seq ?_
        refine HW.seq ?_
        refine HW.region ?_
        refine HList.vals (v := (.int .i64 y56)) rfl (HVal.move' rfl) ?_
        refine HList.vals (v := (.bool (decide (y56 < 16)))) rfl (HVal.lss rfl rfl) ?_
        refine HList.nil ?_
        refine nt ?_
        obtain ⟨hT, hF⟩ := h
        refine HW.cond (decide (y56 < 16)) rfl (fun hb59 => ?_) (fun hb59 => ?_)
        · have h := hT hb59
          clear hT hF
          refine HW.skip ?_
          refine nt ?_
          refine HW.cut (fun ρ H_10 => ∃ (y68 : Bool), Env.Is ρ [(0, (.string p0)), (8, (.pointer (some ⟨H_2.size, 0, none⟩))), (9, (.int .i64 y56)), (3, (.bool y68))] ∧ F5_10 Q X9 p0 ⟨H_2.size, 0, none⟩ y56 y68 H_10) ?_ ?_
          · refine HW.block ?_
            refine HW.seq ?_
            refine HW.region ?_
            refine HList.vals (v := (.int .i64 y56)) rfl (HVal.move' rfl) ?_
            obtain ⟨b63, b64, h⟩ := h
            refine HList.vals (v := (.pointer (some (Addr.add ⟨H_2.size, 0, none⟩ (y56.toNat * 1))))) rfl (HVal.indexAddrA Tryd.runUnderlying52 Tryd.sizeOf9 rfl rfl b63 b64) ?_
            obtain ⟨x66, c65, h⟩ := h
            refine HList.vals (v := (.string x66)) rfl (HVal.load1 Tryd.isAgg9 rfl c65) ?_
            refine HList.vals (v := (.string p0)) rfl (HVal.move' rfl) ?_
            refine HList.vals (v := (.bool (seq x66 p0))) rfl (HVal.eqlS rfl rfl) ?_
            refine HList.nil ?_
            refine nt ?_
            obtain ⟨hT, hF⟩ := h
            refine HW.cond (seq x66 p0) rfl (fun hb67 => ?_) (fun hb67 => ?_)
            · have h := hT hb67
              clear hT hF
              refine HW.region ?_
              refine HList.vals (v := (.bool false)) rfl (HVal.assign' rfl) ?_
              refine HList.nil ?_
              refine nb ?_
              refine nt ?_
              exact ⟨false, ⟨rfl, rfl, rfl, rfl, trivial⟩, h⟩
            · have h := hF hb67
              clear hT hF
              refine HW.skip ?_
              refine nb ?_
              refine nt ?_
              exact ⟨y55, ⟨rfl, rfl, rfl, rfl, trivial⟩, h⟩
          · rintro ρ H_10 ⟨y68, hI, h⟩
            obtain ⟨ρ0, rfl⟩ : ∃ ρ0, ρ = (Env.set (Env.set (Env.set (Env.set ρ0 3 (.bool y68)) 9 (.int .i64 y56)) 8 (.pointer (some ⟨H_2.size, 0, none⟩))) 0 (.string p0)) := ⟨ρ, hI.eq⟩
            clear hI; unfold F5_10 at h
            refine HW.region ?_
            refine HList.vals (v := (.int .i64 y56)) rfl (HVal.move' rfl) ?_
            refine HList.vals (v := (.int .i64 (IntKind.i64.wrap (y56 + 1)))) rfl (HVal.add rfl rfl) ?_
            refine HList.vals (v := (.int .i64 (IntKind.i64.wrap (y56 + 1)))) rfl (HVal.assign' rfl) ?_
            refine HList.nil ?_
            refine nt ?_
            exact (hX9 _ _ _).1 h _ ⟨rfl, rfl, rfl, rfl, trivial⟩
        · have h := hF hb59
          clear hT hF
          refine HW.exit ?_
          refine te ?_
          refine te ?_
          refine be ?_
          refine nt ?_
          exact ⟨y55, ⟨rfl, rfl, trivial⟩, h⟩
      · rintro ρ H_8 ⟨y69, hI, h⟩
        obtain ⟨ρ0, rfl⟩ : ∃ ρ0, ρ = (Env.set (Env.set ρ0 3 (.bool y69)) 0 (.string p0)) := ⟨ρ, hI.eq⟩
        clear hI; unfold F5_8 at h
        refine HW.seq ?_
        refine HW.region ?_
        refine HList.ops' rfl (HOp.call' 7 [] (cap := []) rfl rfl Tryd.call7 (walk7 h)) ?_
        rintro _ H70 ⟨r72, rfl, h⟩
        refine HList.vals (v := (.pointer r72)) rfl (HVal.assign' rfl) ?_
        refine HList.nil ?_
        refine nt ?_
        refine HW.seq ?_
        refine HW.cut (fun ρ H_11 => ∃ (y78 : Bool), Env.Is ρ [(0, (.string p0)), (3, (.bool y69)), (10, (.pointer r72)), (83, (.bool y78))] ∧ F5_11 Q p0 y69 r72 y78 H_11) ?_ ?_
        · refine HW.region ?_
          refine HList.vals (v := (.pointer r72)) rfl (HVal.move' rfl) ?_
          refine HList.vals (v := (.bool (r72.isNone))) rfl (HVal.eqlPN Tryd.underlying23 rfl rfl) ?_
          refine HList.vals (v := (.bool (r72.isNone))) rfl (HVal.move' rfl) ?_
          obtain ⟨hT, hF⟩ := h
          rcases Bool.eq_false_or_eq_true (r72.isNone) with hb76 | hb77
          · have h := hT hb76
            clear hT hF
            refine HList.gskips rfl rfl rfl rfl (congrArg Value.bool hb76) ?_
            refine HList.gskips rfl rfl rfl rfl (congrArg Value.bool hb76) ?_
            refine HList.vals (v := (.bool true)) rfl (HVal.pickT rfl hb76 rfl) ?_
            refine HList.vals (v := (.bool true)) rfl (HVal.move' rfl) ?_
            refine HList.gskips rfl rfl rfl rfl rfl ?_
            refine HList.vals (v := (.bool true)) rfl (HVal.pickT rfl rfl rfl) ?_
            refine HList.nil ?_
            refine nt ?_
            exact ⟨true, ⟨rfl, rfl, rfl, rfl, trivial⟩, h⟩
          · have h := hF hb77
            clear hT hF
            refine HList.gops rfl rfl rfl rfl (congrArg Value.bool hb77) (HOp.call' 17 [(.string S_x)] (cap := []) rfl rfl Tryd.call17 (walk17 h)) ?_
            rintro _ H79 ⟨r81, rfl, h⟩
            refine HList.gvals (v := (.bool (!r81))) rfl rfl rfl rfl (congrArg Value.bool hb77) (HVal.not rfl) ?_
            refine HList.vals (v := (.bool (!r81))) rfl (HVal.pickF rfl hb77 rfl) ?_
            refine HList.vals (v := (.bool (!r81))) rfl (HVal.move' rfl) ?_
            obtain ⟨hT, hF⟩ := h
            rcases Bool.eq_false_or_eq_true (!r81) with hb82 | hb83
            · have h := hT hb82
              clear hT hF
              refine HList.gskips rfl rfl rfl rfl (congrArg Value.bool hb82) ?_
              refine HList.vals (v := (.bool true)) rfl (HVal.pickT rfl hb82 rfl) ?_
              refine HList.nil ?_
              refine nt ?_
              exact ⟨true, ⟨rfl, rfl, rfl, rfl, trivial⟩, h⟩
            · have h := hF hb83
              clear hT hF
              refine HList.gops rfl rfl rfl rfl (congrArg Value.bool hb83) (HOp.call' 17 [(.string S_INT)] (cap := []) rfl rfl Tryd.call17 (walk17 h)) ?_
              rintro _ H84 ⟨r86, rfl, h⟩
              refine HList.vals (v := (.bool r86)) rfl (HVal.pickF rfl hb83 rfl) ?_
              refine HList.nil ?_
              refine nt ?_
              exact ⟨r86, ⟨rfl, rfl, rfl, rfl, trivial⟩, h⟩
        · rintro ρ H_11 ⟨y78, hI, h⟩
          obtain ⟨ρ0, rfl⟩ : ∃ ρ0, ρ = (Env.set (Env.set (Env.set (Env.set ρ0 83 (.bool y78)) 10 (.pointer r72)) 3 (.bool y69)) 0 (.string p0)) := ⟨ρ, hI.eq⟩
          clear hI; unfold F5_11 at h
          obtain ⟨hT, hF⟩ := h
          refine HW.cond y78 rfl (fun hb87 => ?_) (fun hb87 => ?_)
          · have h := hT hb87
            clear hT hF
            refine HW.seq ?_
            refine HW.region ?_
            refine HList.vals (v := (.bool false)) rfl (HVal.assign' rfl) ?_
            refine HList.nil ?_
            refine nt ?_
            refine HW.ret ?_
            refine tr ?_
            exact ⟨_, resOf1 rfl Res1.t, ⟨false, rfl, h⟩⟩
          · have h := hF hb87
            clear hT hF
            refine HW.skip ?_
            refine nt ?_
            refine HW.seq ?_
            refine HW.region ?_
            refine HList.vals (v := (.pointer r72)) rfl (HVal.move' rfl) ?_
            refine HList.vals (v := (.string p0)) rfl (HVal.move' rfl) ?_
            refine HList.vals (v := (.agg #[(.string p0), (Sl.v Sl.nil)])) rfl (HVal.build' (cs := [(.string p0), (Sl.v Sl.nil)]) Tryd.runUnderlying27 Tryd.zeroValue27 places27 rfl) ?_
            refine HList.ops' rfl (HOp.call' 9 [(.pointer r72), (.agg #[(.string p0), (Sl.v Sl.nil)])] (cap := []) rfl rfl Tryd.call9 (walk9 h)) ?_
            rintro _ H88 ⟨r90, rfl, h⟩
            refine HList.vals (v := (.int .i64 r90)) rfl (HVal.assign' rfl) ?_
            refine HList.nil ?_
            refine nt ?_
            refine HW.seq ?_
            refine HW.region ?_
            refine HList.vals (v := (.pointer r72)) rfl (HVal.move' rfl) ?_
            refine HList.vals (v := (.string p0)) rfl (HVal.move' rfl) ?_
            refine HList.vals (v := (.agg #[(.string p0), (.int .i64 1)])) rfl (HVal.build' (cs := [(.string p0), (.int .i64 1)]) Tryd.runUnderlying38 Tryd.zeroValue38 places38 rfl) ?_
            refine HList.ops' rfl (HOp.buildSlice' (zs := [(.string (ByteArray.mk #[])), (.int .i64 0)]) (cs := [(.string p0), (.int .i64 1)]) Tryd.runUnderlying25 Tryd.sizeOf38 Tryd.zeroValue38 (by decide) (by kernel_rfl) rfl (by decide)) ?_
            rintro _ H91 ⟨rfl, e92⟩
            replace h := h H91 e92
            refine HList.vals (v := (.agg #[(.string S_Other), (Sl.v (Sl.mk (some ⟨H88.size, 0, none⟩) 1 1))])) rfl (HVal.build' (cs := [(.string S_Other), (Sl.v (Sl.mk (some ⟨H88.size, 0, none⟩) 1 1))]) Tryd.runUnderlying27 Tryd.zeroValue27 places27 rfl) ?_
            refine HList.ops' rfl (HOp.call' 9 [(.pointer r72), (.agg #[(.string S_Other), (Sl.v (Sl.mk (some ⟨H88.size, 0, none⟩) 1 1))])] (cap := []) rfl rfl Tryd.call9 (walk9 h)) ?_
            rintro _ H93 ⟨r95, rfl, h⟩
            refine HList.vals (v := (.int .i64 r95)) rfl (HVal.assign' rfl) ?_
            refine HList.nil ?_
            refine nt ?_
            refine HW.seq ?_
            refine HW.seq ?_
            refine HW.region ?_
            refine HList.vals (v := (.bool y69)) rfl (HVal.move' rfl) ?_
            refine HList.vals (v := (.bool (!y69))) rfl (HVal.not rfl) ?_
            refine HList.nil ?_
            refine nt ?_
            obtain ⟨hT, hF⟩ := h
            refine HW.cond (!y69) rfl (fun hb96 => ?_) (fun hb96 => ?_)
            · have h := hT hb96
              clear hT hF
              refine HW.seq ?_
              refine HW.region ?_
              refine HList.vals (v := (.string p0)) rfl (HVal.move' rfl) ?_
              refine HList.ops' rfl (HOp.call' 17 [(.string p0)] (cap := []) rfl rfl Tryd.call17 (walk17 h)) ?_
              rintro _ H97 ⟨r99, rfl, h⟩
              refine HList.vals (v := (.bool (!r99))) rfl (HVal.not rfl) ?_
              refine HList.vals (v := (.bool (!r99))) rfl (HVal.move' rfl) ?_
              obtain ⟨hT, hF⟩ := h
              rcases Bool.eq_false_or_eq_true (!r99) with hb100 | hb101
              · have h := hT hb100
                clear hT hF
                refine HList.gvals (v := (.int .i64 r90)) rfl rfl rfl rfl (congrArg Value.bool hb100) (HVal.move' rfl) ?_
                refine HList.gvals (v := (.bool (decide (r90 = 20)))) rfl rfl rfl rfl (congrArg Value.bool hb100) (HVal.eqlI rfl rfl) ?_
                refine HList.vals (v := (.bool (decide (r90 = 20)))) rfl (HVal.pickT rfl hb100 rfl) ?_
                refine HList.vals (v := (.bool (decide (r90 = 20)))) rfl (HVal.move' rfl) ?_
                obtain ⟨hT, hF⟩ := h
                rcases Bool.eq_false_or_eq_true (decide (r90 = 20)) with hb102 | hb103
                · have h := hT hb102
                  clear hT hF
                  refine HList.gvals (v := (.int .i64 r95)) rfl rfl rfl rfl (congrArg Value.bool hb102) (HVal.move' rfl) ?_
                  refine HList.gvals (v := (.bool (decide (r95 = 20)))) rfl rfl rfl rfl (congrArg Value.bool hb102) (HVal.eqlI rfl rfl) ?_
                  refine HList.vals (v := (.bool (decide (r95 = 20)))) rfl (HVal.pickT rfl hb102 rfl) ?_
                  refine HList.vals (v := (.bool (decide (r95 = 20)))) rfl (HVal.move' rfl) ?_
                  obtain ⟨hT, hF⟩ := h
                  rcases Bool.eq_false_or_eq_true (decide (r95 = 20)) with hb104 | hb105
                  · have h := hT hb104
                    clear hT hF
                    refine HList.gvals (v := (.pointer r72)) rfl rfl rfl rfl (congrArg Value.bool hb104) (HVal.move' rfl) ?_
                    refine HList.gops rfl rfl rfl rfl (congrArg Value.bool hb104) (HOp.call' 18 [(.pointer r72)] (cap := []) rfl rfl Tryd.call18 (walk18 h)) ?_
                    rintro _ H106 ⟨r108, rfl, h⟩
                    refine HList.gvals (v := (.int .i64 ((r108).n : Int))) rfl rfl rfl rfl (congrArg Value.bool hb104) (HVal.len Tryd.runUnderlying54 rfl) ?_
                    refine HList.gvals (v := (.bool (decide (((r108).n : Int) = 0)))) rfl rfl rfl rfl (congrArg Value.bool hb104) (HVal.eqlI rfl rfl) ?_
                    refine HList.vals (v := (.bool (decide (((r108).n : Int) = 0)))) rfl (HVal.pickT rfl hb104 rfl) ?_
                    refine HList.vals (v := (.bool (decide (((r108).n : Int) = 0)))) rfl (HVal.assign' rfl) ?_
                    refine HList.nil ?_
                    refine nt ?_
                    refine HW.ret ?_
                    refine tr ?_
                    exact ⟨_, resOf1 rfl Res1.t, ⟨(decide (((r108).n : Int) = 0)), rfl, h⟩⟩
                  · have h := hF hb105
                    clear hT hF
                    refine HList.gskips rfl rfl rfl rfl (congrArg Value.bool hb105) ?_
                    refine HList.gskips rfl rfl rfl rfl (congrArg Value.bool hb105) ?_
                    refine HList.gskips rfl rfl rfl rfl (congrArg Value.bool hb105) ?_
                    refine HList.gskips rfl rfl rfl rfl (congrArg Value.bool hb105) ?_
                    refine HList.vals (v := (.bool false)) rfl (HVal.pickF rfl hb105 rfl) ?_
                    refine HList.vals (v := (.bool false)) rfl (HVal.assign' rfl) ?_
                    refine HList.nil ?_
                    refine nt ?_
                    refine HW.ret ?_
                    refine tr ?_
                    exact ⟨_, resOf1 rfl Res1.t, ⟨false, rfl, h⟩⟩
                · have h := hF hb103
                  clear hT hF
                  refine HList.gskips rfl rfl rfl rfl (congrArg Value.bool hb103) ?_
                  refine HList.gskips rfl rfl rfl rfl (congrArg Value.bool hb103) ?_
                  refine HList.vals (v := (.bool false)) rfl (HVal.pickF rfl hb103 rfl) ?_
                  refine HList.vals (v := (.bool false)) rfl (HVal.move' rfl) ?_
                  refine HList.gskips rfl rfl rfl rfl rfl ?_
                  refine HList.gskips rfl rfl rfl rfl rfl ?_
                  refine HList.gskips rfl rfl rfl rfl rfl ?_
                  refine HList.gskips rfl rfl rfl rfl rfl ?_
                  refine HList.vals (v := (.bool false)) rfl (HVal.pickF rfl rfl rfl) ?_
                  refine HList.vals (v := (.bool false)) rfl (HVal.assign' rfl) ?_
                  refine HList.nil ?_
                  refine nt ?_
                  refine HW.ret ?_
                  refine tr ?_
                  exact ⟨_, resOf1 rfl Res1.t, ⟨false, rfl, h⟩⟩
              · have h := hF hb101
                clear hT hF
                refine HList.gskips rfl rfl rfl rfl (congrArg Value.bool hb101) ?_
                refine HList.gskips rfl rfl rfl rfl (congrArg Value.bool hb101) ?_
                refine HList.vals (v := (.bool false)) rfl (HVal.pickF rfl hb101 rfl) ?_
                refine HList.vals (v := (.bool false)) rfl (HVal.move' rfl) ?_
                refine HList.gskips rfl rfl rfl rfl rfl ?_
                refine HList.gskips rfl rfl rfl rfl rfl ?_
                refine HList.vals (v := (.bool false)) rfl (HVal.pickF rfl rfl rfl) ?_
                refine HList.vals (v := (.bool false)) rfl (HVal.move' rfl) ?_
                refine HList.gskips rfl rfl rfl rfl rfl ?_
                refine HList.gskips rfl rfl rfl rfl rfl ?_
                refine HList.gskips rfl rfl rfl rfl rfl ?_
                refine HList.gskips rfl rfl rfl rfl rfl ?_
                refine HList.vals (v := (.bool false)) rfl (HVal.pickF rfl rfl rfl) ?_
                refine HList.vals (v := (.bool false)) rfl (HVal.assign' rfl) ?_
                refine HList.nil ?_
                refine nt ?_
                refine HW.ret ?_
                refine tr ?_
                exact ⟨_, resOf1 rfl Res1.t, ⟨false, rfl, h⟩⟩
            · have h := hF hb96
              clear hT hF
              refine HW.skip ?_
              refine nt ?_
              refine HW.seq ?_
              refine HW.seq ?_
              refine HW.region ?_
              refine HList.vals (v := (.string p0)) rfl (HVal.move' rfl) ?_
              refine HList.vals (v := (.bool (seq p0 S_Other))) rfl (HVal.eqlS rfl rfl) ?_
              refine HList.nil ?_
              refine nt ?_
              obtain ⟨hT, hF⟩ := h
              refine HW.cond (seq p0 S_Other) rfl (fun hb109 => ?_) (fun hb109 => ?_)
              · have h := hT hb109
                clear hT hF
                refine HW.seq ?_
                refine HW.region ?_
                refine HList.vals (v := (.string p0)) rfl (HVal.move' rfl) ?_
                refine HList.ops' rfl (HOp.call' 17 [(.string p0)] (cap := []) rfl rfl Tryd.call17 (walk17 h)) ?_
                rintro _ H110 ⟨r112, rfl, h⟩
                refine HList.vals (v := (.bool r112)) rfl (HVal.move' rfl) ?_
                obtain ⟨hT, hF⟩ := h
                rcases Bool.eq_false_or_eq_true r112 with hb113 | hb114
                · have h := hT hb113
                  clear hT hF
                  refine HList.gvals (v := (.int .i64 r90)) rfl rfl rfl rfl (congrArg Value.bool hb113) (HVal.move' rfl) ?_
                  refine HList.gvals (v := (.bool (decide (r90 = 0)))) rfl rfl rfl rfl (congrArg Value.bool hb113) (HVal.eqlI rfl rfl) ?_
                  refine HList.vals (v := (.bool (decide (r90 = 0)))) rfl (HVal.pickT rfl hb113 rfl) ?_
                  refine HList.vals (v := (.bool (decide (r90 = 0)))) rfl (HVal.move' rfl) ?_
                  obtain ⟨hT, hF⟩ := h
                  rcases Bool.eq_false_or_eq_true (decide (r90 = 0)) with hb115 | hb116
                  · have h := hT hb115
                    clear hT hF
                    refine HList.gvals (v := (.int .i64 r95)) rfl rfl rfl rfl (congrArg Value.bool hb115) (HVal.move' rfl) ?_
                    refine HList.gvals (v := (.bool (decide (r95 = 5)))) rfl rfl rfl rfl (congrArg Value.bool hb115) (HVal.eqlI rfl rfl) ?_
                    refine HList.vals (v := (.bool (decide (r95 = 5)))) rfl (HVal.pickT rfl hb115 rfl) ?_
                    refine HList.vals (v := (.bool (decide (r95 = 5)))) rfl (HVal.assign' rfl) ?_
                    refine HList.nil ?_
                    refine nt ?_
                    refine HW.ret ?_
                    refine tr ?_
                    exact ⟨_, resOf1 rfl Res1.t, ⟨(decide (r95 = 5)), rfl, h⟩⟩
                  · have h := hF hb116
                    clear hT hF
                    refine HList.gskips rfl rfl rfl rfl (congrArg Value.bool hb116) ?_
                    refine HList.gskips rfl rfl rfl rfl (congrArg Value.bool hb116) ?_
                    refine HList.vals (v := (.bool false)) rfl (HVal.pickF rfl hb116 rfl) ?_
                    refine HList.vals (v := (.bool false)) rfl (HVal.assign' rfl) ?_
                    refine HList.nil ?_
                    refine nt ?_
                    refine HW.ret ?_
                    refine tr ?_
                    exact ⟨_, resOf1 rfl Res1.t, ⟨false, rfl, h⟩⟩
                · have h := hF hb114
                  clear hT hF
                  refine HList.gskips rfl rfl rfl rfl (congrArg Value.bool hb114) ?_
                  refine HList.gskips rfl rfl rfl rfl (congrArg Value.bool hb114) ?_
                  refine HList.vals (v := (.bool false)) rfl (HVal.pickF rfl hb114 rfl) ?_
                  refine HList.vals (v := (.bool false)) rfl (HVal.move' rfl) ?_
                  refine HList.gskips rfl rfl rfl rfl rfl ?_
                  refine HList.gskips rfl rfl rfl rfl rfl ?_
                  refine HList.vals (v := (.bool false)) rfl (HVal.pickF rfl rfl rfl) ?_
                  refine HList.vals (v := (.bool false)) rfl (HVal.assign' rfl) ?_
                  refine HList.nil ?_
                  refine nt ?_
                  refine HW.ret ?_
                  refine tr ?_
                  exact ⟨_, resOf1 rfl Res1.t, ⟨false, rfl, h⟩⟩
              · have h := hF hb109
                clear hT hF
                refine HW.skip ?_
                refine nt ?_
                refine HW.seq ?_
                refine HW.region ?_
                refine HList.vals (v := (.string p0)) rfl (HVal.move' rfl) ?_
                refine HList.ops' rfl (HOp.call' 17 [(.string p0)] (cap := []) rfl rfl Tryd.call17 (walk17 h)) ?_
                rintro _ H117 ⟨r119, rfl, h⟩
                refine HList.vals (v := (.bool r119)) rfl (HVal.move' rfl) ?_
                obtain ⟨hT, hF⟩ := h
                rcases Bool.eq_false_or_eq_true r119 with hb120 | hb121
                · have h := hT hb120
                  clear hT hF
                  refine HList.gvals (v := (.int .i64 r90)) rfl rfl rfl rfl (congrArg Value.bool hb120) (HVal.move' rfl) ?_
                  refine HList.gvals (v := (.bool (decide (r90 = 0)))) rfl rfl rfl rfl (congrArg Value.bool hb120) (HVal.eqlI rfl rfl) ?_
                  refine HList.vals (v := (.bool (decide (r90 = 0)))) rfl (HVal.pickT rfl hb120 rfl) ?_
                  refine HList.vals (v := (.bool (decide (r90 = 0)))) rfl (HVal.move' rfl) ?_
                  obtain ⟨hT, hF⟩ := h
                  rcases Bool.eq_false_or_eq_true (decide (r90 = 0)) with hb122 | hb123
                  · have h := hT hb122
                    clear hT hF
                    refine HList.gvals (v := (.int .i64 r95)) rfl rfl rfl rfl (congrArg Value.bool hb122) (HVal.move' rfl) ?_
                    refine HList.gvals (v := (.bool (decide (r95 = 0)))) rfl rfl rfl rfl (congrArg Value.bool hb122) (HVal.eqlI rfl rfl) ?_
                    refine HList.gvals (v := (.string p0)) rfl rfl rfl rfl (congrArg Value.bool hb122) (HVal.move' rfl) ?_
                    refine HList.gvals (v := (.bool (!(seq p0 S_time)))) rfl rfl rfl rfl (congrArg Value.bool hb122) (HVal.neqS rfl rfl) ?_
                    refine HList.gvals (v := (.bool ((decide (r95 = 0)) == (!(seq p0 S_time))))) rfl rfl rfl rfl (congrArg Value.bool hb122) (HVal.eqlB Tryd.underlying4 rfl rfl) ?_
                    refine HList.vals (v := (.bool ((decide (r95 = 0)) == (!(seq p0 S_time))))) rfl (HVal.pickT rfl hb122 rfl) ?_
                    refine HList.vals (v := (.bool ((decide (r95 = 0)) == (!(seq p0 S_time))))) rfl (HVal.move' rfl) ?_
                    obtain ⟨hT, hF⟩ := h
                    rcases Bool.eq_false_or_eq_true ((decide (r95 = 0)) == (!(seq p0 S_time))) with hb124 | hb125
                    · have h := hT hb124
                      clear hT hF
                      refine HList.gvals (v := (.int .i64 r95)) rfl rfl rfl rfl (congrArg Value.bool hb124) (HVal.move' rfl) ?_
                      refine HList.gvals (v := (.bool (decide (r95 = 20)))) rfl rfl rfl rfl (congrArg Value.bool hb124) (HVal.eqlI rfl rfl) ?_
                      refine HList.gvals (v := (.string p0)) rfl rfl rfl rfl (congrArg Value.bool hb124) (HVal.move' rfl) ?_
                      refine HList.gvals (v := (.bool (seq p0 S_time))) rfl rfl rfl rfl (congrArg Value.bool hb124) (HVal.eqlS rfl rfl) ?_
                      refine HList.gvals (v := (.bool ((decide (r95 = 20)) == (seq p0 S_time)))) rfl rfl rfl rfl (congrArg Value.bool hb124) (HVal.eqlB Tryd.underlying4 rfl rfl) ?_
                      refine HList.vals (v := (.bool ((decide (r95 = 20)) == (seq p0 S_time)))) rfl (HVal.pickT rfl hb124 rfl) ?_
                      refine HList.vals (v := (.bool ((decide (r95 = 20)) == (seq p0 S_time)))) rfl (HVal.assign' rfl) ?_
                      refine HList.nil ?_
                      refine nt ?_
                      refine HW.ret ?_
                      exact ⟨_, resOf1 rfl Res1.t, ⟨((decide (r95 = 20)) == (seq p0 S_time)), rfl, h⟩⟩
                    · have h := hF hb125
                      clear hT hF
                      refine HList.gskips rfl rfl rfl rfl (congrArg Value.bool hb125) ?_
                      refine HList.gskips rfl rfl rfl rfl (congrArg Value.bool hb125) ?_
                      refine HList.gskips rfl rfl rfl rfl (congrArg Value.bool hb125) ?_
                      refine HList.gskips rfl rfl rfl rfl (congrArg Value.bool hb125) ?_
                      refine HList.gskips rfl rfl rfl rfl (congrArg Value.bool hb125) ?_
                      refine HList.vals (v := (.bool false)) rfl (HVal.pickF rfl hb125 rfl) ?_
                      refine HList.vals (v := (.bool false)) rfl (HVal.assign' rfl) ?_
                      refine HList.nil ?_
                      refine nt ?_
                      refine HW.ret ?_
                      exact ⟨_, resOf1 rfl Res1.t, ⟨false, rfl, h⟩⟩
                  · have h := hF hb123
                    clear hT hF
                    refine HList.gskips rfl rfl rfl rfl (congrArg Value.bool hb123) ?_
                    refine HList.gskips rfl rfl rfl rfl (congrArg Value.bool hb123) ?_
                    refine HList.gskips rfl rfl rfl rfl (congrArg Value.bool hb123) ?_
                    refine HList.gskips rfl rfl rfl rfl (congrArg Value.bool hb123) ?_
                    refine HList.gskips rfl rfl rfl rfl (congrArg Value.bool hb123) ?_
                    refine HList.vals (v := (.bool false)) rfl (HVal.pickF rfl hb123 rfl) ?_
                    refine HList.vals (v := (.bool false)) rfl (HVal.move' rfl) ?_
                    refine HList.gskips rfl rfl rfl rfl rfl ?_
                    refine HList.gskips rfl rfl rfl rfl rfl ?_
                    refine HList.gskips rfl rfl rfl rfl rfl ?_
                    refine HList.gskips rfl rfl rfl rfl rfl ?_
                    refine HList.gskips rfl rfl rfl rfl rfl ?_
                    refine HList.vals (v := (.bool false)) rfl (HVal.pickF rfl rfl rfl) ?_
                    refine HList.vals (v := (.bool false)) rfl (HVal.assign' rfl) ?_
                    refine HList.nil ?_
                    refine nt ?_
                    refine HW.ret ?_
                    exact ⟨_, resOf1 rfl Res1.t, ⟨false, rfl, h⟩⟩
                · have h := hF hb121
                  clear hT hF
                  refine HList.gskips rfl rfl rfl rfl (congrArg Value.bool hb121) ?_
                  refine HList.gskips rfl rfl rfl rfl (congrArg Value.bool hb121) ?_
                  refine HList.vals (v := (.bool false)) rfl (HVal.pickF rfl hb121 rfl) ?_
                  refine HList.vals (v := (.bool false)) rfl (HVal.move' rfl) ?_
                  refine HList.gskips rfl rfl rfl rfl rfl ?_
                  refine HList.gskips rfl rfl rfl rfl rfl ?_
                  refine HList.gskips rfl rfl rfl rfl rfl ?_
                  refine HList.gskips rfl rfl rfl rfl rfl ?_
                  refine HList.gskips rfl rfl rfl rfl rfl ?_
                  refine HList.vals (v := (.bool false)) rfl (HVal.pickF rfl rfl rfl) ?_
                  refine HList.vals (v := (.bool false)) rfl (HVal.move' rfl) ?_
                  refine HList.gskips rfl rfl rfl rfl rfl ?_
                  refine HList.gskips rfl rfl rfl rfl rfl ?_
                  refine HList.gskips rfl rfl rfl rfl rfl ?_
                  refine HList.gskips rfl rfl rfl rfl rfl ?_
                  refine HList.gskips rfl rfl rfl rfl rfl ?_
                  refine HList.vals (v := (.bool false)) rfl (HVal.pickF rfl rfl rfl) ?_
                  refine HList.vals (v := (.bool false)) rfl (HVal.assign' rfl) ?_
                  refine HList.nil ?_
                  refine nt ?_
                  refine HW.ret ?_
                  exact ⟨_, resOf1 rfl Res1.t, ⟨false, rfl, h⟩⟩

def F22 (p0 : (Option Addr)) (p1_0 : Int) (p1_1 : Int) (p1_2 : ByteArray) (p1_3 : Sl) (p1_4 : ByteArray) (p1_5 : ByteArray) (p1_6 : Int) (p1_7 : Sl) (H : Hp) (Q : Bool → Hp → Prop) : Prop :=
∀ H1 : Hp, H1 = Array.push H (.cells #[(.int .i64 p1_0), (.int .i64 p1_1), (.string p1_2), (Sl.v p1_3), (.string p1_4), (.string p1_5), (.int .i64 p1_6), (Sl.v p1_7)] 65) → (
 ∃ x4 : Int, cell H1 ⟨H.size, 0, none⟩ = some (.int .i64 x4) ∧ (
 ((decide (x4 = 1)) = true → (∃ a6 : Addr, p0 = some a6 ∧ (
 ∃ x9 : (Option Addr), cell H1 a6 = some (.pointer x9) ∧ (
 ∃ a10 : Addr, p0 = some a10 ∧ (
 ∃ x13 : (Option Addr), cell H1 (Addr.add a10 2) = some (.pointer x13) ∧ (
 ∃ (x15 : ByteArray) (x16 : Sl), cells H1 (Addr.add ⟨H.size, 0, none⟩ 2) [(.string x15), (Sl.v x16)] 0 ∧ (
 F39 x13 x15 x16 H1 (fun (r19 : ByteArray) (r20 : Sl) (H17 : Hp) => 
 cell H17 a6 = some (.pointer x9) ∧ (
 F9 x9 r19 r20 H17 (fun (r24 : Int) (H22 : Hp) => 
 ∃ a25 : Addr, p0 = some a25 ∧ (
 ∃ x28 : (Option Addr), cell H22 (Addr.add a25 1) = some (.pointer x28) ∧ (
 ∃ (x30 : ByteArray) (x31 : Sl), cells H22 (Addr.add ⟨H.size, 0, none⟩ 2) [(.string x30), (Sl.v x31)] 0 ∧ (
 F40 x28 x30 x31 H22 (fun (r34 : Int) (H32 : Hp) => 
 ∃ a35 : Addr, p0 = some a35 ∧ (
 ∃ x38 : (Option Addr), cell H32 (Addr.add a35 2) = some (.pointer x38) ∧ (
 ∃ (x40 : ByteArray) (x41 : Sl), cells H32 (Addr.add ⟨H.size, 0, none⟩ 2) [(.string x40), (Sl.v x41)] 0 ∧ (
 F41 x38 x40 x41 H32 (fun (r44 : Bool) (H42 : Hp) => 
 (r44 = true → (Q (decide (r24 = r34)) H42)) ∧
 (r44 = false → (Q false H42)))))))))))))))))))) ∧
 ((decide (x4 = 1)) = false → (((decide (x4 = 2)) = true → (∃ a48 : Addr, p0 = some a48 ∧ (
 ∃ x51 : (Option Addr), cell H1 a48 = some (.pointer x51) ∧ (
 ∃ x53 : ByteArray, cell H1 (Addr.add ⟨H.size, 0, none⟩ 4) = some (.string x53) ∧ (
 (F42 x51 x53 H1 (fun (r56 : ByteArray) (r57 : Sl) (r58 : Int) (H54 : Hp) => 
 ∀ H59 : Hp, H59 = Array.push H54 (.cells #[(.string (ByteArray.mk #[])), (Sl.v Sl.nil)] 27) → (
 mayw H59 ⟨H54.size, 0, none⟩ 2 0 ∧ ∀ H61 : Hp, H61 = sets H59 ⟨H54.size, 0, none⟩ [(.string r56), (Sl.v r57)] 0 → (
 ∃ a64 : Addr, p0 = some a64 ∧ (
 ∃ x67 : (Option Addr), cell H61 (Addr.add a64 1) = some (.pointer x67) ∧ (
 ∃ x69 : ByteArray, cell H61 (Addr.add ⟨H.size, 0, none⟩ 4) = some (.string x69) ∧ (
 (F43 x67 x69 H61 (fun (r72 : ByteArray) (r73 : Sl) (r74 : Int) (H70 : Hp) => 
 ∀ H75 : Hp, H75 = Array.push H70 (.cells #[(.string (ByteArray.mk #[])), (Sl.v Sl.nil)] 27) → (
 mayw H75 ⟨H70.size, 0, none⟩ 2 0 ∧ ∀ H77 : Hp, H77 = sets H75 ⟨H70.size, 0, none⟩ [(.string r72), (Sl.v r73)] 0 → (
 ((decide (r58 = r74)) = true → (∃ (x83 : ByteArray) (x84 : Sl), cells H77 ⟨H54.size, 0, none⟩ [(.string x83), (Sl.v x84)] 0 ∧ (
 ∃ (x86 : ByteArray) (x87 : Sl), cells H77 ⟨H70.size, 0, none⟩ [(.string x86), (Sl.v x87)] 0 ∧ (
 F15 x83 x84 x86 x87 H77 (fun (r90 : Bool) (H88 : Hp) => 
 Q r90 H88))))) ∧
 ((decide (r58 = r74)) = false → (Q false H77)))))) ∧
 (∀ H91 : Hp, H91 = Array.push H61 (.cells #[(.string (ByteArray.mk #[])), (Sl.v Sl.nil)] 27) → (
 cell H91 (Addr.add ⟨H.size, 0, none⟩ 4) = some (.string x69) ∧ cell H91 (Addr.add a64 1) = some (.pointer x67) ∧ (
 F43 x67 x69 H91 (fun (r97 : ByteArray) (r98 : Sl) (r99 : Int) (H95 : Hp) => 
 mayw H95 ⟨H61.size, 0, none⟩ 2 0 ∧ ∀ H100 : Hp, H100 = sets H95 ⟨H61.size, 0, none⟩ [(.string r97), (Sl.v r98)] 0 → (
 ((decide (r58 = r99)) = true → (∃ (x106 : ByteArray) (x107 : Sl), cells H100 ⟨H54.size, 0, none⟩ [(.string x106), (Sl.v x107)] 0 ∧ (
 ∃ (x109 : ByteArray) (x110 : Sl), cells H100 ⟨H61.size, 0, none⟩ [(.string x109), (Sl.v x110)] 0 ∧ (
 F15 x106 x107 x109 x110 H100 (fun (r113 : Bool) (H111 : Hp) => 
 Q r113 H111))))) ∧
 ((decide (r58 = r99)) = false → (Q false H100)))))))))))))) ∧
 (∀ H114 : Hp, H114 = Array.push H1 (.cells #[(.string (ByteArray.mk #[])), (Sl.v Sl.nil)] 27) → (
 cell H114 (Addr.add ⟨H.size, 0, none⟩ 4) = some (.string x53) ∧ cell H114 a48 = some (.pointer x51) ∧ (
 F42 x51 x53 H114 (fun (r120 : ByteArray) (r121 : Sl) (r122 : Int) (H118 : Hp) => 
 mayw H118 ⟨H1.size, 0, none⟩ 2 0 ∧ ∀ H123 : Hp, H123 = sets H118 ⟨H1.size, 0, none⟩ [(.string r120), (Sl.v r121)] 0 → (
 ∃ a126 : Addr, p0 = some a126 ∧ (
 ∃ x129 : (Option Addr), cell H123 (Addr.add a126 1) = some (.pointer x129) ∧ (
 ∃ x131 : ByteArray, cell H123 (Addr.add ⟨H.size, 0, none⟩ 4) = some (.string x131) ∧ (
 (F43 x129 x131 H123 (fun (r134 : ByteArray) (r135 : Sl) (r136 : Int) (H132 : Hp) => 
 ∀ H137 : Hp, H137 = Array.push H132 (.cells #[(.string (ByteArray.mk #[])), (Sl.v Sl.nil)] 27) → (
 mayw H137 ⟨H132.size, 0, none⟩ 2 0 ∧ ∀ H139 : Hp, H139 = sets H137 ⟨H132.size, 0, none⟩ [(.string r134), (Sl.v r135)] 0 → (
 ((decide (r122 = r136)) = true → (∃ (x145 : ByteArray) (x146 : Sl), cells H139 ⟨H1.size, 0, none⟩ [(.string x145), (Sl.v x146)] 0 ∧ (
 ∃ (x148 : ByteArray) (x149 : Sl), cells H139 ⟨H132.size, 0, none⟩ [(.string x148), (Sl.v x149)] 0 ∧ (
 F15 x145 x146 x148 x149 H139 (fun (r152 : Bool) (H150 : Hp) => 
 Q r152 H150))))) ∧
 ((decide (r122 = r136)) = false → (Q false H139)))))) ∧
 (∀ H153 : Hp, H153 = Array.push H123 (.cells #[(.string (ByteArray.mk #[])), (Sl.v Sl.nil)] 27) → (
 cell H153 (Addr.add ⟨H.size, 0, none⟩ 4) = some (.string x131) ∧ cell H153 (Addr.add a126 1) = some (.pointer x129) ∧ (
 F43 x129 x131 H153 (fun (r159 : ByteArray) (r160 : Sl) (r161 : Int) (H157 : Hp) => 
 mayw H157 ⟨H123.size, 0, none⟩ 2 0 ∧ ∀ H162 : Hp, H162 = sets H157 ⟨H123.size, 0, none⟩ [(.string r159), (Sl.v r160)] 0 → (
 ((decide (r122 = r161)) = true → (∃ (x168 : ByteArray) (x169 : Sl), cells H162 ⟨H1.size, 0, none⟩ [(.string x168), (Sl.v x169)] 0 ∧ (
 ∃ (x171 : ByteArray) (x172 : Sl), cells H162 ⟨H123.size, 0, none⟩ [(.string x171), (Sl.v x172)] 0 ∧ (
 F15 x168 x169 x171 x172 H162 (fun (r175 : Bool) (H173 : Hp) => 
 Q r175 H173))))) ∧
 ((decide (r122 = r161)) = false → (Q false H162)))))))))))))))))))) ∧
 ((decide (x4 = 2)) = false → (((decide (x4 = 3)) = true → (∃ a177 : Addr, p0 = some a177 ∧ (
 ∃ x180 : (Option Addr), cell H1 a177 = some (.pointer x180) ∧ (
 ∃ a181 : Addr, p0 = some a181 ∧ (
 ∃ x184 : (Option Addr), cell H1 (Addr.add a181 1) = some (.pointer x184) ∧ (
 F18 x180 H1 (fun (r187 : Sl) (H185 : Hp) => 
 cell H185 (Addr.add a181 1) = some (.pointer x184) ∧ (
 F45 x184 H185 (fun (r191 : Sl) (H189 : Hp) => 
 F44 r187 r191 H189 (fun (r194 : Bool) (H192 : Hp) => 
 Q r194 H192)))))))))) ∧
 ((decide (x4 = 3)) = false → (((decide (x4 = 4)) = true → (∃ a196 : Addr, p0 = some a196 ∧ (
 ∃ x199 : (Option Addr), cell H1 a196 = some (.pointer x199) ∧ (
 ∃ a200 : Addr, p0 = some a200 ∧ (
 ∃ x203 : (Option Addr), cell H1 (Addr.add a200 2) = some (.pointer x203) ∧ (
 ∃ (x205 : ByteArray) (x206 : Int) (x207 : Sl), cells H1 (Addr.add ⟨H.size, 0, none⟩ 5) [(.string x205), (.int .i64 x206), (Sl.v x207)] 0 ∧ (
 F46 x203 x205 x206 x207 H1 (fun (r210 : ByteArray) (r211 : Int) (r212 : Sl) (H208 : Hp) => 
 cell H208 a196 = some (.pointer x199) ∧ (
 F11 x199 r210 r211 r212 H208 (fun (r216 : Int) (H214 : Hp) => 
 ∃ a217 : Addr, p0 = some a217 ∧ (
 ∃ x220 : (Option Addr), cell H214 (Addr.add a217 1) = some (.pointer x220) ∧ (
 ∃ (x222 : ByteArray) (x223 : Int) (x224 : Sl), cells H214 (Addr.add ⟨H.size, 0, none⟩ 5) [(.string x222), (.int .i64 x223), (Sl.v x224)] 0 ∧ (
 F47 x220 x222 x223 x224 H214 (fun (r227 : Int) (H225 : Hp) => 
 ∃ a228 : Addr, p0 = some a228 ∧ (
 ∃ x231 : (Option Addr), cell H225 (Addr.add a228 2) = some (.pointer x231) ∧ (
 ∃ (x233 : ByteArray) (x234 : Int) (x235 : Sl), cells H225 (Addr.add ⟨H.size, 0, none⟩ 5) [(.string x233), (.int .i64 x234), (Sl.v x235)] 0 ∧ (
 F48 x231 x233 x234 x235 H225 (fun (r238 : Bool) (H236 : Hp) => 
 (r238 = true → (Q (decide (r216 = r227)) H236)) ∧
 (r238 = false → (Q false H236)))))))))))))))))))) ∧
 ((decide (x4 = 4)) = false → (((decide (x4 = 5)) = true → (∃ x243 : ByteArray, cell H1 (Addr.add ⟨H.size, 0, none⟩ 4) = some (.string x243) ∧ (
 ∃ x245 : ByteArray, cell H1 (Addr.add ⟨H.size, 0, none⟩ 4) = some (.string x245) ∧ (
 F17 x243 H1 (fun (r248 : Bool) (H246 : Hp) => 
 cell H246 (Addr.add ⟨H.size, 0, none⟩ 4) = some (.string x245) ∧ (
 F49 x245 H246 (fun (r252 : Bool) (H250 : Hp) => 
 Q (r248 == r252) H250))))))) ∧
 ((decide (x4 = 5)) = false → (((decide (x4 = 6)) = true → (∃ x255 : ByteArray, cell H1 (Addr.add ⟨H.size, 0, none⟩ 4) = some (.string x255) ∧ (
 F14 x255 H1 (fun (r258 : ByteArray) (r259 : Sl) (r260 : Int) (r261 : Int) (H256 : Hp) => 
 ∀ H262 : Hp, H262 = Array.push H256 (.cells #[(.string (ByteArray.mk #[])), (Sl.v Sl.nil)] 27) → (
 mayw H262 ⟨H256.size, 0, none⟩ 2 0 ∧ ∀ H264 : Hp, H264 = sets H262 ⟨H256.size, 0, none⟩ [(.string r258), (Sl.v r259)] 0 → (
 ∃ x268 : ByteArray, cell H264 (Addr.add ⟨H.size, 0, none⟩ 4) = some (.string x268) ∧ (
 F50 x268 H264 (fun (r271 : ByteArray) (r272 : Sl) (r273 : Int) (r274 : Int) (H269 : Hp) => 
 ∀ H275 : Hp, H275 = Array.push H269 (.cells #[(.string (ByteArray.mk #[])), (Sl.v Sl.nil)] 27) → (
 mayw H275 ⟨H269.size, 0, none⟩ 2 0 ∧ ∀ H277 : Hp, H277 = sets H275 ⟨H269.size, 0, none⟩ [(.string r271), (Sl.v r272)] 0 → (
 ((decide (r261 = r274)) = true → (((decide (r260 = r273)) = true → (∃ (x285 : ByteArray) (x286 : Sl), cells H277 ⟨H256.size, 0, none⟩ [(.string x285), (Sl.v x286)] 0 ∧ (
 ∃ (x288 : ByteArray) (x289 : Sl), cells H277 ⟨H269.size, 0, none⟩ [(.string x288), (Sl.v x289)] 0 ∧ (
 F15 x285 x286 x288 x289 H277 (fun (r292 : Bool) (H290 : Hp) => 
 Q r292 H290))))) ∧
 ((decide (r260 = r273)) = false → (Q false H277)))) ∧
 ((decide (r261 = r274)) = false → (Q false H277)))))))))))) ∧
 ((decide (x4 = 6)) = false → (((decide (x4 = 7)) = true → (∃ a294 : Addr, p0 = some a294 ∧ (
 ∃ x297 : (Option Addr), cell H1 (Addr.add a294 2) = some (.pointer x297) ∧ (
 ∃ (x299 : ByteArray) (x300 : Sl), cells H1 (Addr.add ⟨H.size, 0, none⟩ 2) [(.string x299), (Sl.v x300)] 0 ∧ (
 F39 x297 x299 x300 H1 (fun (r303 : ByteArray) (r304 : Sl) (H301 : Hp) => 
 F13 r303 r304 H301 (fun (r307 : ByteArray) (r308 : Int) (H305 : Hp) => 
 ∃ (x310 : ByteArray) (x311 : Sl), cells H305 (Addr.add ⟨H.size, 0, none⟩ 2) [(.string x310), (Sl.v x311)] 0 ∧ (
 F51 x310 x311 H305 (fun (r314 : ByteArray) (r315 : Int) (H312 : Hp) => 
 ∃ a316 : Addr, p0 = some a316 ∧ (
 ∃ x319 : (Option Addr), cell H312 (Addr.add a316 2) = some (.pointer x319) ∧ (
 ∃ (x321 : ByteArray) (x322 : Sl), cells H312 (Addr.add ⟨H.size, 0, none⟩ 2) [(.string x321), (Sl.v x322)] 0 ∧ (
 F41 x319 x321 x322 H312 (fun (r325 : Bool) (H323 : Hp) => 
 (r325 = true → (((decide (r308 = r315)) = true → (Q (seq r307 r314) H323)) ∧
 ((decide (r308 = r315)) = false → (Q false H323)))) ∧
 (r325 = false → (Q false H323))))))))))))))) ∧
 ((decide (x4 = 7)) = false → (Q true H1))))))))))))))))
set_option maxRecDepth 100000 in
set_option maxHeartbeats 4000000 in
theorem walk22 {w0 : World} {p0 : (Option Addr)} {p1_0 : Int} {p1_1 : Int} {p1_2 : ByteArray} {p1_3 : Sl} {p1_4 : ByteArray} {p1_5 : ByteArray} {p1_6 : Int} {p1_7 : Sl} {H : Hp} {Q : Bool → Hp → Prop} (h : F22 p0 p1_0 p1_1 p1_2 p1_3 p1_4 p1_5 p1_6 p1_7 H Q) :
    Good Tryd.prog w0 22 #[(.pointer p0), (.agg #[(.int .i64 p1_0), (.int .i64 p1_1), (.string p1_2), (Sl.v p1_3), (.string p1_4), (.string p1_5), (.int .i64 p1_6), (Sl.v p1_7)])] H (fun v H => ∃ (r0 : Bool) , v = (.bool r0) ∧ Q r0 H) := by
  unfold F22 at h
  refine Good.enter' (fn := Tryd.f22) Tryd.func22 rfl rfl rfl ?_
  refine HW.seq ?_
  refine HW.region ?_
  refine HList.ops' rfl (HOp.box (v := (.agg #[(.int .i64 p1_0), (.int .i64 p1_1), (.string p1_2), (Sl.v p1_3), (.string p1_4), (.string p1_5), (.int .i64 p1_6), (Sl.v p1_7)])) rfl) ?_
  rintro _ H1 ⟨rfl, e2⟩
  replace h := h H1 e2
  refine HList.vals (v := (.bool false)) rfl (HVal.assign' rfl) ?_
  refine HList.nil ?_
  refine nt ?_
  refine HW.seq ?_
  refine HW.seq ?_
  refine HW.region ?_
  refine HList.vals (v := (.pointer (some ⟨H.size, 0, none⟩))) rfl (HVal.fieldAddr0 Tryd.runUnderlying65 rfl rfl Tryd.sizeOf3 rfl) ?_
  obtain ⟨x4, c3, h⟩ := h
  refine HList.vals (v := (.int .i64 x4)) rfl (HVal.load1 Tryd.isAgg3 rfl c3) ?_
  refine HList.nil ?_
  refine nt ?_
  refine HW.block ?_
  refine HW.seq ?_
  refine HW.region ?_
  refine HList.vals (v := (.bool (decide (x4 = 1)))) rfl (HVal.eqlI rfl rfl) ?_
  refine HList.vals (v := (.bool (decide (x4 = 1)))) rfl (HVal.assign' rfl) ?_
  refine HList.nil ?_
  refine nt ?_
  obtain ⟨hT, hF⟩ := h
  refine HW.cond (decide (x4 = 1)) rfl (fun hb5 => ?_) (fun hb5 => ?_)
  · have h := hT hb5
    clear hT hF
    refine HW.seq ?_
    refine HW.draw mixed [(0, some []), (1, some []), (2, some []), (3, some [11]), (4, some []), (5, some []), (6, some []), (7, some [10]), (8, some []), (9, some [10]), (10, none), (11, none), (12, some [])] rfl (by kernel_rfl) (by kernel_rfl) ?_
    refine HPlan.takev (v := (.pointer p0)) rfl rfl (fun _ => HVal.move' rfl) ?_
    obtain ⟨a6, e7, h⟩ := h
    refine HPlan.takev (v := (.pointer (some a6))) rfl rfl (fun _ => HVal.nilCheck (congrArg Value.pointer e7)) ?_
    refine HPlan.takev (v := (.pointer (some a6))) rfl rfl (fun _ => HVal.fieldAddr0 Tryd.runUnderlying101 rfl rfl Tryd.sizeOf23 rfl) ?_
    obtain ⟨x9, c8, h⟩ := h
    refine HPlan.takel (v := (.pointer x9)) (fun X => cell X a6 = some (.pointer x9)) rfl rfl (fun _ hX => HVal.load1 Tryd.isAgg23 rfl hX) c8 ?_
    refine HPlan.takev (v := (.pointer p0)) rfl rfl (fun _ => HVal.move' rfl) ?_
    obtain ⟨a10, e11, h⟩ := h
    refine HPlan.takev (v := (.pointer (some a10))) rfl rfl (fun _ => HVal.nilCheck (congrArg Value.pointer e11)) ?_
    refine HPlan.takev (v := (.pointer (some (Addr.add a10 2)))) rfl rfl (fun _ => HVal.fieldAddr' Tryd.runUnderlying101 rfl rfl Tryd.sizeOf58 rfl) ?_
    obtain ⟨x13, c12, h⟩ := h
    refine HPlan.takel (v := (.pointer x13)) (fun X => cell X (Addr.add a10 2) = some (.pointer x13)) rfl rfl (fun _ hX => HVal.load1 Tryd.isAgg58 rfl hX) c12 ?_
    refine HPlan.takev (v := (.pointer (some (Addr.add ⟨H.size, 0, none⟩ 2)))) rfl rfl (fun _ => HVal.fieldAddr' Tryd.runUnderlying65 rfl rfl Tryd.sizeOf27 rfl) ?_
    obtain ⟨x15, x16, c14, h⟩ := h
    refine HPlan.takel (v := (.agg #[(.string x15), (Sl.v x16)])) (fun X => cells X (Addr.add ⟨H.size, 0, none⟩ 2) [(.string x15), (Sl.v x16)] 0) rfl rfl (fun _ hX => HVal.loadN [(.string x15), (Sl.v x16)] Tryd.isAgg27 Tryd.sizeOf27 rfl hX) c14 ?_
    refine HPlan.ops' rfl rfl (HOp.call' 39 [(.pointer x13), (.agg #[(.string x15), (Sl.v x16)])] (cap := []) rfl rfl Tryd.call39 (walk39 h)) ?_
    rintro _ H17 ⟨r19, r20, rfl, h⟩
    obtain ⟨s21, h⟩ := h
    refine ⟨SC_of ⟨fun e => absurd e (by decide), fun e => absurd e (by decide), fun _ => s21, trivial⟩, ?_⟩
    refine HPlan.ops' rfl rfl (HOp.call' 9 [(.pointer x9), (.agg #[(.string r19), (Sl.v r20)])] (cap := []) rfl rfl Tryd.call9 (walk9 h)) ?_
    rintro _ H22 ⟨r24, rfl, h⟩
    refine ⟨SC_of ⟨fun e => absurd e (by decide), fun e => absurd e (by decide), fun e => absurd e (by decide), trivial⟩, ?_⟩
    refine HPlan.takev (v := (.int .i64 r24)) rfl rfl (fun _ => HVal.assign' rfl) ?_
    refine HPlan.done ?_
    refine nt ?_
    refine HW.seq ?_
    refine HW.draw mixed [(0, some []), (1, some []), (2, some []), (3, some [6]), (4, some []), (5, some [6]), (6, none), (7, some [])] rfl (by kernel_rfl) (by kernel_rfl) ?_
    refine HPlan.takev (v := (.pointer p0)) rfl rfl (fun _ => HVal.move' rfl) ?_
    obtain ⟨a25, e26, h⟩ := h
    refine HPlan.takev (v := (.pointer (some a25))) rfl rfl (fun _ => HVal.nilCheck (congrArg Value.pointer e26)) ?_
    refine HPlan.takev (v := (.pointer (some (Addr.add a25 1)))) rfl rfl (fun _ => HVal.fieldAddr' Tryd.runUnderlying101 rfl rfl Tryd.sizeOf98 rfl) ?_
    obtain ⟨x28, c27, h⟩ := h
    refine HPlan.takel (v := (.pointer x28)) (fun X => cell X (Addr.add a25 1) = some (.pointer x28)) rfl rfl (fun _ hX => HVal.load1 Tryd.isAgg98 rfl hX) c27 ?_
    refine HPlan.takev (v := (.pointer (some (Addr.add ⟨H.size, 0, none⟩ 2)))) rfl rfl (fun _ => HVal.fieldAddr' Tryd.runUnderlying65 rfl rfl Tryd.sizeOf27 rfl) ?_
    obtain ⟨x30, x31, c29, h⟩ := h
    refine HPlan.takel (v := (.agg #[(.string x30), (Sl.v x31)])) (fun X => cells X (Addr.add ⟨H.size, 0, none⟩ 2) [(.string x30), (Sl.v x31)] 0) rfl rfl (fun _ hX => HVal.loadN [(.string x30), (Sl.v x31)] Tryd.isAgg27 Tryd.sizeOf27 rfl hX) c29 ?_
    refine HPlan.ops' rfl rfl (HOp.call' 40 [(.pointer x28), (.agg #[(.string x30), (Sl.v x31)])] (cap := []) rfl rfl Tryd.call40 (walk40 h)) ?_
    rintro _ H32 ⟨r34, rfl, h⟩
    refine ⟨SC_of ⟨fun e => absurd e (by decide), fun e => absurd e (by decide), trivial⟩, ?_⟩
    refine HPlan.takev (v := (.int .i64 r34)) rfl rfl (fun _ => HVal.assign' rfl) ?_
    refine HPlan.done ?_
    refine nt ?_
    refine HW.seq ?_
    refine HW.draw mixed [(0, some []), (1, some []), (2, some []), (3, some [6]), (4, some []), (5, some [6]), (6, none), (7, some [])] rfl (by kernel_rfl) (by kernel_rfl) ?_
    refine HPlan.takev (v := (.pointer p0)) rfl rfl (fun _ => HVal.move' rfl) ?_
    obtain ⟨a35, e36, h⟩ := h
    refine HPlan.takev (v := (.pointer (some a35))) rfl rfl (fun _ => HVal.nilCheck (congrArg Value.pointer e36)) ?_
    refine HPlan.takev (v := (.pointer (some (Addr.add a35 2)))) rfl rfl (fun _ => HVal.fieldAddr' Tryd.runUnderlying101 rfl rfl Tryd.sizeOf58 rfl) ?_
    obtain ⟨x38, c37, h⟩ := h
    refine HPlan.takel (v := (.pointer x38)) (fun X => cell X (Addr.add a35 2) = some (.pointer x38)) rfl rfl (fun _ hX => HVal.load1 Tryd.isAgg58 rfl hX) c37 ?_
    refine HPlan.takev (v := (.pointer (some (Addr.add ⟨H.size, 0, none⟩ 2)))) rfl rfl (fun _ => HVal.fieldAddr' Tryd.runUnderlying65 rfl rfl Tryd.sizeOf27 rfl) ?_
    obtain ⟨x40, x41, c39, h⟩ := h
    refine HPlan.takel (v := (.agg #[(.string x40), (Sl.v x41)])) (fun X => cells X (Addr.add ⟨H.size, 0, none⟩ 2) [(.string x40), (Sl.v x41)] 0) rfl rfl (fun _ hX => HVal.loadN [(.string x40), (Sl.v x41)] Tryd.isAgg27 Tryd.sizeOf27 rfl hX) c39 ?_
    refine HPlan.ops' rfl rfl (HOp.call' 41 [(.pointer x38), (.agg #[(.string x40), (Sl.v x41)])] (cap := []) rfl rfl Tryd.call41 (walk41 h)) ?_
    rintro _ H42 ⟨r44, rfl, h⟩
    refine ⟨SC_of ⟨fun e => absurd e (by decide), fun e => absurd e (by decide), trivial⟩, ?_⟩
    refine HPlan.takev (v := (.bool r44)) rfl rfl (fun _ => HVal.assign' rfl) ?_
    refine HPlan.done ?_
    refine nt ?_
    refine HW.seq ?_
    refine HW.region ?_
    refine HList.vals (v := (.bool r44)) rfl (HVal.move' rfl) ?_
    refine HList.vals (v := (.bool r44)) rfl (HVal.move' rfl) ?_
    obtain ⟨hT, hF⟩ := h
    rcases Bool.eq_false_or_eq_true r44 with hb45 | hb46
    · have h := hT hb45
      clear hT hF
      refine HList.gvals (v := (.int .i64 r24)) rfl rfl rfl rfl (congrArg Value.bool hb45) (HVal.move' rfl) ?_
      refine HList.gvals (v := (.int .i64 r34)) rfl rfl rfl rfl (congrArg Value.bool hb45) (HVal.move' rfl) ?_
      refine HList.gvals (v := (.bool (decide (r24 = r34)))) rfl rfl rfl rfl (congrArg Value.bool hb45) (HVal.eqlI rfl rfl) ?_
      refine HList.vals (v := (.bool (decide (r24 = r34)))) rfl (HVal.pickT rfl hb45 rfl) ?_
      refine HList.vals (v := (.bool (decide (r24 = r34)))) rfl (HVal.assign' rfl) ?_
      refine HList.nil ?_
      refine nt ?_
      refine HW.ret ?_
      refine br ?_
      refine tr ?_
      exact ⟨_, resOf1 rfl Res1.t, ⟨(decide (r24 = r34)), rfl, h⟩⟩
    · have h := hF hb46
      clear hT hF
      refine HList.gskips rfl rfl rfl rfl (congrArg Value.bool hb46) ?_
      refine HList.gskips rfl rfl rfl rfl (congrArg Value.bool hb46) ?_
      refine HList.gskips rfl rfl rfl rfl (congrArg Value.bool hb46) ?_
      refine HList.vals (v := (.bool false)) rfl (HVal.pickF rfl hb46 rfl) ?_
      refine HList.vals (v := (.bool false)) rfl (HVal.assign' rfl) ?_
      refine HList.nil ?_
      refine nt ?_
      refine HW.ret ?_
      refine br ?_
      refine tr ?_
      exact ⟨_, resOf1 rfl Res1.t, ⟨false, rfl, h⟩⟩
  · have h := hF hb5
    clear hT hF
    refine HW.seq ?_
    refine HW.region ?_
    refine HList.vals (v := (.bool (decide (x4 = 2)))) rfl (HVal.eqlI rfl rfl) ?_
    refine HList.vals (v := (.bool (decide (x4 = 2)))) rfl (HVal.assign' rfl) ?_
    refine HList.nil ?_
    refine nt ?_
    obtain ⟨hT, hF⟩ := h
    refine HW.cond (decide (x4 = 2)) rfl (fun hb47 => ?_) (fun hb47 => ?_)
    · have h := hT hb47
      clear hT hF
      refine HW.seq ?_
      refine HW.draw mixed [(0, some []), (1, some []), (2, some []), (3, some [6, 11]), (4, some []), (5, some [6, 11]), (13, none), (13, none), (13, none), (13, none), (13, none), (13, none), (13, none)] rfl (by kernel_rfl) (by kernel_rfl) ?_
      refine HPlan.takev (v := (.pointer p0)) rfl rfl (fun _ => HVal.move' rfl) ?_
      obtain ⟨a48, e49, h⟩ := h
      refine HPlan.takev (v := (.pointer (some a48))) rfl rfl (fun _ => HVal.nilCheck (congrArg Value.pointer e49)) ?_
      refine HPlan.takev (v := (.pointer (some a48))) rfl rfl (fun _ => HVal.fieldAddr0 Tryd.runUnderlying101 rfl rfl Tryd.sizeOf23 rfl) ?_
      obtain ⟨x51, c50, h⟩ := h
      refine HPlan.takel (v := (.pointer x51)) (fun X => cell X a48 = some (.pointer x51)) rfl rfl (fun _ hX => HVal.load1 Tryd.isAgg23 rfl hX) c50 ?_
      refine HPlan.takev (v := (.pointer (some (Addr.add ⟨H.size, 0, none⟩ 4)))) rfl rfl (fun _ => HVal.fieldAddr' Tryd.runUnderlying65 rfl rfl Tryd.sizeOf9 rfl) ?_
      obtain ⟨x53, c52, h⟩ := h
      refine HPlan.takel (v := (.string x53)) (fun X => cell X (Addr.add ⟨H.size, 0, none⟩ 4) = some (.string x53)) rfl rfl (fun _ hX => HVal.load1 Tryd.isAgg9 rfl hX) c52 ?_
      obtain ⟨hB6, hB10⟩ := h
      refine HPlan.fork2 (i := 6) (j := 10) (by kernel_rfl) ?_ ?_
      · have h := hB6
        clear hB6 hB10
        refine HBr.ops' [(7, some []), (8, some []), (9, some []), (10, none), (11, none), (12, some [])] rfl (by kernel_rfl) (by kernel_rfl) rfl rfl rfl (HOp.call' 42 [(.pointer x51), (.string x53)] (cap := []) rfl rfl Tryd.call42 (walk42 h)) ?_
        rintro _ H54 ⟨r56, r57, r58, rfl, h⟩
        refine ⟨SC_of ⟨fun e => absurd e (by decide), fun e => absurd e (by decide), trivial⟩, ?_⟩
        refine HPlan.takev (v := (.tuple #[(.agg #[(.string r56), (Sl.v r57)]), (.int .i64 r58)])) rfl rfl (fun _ => HVal.move' rfl) ?_
        refine HPlan.takev (v := (.agg #[(.string r56), (Sl.v r57)])) rfl rfl (fun _ => HVal.extract rfl rfl) ?_
        refine HPlan.takev (v := (.int .i64 r58)) rfl rfl (fun _ => HVal.extract rfl rfl) ?_
        refine HPlan.ops' rfl rfl (HOp.alloc Tryd.zeroValue27) ?_
        rintro _ H59 ⟨rfl, e60⟩
        replace h := h H59 e60
        refine ⟨SC_of ⟨fun e => absurd e (by decide), fun e => absurd e (by decide), trivial⟩, ?_⟩
        obtain ⟨z63, h⟩ := h
        refine HPlan.opsn rfl (HOp.storeN' (l := [(.string r56), (Sl.v r57)]) Tryd.sizeOf27 rfl rfl rfl z63) ?_
        rintro _ H61 e62
        replace h := h H61 e62
        refine ⟨SC_of ⟨fun e => absurd e (by decide), fun e => absurd e (by decide), trivial⟩, ?_⟩
        refine HPlan.takev (v := (.int .i64 r58)) rfl rfl (fun _ => HVal.assign' rfl) ?_
        refine HPlan.done ?_
        refine nt ?_
        refine HW.seq ?_
        refine HW.draw mixed [(0, some []), (1, some []), (2, some []), (3, some [6, 11]), (4, some []), (5, some [6, 11]), (13, none), (13, none), (13, none), (13, none), (13, none), (13, none), (13, none)] rfl (by kernel_rfl) (by kernel_rfl) ?_
        refine HPlan.takev (v := (.pointer p0)) rfl rfl (fun _ => HVal.move' rfl) ?_
        obtain ⟨a64, e65, h⟩ := h
        refine HPlan.takev (v := (.pointer (some a64))) rfl rfl (fun _ => HVal.nilCheck (congrArg Value.pointer e65)) ?_
        refine HPlan.takev (v := (.pointer (some (Addr.add a64 1)))) rfl rfl (fun _ => HVal.fieldAddr' Tryd.runUnderlying101 rfl rfl Tryd.sizeOf98 rfl) ?_
        obtain ⟨x67, c66, h⟩ := h
        refine HPlan.takel (v := (.pointer x67)) (fun X => cell X (Addr.add a64 1) = some (.pointer x67)) rfl rfl (fun _ hX => HVal.load1 Tryd.isAgg98 rfl hX) c66 ?_
        refine HPlan.takev (v := (.pointer (some (Addr.add ⟨H.size, 0, none⟩ 4)))) rfl rfl (fun _ => HVal.fieldAddr' Tryd.runUnderlying65 rfl rfl Tryd.sizeOf9 rfl) ?_
        obtain ⟨x69, c68, h⟩ := h
        refine HPlan.takel (v := (.string x69)) (fun X => cell X (Addr.add ⟨H.size, 0, none⟩ 4) = some (.string x69)) rfl rfl (fun _ hX => HVal.load1 Tryd.isAgg9 rfl hX) c68 ?_
        obtain ⟨hB6, hB10⟩ := h
        refine HPlan.fork2 (i := 6) (j := 10) (by kernel_rfl) ?_ ?_
        · have h := hB6
          clear hB6 hB10
          refine HBr.ops' [(7, some []), (8, some []), (9, some []), (10, none), (11, none), (12, some [])] rfl (by kernel_rfl) (by kernel_rfl) rfl rfl rfl (HOp.call' 43 [(.pointer x67), (.string x69)] (cap := []) rfl rfl Tryd.call43 (walk43 h)) ?_
          rintro _ H70 ⟨r72, r73, r74, rfl, h⟩
          refine ⟨SC_of ⟨fun e => absurd e (by decide), fun e => absurd e (by decide), trivial⟩, ?_⟩
          refine HPlan.takev (v := (.tuple #[(.agg #[(.string r72), (Sl.v r73)]), (.int .i64 r74)])) rfl rfl (fun _ => HVal.move' rfl) ?_
          refine HPlan.takev (v := (.agg #[(.string r72), (Sl.v r73)])) rfl rfl (fun _ => HVal.extract rfl rfl) ?_
          refine HPlan.takev (v := (.int .i64 r74)) rfl rfl (fun _ => HVal.extract rfl rfl) ?_
          refine HPlan.ops' rfl rfl (HOp.alloc Tryd.zeroValue27) ?_
          rintro _ H75 ⟨rfl, e76⟩
          replace h := h H75 e76
          refine ⟨SC_of ⟨fun e => absurd e (by decide), fun e => absurd e (by decide), trivial⟩, ?_⟩
          obtain ⟨z79, h⟩ := h
          refine HPlan.opsn rfl (HOp.storeN' (l := [(.string r72), (Sl.v r73)]) Tryd.sizeOf27 rfl rfl rfl z79) ?_
          rintro _ H77 e78
          replace h := h H77 e78
          refine ⟨SC_of ⟨fun e => absurd e (by decide), fun e => absurd e (by decide), trivial⟩, ?_⟩
          refine HPlan.takev (v := (.int .i64 r74)) rfl rfl (fun _ => HVal.assign' rfl) ?_
          refine HPlan.done ?_
          refine nt ?_
          refine HW.seq ?_
          refine HW.region ?_
          refine HList.vals (v := (.int .i64 r58)) rfl (HVal.move' rfl) ?_
          refine HList.vals (v := (.int .i64 r74)) rfl (HVal.move' rfl) ?_
          refine HList.vals (v := (.bool (decide (r58 = r74)))) rfl (HVal.eqlI rfl rfl) ?_
          refine HList.vals (v := (.bool (decide (r58 = r74)))) rfl (HVal.move' rfl) ?_
          obtain ⟨hT, hF⟩ := h
          rcases Bool.eq_false_or_eq_true (decide (r58 = r74)) with hb80 | hb81
          · have h := hT hb80
            clear hT hF
            obtain ⟨x83, x84, c82, h⟩ := h
            refine HList.gvals (v := (.agg #[(.string x83), (Sl.v x84)])) rfl rfl rfl rfl (congrArg Value.bool hb80) (HVal.loadN [(.string x83), (Sl.v x84)] Tryd.isAgg27 Tryd.sizeOf27 rfl c82) ?_
            obtain ⟨x86, x87, c85, h⟩ := h
            refine HList.gvals (v := (.agg #[(.string x86), (Sl.v x87)])) rfl rfl rfl rfl (congrArg Value.bool hb80) (HVal.loadN [(.string x86), (Sl.v x87)] Tryd.isAgg27 Tryd.sizeOf27 rfl c85) ?_
            refine HList.gops rfl rfl rfl rfl (congrArg Value.bool hb80) (HOp.call' 15 [(.agg #[(.string x83), (Sl.v x84)]), (.agg #[(.string x86), (Sl.v x87)])] (cap := []) rfl rfl Tryd.call15 (walk15 h)) ?_
            rintro _ H88 ⟨r90, rfl, h⟩
            refine HList.vals (v := (.bool r90)) rfl (HVal.pickT rfl hb80 rfl) ?_
            refine HList.vals (v := (.bool r90)) rfl (HVal.assign' rfl) ?_
            refine HList.nil ?_
            refine nt ?_
            refine HW.ret ?_
            refine br ?_
            refine tr ?_
            exact ⟨_, resOf1 rfl Res1.t, ⟨r90, rfl, h⟩⟩
          · have h := hF hb81
            clear hT hF
            refine HList.gskips rfl rfl rfl rfl (congrArg Value.bool hb81) ?_
            refine HList.gskips rfl rfl rfl rfl (congrArg Value.bool hb81) ?_
            refine HList.gskips rfl rfl rfl rfl (congrArg Value.bool hb81) ?_
            refine HList.vals (v := (.bool false)) rfl (HVal.pickF rfl hb81 rfl) ?_
            refine HList.vals (v := (.bool false)) rfl (HVal.assign' rfl) ?_
            refine HList.nil ?_
            refine nt ?_
            refine HW.ret ?_
            refine br ?_
            refine tr ?_
            exact ⟨_, resOf1 rfl Res1.t, ⟨false, rfl, h⟩⟩
        · have h := hB10
          clear hB6 hB10
          refine HBr.ops' [(6, none), (7, some []), (8, some []), (9, some []), (11, none), (12, some [])] rfl (by kernel_rfl) (by kernel_rfl) rfl rfl rfl (HOp.alloc Tryd.zeroValue27) ?_
          rintro _ H91 ⟨rfl, e92⟩
          replace h := h H91 e92
          obtain ⟨s93, s94, h⟩ := h
          refine ⟨SC_of ⟨fun _ => s93, fun _ => s94, trivial⟩, ?_⟩
          refine HPlan.ops' rfl rfl (HOp.call' 43 [(.pointer x67), (.string x69)] (cap := []) rfl rfl Tryd.call43 (walk43 h)) ?_
          rintro _ H95 ⟨r97, r98, r99, rfl, h⟩
          refine ⟨SC_of ⟨fun e => absurd e (by decide), fun e => absurd e (by decide), trivial⟩, ?_⟩
          refine HPlan.takev (v := (.tuple #[(.agg #[(.string r97), (Sl.v r98)]), (.int .i64 r99)])) rfl rfl (fun _ => HVal.move' rfl) ?_
          refine HPlan.takev (v := (.agg #[(.string r97), (Sl.v r98)])) rfl rfl (fun _ => HVal.extract rfl rfl) ?_
          refine HPlan.takev (v := (.int .i64 r99)) rfl rfl (fun _ => HVal.extract rfl rfl) ?_
          obtain ⟨z102, h⟩ := h
          refine HPlan.opsn rfl (HOp.storeN' (l := [(.string r97), (Sl.v r98)]) Tryd.sizeOf27 rfl rfl rfl z102) ?_
          rintro _ H100 e101
          replace h := h H100 e101
          refine ⟨SC_of ⟨fun e => absurd e (by decide), fun e => absurd e (by decide), trivial⟩, ?_⟩
          refine HPlan.takev (v := (.int .i64 r99)) rfl rfl (fun _ => HVal.assign' rfl) ?_
          refine HPlan.done ?_
          refine nt ?_
          refine HW.seq ?_
          refine HW.region ?_
          refine HList.vals (v := (.int .i64 r58)) rfl (HVal.move' rfl) ?_
          refine HList.vals (v := (.int .i64 r99)) rfl (HVal.move' rfl) ?_
          refine HList.vals (v := (.bool (decide (r58 = r99)))) rfl (HVal.eqlI rfl rfl) ?_
          refine HList.vals (v := (.bool (decide (r58 = r99)))) rfl (HVal.move' rfl) ?_
          obtain ⟨hT, hF⟩ := h
          rcases Bool.eq_false_or_eq_true (decide (r58 = r99)) with hb103 | hb104
          · have h := hT hb103
            clear hT hF
            obtain ⟨x106, x107, c105, h⟩ := h
            refine HList.gvals (v := (.agg #[(.string x106), (Sl.v x107)])) rfl rfl rfl rfl (congrArg Value.bool hb103) (HVal.loadN [(.string x106), (Sl.v x107)] Tryd.isAgg27 Tryd.sizeOf27 rfl c105) ?_
            obtain ⟨x109, x110, c108, h⟩ := h
            refine HList.gvals (v := (.agg #[(.string x109), (Sl.v x110)])) rfl rfl rfl rfl (congrArg Value.bool hb103) (HVal.loadN [(.string x109), (Sl.v x110)] Tryd.isAgg27 Tryd.sizeOf27 rfl c108) ?_
            refine HList.gops rfl rfl rfl rfl (congrArg Value.bool hb103) (HOp.call' 15 [(.agg #[(.string x106), (Sl.v x107)]), (.agg #[(.string x109), (Sl.v x110)])] (cap := []) rfl rfl Tryd.call15 (walk15 h)) ?_
            rintro _ H111 ⟨r113, rfl, h⟩
            refine HList.vals (v := (.bool r113)) rfl (HVal.pickT rfl hb103 rfl) ?_
            refine HList.vals (v := (.bool r113)) rfl (HVal.assign' rfl) ?_
            refine HList.nil ?_
            refine nt ?_
            refine HW.ret ?_
            refine br ?_
            refine tr ?_
            exact ⟨_, resOf1 rfl Res1.t, ⟨r113, rfl, h⟩⟩
          · have h := hF hb104
            clear hT hF
            refine HList.gskips rfl rfl rfl rfl (congrArg Value.bool hb104) ?_
            refine HList.gskips rfl rfl rfl rfl (congrArg Value.bool hb104) ?_
            refine HList.gskips rfl rfl rfl rfl (congrArg Value.bool hb104) ?_
            refine HList.vals (v := (.bool false)) rfl (HVal.pickF rfl hb104 rfl) ?_
            refine HList.vals (v := (.bool false)) rfl (HVal.assign' rfl) ?_
            refine HList.nil ?_
            refine nt ?_
            refine HW.ret ?_
            refine br ?_
            refine tr ?_
            exact ⟨_, resOf1 rfl Res1.t, ⟨false, rfl, h⟩⟩
      · have h := hB10
        clear hB6 hB10
        refine HBr.ops' [(6, none), (7, some []), (8, some []), (9, some []), (11, none), (12, some [])] rfl (by kernel_rfl) (by kernel_rfl) rfl rfl rfl (HOp.alloc Tryd.zeroValue27) ?_
        rintro _ H114 ⟨rfl, e115⟩
        replace h := h H114 e115
        obtain ⟨s116, s117, h⟩ := h
        refine ⟨SC_of ⟨fun _ => s116, fun _ => s117, trivial⟩, ?_⟩
        refine HPlan.ops' rfl rfl (HOp.call' 42 [(.pointer x51), (.string x53)] (cap := []) rfl rfl Tryd.call42 (walk42 h)) ?_
        rintro _ H118 ⟨r120, r121, r122, rfl, h⟩
        refine ⟨SC_of ⟨fun e => absurd e (by decide), fun e => absurd e (by decide), trivial⟩, ?_⟩
        refine HPlan.takev (v := (.tuple #[(.agg #[(.string r120), (Sl.v r121)]), (.int .i64 r122)])) rfl rfl (fun _ => HVal.move' rfl) ?_
        refine HPlan.takev (v := (.agg #[(.string r120), (Sl.v r121)])) rfl rfl (fun _ => HVal.extract rfl rfl) ?_
        refine HPlan.takev (v := (.int .i64 r122)) rfl rfl (fun _ => HVal.extract rfl rfl) ?_
        obtain ⟨z125, h⟩ := h
        refine HPlan.opsn rfl (HOp.storeN' (l := [(.string r120), (Sl.v r121)]) Tryd.sizeOf27 rfl rfl rfl z125) ?_
        rintro _ H123 e124
        replace h := h H123 e124
        refine ⟨SC_of ⟨fun e => absurd e (by decide), fun e => absurd e (by decide), trivial⟩, ?_⟩
        refine HPlan.takev (v := (.int .i64 r122)) rfl rfl (fun _ => HVal.assign' rfl) ?_
        refine HPlan.done ?_
        refine nt ?_
        refine HW.seq ?_
        refine HW.draw mixed [(0, some []), (1, some []), (2, some []), (3, some [6, 11]), (4, some []), (5, some [6, 11]), (13, none), (13, none), (13, none), (13, none), (13, none), (13, none), (13, none)] rfl (by kernel_rfl) (by kernel_rfl) ?_
        refine HPlan.takev (v := (.pointer p0)) rfl rfl (fun _ => HVal.move' rfl) ?_
        obtain ⟨a126, e127, h⟩ := h
        refine HPlan.takev (v := (.pointer (some a126))) rfl rfl (fun _ => HVal.nilCheck (congrArg Value.pointer e127)) ?_
        refine HPlan.takev (v := (.pointer (some (Addr.add a126 1)))) rfl rfl (fun _ => HVal.fieldAddr' Tryd.runUnderlying101 rfl rfl Tryd.sizeOf98 rfl) ?_
        obtain ⟨x129, c128, h⟩ := h
        refine HPlan.takel (v := (.pointer x129)) (fun X => cell X (Addr.add a126 1) = some (.pointer x129)) rfl rfl (fun _ hX => HVal.load1 Tryd.isAgg98 rfl hX) c128 ?_
        refine HPlan.takev (v := (.pointer (some (Addr.add ⟨H.size, 0, none⟩ 4)))) rfl rfl (fun _ => HVal.fieldAddr' Tryd.runUnderlying65 rfl rfl Tryd.sizeOf9 rfl) ?_
        obtain ⟨x131, c130, h⟩ := h
        refine HPlan.takel (v := (.string x131)) (fun X => cell X (Addr.add ⟨H.size, 0, none⟩ 4) = some (.string x131)) rfl rfl (fun _ hX => HVal.load1 Tryd.isAgg9 rfl hX) c130 ?_
        obtain ⟨hB6, hB10⟩ := h
        refine HPlan.fork2 (i := 6) (j := 10) (by kernel_rfl) ?_ ?_
        · have h := hB6
          clear hB6 hB10
          refine HBr.ops' [(7, some []), (8, some []), (9, some []), (10, none), (11, none), (12, some [])] rfl (by kernel_rfl) (by kernel_rfl) rfl rfl rfl (HOp.call' 43 [(.pointer x129), (.string x131)] (cap := []) rfl rfl Tryd.call43 (walk43 h)) ?_
          rintro _ H132 ⟨r134, r135, r136, rfl, h⟩
          refine ⟨SC_of ⟨fun e => absurd e (by decide), fun e => absurd e (by decide), trivial⟩, ?_⟩
          refine HPlan.takev (v := (.tuple #[(.agg #[(.string r134), (Sl.v r135)]), (.int .i64 r136)])) rfl rfl (fun _ => HVal.move' rfl) ?_
          refine HPlan.takev (v := (.agg #[(.string r134), (Sl.v r135)])) rfl rfl (fun _ => HVal.extract rfl rfl) ?_
          refine HPlan.takev (v := (.int .i64 r136)) rfl rfl (fun _ => HVal.extract rfl rfl) ?_
          refine HPlan.ops' rfl rfl (HOp.alloc Tryd.zeroValue27) ?_
          rintro _ H137 ⟨rfl, e138⟩
          replace h := h H137 e138
          refine ⟨SC_of ⟨fun e => absurd e (by decide), fun e => absurd e (by decide), trivial⟩, ?_⟩
          obtain ⟨z141, h⟩ := h
          refine HPlan.opsn rfl (HOp.storeN' (l := [(.string r134), (Sl.v r135)]) Tryd.sizeOf27 rfl rfl rfl z141) ?_
          rintro _ H139 e140
          replace h := h H139 e140
          refine ⟨SC_of ⟨fun e => absurd e (by decide), fun e => absurd e (by decide), trivial⟩, ?_⟩
          refine HPlan.takev (v := (.int .i64 r136)) rfl rfl (fun _ => HVal.assign' rfl) ?_
          refine HPlan.done ?_
          refine nt ?_
          refine HW.seq ?_
          refine HW.region ?_
          refine HList.vals (v := (.int .i64 r122)) rfl (HVal.move' rfl) ?_
          refine HList.vals (v := (.int .i64 r136)) rfl (HVal.move' rfl) ?_
          refine HList.vals (v := (.bool (decide (r122 = r136)))) rfl (HVal.eqlI rfl rfl) ?_
          refine HList.vals (v := (.bool (decide (r122 = r136)))) rfl (HVal.move' rfl) ?_
          obtain ⟨hT, hF⟩ := h
          rcases Bool.eq_false_or_eq_true (decide (r122 = r136)) with hb142 | hb143
          · have h := hT hb142
            clear hT hF
            obtain ⟨x145, x146, c144, h⟩ := h
            refine HList.gvals (v := (.agg #[(.string x145), (Sl.v x146)])) rfl rfl rfl rfl (congrArg Value.bool hb142) (HVal.loadN [(.string x145), (Sl.v x146)] Tryd.isAgg27 Tryd.sizeOf27 rfl c144) ?_
            obtain ⟨x148, x149, c147, h⟩ := h
            refine HList.gvals (v := (.agg #[(.string x148), (Sl.v x149)])) rfl rfl rfl rfl (congrArg Value.bool hb142) (HVal.loadN [(.string x148), (Sl.v x149)] Tryd.isAgg27 Tryd.sizeOf27 rfl c147) ?_
            refine HList.gops rfl rfl rfl rfl (congrArg Value.bool hb142) (HOp.call' 15 [(.agg #[(.string x145), (Sl.v x146)]), (.agg #[(.string x148), (Sl.v x149)])] (cap := []) rfl rfl Tryd.call15 (walk15 h)) ?_
            rintro _ H150 ⟨r152, rfl, h⟩
            refine HList.vals (v := (.bool r152)) rfl (HVal.pickT rfl hb142 rfl) ?_
            refine HList.vals (v := (.bool r152)) rfl (HVal.assign' rfl) ?_
            refine HList.nil ?_
            refine nt ?_
            refine HW.ret ?_
            refine br ?_
            refine tr ?_
            exact ⟨_, resOf1 rfl Res1.t, ⟨r152, rfl, h⟩⟩
          · have h := hF hb143
            clear hT hF
            refine HList.gskips rfl rfl rfl rfl (congrArg Value.bool hb143) ?_
            refine HList.gskips rfl rfl rfl rfl (congrArg Value.bool hb143) ?_
            refine HList.gskips rfl rfl rfl rfl (congrArg Value.bool hb143) ?_
            refine HList.vals (v := (.bool false)) rfl (HVal.pickF rfl hb143 rfl) ?_
            refine HList.vals (v := (.bool false)) rfl (HVal.assign' rfl) ?_
            refine HList.nil ?_
            refine nt ?_
            refine HW.ret ?_
            refine br ?_
            refine tr ?_
            exact ⟨_, resOf1 rfl Res1.t, ⟨false, rfl, h⟩⟩
        · have h := hB10
          clear hB6 hB10
          refine HBr.ops' [(6, none), (7, some []), (8, some []), (9, some []), (11, none), (12, some [])] rfl (by kernel_rfl) (by kernel_rfl) rfl rfl rfl (HOp.alloc Tryd.zeroValue27) ?_
          rintro _ H153 ⟨rfl, e154⟩
          replace h := h H153 e154
          obtain ⟨s155, s156, h⟩ := h
          refine ⟨SC_of ⟨fun _ => s155, fun _ => s156, trivial⟩, ?_⟩
          refine HPlan.ops' rfl rfl (HOp.call' 43 [(.pointer x129), (.string x131)] (cap := []) rfl rfl Tryd.call43 (walk43 h)) ?_
          rintro _ H157 ⟨r159, r160, r161, rfl, h⟩
          refine ⟨SC_of ⟨fun e => absurd e (by decide), fun e => absurd e (by decide), trivial⟩, ?_⟩
          refine HPlan.takev (v := (.tuple #[(.agg #[(.string r159), (Sl.v r160)]), (.int .i64 r161)])) rfl rfl (fun _ => HVal.move' rfl) ?_
          refine HPlan.takev (v := (.agg #[(.string r159), (Sl.v r160)])) rfl rfl (fun _ => HVal.extract rfl rfl) ?_
          refine HPlan.takev (v := (.int .i64 r161)) rfl rfl (fun _ => HVal.extract rfl rfl) ?_
          obtain ⟨z164, h⟩ := h
          refine HPlan.opsn rfl (HOp.storeN' (l := [(.string r159), (Sl.v r160)]) Tryd.sizeOf27 rfl rfl rfl z164) ?_
          rintro _ H162 e163
          replace h := h H162 e163
          refine ⟨SC_of ⟨fun e => absurd e (by decide), fun e => absurd e (by decide), trivial⟩, ?_⟩
          refine HPlan.takev (v := (.int .i64 r161)) rfl rfl (fun _ => HVal.assign' rfl) ?_
          refine HPlan.done ?_
          refine nt ?_
          refine HW.seq ?_
          refine HW.region ?_
          refine HList.vals (v := (.int .i64 r122)) rfl (HVal.move' rfl) ?_
          refine HList.vals (v := (.int .i64 r161)) rfl (HVal.move' rfl) ?_
          refine HList.vals (v := (.bool (decide (r122 = r161)))) rfl (HVal.eqlI rfl rfl) ?_
          refine HList.vals (v := (.bool (decide (r122 = r161)))) rfl (HVal.move' rfl) ?_
          obtain ⟨hT, hF⟩ := h
          rcases Bool.eq_false_or_eq_true (decide (r122 = r161)) with hb165 | hb166
          · have h := hT hb165
            clear hT hF
            obtain ⟨x168, x169, c167, h⟩ := h
            refine HList.gvals (v := (.agg #[(.string x168), (Sl.v x169)])) rfl rfl rfl rfl (congrArg Value.bool hb165) (HVal.loadN [(.string x168), (Sl.v x169)] Tryd.isAgg27 Tryd.sizeOf27 rfl c167) ?_
            obtain ⟨x171, x172, c170, h⟩ := h
            refine HList.gvals (v := (.agg #[(.string x171), (Sl.v x172)])) rfl rfl rfl rfl (congrArg Value.bool hb165) (HVal.loadN [(.string x171), (Sl.v x172)] Tryd.isAgg27 Tryd.sizeOf27 rfl c170) ?_
            refine HList.gops rfl rfl rfl rfl (congrArg Value.bool hb165) (HOp.call' 15 [(.agg #[(.string x168), (Sl.v x169)]), (.agg #[(.string x171), (Sl.v x172)])] (cap := []) rfl rfl Tryd.call15 (walk15 h)) ?_
            rintro _ H173 ⟨r175, rfl, h⟩
            refine HList.vals (v := (.bool r175)) rfl (HVal.pickT rfl hb165 rfl) ?_
            refine HList.vals (v := (.bool r175)) rfl (HVal.assign' rfl) ?_
            refine HList.nil ?_
            refine nt ?_
            refine HW.ret ?_
            refine br ?_
            refine tr ?_
            exact ⟨_, resOf1 rfl Res1.t, ⟨r175, rfl, h⟩⟩
          · have h := hF hb166
            clear hT hF
            refine HList.gskips rfl rfl rfl rfl (congrArg Value.bool hb166) ?_
            refine HList.gskips rfl rfl rfl rfl (congrArg Value.bool hb166) ?_
            refine HList.gskips rfl rfl rfl rfl (congrArg Value.bool hb166) ?_
            refine HList.vals (v := (.bool false)) rfl (HVal.pickF rfl hb166 rfl) ?_
            refine HList.vals (v := (.bool false)) rfl (HVal.assign' rfl) ?_
            refine HList.nil ?_
            refine nt ?_
            refine HW.ret ?_
            refine br ?_
            refine tr ?_
            exact ⟨_, resOf1 rfl Res1.t, ⟨false, rfl, h⟩⟩
    · have h := hF hb47
      clear hT hF
      refine HW.seq ?_
      refine HW.region ?_
      refine HList.vals (v := (.bool (decide (x4 = 3)))) rfl (HVal.eqlI rfl rfl) ?_
      refine HList.vals (v := (.bool (decide (x4 = 3)))) rfl (HVal.assign' rfl) ?_
      refine HList.nil ?_
      refine nt ?_
      obtain ⟨hT, hF⟩ := h
      refine HW.cond (decide (x4 = 3)) rfl (fun hb176 => ?_) (fun hb176 => ?_)
      · have h := hT hb176
        clear hT hF
        refine HW.seq ?_
        refine HW.draw mixed [(0, some []), (1, some []), (2, some []), (3, some [4]), (5, some []), (6, some []), (7, some []), (8, some [9]), (4, none), (9, none), (10, none), (11, some [])] rfl (by kernel_rfl) (by kernel_rfl) ?_
        refine HPlan.takev (v := (.pointer p0)) rfl rfl (fun _ => HVal.move' rfl) ?_
        obtain ⟨a177, e178, h⟩ := h
        refine HPlan.takev (v := (.pointer (some a177))) rfl rfl (fun _ => HVal.nilCheck (congrArg Value.pointer e178)) ?_
        refine HPlan.takev (v := (.pointer (some a177))) rfl rfl (fun _ => HVal.fieldAddr0 Tryd.runUnderlying101 rfl rfl Tryd.sizeOf23 rfl) ?_
        obtain ⟨x180, c179, h⟩ := h
        refine HPlan.takel (v := (.pointer x180)) (fun X => cell X a177 = some (.pointer x180)) rfl rfl (fun _ hX => HVal.load1 Tryd.isAgg23 rfl hX) c179 ?_
        refine HPlan.takev (v := (.pointer p0)) rfl rfl (fun _ => HVal.move' rfl) ?_
        obtain ⟨a181, e182, h⟩ := h
        refine HPlan.takev (v := (.pointer (some a181))) rfl rfl (fun _ => HVal.nilCheck (congrArg Value.pointer e182)) ?_
        refine HPlan.takev (v := (.pointer (some (Addr.add a181 1)))) rfl rfl (fun _ => HVal.fieldAddr' Tryd.runUnderlying101 rfl rfl Tryd.sizeOf98 rfl) ?_
        obtain ⟨x184, c183, h⟩ := h
        refine HPlan.takel (v := (.pointer x184)) (fun X => cell X (Addr.add a181 1) = some (.pointer x184)) rfl rfl (fun _ hX => HVal.load1 Tryd.isAgg98 rfl hX) c183 ?_
        refine HPlan.ops' rfl rfl (HOp.call' 18 [(.pointer x180)] (cap := []) rfl rfl Tryd.call18 (walk18 h)) ?_
        rintro _ H185 ⟨r187, rfl, h⟩
        obtain ⟨s188, h⟩ := h
        refine ⟨SC_of ⟨fun _ => s188, fun e => absurd e (by decide), trivial⟩, ?_⟩
        refine HPlan.ops' rfl rfl (HOp.call' 45 [(.pointer x184)] (cap := []) rfl rfl Tryd.call45 (walk45 h)) ?_
        rintro _ H189 ⟨r191, rfl, h⟩
        refine ⟨SC_of ⟨fun e => absurd e (by decide), fun e => absurd e (by decide), trivial⟩, ?_⟩
        refine HPlan.ops' rfl rfl (HOp.call' 44 [(Sl.v r187), (Sl.v r191)] (cap := []) rfl rfl Tryd.call44 (walk44 h)) ?_
        rintro _ H192 ⟨r194, rfl, h⟩
        refine ⟨SC_of ⟨fun e => absurd e (by decide), fun e => absurd e (by decide), trivial⟩, ?_⟩
        refine HPlan.takev (v := (.bool r194)) rfl rfl (fun _ => HVal.assign' rfl) ?_
        refine HPlan.done ?_
        refine nt ?_
        refine HW.ret ?_
        refine br ?_
        refine tr ?_
        exact ⟨_, resOf1 rfl Res1.t, ⟨r194, rfl, h⟩⟩
      · have h := hF hb176
        clear hT hF
        refine HW.seq ?_
        refine HW.region ?_
        refine HList.vals (v := (.bool (decide (x4 = 4)))) rfl (HVal.eqlI rfl rfl) ?_
        refine HList.vals (v := (.bool (decide (x4 = 4)))) rfl (HVal.assign' rfl) ?_
        refine HList.nil ?_
        refine nt ?_
        obtain ⟨hT, hF⟩ := h
        refine HW.cond (decide (x4 = 4)) rfl (fun hb195 => ?_) (fun hb195 => ?_)
        · have h := hT hb195
          clear hT hF
          refine HW.seq ?_
          refine HW.draw mixed [(0, some []), (1, some []), (2, some []), (3, some [11]), (4, some []), (5, some []), (6, some []), (7, some [10]), (8, some []), (9, some [10]), (10, none), (11, none), (12, some [])] rfl (by kernel_rfl) (by kernel_rfl) ?_
          refine HPlan.takev (v := (.pointer p0)) rfl rfl (fun _ => HVal.move' rfl) ?_
          obtain ⟨a196, e197, h⟩ := h
          refine HPlan.takev (v := (.pointer (some a196))) rfl rfl (fun _ => HVal.nilCheck (congrArg Value.pointer e197)) ?_
          refine HPlan.takev (v := (.pointer (some a196))) rfl rfl (fun _ => HVal.fieldAddr0 Tryd.runUnderlying101 rfl rfl Tryd.sizeOf23 rfl) ?_
          obtain ⟨x199, c198, h⟩ := h
          refine HPlan.takel (v := (.pointer x199)) (fun X => cell X a196 = some (.pointer x199)) rfl rfl (fun _ hX => HVal.load1 Tryd.isAgg23 rfl hX) c198 ?_
          refine HPlan.takev (v := (.pointer p0)) rfl rfl (fun _ => HVal.move' rfl) ?_
          obtain ⟨a200, e201, h⟩ := h
          refine HPlan.takev (v := (.pointer (some a200))) rfl rfl (fun _ => HVal.nilCheck (congrArg Value.pointer e201)) ?_
          refine HPlan.takev (v := (.pointer (some (Addr.add a200 2)))) rfl rfl (fun _ => HVal.fieldAddr' Tryd.runUnderlying101 rfl rfl Tryd.sizeOf58 rfl) ?_
          obtain ⟨x203, c202, h⟩ := h
          refine HPlan.takel (v := (.pointer x203)) (fun X => cell X (Addr.add a200 2) = some (.pointer x203)) rfl rfl (fun _ hX => HVal.load1 Tryd.isAgg58 rfl hX) c202 ?_
          refine HPlan.takev (v := (.pointer (some (Addr.add ⟨H.size, 0, none⟩ 5)))) rfl rfl (fun _ => HVal.fieldAddr' Tryd.runUnderlying65 rfl rfl Tryd.sizeOf33 rfl) ?_
          obtain ⟨x205, x206, x207, c204, h⟩ := h
          refine HPlan.takel (v := (.agg #[(.string x205), (.int .i64 x206), (Sl.v x207)])) (fun X => cells X (Addr.add ⟨H.size, 0, none⟩ 5) [(.string x205), (.int .i64 x206), (Sl.v x207)] 0) rfl rfl (fun _ hX => HVal.loadN [(.string x205), (.int .i64 x206), (Sl.v x207)] Tryd.isAgg33 Tryd.sizeOf33 rfl hX) c204 ?_
          refine HPlan.ops' rfl rfl (HOp.call' 46 [(.pointer x203), (.agg #[(.string x205), (.int .i64 x206), (Sl.v x207)])] (cap := []) rfl rfl Tryd.call46 (walk46 h)) ?_
          rintro _ H208 ⟨r210, r211, r212, rfl, h⟩
          obtain ⟨s213, h⟩ := h
          refine ⟨SC_of ⟨fun e => absurd e (by decide), fun e => absurd e (by decide), fun _ => s213, trivial⟩, ?_⟩
          refine HPlan.ops' rfl rfl (HOp.call' 11 [(.pointer x199), (.agg #[(.string r210), (.int .i64 r211), (Sl.v r212)])] (cap := []) rfl rfl Tryd.call11 (walk11 h)) ?_
          rintro _ H214 ⟨r216, rfl, h⟩
          refine ⟨SC_of ⟨fun e => absurd e (by decide), fun e => absurd e (by decide), fun e => absurd e (by decide), trivial⟩, ?_⟩
          refine HPlan.takev (v := (.int .i64 r216)) rfl rfl (fun _ => HVal.assign' rfl) ?_
          refine HPlan.done ?_
          refine nt ?_
          refine HW.seq ?_
          refine HW.draw mixed [(0, some []), (1, some []), (2, some []), (3, some [6]), (4, some []), (5, some [6]), (6, none), (7, some [])] rfl (by kernel_rfl) (by kernel_rfl) ?_
          refine HPlan.takev (v := (.pointer p0)) rfl rfl (fun _ => HVal.move' rfl) ?_
          obtain ⟨a217, e218, h⟩ := h
          refine HPlan.takev (v := (.pointer (some a217))) rfl rfl (fun _ => HVal.nilCheck (congrArg Value.pointer e218)) ?_
          refine HPlan.takev (v := (.pointer (some (Addr.add a217 1)))) rfl rfl (fun _ => HVal.fieldAddr' Tryd.runUnderlying101 rfl rfl Tryd.sizeOf98 rfl) ?_
          obtain ⟨x220, c219, h⟩ := h
          refine HPlan.takel (v := (.pointer x220)) (fun X => cell X (Addr.add a217 1) = some (.pointer x220)) rfl rfl (fun _ hX => HVal.load1 Tryd.isAgg98 rfl hX) c219 ?_
          refine HPlan.takev (v := (.pointer (some (Addr.add ⟨H.size, 0, none⟩ 5)))) rfl rfl (fun _ => HVal.fieldAddr' Tryd.runUnderlying65 rfl rfl Tryd.sizeOf33 rfl) ?_
          obtain ⟨x222, x223, x224, c221, h⟩ := h
          refine HPlan.takel (v := (.agg #[(.string x222), (.int .i64 x223), (Sl.v x224)])) (fun X => cells X (Addr.add ⟨H.size, 0, none⟩ 5) [(.string x222), (.int .i64 x223), (Sl.v x224)] 0) rfl rfl (fun _ hX => HVal.loadN [(.string x222), (.int .i64 x223), (Sl.v x224)] Tryd.isAgg33 Tryd.sizeOf33 rfl hX) c221 ?_
          refine HPlan.ops' rfl rfl (HOp.call' 47 [(.pointer x220), (.agg #[(.string x222), (.int .i64 x223), (Sl.v x224)])] (cap := []) rfl rfl Tryd.call47 (walk47 h)) ?_
          rintro _ H225 ⟨r227, rfl, h⟩
          refine ⟨SC_of ⟨fun e => absurd e (by decide), fun e => absurd e (by decide), trivial⟩, ?_⟩
          refine HPlan.takev (v := (.int .i64 r227)) rfl rfl (fun _ => HVal.assign' rfl) ?_
          refine HPlan.done ?_
          refine nt ?_
          refine HW.seq ?_
          refine HW.draw mixed [(0, some []), (1, some []), (2, some []), (3, some [6]), (4, some []), (5, some [6]), (6, none), (7, some [])] rfl (by kernel_rfl) (by kernel_rfl) ?_
          refine HPlan.takev (v := (.pointer p0)) rfl rfl (fun _ => HVal.move' rfl) ?_
          obtain ⟨a228, e229, h⟩ := h
          refine HPlan.takev (v := (.pointer (some a228))) rfl rfl (fun _ => HVal.nilCheck (congrArg Value.pointer e229)) ?_
          refine HPlan.takev (v := (.pointer (some (Addr.add a228 2)))) rfl rfl (fun _ => HVal.fieldAddr' Tryd.runUnderlying101 rfl rfl Tryd.sizeOf58 rfl) ?_
          obtain ⟨x231, c230, h⟩ := h
          refine HPlan.takel (v := (.pointer x231)) (fun X => cell X (Addr.add a228 2) = some (.pointer x231)) rfl rfl (fun _ hX => HVal.load1 Tryd.isAgg58 rfl hX) c230 ?_
          refine HPlan.takev (v := (.pointer (some (Addr.add ⟨H.size, 0, none⟩ 5)))) rfl rfl (fun _ => HVal.fieldAddr' Tryd.runUnderlying65 rfl rfl Tryd.sizeOf33 rfl) ?_
          obtain ⟨x233, x234, x235, c232, h⟩ := h
          refine HPlan.takel (v := (.agg #[(.string x233), (.int .i64 x234), (Sl.v x235)])) (fun X => cells X (Addr.add ⟨H.size, 0, none⟩ 5) [(.string x233), (.int .i64 x234), (Sl.v x235)] 0) rfl rfl (fun _ hX => HVal.loadN [(.string x233), (.int .i64 x234), (Sl.v x235)] Tryd.isAgg33 Tryd.sizeOf33 rfl hX) c232 ?_
          refine HPlan.ops' rfl rfl (HOp.call' 48 [(.pointer x231), (.agg #[(.string x233), (.int .i64 x234), (Sl.v x235)])] (cap := []) rfl rfl Tryd.call48 (walk48 h)) ?_
          rintro _ H236 ⟨r238, rfl, h⟩
          refine ⟨SC_of ⟨fun e => absurd e (by decide), fun e => absurd e (by decide), trivial⟩, ?_⟩
          refine HPlan.takev (v := (.bool r238)) rfl rfl (fun _ => HVal.assign' rfl) ?_
          refine HPlan.done ?_
          refine nt ?_
          refine HW.seq ?_
          refine HW.region ?_
          refine HList.vals (v := (.bool r238)) rfl (HVal.move' rfl) ?_
          refine HList.vals (v := (.bool r238)) rfl (HVal.move' rfl) ?_
          obtain ⟨hT, hF⟩ := h
          rcases Bool.eq_false_or_eq_true r238 with hb239 | hb240
          · have h := hT hb239
            clear hT hF
            refine HList.gvals (v := (.int .i64 r216)) rfl rfl rfl rfl (congrArg Value.bool hb239) (HVal.move' rfl) ?_
            refine HList.gvals (v := (.int .i64 r227)) rfl rfl rfl rfl (congrArg Value.bool hb239) (HVal.move' rfl) ?_
            refine HList.gvals (v := (.bool (decide (r216 = r227)))) rfl rfl rfl rfl (congrArg Value.bool hb239) (HVal.eqlI rfl rfl) ?_
            refine HList.vals (v := (.bool (decide (r216 = r227)))) rfl (HVal.pickT rfl hb239 rfl) ?_
            refine HList.vals (v := (.bool (decide (r216 = r227)))) rfl (HVal.assign' rfl) ?_
            refine HList.nil ?_
            refine nt ?_
            refine HW.ret ?_
            refine br ?_
            refine tr ?_
            exact ⟨_, resOf1 rfl Res1.t, ⟨(decide (r216 = r227)), rfl, h⟩⟩
          · have h := hF hb240
            clear hT hF
            refine HList.gskips rfl rfl rfl rfl (congrArg Value.bool hb240) ?_
            refine HList.gskips rfl rfl rfl rfl (congrArg Value.bool hb240) ?_
            refine HList.gskips rfl rfl rfl rfl (congrArg Value.bool hb240) ?_
            refine HList.vals (v := (.bool false)) rfl (HVal.pickF rfl hb240 rfl) ?_
            refine HList.vals (v := (.bool false)) rfl (HVal.assign' rfl) ?_
            refine HList.nil ?_
            refine nt ?_
            refine HW.ret ?_
            refine br ?_
            refine tr ?_
            exact ⟨_, resOf1 rfl Res1.t, ⟨false, rfl, h⟩⟩
        · have h := hF hb195
          clear hT hF
          refine HW.seq ?_
          refine HW.region ?_
          refine HList.vals (v := (.bool (decide (x4 = 5)))) rfl (HVal.eqlI rfl rfl) ?_
          refine HList.vals (v := (.bool (decide (x4 = 5)))) rfl (HVal.assign' rfl) ?_
          refine HList.nil ?_
          refine nt ?_
          obtain ⟨hT, hF⟩ := h
          refine HW.cond (decide (x4 = 5)) rfl (fun hb241 => ?_) (fun hb241 => ?_)
          · have h := hT hb241
            clear hT hF
            refine HW.seq ?_
            refine HW.draw mixed [(0, some []), (1, some [2]), (3, some []), (4, some [5]), (2, none), (5, none), (6, some []), (7, some [])] rfl (by kernel_rfl) (by kernel_rfl) ?_
            refine HPlan.takev (v := (.pointer (some (Addr.add ⟨H.size, 0, none⟩ 4)))) rfl rfl (fun _ => HVal.fieldAddr' Tryd.runUnderlying65 rfl rfl Tryd.sizeOf9 rfl) ?_
            obtain ⟨x243, c242, h⟩ := h
            refine HPlan.takel (v := (.string x243)) (fun X => cell X (Addr.add ⟨H.size, 0, none⟩ 4) = some (.string x243)) rfl rfl (fun _ hX => HVal.load1 Tryd.isAgg9 rfl hX) c242 ?_
            refine HPlan.takev (v := (.pointer (some (Addr.add ⟨H.size, 0, none⟩ 4)))) rfl rfl (fun _ => HVal.fieldAddr' Tryd.runUnderlying65 rfl rfl Tryd.sizeOf9 rfl) ?_
            obtain ⟨x245, c244, h⟩ := h
            refine HPlan.takel (v := (.string x245)) (fun X => cell X (Addr.add ⟨H.size, 0, none⟩ 4) = some (.string x245)) rfl rfl (fun _ hX => HVal.load1 Tryd.isAgg9 rfl hX) c244 ?_
            refine HPlan.ops' rfl rfl (HOp.call' 17 [(.string x243)] (cap := []) rfl rfl Tryd.call17 (walk17 h)) ?_
            rintro _ H246 ⟨r248, rfl, h⟩
            obtain ⟨s249, h⟩ := h
            refine ⟨SC_of ⟨fun _ => s249, fun e => absurd e (by decide), trivial⟩, ?_⟩
            refine HPlan.ops' rfl rfl (HOp.call' 49 [(.string x245)] (cap := []) rfl rfl Tryd.call49 (walk49 h)) ?_
            rintro _ H250 ⟨r252, rfl, h⟩
            refine ⟨SC_of ⟨fun e => absurd e (by decide), fun e => absurd e (by decide), trivial⟩, ?_⟩
            refine HPlan.takev (v := (.bool (r248 == r252))) rfl rfl (fun _ => HVal.eqlB Tryd.underlying4 rfl rfl) ?_
            refine HPlan.takev (v := (.bool (r248 == r252))) rfl rfl (fun _ => HVal.assign' rfl) ?_
            refine HPlan.done ?_
            refine nt ?_
            refine HW.ret ?_
            refine br ?_
            refine tr ?_
            exact ⟨_, resOf1 rfl Res1.t, ⟨(r248 == r252), rfl, h⟩⟩
          · have h := hF hb241
            clear hT hF
            refine HW.seq ?_
            refine HW.region ?_
            refine HList.vals (v := (.bool (decide (x4 = 6)))) rfl (HVal.eqlI rfl rfl) ?_
            refine HList.vals (v := (.bool (decide (x4 = 6)))) rfl (HVal.assign' rfl) ?_
            refine HList.nil ?_
            refine nt ?_
            obtain ⟨hT, hF⟩ := h
            refine HW.cond (decide (x4 = 6)) rfl (fun hb253 => ?_) (fun hb253 => ?_)
            · have h := hT hb253
              clear hT hF
              refine HW.seq ?_
              refine HW.region ?_
              refine HList.vals (v := (.pointer (some (Addr.add ⟨H.size, 0, none⟩ 4)))) rfl (HVal.fieldAddr' Tryd.runUnderlying65 rfl rfl Tryd.sizeOf9 rfl) ?_
              obtain ⟨x255, c254, h⟩ := h
              refine HList.vals (v := (.string x255)) rfl (HVal.load1 Tryd.isAgg9 rfl c254) ?_
              refine HList.ops' rfl (HOp.call' 14 [(.string x255)] (cap := []) rfl rfl Tryd.call14 (walk14 h)) ?_
              rintro _ H256 ⟨r258, r259, r260, r261, rfl, h⟩
              refine HList.vals (v := (.tuple #[(.agg #[(.string r258), (Sl.v r259)]), (.int .i64 r260), (.int .i64 r261)])) rfl (HVal.move' rfl) ?_
              refine HList.vals (v := (.agg #[(.string r258), (Sl.v r259)])) rfl (HVal.extract rfl rfl) ?_
              refine HList.vals (v := (.int .i64 r260)) rfl (HVal.extract rfl rfl) ?_
              refine HList.vals (v := (.int .i64 r261)) rfl (HVal.extract rfl rfl) ?_
              refine HList.ops' rfl (HOp.alloc Tryd.zeroValue27) ?_
              rintro _ H262 ⟨rfl, e263⟩
              replace h := h H262 e263
              obtain ⟨z266, h⟩ := h
              refine HList.opsn (HOp.storeN' (l := [(.string r258), (Sl.v r259)]) Tryd.sizeOf27 rfl rfl rfl z266) ?_
              rintro _ H264 e265
              replace h := h H264 e265
              refine HList.vals (v := (.int .i64 r260)) rfl (HVal.assign' rfl) ?_
              refine HList.vals (v := (.int .i64 r261)) rfl (HVal.assign' rfl) ?_
              refine HList.nil ?_
              refine nt ?_
              refine HW.seq ?_
              refine HW.region ?_
              refine HList.vals (v := (.pointer (some (Addr.add ⟨H.size, 0, none⟩ 4)))) rfl (HVal.fieldAddr' Tryd.runUnderlying65 rfl rfl Tryd.sizeOf9 rfl) ?_
              obtain ⟨x268, c267, h⟩ := h
              refine HList.vals (v := (.string x268)) rfl (HVal.load1 Tryd.isAgg9 rfl c267) ?_
              refine HList.ops' rfl (HOp.call' 50 [(.string x268)] (cap := []) rfl rfl Tryd.call50 (walk50 h)) ?_
              rintro _ H269 ⟨r271, r272, r273, r274, rfl, h⟩
              refine HList.vals (v := (.tuple #[(.agg #[(.string r271), (Sl.v r272)]), (.int .i64 r273), (.int .i64 r274)])) rfl (HVal.move' rfl) ?_
              refine HList.vals (v := (.agg #[(.string r271), (Sl.v r272)])) rfl (HVal.extract rfl rfl) ?_
              refine HList.vals (v := (.int .i64 r273)) rfl (HVal.extract rfl rfl) ?_
              refine HList.vals (v := (.int .i64 r274)) rfl (HVal.extract rfl rfl) ?_
              refine HList.ops' rfl (HOp.alloc Tryd.zeroValue27) ?_
              rintro _ H275 ⟨rfl, e276⟩
              replace h := h H275 e276
              obtain ⟨z279, h⟩ := h
              refine HList.opsn (HOp.storeN' (l := [(.string r271), (Sl.v r272)]) Tryd.sizeOf27 rfl rfl rfl z279) ?_
              rintro _ H277 e278
              replace h := h H277 e278
              refine HList.vals (v := (.int .i64 r273)) rfl (HVal.assign' rfl) ?_
              refine HList.vals (v := (.int .i64 r274)) rfl (HVal.assign' rfl) ?_
              refine HList.nil ?_
              refine nt ?_
              refine HW.seq ?_
              refine HW.region ?_
              refine HList.vals (v := (.int .i64 r261)) rfl (HVal.move' rfl) ?_
              refine HList.vals (v := (.int .i64 r274)) rfl (HVal.move' rfl) ?_
              refine HList.vals (v := (.bool (decide (r261 = r274)))) rfl (HVal.eqlI rfl rfl) ?_
              refine HList.vals (v := (.bool (decide (r261 = r274)))) rfl (HVal.move' rfl) ?_
              obtain ⟨hT, hF⟩ := h
              rcases Bool.eq_false_or_eq_true (decide (r261 = r274)) with hb280 | hb281
              · have h := hT hb280
                clear hT hF
                refine HList.gvals (v := (.int .i64 r260)) rfl rfl rfl rfl (congrArg Value.bool hb280) (HVal.move' rfl) ?_
                refine HList.gvals (v := (.int .i64 r273)) rfl rfl rfl rfl (congrArg Value.bool hb280) (HVal.move' rfl) ?_
                refine HList.gvals (v := (.bool (decide (r260 = r273)))) rfl rfl rfl rfl (congrArg Value.bool hb280) (HVal.eqlI rfl rfl) ?_
                refine HList.vals (v := (.bool (decide (r260 = r273)))) rfl (HVal.pickT rfl hb280 rfl) ?_
                refine HList.vals (v := (.bool (decide (r260 = r273)))) rfl (HVal.move' rfl) ?_
                obtain ⟨hT, hF⟩ := h
                rcases Bool.eq_false_or_eq_true (decide (r260 = r273)) with hb282 | hb283
                · have h := hT hb282
                  clear hT hF
                  obtain ⟨x285, x286, c284, h⟩ := h
                  refine HList.gvals (v := (.agg #[(.string x285), (Sl.v x286)])) rfl rfl rfl rfl (congrArg Value.bool hb282) (HVal.loadN [(.string x285), (Sl.v x286)] Tryd.isAgg27 Tryd.sizeOf27 rfl c284) ?_
                  obtain ⟨x288, x289, c287, h⟩ := h
                  refine HList.gvals (v := (.agg #[(.string x288), (Sl.v x289)])) rfl rfl rfl rfl (congrArg Value.bool hb282) (HVal.loadN [(.string x288), (Sl.v x289)] Tryd.isAgg27 Tryd.sizeOf27 rfl c287) ?_
                  refine HList.gops rfl rfl rfl rfl (congrArg Value.bool hb282) (HOp.call' 15 [(.agg #[(.string x285), (Sl.v x286)]), (.agg #[(.string x288), (Sl.v x289)])] (cap := []) rfl rfl Tryd.call15 (walk15 h)) ?_
                  rintro _ H290 ⟨r292, rfl, h⟩
                  refine HList.vals (v := (.bool r292)) rfl (HVal.pickT rfl hb282 rfl) ?_
                  refine HList.vals (v := (.bool r292)) rfl (HVal.assign' rfl) ?_
                  refine HList.nil ?_
                  refine nt ?_
                  refine HW.ret ?_
                  refine br ?_
                  refine tr ?_
                  exact ⟨_, resOf1 rfl Res1.t, ⟨r292, rfl, h⟩⟩
                · have h := hF hb283
                  clear hT hF
                  refine HList.gskips rfl rfl rfl rfl (congrArg Value.bool hb283) ?_
                  refine HList.gskips rfl rfl rfl rfl (congrArg Value.bool hb283) ?_
                  refine HList.gskips rfl rfl rfl rfl (congrArg Value.bool hb283) ?_
                  refine HList.vals (v := (.bool false)) rfl (HVal.pickF rfl hb283 rfl) ?_
                  refine HList.vals (v := (.bool false)) rfl (HVal.assign' rfl) ?_
                  refine HList.nil ?_
                  refine nt ?_
                  refine HW.ret ?_
                  refine br ?_
                  refine tr ?_
                  exact ⟨_, resOf1 rfl Res1.t, ⟨false, rfl, h⟩⟩
              · have h := hF hb281
                clear hT hF
                refine HList.gskips rfl rfl rfl rfl (congrArg Value.bool hb281) ?_
                refine HList.gskips rfl rfl rfl rfl (congrArg Value.bool hb281) ?_
                refine HList.gskips rfl rfl rfl rfl (congrArg Value.bool hb281) ?_
                refine HList.vals (v := (.bool false)) rfl (HVal.pickF rfl hb281 rfl) ?_
                refine HList.vals (v := (.bool false)) rfl (HVal.move' rfl) ?_
                refine HList.gskips rfl rfl rfl rfl rfl ?_
                refine HList.gskips rfl rfl rfl rfl rfl ?_
                refine HList.gskips rfl rfl rfl rfl rfl ?_
                refine HList.vals (v := (.bool false)) rfl (HVal.pickF rfl rfl rfl) ?_
                refine HList.vals (v := (.bool false)) rfl (HVal.assign' rfl) ?_
                refine HList.nil ?_
                refine nt ?_
                refine HW.ret ?_
                refine br ?_
                refine tr ?_
                exact ⟨_, resOf1 rfl Res1.t, ⟨false, rfl, h⟩⟩
            · have h := hF hb253
              clear hT hF
              refine HW.seq ?_
              refine HW.region ?_
              refine HList.vals (v := (.bool (decide (x4 = 7)))) rfl (HVal.eqlI rfl rfl) ?_
              refine HList.vals (v := (.bool (decide (x4 = 7)))) rfl (HVal.assign' rfl) ?_
              refine HList.nil ?_
              refine nt ?_
              obtain ⟨hT, hF⟩ := h
              refine HW.cond (decide (x4 = 7)) rfl (fun hb293 => ?_) (fun hb293 => ?_)
              · have h := hT hb293
                clear hT hF
                refine HW.seq ?_
                refine HW.draw mixed [(0, some []), (1, some []), (2, some []), (3, some [6]), (4, some []), (5, some [6]), (6, none), (7, none), (8, some []), (9, some []), (10, some []), (11, some []), (12, some [])] rfl (by kernel_rfl) (by kernel_rfl) ?_
                refine HPlan.takev (v := (.pointer p0)) rfl rfl (fun _ => HVal.move' rfl) ?_
                obtain ⟨a294, e295, h⟩ := h
                refine HPlan.takev (v := (.pointer (some a294))) rfl rfl (fun _ => HVal.nilCheck (congrArg Value.pointer e295)) ?_
                refine HPlan.takev (v := (.pointer (some (Addr.add a294 2)))) rfl rfl (fun _ => HVal.fieldAddr' Tryd.runUnderlying101 rfl rfl Tryd.sizeOf58 rfl) ?_
                obtain ⟨x297, c296, h⟩ := h
                refine HPlan.takel (v := (.pointer x297)) (fun X => cell X (Addr.add a294 2) = some (.pointer x297)) rfl rfl (fun _ hX => HVal.load1 Tryd.isAgg58 rfl hX) c296 ?_
                refine HPlan.takev (v := (.pointer (some (Addr.add ⟨H.size, 0, none⟩ 2)))) rfl rfl (fun _ => HVal.fieldAddr' Tryd.runUnderlying65 rfl rfl Tryd.sizeOf27 rfl) ?_
                obtain ⟨x299, x300, c298, h⟩ := h
                refine HPlan.takel (v := (.agg #[(.string x299), (Sl.v x300)])) (fun X => cells X (Addr.add ⟨H.size, 0, none⟩ 2) [(.string x299), (Sl.v x300)] 0) rfl rfl (fun _ hX => HVal.loadN [(.string x299), (Sl.v x300)] Tryd.isAgg27 Tryd.sizeOf27 rfl hX) c298 ?_
                refine HPlan.ops' rfl rfl (HOp.call' 39 [(.pointer x297), (.agg #[(.string x299), (Sl.v x300)])] (cap := []) rfl rfl Tryd.call39 (walk39 h)) ?_
                rintro _ H301 ⟨r303, r304, rfl, h⟩
                refine ⟨SC_of ⟨fun e => absurd e (by decide), fun e => absurd e (by decide), trivial⟩, ?_⟩
                refine HPlan.ops' rfl rfl (HOp.call' 13 [(.agg #[(.string r303), (Sl.v r304)])] (cap := []) rfl rfl Tryd.call13 (walk13 h)) ?_
                rintro _ H305 ⟨r307, r308, rfl, h⟩
                refine ⟨SC_of ⟨fun e => absurd e (by decide), fun e => absurd e (by decide), trivial⟩, ?_⟩
                refine HPlan.takev (v := (.tuple #[(.string r307), (.int .i64 r308)])) rfl rfl (fun _ => HVal.move' rfl) ?_
                refine HPlan.takev (v := (.string r307)) rfl rfl (fun _ => HVal.extract rfl rfl) ?_
                refine HPlan.takev (v := (.int .i64 r308)) rfl rfl (fun _ => HVal.extract rfl rfl) ?_
                refine HPlan.takev (v := (.string r307)) rfl rfl (fun _ => HVal.assign' rfl) ?_
                refine HPlan.takev (v := (.int .i64 r308)) rfl rfl (fun _ => HVal.assign' rfl) ?_
                refine HPlan.done ?_
                refine nt ?_
                refine HW.seq ?_
                refine HW.region ?_
                refine HList.vals (v := (.pointer (some (Addr.add ⟨H.size, 0, none⟩ 2)))) rfl (HVal.fieldAddr' Tryd.runUnderlying65 rfl rfl Tryd.sizeOf27 rfl) ?_
                obtain ⟨x310, x311, c309, h⟩ := h
                refine HList.vals (v := (.agg #[(.string x310), (Sl.v x311)])) rfl (HVal.loadN [(.string x310), (Sl.v x311)] Tryd.isAgg27 Tryd.sizeOf27 rfl c309) ?_
                refine HList.ops' rfl (HOp.call' 51 [(.agg #[(.string x310), (Sl.v x311)])] (cap := []) rfl rfl Tryd.call51 (walk51 h)) ?_
                rintro _ H312 ⟨r314, r315, rfl, h⟩
                refine HList.vals (v := (.tuple #[(.string r314), (.int .i64 r315)])) rfl (HVal.move' rfl) ?_
                refine HList.vals (v := (.string r314)) rfl (HVal.extract rfl rfl) ?_
                refine HList.vals (v := (.int .i64 r315)) rfl (HVal.extract rfl rfl) ?_
                refine HList.vals (v := (.string r314)) rfl (HVal.assign' rfl) ?_
                refine HList.vals (v := (.int .i64 r315)) rfl (HVal.assign' rfl) ?_
                refine HList.nil ?_
                refine nt ?_
                refine HW.seq ?_
                refine HW.draw mixed [(0, some []), (1, some []), (2, some []), (3, some [6]), (4, some []), (5, some [6]), (6, none), (7, some [])] rfl (by kernel_rfl) (by kernel_rfl) ?_
                refine HPlan.takev (v := (.pointer p0)) rfl rfl (fun _ => HVal.move' rfl) ?_
                obtain ⟨a316, e317, h⟩ := h
                refine HPlan.takev (v := (.pointer (some a316))) rfl rfl (fun _ => HVal.nilCheck (congrArg Value.pointer e317)) ?_
                refine HPlan.takev (v := (.pointer (some (Addr.add a316 2)))) rfl rfl (fun _ => HVal.fieldAddr' Tryd.runUnderlying101 rfl rfl Tryd.sizeOf58 rfl) ?_
                obtain ⟨x319, c318, h⟩ := h
                refine HPlan.takel (v := (.pointer x319)) (fun X => cell X (Addr.add a316 2) = some (.pointer x319)) rfl rfl (fun _ hX => HVal.load1 Tryd.isAgg58 rfl hX) c318 ?_
                refine HPlan.takev (v := (.pointer (some (Addr.add ⟨H.size, 0, none⟩ 2)))) rfl rfl (fun _ => HVal.fieldAddr' Tryd.runUnderlying65 rfl rfl Tryd.sizeOf27 rfl) ?_
                obtain ⟨x321, x322, c320, h⟩ := h
                refine HPlan.takel (v := (.agg #[(.string x321), (Sl.v x322)])) (fun X => cells X (Addr.add ⟨H.size, 0, none⟩ 2) [(.string x321), (Sl.v x322)] 0) rfl rfl (fun _ hX => HVal.loadN [(.string x321), (Sl.v x322)] Tryd.isAgg27 Tryd.sizeOf27 rfl hX) c320 ?_
                refine HPlan.ops' rfl rfl (HOp.call' 41 [(.pointer x319), (.agg #[(.string x321), (Sl.v x322)])] (cap := []) rfl rfl Tryd.call41 (walk41 h)) ?_
                rintro _ H323 ⟨r325, rfl, h⟩
                refine ⟨SC_of ⟨fun e => absurd e (by decide), fun e => absurd e (by decide), trivial⟩, ?_⟩
                refine HPlan.takev (v := (.bool r325)) rfl rfl (fun _ => HVal.assign' rfl) ?_
                refine HPlan.done ?_
                refine nt ?_
                refine HW.seq ?_
                refine HW.region ?_
                refine HList.vals (v := (.bool r325)) rfl (HVal.move' rfl) ?_
                refine HList.vals (v := (.bool r325)) rfl (HVal.move' rfl) ?_
                obtain ⟨hT, hF⟩ := h
                rcases Bool.eq_false_or_eq_true r325 with hb326 | hb327
                · have h := hT hb326
                  clear hT hF
                  refine HList.gvals (v := (.int .i64 r308)) rfl rfl rfl rfl (congrArg Value.bool hb326) (HVal.move' rfl) ?_
                  refine HList.gvals (v := (.int .i64 r315)) rfl rfl rfl rfl (congrArg Value.bool hb326) (HVal.move' rfl) ?_
                  refine HList.gvals (v := (.bool (decide (r308 = r315)))) rfl rfl rfl rfl (congrArg Value.bool hb326) (HVal.eqlI rfl rfl) ?_
                  refine HList.vals (v := (.bool (decide (r308 = r315)))) rfl (HVal.pickT rfl hb326 rfl) ?_
                  refine HList.vals (v := (.bool (decide (r308 = r315)))) rfl (HVal.move' rfl) ?_
                  obtain ⟨hT, hF⟩ := h
                  rcases Bool.eq_false_or_eq_true (decide (r308 = r315)) with hb328 | hb329
                  · have h := hT hb328
                    clear hT hF
                    refine HList.gvals (v := (.string r307)) rfl rfl rfl rfl (congrArg Value.bool hb328) (HVal.move' rfl) ?_
                    refine HList.gvals (v := (.string r314)) rfl rfl rfl rfl (congrArg Value.bool hb328) (HVal.move' rfl) ?_
                    refine HList.gvals (v := (.bool (seq r307 r314))) rfl rfl rfl rfl (congrArg Value.bool hb328) (HVal.eqlS rfl rfl) ?_
                    refine HList.vals (v := (.bool (seq r307 r314))) rfl (HVal.pickT rfl hb328 rfl) ?_
                    refine HList.vals (v := (.bool (seq r307 r314))) rfl (HVal.assign' rfl) ?_
                    refine HList.nil ?_
                    refine nt ?_
                    refine HW.ret ?_
                    refine br ?_
                    refine tr ?_
                    exact ⟨_, resOf1 rfl Res1.t, ⟨(seq r307 r314), rfl, h⟩⟩
                  · have h := hF hb329
                    clear hT hF
                    refine HList.gskips rfl rfl rfl rfl (congrArg Value.bool hb329) ?_
                    refine HList.gskips rfl rfl rfl rfl (congrArg Value.bool hb329) ?_
                    refine HList.gskips rfl rfl rfl rfl (congrArg Value.bool hb329) ?_
                    refine HList.vals (v := (.bool false)) rfl (HVal.pickF rfl hb329 rfl) ?_
                    refine HList.vals (v := (.bool false)) rfl (HVal.assign' rfl) ?_
                    refine HList.nil ?_
                    refine nt ?_
                    refine HW.ret ?_
                    refine br ?_
                    refine tr ?_
                    exact ⟨_, resOf1 rfl Res1.t, ⟨false, rfl, h⟩⟩
                · have h := hF hb327
                  clear hT hF
                  refine HList.gskips rfl rfl rfl rfl (congrArg Value.bool hb327) ?_
                  refine HList.gskips rfl rfl rfl rfl (congrArg Value.bool hb327) ?_
                  refine HList.gskips rfl rfl rfl rfl (congrArg Value.bool hb327) ?_
                  refine HList.vals (v := (.bool false)) rfl (HVal.pickF rfl hb327 rfl) ?_
                  refine HList.vals (v := (.bool false)) rfl (HVal.move' rfl) ?_
                  refine HList.gskips rfl rfl rfl rfl rfl ?_
                  refine HList.gskips rfl rfl rfl rfl rfl ?_
                  refine HList.gskips rfl rfl rfl rfl rfl ?_
                  refine HList.vals (v := (.bool false)) rfl (HVal.pickF rfl rfl rfl) ?_
                  refine HList.vals (v := (.bool false)) rfl (HVal.assign' rfl) ?_
                  refine HList.nil ?_
                  refine nt ?_
                  refine HW.ret ?_
                  refine br ?_
                  refine tr ?_
                  exact ⟨_, resOf1 rfl Res1.t, ⟨false, rfl, h⟩⟩
              · have h := hF hb293
                clear hT hF
                refine HW.skip ?_
                refine nb ?_
                refine nt ?_
                refine HW.seq ?_
                refine HW.region ?_
                refine HList.vals (v := (.bool true)) rfl (HVal.assign' rfl) ?_
                refine HList.nil ?_
                refine nt ?_
                refine HW.ret ?_
                exact ⟨_, resOf1 rfl Res1.t, ⟨true, rfl, h⟩⟩

end Go.Hw
