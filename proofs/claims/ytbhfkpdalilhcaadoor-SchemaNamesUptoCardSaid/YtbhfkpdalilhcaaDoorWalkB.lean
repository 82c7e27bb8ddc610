/- The walks of this seat, printed by a program of this session (wip/tools/gen.py): of each function what it does to the heap, and that it does so. -/
import Derived.Test.YtbhfkpdalilhcaaDoorHwT
import Derived.Test.YtbhfkpdalilhcaaDoorProg
import Derived.Test.YtbhfkpdalilhcaaDoorWAux
import Derived.Test.YtbhfkpdalilhcaaDoorWalkA
set_option linter.unusedVariables false
set_option linter.unusedSimpArgs false
namespace Go.Hw
open Go Go.Proofs
def F39_2 (Q : ByteArray → Sl → Hp → Prop) (y44 : (Option Addr)) (y45 : Addr) (y46 : Addr) (y47 : Int) (y48 : Sl) (H_2 : Hp) : Prop :=
∃ a63 : Addr, y44 = some a63 ∧ (
 (cell H_2 a63).isSome = true ∧ frz H_2 a63 = false ∧ ∀ H65 : Hp, H65 = setc H_2 a63 (Sl.v y48) → (
 (0 : Int) ≤ y47 ∧ 0 ≤ y47.toNat ∧ y47.toNat ≤ (y48).c ∧ (y48).c ≤ (y48).c ∧ (
 (cell H65 (Addr.add y45 1)).isSome = true ∧ frz H65 (Addr.add y45 1) = false ∧ ∀ H73 : Hp, H73 = setc H65 (Addr.add y45 1) (Sl.v (Sl.cut y48 2 0 y47.toNat ((y48).c))) → (
 ∃ (x78 : ByteArray) (x79 : Sl), cells H73 y45 [(.string x78), (Sl.v x79)] 0 ∧ (
 mayw H73 y46 2 0 ∧ ∀ H80 : Hp, H80 = sets H73 y46 [(.string x78), (Sl.v x79)] 0 → (
 ∃ (x83 : ByteArray) (x84 : Sl), cells H80 y46 [(.string x83), (Sl.v x84)] 0 ∧ (
 Q x83 x84 H80)))))))
def F39_L3b (Q : ByteArray → Sl → Hp → Prop) (X3 : Int → Hp → Prop) (y50 : (Option Addr)) (y51 : Addr) (y52 : Addr) (y53 : Int) (y54 : Sl) (y49 : Int) (H_3 : Hp) : Prop :=
((decide (y49 < ((y54).n : Int))) = true → (∃ a56 : Addr, (y54).b = some a56 ∧ (0 : Int) ≤ y49 ∧ y49 < ((y54).n : Int) ∧ (
 mayw H_3 (Addr.add a56 (y49.toNat * 2)) 2 0 ∧ ∀ H60 : Hp, H60 = sets H_3 (Addr.add a56 (y49.toNat * 2)) [(.string (ByteArray.mk #[])), (.int .i64 (IntKind.i64.wrap (77 + y49)))] 0 → (
 X3 (IntKind.i64.wrap (y49 + 1)) H60)))) ∧
 ((decide (y49 < ((y54).n : Int))) = false → (F39_2 Q y50 y51 y52 y53 y54 H_3))
def F39_L3 (Q : ByteArray → Sl → Hp → Prop) (y50 : (Option Addr)) (y51 : Addr) (y52 : Addr) (y53 : Int) (y54 : Sl) (y49 : Int) (H_3 : Hp) : Prop :=
  ∀ X3 : Int → Hp → Prop, (∀ (y49 : Int) (H_3 : Hp), F39_L3b Q X3 y50 y51 y52 y53 y54 y49 H_3 → X3 y49 H_3) → X3 y49 H_3
def F39_1 (Q : ByteArray → Sl → Hp → Prop) (y7 : (Option Addr)) (y8 : Addr) (y9 : Addr) (y10 : Int) (H_1 : Hp) : Prop :=
∃ a22 : Addr, y7 = some a22 ∧ (
 ∃ x25 : Sl, cell H_1 a22 = some (Sl.v x25) ∧ (
 0 ≤ (0 : Int).toNat ∧ (0 : Int).toNat ≤ (x25).c ∧ (x25).c ≤ (x25).c ∧ (
 ∃ x30 : Sl, cell H_1 (Addr.add y8 1) = some (Sl.v x30) ∧ (
 AppendF H_1 38 2 24 #[(.string (ByteArray.mk #[])), (.int .i64 0)] (Sl.cut x25 2 0 ((0 : Int).toNat) ((x25).c)) (x30).b (x30).n (fun (r33 : Sl) (H31 : Hp) => 
 cell H31 a22 = some (Sl.v x25) ∧ (
 ∀ H35 : Hp, H35 = Array.push H31 (.cells #[(.string (ByteArray.mk #[])), (.int .i64 0), (.string (ByteArray.mk #[])), (.int .i64 0)] 38) → (
 AppendF H35 38 2 24 #[(.string (ByteArray.mk #[])), (.int .i64 0)] r33 ((Sl.mk (some ⟨H31.size, 0, none⟩) 2 2)).b ((Sl.mk (some ⟨H31.size, 0, none⟩) 2 2)).n (fun (r39 : Sl) (H37 : Hp) => 
 (0 : Int) ≤ ((r39).c : Int) ∧ 0 ≤ ((r39).c : Int).toNat ∧ ((r39).c : Int).toNat ≤ (r39).c ∧ (r39).c ≤ (r39).c ∧ (
 F39_L3 Q y7 y8 y9 y10 (Sl.cut r39 2 0 (((r39).c : Int).toNat) ((r39).c)) y10 H37)))))))))
def F39 (p0 : (Option Addr)) (p1_0 : ByteArray) (p1_1 : Sl) (H : Hp) (Q : ByteArray → Sl → Hp → Prop) : Prop :=
∀ H1 : Hp, H1 = Array.push H (.cells #[(.string p1_0), (Sl.v p1_1)] 27) → (
 ∀ H3 : Hp, H3 = Array.push H1 (.cells #[(.string (ByteArray.mk #[])), (Sl.v Sl.nil)] 27) → (
 ∃ x6 : Sl, cell H3 (Addr.add ⟨H.size, 0, none⟩ 1) = some (Sl.v x6) ∧ (
 ∃ a11 : Addr, p0 = some a11 ∧ (
 ∃ x14 : Sl, cell H3 a11 = some (Sl.v x14) ∧ (
 ((decide ((IntKind.i64.wrap (((x6).n : Int) + 70000)) < ((x14).c : Int))) = true → (∃ a16 : Addr, p0 = some a16 ∧ (
 (cell H3 a16).isSome = true ∧ frz H3 a16 = false ∧ ∀ H18 : Hp, H18 = setc H3 a16 (Sl.v Sl.nil) → (
 F39_1 Q p0 ⟨H.size, 0, none⟩ ⟨H1.size, 0, none⟩ ((x6).n : Int) H18)))) ∧
 ((decide ((IntKind.i64.wrap (((x6).n : Int) + 70000)) < ((x14).c : Int))) = false → (F39_1 Q p0 ⟨H.size, 0, none⟩ ⟨H1.size, 0, none⟩ ((x6).n : Int) H3)))))))
set_option maxRecDepth 100000 in
set_option maxHeartbeats 4000000 in
theorem walk39 {w0 : World} {p0 : (Option Addr)} {p1_0 : ByteArray} {p1_1 : Sl} {H : Hp} {Q : ByteArray → Sl → Hp → Prop} (h : F39 p0 p1_0 p1_1 H Q) :
    Good Tryd.prog w0 39 #[(.pointer p0), (.agg #[(.string p1_0), (Sl.v p1_1)])] H (fun v H => ∃ (r0 : ByteArray) (r1 : Sl) , v = (.agg #[(.string r0), (Sl.v r1)]) ∧ Q r0 r1 H) := by
  unfold F39 at h
  refine Good.enter' (fn := Tryd.f39) Tryd.func39 rfl rfl rfl ?_
  refine HW.seq ?_
  refine HW.region ?_
  refine HList.ops' rfl (HOp.box (v := (.agg #[(.string p1_0), (Sl.v p1_1)])) rfl) ?_
  rintro _ H1 ⟨rfl, e2⟩
  replace h := h H1 e2
  refine HList.ops' rfl (HOp.alloc Tryd.zeroValue27) ?_
  rintro _ H3 ⟨rfl, e4⟩
  replace h := h H3 e4
  refine HList.nil ?_
  refine nt ?_
  refine HW.seq ?_
  refine HW.region ?_
  refine HList.vals (v := (.pointer (some (Addr.add ⟨H.size, 0, none⟩ 1)))) rfl (HVal.fieldAddr' Tryd.runUnderlying27 rfl rfl Tryd.sizeOf25 rfl) ?_
  obtain ⟨x6, c5, h⟩ := h
  refine HList.vals (v := (Sl.v x6)) rfl (HVal.load1 Tryd.isAgg25 rfl c5) ?_
  refine HList.vals (v := (.int .i64 ((x6).n : Int))) rfl (HVal.len Tryd.runUnderlying25 rfl) ?_
  refine HList.vals (v := (.int .i64 ((x6).n : Int))) rfl (HVal.assign' rfl) ?_
  refine HList.nil ?_
  refine nt ?_
  refine HW.cut (fun ρ H_1 => Env.Is ρ [(0, (.pointer p0)), (3, (.pointer (some ⟨H.size, 0, none⟩))), (4, (.pointer (some ⟨H1.size, 0, none⟩))), (5, (.int .i64 ((x6).n : Int)))] ∧ F39_1 Q p0 ⟨H.size, 0, none⟩ ⟨H1.size, 0, none⟩ ((x6).n : Int) H_1) ?_ ?_
  · refine HW.seq ?_
    refine HW.region ?_
    refine HList.vals (v := (.pointer p0)) rfl (HVal.move' rfl) ?_
    obtain ⟨a11, e12, h⟩ := h
    refine HList.vals (v := (.pointer (some a11))) rfl (HVal.nilCheck (congrArg Value.pointer e12)) ?_
    refine HList.vals (v := (.pointer (some a11))) rfl (HVal.fieldAddr0 Tryd.runUnderlying60 rfl rfl Tryd.sizeOf25 rfl) ?_
    obtain ⟨x14, c13, h⟩ := h
    refine HList.vals (v := (Sl.v x14)) rfl (HVal.load1 Tryd.isAgg25 rfl c13) ?_
    refine HList.vals (v := (.int .i64 ((x14).c : Int))) rfl (HVal.cap Tryd.runUnderlying25 rfl) ?_
    refine HList.vals (v := (.int .i64 ((x6).n : Int))) rfl (HVal.move' rfl) ?_
    refine HList.vals (v := (.int .i64 (IntKind.i64.wrap (((x6).n : Int) + 70000)))) rfl (HVal.add rfl rfl) ?_
    refine HList.vals (v := (.bool (decide ((IntKind.i64.wrap (((x6).n : Int) + 70000)) < ((x14).c : Int))))) rfl (HVal.gtr rfl rfl) ?_
    refine HList.nil ?_
    refine nt ?_
    obtain ⟨hT, hF⟩ := h
    refine HW.cond (decide ((IntKind.i64.wrap (((x6).n : Int) + 70000)) < ((x14).c : Int))) rfl (fun hb15 => ?_) (fun hb15 => ?_)
    · have h := hT hb15
      clear hT hF
      refine HW.region ?_
      refine HList.vals (v := (.pointer p0)) rfl (HVal.move' rfl) ?_
      obtain ⟨a16, e17, h⟩ := h
      refine HList.vals (v := (.pointer (some a16))) rfl (HVal.nilCheck (congrArg Value.pointer e17)) ?_
      refine HList.vals (v := (.pointer (some a16))) rfl (HVal.fieldAddr0 Tryd.runUnderlying60 rfl rfl Tryd.sizeOf25 rfl) ?_
      obtain ⟨z20, z21, h⟩ := h
      refine HList.opsn (HOp.store1 Tryd.sizeOf25 rfl rfl rfl z20 z21) ?_
      rintro _ H18 e19
      replace h := h H18 e19
      refine HList.nil ?_
      refine nt ?_
      exact ⟨⟨rfl, rfl, rfl, rfl, trivial⟩, h⟩
    · have h := hF hb15
      clear hT hF
      refine HW.skip ?_
      refine nt ?_
      exact ⟨⟨rfl, rfl, rfl, rfl, trivial⟩, h⟩
  · rintro ρ H_1 ⟨hI, h⟩
    obtain ⟨ρ0, rfl⟩ : ∃ ρ0, ρ = (Env.set (Env.set (Env.set (Env.set ρ0 5 (.int .i64 ((x6).n : Int))) 4 (.pointer (some ⟨H1.size, 0, none⟩))) 3 (.pointer (some ⟨H.size, 0, none⟩))) 0 (.pointer p0)) := ⟨ρ, hI.eq⟩
    clear hI; unfold F39_1 at h
    refine HW.seq ?_
    refine HW.draw mixed [(0, some []), (1, some []), (2, some []), (3, some []), (4, some []), (5, some []), (6, some [7]), (7, none), (8, some [])] rfl (by kernel_rfl) (by kernel_rfl) ?_
    refine HPlan.takev (v := (.pointer p0)) rfl rfl (fun _ => HVal.move' rfl) ?_
    obtain ⟨a22, e23, h⟩ := h
    refine HPlan.takev (v := (.pointer (some a22))) rfl rfl (fun _ => HVal.nilCheck (congrArg Value.pointer e23)) ?_
    refine HPlan.takev (v := (.pointer (some a22))) rfl rfl (fun _ => HVal.fieldAddr0 Tryd.runUnderlying60 rfl rfl Tryd.sizeOf25 rfl) ?_
    obtain ⟨x25, c24, h⟩ := h
    refine HPlan.takel (v := (Sl.v x25)) (fun X => cell X a22 = some (Sl.v x25)) rfl rfl (fun _ hX => HVal.load1 Tryd.isAgg25 rfl hX) c24 ?_
    obtain ⟨z26, z27, z28, h⟩ := h
    refine HPlan.takev (v := (Sl.v (Sl.cut x25 2 0 ((0 : Int).toNat) ((x25).c)))) rfl rfl (fun _ => HVal.slice _ _ _ Tryd.runUnderlying25 Tryd.sizeOf38 rfl rfl ⟨_, _, rfl, by decide, rfl⟩ rfl (by decide) z26 z27 z28) ?_
    refine HPlan.takev (v := (.pointer (some (Addr.add ⟨H.size, 0, none⟩ 1)))) rfl rfl (fun _ => HVal.fieldAddr' Tryd.runUnderlying27 rfl rfl Tryd.sizeOf25 rfl) ?_
    obtain ⟨x30, c29, h⟩ := h
    refine HPlan.takel (v := (Sl.v x30)) (fun X => cell X (Addr.add ⟨H.size, 0, none⟩ 1) = some (Sl.v x30)) rfl rfl (fun _ hX => HVal.load1 Tryd.isAgg25 rfl hX) c29 ?_
    refine HPlan.ops' rfl rfl (HOp.append (k := 2) (b := 24) Tryd.runUnderlying25 Tryd.runUnderlying25 Tryd.typeInfo38 rfl rfl Tryd.zeroValue38 rfl rfl h) ?_
    rintro _ H31 ⟨r33, rfl, h⟩
    obtain ⟨s34, h⟩ := h
    refine ⟨SC_of ⟨fun e => absurd e (by decide), fun _ => s34, trivial⟩, ?_⟩
    refine HPlan.takev (v := (Sl.v r33)) rfl rfl (fun _ => HVal.assign' rfl) ?_
    refine HPlan.done ?_
    refine nt ?_
    refine HW.seq ?_
    refine HW.region ?_
    refine HList.vals (v := (Sl.v r33)) rfl (HVal.move' rfl) ?_
    refine HList.vals (v := (.agg #[(.string (ByteArray.mk #[])), (.int .i64 0)])) rfl (HVal.build' (cs := [(.string (ByteArray.mk #[])), (.int .i64 0)]) Tryd.runUnderlying38 Tryd.zeroValue38 places38 rfl) ?_
    refine HList.vals (v := (.agg #[(.string (ByteArray.mk #[])), (.int .i64 0)])) rfl (HVal.build' (cs := [(.string (ByteArray.mk #[])), (.int .i64 0)]) Tryd.runUnderlying38 Tryd.zeroValue38 places38 rfl) ?_
    refine HList.ops' rfl (HOp.buildSlice' (zs := [(.string (ByteArray.mk #[])), (.int .i64 0), (.string (ByteArray.mk #[])), (.int .i64 0)]) (cs := [(.string (ByteArray.mk #[])), (.int .i64 0), (.string (ByteArray.mk #[])), (.int .i64 0)]) Tryd.runUnderlying25 Tryd.sizeOf38 Tryd.zeroValue38 (by decide) (by kernel_rfl) rfl (by decide)) ?_
    rintro _ H35 ⟨rfl, e36⟩
    replace h := h H35 e36
    refine HList.ops' rfl (HOp.append (k := 2) (b := 24) Tryd.runUnderlying25 Tryd.runUnderlying25 Tryd.typeInfo38 rfl rfl Tryd.zeroValue38 rfl rfl h) ?_
    rintro _ H37 ⟨r39, rfl, h⟩
    refine HList.vals (v := (Sl.v r39)) rfl (HVal.assign' rfl) ?_
    refine HList.nil ?_
    refine nt ?_
    refine HW.seq ?_
    refine HW.region ?_
    refine HList.vals (v := (Sl.v r39)) rfl (HVal.move' rfl) ?_
    refine HList.vals (v := (Sl.v r39)) rfl (HVal.move' rfl) ?_
    refine HList.vals (v := (.int .i64 ((r39).c : Int))) rfl (HVal.cap Tryd.runUnderlying25 rfl) ?_
    obtain ⟨z40, z41, z42, z43, h⟩ := h
    refine HList.vals (v := (Sl.v (Sl.cut r39 2 0 (((r39).c : Int).toNat) ((r39).c)))) rfl (HVal.slice _ _ _ Tryd.runUnderlying25 Tryd.sizeOf38 rfl rfl ⟨_, _, rfl, z40, rfl⟩ rfl (by decide) z41 z42 z43) ?_
    refine HList.vals (v := (Sl.v (Sl.cut r39 2 0 (((r39).c : Int).toNat) ((r39).c)))) rfl (HVal.assign' rfl) ?_
    refine HList.nil ?_
    refine nt ?_
    refine HW.cut (fun ρ H_2 => Env.Is ρ [(0, (.pointer p0)), (3, (.pointer (some ⟨H.size, 0, none⟩))), (4, (.pointer (some ⟨H1.size, 0, none⟩))), (5, (.int .i64 ((x6).n : Int))), (6, (Sl.v (Sl.cut r39 2 0 (((r39).c : Int).toNat) ((r39).c))))] ∧ F39_2 Q p0 ⟨H.size, 0, none⟩ ⟨H1.size, 0, none⟩ ((x6).n : Int) (Sl.cut r39 2 0 (((r39).c : Int).toNat) ((r39).c)) H_2) ?_ ?_
    · refine HW.seq ?_
      refine HW.region ?_
      refine HList.vals (v := (.int .i64 ((x6).n : Int))) rfl (HVal.move' rfl) ?_
      refine HList.vals (v := (.int .i64 ((x6).n : Int))) rfl (HVal.assign' rfl) ?_
      refine HList.nil ?_
      refine nt ?_
      refine HW.block ?_
      refine HW.loop' (fun L3 hL3 => ?_)
      obtain ⟨X3, hX3⟩ : ∃ X3 : Int → Hp → Prop, ∀ (y49 : Int) (H_3 : Hp), X3 y49 H_3 ↔ ∀ ρ, Env.Is ρ [(0, (.pointer p0)), (3, (.pointer (some ⟨H.size, 0, none⟩))), (4, (.pointer (some ⟨H1.size, 0, none⟩))), (5, (.int .i64 ((x6).n : Int))), (6, (Sl.v (Sl.cut r39 2 0 (((r39).c : Int).toNat) ((r39).c)))), (7, (.int .i64 y49))] → L3 ρ H_3 := ⟨_, fun _ _ => Iff.rfl⟩
      refine (hX3 _ _).1 (h X3 ?_) _ ?_
      rotate_left
      · exact ⟨rfl, rfl, rfl, rfl, rfl, rfl, trivial⟩
      clear h
      intro y49 H_3 h
      refine (hX3 _ _).2 fun ρ hI => ?_
      obtain ⟨ρ0, rfl⟩ : ∃ ρ0, ρ = (Env.set (Env.set (Env.set (Env.set (Env.set (Env.set ρ0 7 (.int .i64 y49)) 6 (Sl.v (Sl.cut r39 2 0 (((r39).c : Int).toNat) ((r39).c)))) 5 (.int .i64 ((x6).n : Int))) 4 (.pointer (some ⟨H1.size, 0, none⟩))) 3 (.pointer (some ⟨H.size, 0, none⟩))) 0 (.pointer p0)) := ⟨ρ, hI.eq⟩
      clear hI; unfold F39_L3b at h; refine hL3 _ _ ?_
      refine HW.seq ?_
      refine HW.seq ?_
      refine HW.region ?_
      refine HList.vals (v := (.int .i64 y49)) rfl (HVal.move' rfl) ?_
      refine HList.vals (v := (Sl.v (Sl.cut r39 2 0 (((r39).c : Int).toNat) ((r39).c)))) rfl (HVal.move' rfl) ?_
      refine HList.vals (v := (.int .i64 (((Sl.cut r39 2 0 (((r39).c : Int).toNat) ((r39).c))).n : Int))) rfl (HVal.len Tryd.runUnderlying25 rfl) ?_
      refine HList.vals (v := (.bool (decide (y49 < (((Sl.cut r39 2 0 (((r39).c : Int).toNat) ((r39).c))).n : Int))))) rfl (HVal.lss rfl rfl) ?_
      refine HList.nil ?_
      refine nt ?_
      obtain ⟨hT, hF⟩ := h
      refine HW.cond (decide (y49 < (((Sl.cut r39 2 0 (((r39).c : Int).toNat) ((r39).c))).n : Int))) rfl (fun hb55 => ?_) (fun hb55 => ?_)
      · have h := hT hb55
        clear hT hF
        refine HW.skip ?_
        refine nt ?_
        refine HW.seq ?_
        refine HW.block ?_
        refine HW.region ?_
        refine HList.vals (v := (Sl.v (Sl.cut r39 2 0 (((r39).c : Int).toNat) ((r39).c)))) rfl (HVal.move' rfl) ?_
        refine HList.vals (v := (.int .i64 y49)) rfl (HVal.move' rfl) ?_
        refine HList.vals (v := (.int .i64 y49)) rfl (HVal.move' rfl) ?_
        refine HList.vals (v := (.int .i64 (IntKind.i64.wrap (77 + y49)))) rfl (HVal.add rfl rfl) ?_
        refine HList.vals (v := (.agg #[(.string (ByteArray.mk #[])), (.int .i64 (IntKind.i64.wrap (77 + y49)))])) rfl (HVal.build' (cs := [(.string (ByteArray.mk #[])), (.int .i64 (IntKind.i64.wrap (77 + y49)))]) Tryd.runUnderlying38 Tryd.zeroValue38 places38 rfl) ?_
        obtain ⟨a56, e57, b58, b59, h⟩ := h
        refine HList.vals (v := (.pointer (some (Addr.add a56 (y49.toNat * 2))))) rfl (HVal.indexAddr Tryd.runUnderlying25 Tryd.sizeOf38 (Sl.v_some rfl e57) rfl b58 b59) ?_
        obtain ⟨z62, h⟩ := h
        refine HList.opsn (HOp.storeN' (l := [(.string (ByteArray.mk #[])), (.int .i64 (IntKind.i64.wrap (77 + y49)))]) Tryd.sizeOf38 rfl rfl rfl z62) ?_
        rintro _ H60 e61
        replace h := h H60 e61
        refine HList.nil ?_
        refine nb ?_
        refine nt ?_
        refine HW.region ?_
        refine HList.vals (v := (.int .i64 y49)) rfl (HVal.move' rfl) ?_
        refine HList.vals (v := (.int .i64 (IntKind.i64.wrap (y49 + 1)))) rfl (HVal.add rfl rfl) ?_
        refine HList.vals (v := (.int .i64 (IntKind.i64.wrap (y49 + 1)))) rfl (HVal.assign' rfl) ?_
        refine HList.nil ?_
        refine nt ?_
        exact (hX3 _ _).1 h _ ⟨rfl, rfl, rfl, rfl, rfl, rfl, trivial⟩
      · have h := hF hb55
        clear hT hF
        refine HW.exit ?_
        refine te ?_
        refine te ?_
        refine be ?_
        refine nt ?_
        exact ⟨⟨rfl, rfl, rfl, rfl, rfl, trivial⟩, h⟩
    · rintro ρ H_2 ⟨hI, h⟩
      obtain ⟨ρ0, rfl⟩ : ∃ ρ0, ρ = (Env.set (Env.set (Env.set (Env.set (Env.set ρ0 6 (Sl.v (Sl.cut r39 2 0 (((r39).c : Int).toNat) ((r39).c)))) 5 (.int .i64 ((x6).n : Int))) 4 (.pointer (some ⟨H1.size, 0, none⟩))) 3 (.pointer (some ⟨H.size, 0, none⟩))) 0 (.pointer p0)) := ⟨ρ, hI.eq⟩
      clear hI; unfold F39_2 at h
      refine HW.seq ?_
      refine HW.region ?_
      refine HList.vals (v := (.pointer p0)) rfl (HVal.move' rfl) ?_
      refine HList.vals (v := (Sl.v (Sl.cut r39 2 0 (((r39).c : Int).toNat) ((r39).c)))) rfl (HVal.move' rfl) ?_
      obtain ⟨a63, e64, h⟩ := h
      refine HList.vals (v := (.pointer (some a63))) rfl (HVal.nilCheck (congrArg Value.pointer e64)) ?_
      refine HList.vals (v := (.pointer (some a63))) rfl (HVal.fieldAddr0 Tryd.runUnderlying60 rfl rfl Tryd.sizeOf25 rfl) ?_
      obtain ⟨z67, z68, h⟩ := h
      refine HList.opsn (HOp.store1 Tryd.sizeOf25 rfl rfl rfl z67 z68) ?_
      rintro _ H65 e66
      replace h := h H65 e66
      refine HList.nil ?_
      refine nt ?_
      refine HW.seq ?_
      refine HW.region ?_
      refine HList.vals (v := (Sl.v (Sl.cut r39 2 0 (((r39).c : Int).toNat) ((r39).c)))) rfl (HVal.move' rfl) ?_
      refine HList.vals (v := (.int .i64 ((x6).n : Int))) rfl (HVal.move' rfl) ?_
      obtain ⟨z69, z70, z71, z72, h⟩ := h
      refine HList.vals (v := (Sl.v (Sl.cut (Sl.cut r39 2 0 (((r39).c : Int).toNat) ((r39).c)) 2 0 ((x6).n : Int).toNat (((Sl.cut r39 2 0 (((r39).c : Int).toNat) ((r39).c))).c)))) rfl (HVal.slice _ _ _ Tryd.runUnderlying25 Tryd.sizeOf38 rfl rfl ⟨_, _, rfl, z69, rfl⟩ rfl (by decide) z70 z71 z72) ?_
      refine HList.vals (v := (.pointer (some (Addr.add ⟨H.size, 0, none⟩ 1)))) rfl (HVal.fieldAddr' Tryd.runUnderlying27 rfl rfl Tryd.sizeOf25 rfl) ?_
      obtain ⟨z75, z76, h⟩ := h
      refine HList.opsn (HOp.store1 Tryd.sizeOf25 rfl rfl rfl z75 z76) ?_
      rintro _ H73 e74
      replace h := h H73 e74
      refine HList.nil ?_
      refine nt ?_
      refine HW.seq ?_
      refine HW.region ?_
      obtain ⟨x78, x79, c77, h⟩ := h
      refine HList.vals (v := (.agg #[(.string x78), (Sl.v x79)])) rfl (HVal.loadN [(.string x78), (Sl.v x79)] Tryd.isAgg27 Tryd.sizeOf27 rfl c77) ?_
      obtain ⟨z82, h⟩ := h
      refine HList.opsn (HOp.storeN' (l := [(.string x78), (Sl.v x79)]) Tryd.sizeOf27 rfl rfl rfl z82) ?_
      rintro _ H80 e81
      replace h := h H80 e81
      refine HList.nil ?_
      refine nt ?_
      refine HW.ret ?_
      obtain ⟨x83, x84, c85, h⟩ := h
      exact ⟨_, resOf1 rfl (Res1.n [(.string x83), (Sl.v x84)] Tryd.isAgg27 Tryd.sizeOf27 rfl c85), ⟨x83, x84, rfl, h⟩⟩

def F72 (p0 : Int) (H : Hp) (Q : Bool → Hp → Prop) : Prop :=
((decide ((48 : Int) ≤ p0)) = true → (Q (decide (p0 ≤ 57)) H)) ∧
 ((decide ((48 : Int) ≤ p0)) = false → (Q false H))
set_option maxRecDepth 100000 in
set_option maxHeartbeats 4000000 in
theorem walk72 {w0 : World} {p0 : Int} {H : Hp} {Q : Bool → Hp → Prop} (h : F72 p0 H Q) :
    Good Tryd.prog w0 72 #[(.int .u8 p0)] H (fun v H => ∃ (r0 : Bool) , v = (.bool r0) ∧ Q r0 H) := by
  unfold F72 at h
  refine Good.enter' (fn := Tryd.f72) Tryd.func72 rfl rfl rfl ?_
  refine HW.seq ?_
  refine HW.region ?_
  refine HList.vals (v := (.bool false)) rfl (HVal.assign' rfl) ?_
  refine HList.nil ?_
  refine nt ?_
  refine HW.seq ?_
  refine HW.region ?_
  refine HList.vals (v := (.int .u8 p0)) rfl (HVal.move' rfl) ?_
  refine HList.vals (v := (.bool (decide ((48 : Int) ≤ p0)))) rfl (HVal.geq rfl rfl) ?_
  refine HList.vals (v := (.bool (decide ((48 : Int) ≤ p0)))) rfl (HVal.move' rfl) ?_
  obtain ⟨hT, hF⟩ := h
  rcases Bool.eq_false_or_eq_true (decide ((48 : Int) ≤ p0)) with hb1 | hb2
  · have h := hT hb1
    clear hT hF
    refine HList.gvals (v := (.int .u8 p0)) rfl rfl rfl rfl (congrArg Value.bool hb1) (HVal.move' rfl) ?_
    refine HList.gvals (v := (.bool (decide (p0 ≤ 57)))) rfl rfl rfl rfl (congrArg Value.bool hb1) (HVal.leq rfl rfl) ?_
    refine HList.vals (v := (.bool (decide (p0 ≤ 57)))) rfl (HVal.pickT rfl hb1 rfl) ?_
    refine HList.vals (v := (.bool (decide (p0 ≤ 57)))) rfl (HVal.assign' rfl) ?_
    refine HList.nil ?_
    refine nt ?_
    refine HW.ret ?_
    exact ⟨_, resOf1 rfl Res1.t, ⟨(decide (p0 ≤ 57)), rfl, h⟩⟩
  · have h := hF hb2
    clear hT hF
    refine HList.gskips rfl rfl rfl rfl (congrArg Value.bool hb2) ?_
    refine HList.gskips rfl rfl rfl rfl (congrArg Value.bool hb2) ?_
    refine HList.vals (v := (.bool false)) rfl (HVal.pickF rfl hb2 rfl) ?_
    refine HList.vals (v := (.bool false)) rfl (HVal.assign' rfl) ?_
    refine HList.nil ?_
    refine nt ?_
    refine HW.ret ?_
    exact ⟨_, resOf1 rfl Res1.t, ⟨false, rfl, h⟩⟩

def F73_L1b (Q : Bool → Hp → Prop) (X1 : Int → Hp → Prop) (y4 : ByteArray) (y5 : Sl) (y3 : Int) (H_1 : Hp) : Prop :=
((decide (y3 < ((y5).n : Int))) = true → (∃ a7 : Addr, (y5).b = some a7 ∧ (0 : Int) ≤ y3 ∧ y3 < ((y5).n : Int) ∧ (
 ∃ x12 : ByteArray, cell H_1 (Addr.add a7 (y3.toNat * 1)) = some (.string x12) ∧ (
 ((seq x12 y4) = true → (Q true H_1)) ∧
 ((seq x12 y4) = false → (X1 (IntKind.i64.wrap (y3 + 1)) H_1)))))) ∧
 ((decide (y3 < ((y5).n : Int))) = false → (Q false H_1))
def F73_L1 (Q : Bool → Hp → Prop) (y4 : ByteArray) (y5 : Sl) (y3 : Int) (H_1 : Hp) : Prop :=
  ∀ X1 : Int → Hp → Prop, (∀ (y3 : Int) (H_1 : Hp), F73_L1b Q X1 y4 y5 y3 H_1 → X1 y3 H_1) → X1 y3 H_1
def F73 (p0 : ByteArray) (H : Hp) (Q : Bool → Hp → Prop) : Prop :=
∀ H1 : Hp, H1 = Array.push H (.cells #[(.string S_PATTERN), (.string S_SEQ), (.string S_PARTITION), (.string S_BY), (.string S_WHERE), (.string S_WITHIN), (.string S_RETURN), (.string S_AND), (.string S_OR), (.string S_NOT), (.string S_TRUE), (.string S_FALSE), (.string S_TYPE), (.string S_INT), (.string S_STR), (.string S_BOOL)] 9) → (
 F73_L1 Q p0 (Sl.mk (some ⟨H.size, 0, none⟩) 16 16) 0 H1)
set_option maxRecDepth 100000 in
set_option maxHeartbeats 4000000 in
theorem walk73 {w0 : World} {p0 : ByteArray} {H : Hp} {Q : Bool → Hp → Prop} (h : F73 p0 H Q) :
    Good Tryd.prog w0 73 #[(.string p0)] H (fun v H => ∃ (r0 : Bool) , v = (.bool r0) ∧ Q r0 H) := by
  unfold F73 at h
  refine Good.enter' (fn := Tryd.f73) Tryd.func73 rfl rfl rfl ?_
  refine HW.seq ?_
  refine HW.region ?_
  refine HList.vals (v := (.bool false)) rfl (HVal.assign' rfl) ?_
  refine HList.nil ?_
  refine nt ?_
  refine HW.seq ?_
  refine HW.region ?_
  refine HList.ops' rfl (HOp.buildSlice' (zs := [(.string (ByteArray.mk #[])), (.string (ByteArray.mk #[])), (.string (ByteArray.mk #[])), (.string (ByteArray.mk #[])), (.string (ByteArray.mk #[])), (.string (ByteArray.mk #[])), (.string (ByteArray.mk #[])), (.string (ByteArray.mk #[])), (.string (ByteArray.mk #[])), (.string (ByteArray.mk #[])), (.string (ByteArray.mk #[])), (.string (ByteArray.mk #[])), (.string (ByteArray.mk #[])), (.string (ByteArray.mk #[])), (.string (ByteArray.mk #[])), (.string (ByteArray.mk #[]))]) (cs := [(.string S_PATTERN), (.string S_SEQ), (.string S_PARTITION), (.string S_BY), (.string S_WHERE), (.string S_WITHIN), (.string S_RETURN), (.string S_AND), (.string S_OR), (.string S_NOT), (.string S_TRUE), (.string S_FALSE), (.string S_TYPE), (.string S_INT), (.string S_STR), (.string S_BOOL)]) Tryd.runUnderlying42 Tryd.sizeOf9 Tryd.zeroValue9 (by decide) (by kernel_rfl) (by kernel_rfl) (by decide)) ?_
  rintro _ H1 ⟨rfl, e2⟩
  replace h := h H1 e2
  refine HList.vals (v := (Sl.v (Sl.mk (some ⟨H.size, 0, none⟩) 16 16))) rfl (HVal.assign' rfl) ?_
  refine HList.nil ?_
  refine nt ?_
  refine HW.seq ?_
  refine HW.seq ?_
  refine HW.region ?_
  refine HList.vals (v := (.int .i64 0)) rfl (HVal.assign' rfl) ?_
  refine HList.nil ?_
  refine nt ?_
  refine HW.block ?_
  refine HW.loop' (fun L1 hL1 => ?_)
  obtain ⟨X1, hX1⟩ : ∃ X1 : Int → Hp → Prop, ∀ (y3 : Int) (H_1 : Hp), X1 y3 H_1 ↔ ∀ ρ, Env.Is ρ [(0, (.string p0)), (3, (Sl.v (Sl.mk (some ⟨H.size, 0, none⟩) 16 16))), (4, (.int .i64 y3))] → L1 ρ H_1 := ⟨_, fun _ _ => Iff.rfl⟩
  refine (hX1 _ _).1 (h X1 ?_) _ ?_
  rotate_left
  · exact ⟨rfl, rfl, rfl, trivial⟩
  clear h
  intro y3 H_1 h
  refine (hX1 _ _).2 fun ρ hI => ?_
  obtain ⟨ρ0, rfl⟩ : ∃ ρ0, ρ = (Env.set (Env.set (Env.set ρ0 4 (.int .i64 y3)) 3 (Sl.v (Sl.mk (some ⟨H.size, 0, none⟩) 16 16))) 0 (.string p0)) := ⟨ρ, hI.eq⟩
  clear hI; unfold F73_L1b at h; refine hL1 _ _ ?_
  refine HW.seq ?_
  refine HW.seq ?_
  refine HW.region ?_
  refine HList.vals (v := (.int .i64 y3)) rfl (HVal.move' rfl) ?_
  refine HList.vals (v := (Sl.v (Sl.mk (some ⟨H.size, 0, none⟩) 16 16))) rfl (HVal.move' rfl) ?_
  refine HList.vals (v := (.int .i64 (((Sl.mk (some ⟨H.size, 0, none⟩) 16 16)).n : Int))) rfl (HVal.len Tryd.runUnderlying42 rfl) ?_
  refine HList.vals (v := (.bool (decide (y3 < (((Sl.mk (some ⟨H.size, 0, none⟩) 16 16)).n : Int))))) rfl (HVal.lss rfl rfl) ?_
  refine HList.nil ?_
  refine nt ?_
  obtain ⟨hT, hF⟩ := h
  refine HW.cond (decide (y3 < (((Sl.mk (some ⟨H.size, 0, none⟩) 16 16)).n : Int))) rfl (fun hb6 => ?_) (fun hb6 => ?_)
  · have h := hT hb6
    clear hT hF
    refine HW.skip ?_
    refine nt ?_
    refine HW.seq ?_
    refine HW.block ?_
    refine HW.seq ?_
    refine HW.region ?_
    refine HList.vals (v := (Sl.v (Sl.mk (some ⟨H.size, 0, none⟩) 16 16))) rfl (HVal.move' rfl) ?_
    refine HList.vals (v := (.int .i64 y3)) rfl (HVal.move' rfl) ?_
    obtain ⟨a7, e8, b9, b10, h⟩ := h
    refine HList.vals (v := (.pointer (some (Addr.add a7 (y3.toNat * 1))))) rfl (HVal.indexAddr Tryd.runUnderlying42 Tryd.sizeOf9 (Sl.v_some rfl e8) rfl b9 b10) ?_
    obtain ⟨x12, c11, h⟩ := h
    refine HList.vals (v := (.string x12)) rfl (HVal.load1 Tryd.isAgg9 rfl c11) ?_
    refine HList.vals (v := (.string p0)) rfl (HVal.move' rfl) ?_
    refine HList.vals (v := (.bool (seq x12 p0))) rfl (HVal.eqlS rfl rfl) ?_
    refine HList.nil ?_
    refine nt ?_
    obtain ⟨hT, hF⟩ := h
    refine HW.cond (seq x12 p0) rfl (fun hb13 => ?_) (fun hb13 => ?_)
    · have h := hT hb13
      clear hT hF
      refine HW.seq ?_
      refine HW.region ?_
      refine HList.vals (v := (.bool true)) rfl (HVal.assign' rfl) ?_
      refine HList.nil ?_
      refine nt ?_
      refine HW.ret ?_
      refine br ?_
      refine tr ?_
      refine tr ?_
      refine br ?_
      refine tr ?_
      exact ⟨_, resOf1 rfl Res1.t, ⟨true, rfl, h⟩⟩
    · have h := hF hb13
      clear hT hF
      refine HW.skip ?_
      refine nb ?_
      refine nt ?_
      refine HW.region ?_
      refine HList.vals (v := (.int .i64 y3)) rfl (HVal.move' rfl) ?_
      refine HList.vals (v := (.int .i64 (IntKind.i64.wrap (y3 + 1)))) rfl (HVal.add rfl rfl) ?_
      refine HList.vals (v := (.int .i64 (IntKind.i64.wrap (y3 + 1)))) rfl (HVal.assign' rfl) ?_
      refine HList.nil ?_
      refine nt ?_
      exact (hX1 _ _).1 h _ ⟨rfl, rfl, rfl, trivial⟩
  · have h := hF hb6
    clear hT hF
    refine HW.exit ?_
    refine te ?_
    refine te ?_
    refine be ?_
    refine nt ?_
    refine HW.seq ?_
    refine HW.region ?_
    refine HList.vals (v := (.bool false)) rfl (HVal.assign' rfl) ?_
    refine HList.nil ?_
    refine nt ?_
    refine HW.ret ?_
    exact ⟨_, resOf1 rfl Res1.t, ⟨false, rfl, h⟩⟩

def F74 (p0 : Int) (H : Hp) (Q : Bool → Hp → Prop) : Prop :=
((decide ((97 : Int) ≤ p0)) = true → (((decide (p0 ≤ 122)) = true → (Q true H)) ∧
 ((decide (p0 ≤ 122)) = false → (((decide ((65 : Int) ≤ p0)) = true → (((decide (p0 ≤ 90)) = true → (Q true H)) ∧
 ((decide (p0 ≤ 90)) = false → (((decide (p0 = 95)) = true → (Q true H)) ∧
 ((decide (p0 = 95)) = false → (F72 p0 H (fun (r13 : Bool) (H11 : Hp) => 
 Q r13 H11))))))) ∧
 ((decide ((65 : Int) ≤ p0)) = false → (((decide (p0 = 95)) = true → (Q true H)) ∧
 ((decide (p0 = 95)) = false → (F72 p0 H (fun (r18 : Bool) (H16 : Hp) => 
 Q r18 H16))))))))) ∧
 ((decide ((97 : Int) ≤ p0)) = false → (((decide ((65 : Int) ≤ p0)) = true → (((decide (p0 ≤ 90)) = true → (Q true H)) ∧
 ((decide (p0 ≤ 90)) = false → (((decide (p0 = 95)) = true → (Q true H)) ∧
 ((decide (p0 = 95)) = false → (F72 p0 H (fun (r27 : Bool) (H25 : Hp) => 
 Q r27 H25))))))) ∧
 ((decide ((65 : Int) ≤ p0)) = false → (((decide (p0 = 95)) = true → (Q true H)) ∧
 ((decide (p0 = 95)) = false → (F72 p0 H (fun (r32 : Bool) (H30 : Hp) => 
 Q r32 H30)))))))
set_option maxRecDepth 100000 in
set_option maxHeartbeats 4000000 in
theorem walk74 {w0 : World} {p0 : Int} {H : Hp} {Q : Bool → Hp → Prop} (h : F74 p0 H Q) :
    Good Tryd.prog w0 74 #[(.int .u8 p0)] H (fun v H => ∃ (r0 : Bool) , v = (.bool r0) ∧ Q r0 H) := by
  unfold F74 at h
  refine Good.enter' (fn := Tryd.f74) Tryd.func74 rfl rfl rfl ?_
  refine HW.seq ?_
  refine HW.region ?_
  refine HList.vals (v := (.bool false)) rfl (HVal.assign' rfl) ?_
  refine HList.nil ?_
  refine nt ?_
  refine HW.seq ?_
  refine HW.region ?_
  refine HList.vals (v := (.int .u8 p0)) rfl (HVal.move' rfl) ?_
  refine HList.vals (v := (.bool (decide ((97 : Int) ≤ p0)))) rfl (HVal.geq rfl rfl) ?_
  refine HList.vals (v := (.bool (decide ((97 : Int) ≤ p0)))) rfl (HVal.move' rfl) ?_
  obtain ⟨hT, hF⟩ := h
  rcases Bool.eq_false_or_eq_true (decide ((97 : Int) ≤ p0)) with hb1 | hb2
  · have h := hT hb1
    clear hT hF
    refine HList.gvals (v := (.int .u8 p0)) rfl rfl rfl rfl (congrArg Value.bool hb1) (HVal.move' rfl) ?_
    refine HList.gvals (v := (.bool (decide (p0 ≤ 122)))) rfl rfl rfl rfl (congrArg Value.bool hb1) (HVal.leq rfl rfl) ?_
    refine HList.vals (v := (.bool (decide (p0 ≤ 122)))) rfl (HVal.pickT rfl hb1 rfl) ?_
    refine HList.vals (v := (.bool (decide (p0 ≤ 122)))) rfl (HVal.move' rfl) ?_
    obtain ⟨hT, hF⟩ := h
    rcases Bool.eq_false_or_eq_true (decide (p0 ≤ 122)) with hb3 | hb4
    · have h := hT hb3
      clear hT hF
      refine HList.gskips rfl rfl rfl rfl (congrArg Value.bool hb3) ?_
      refine HList.gskips rfl rfl rfl rfl (congrArg Value.bool hb3) ?_
      refine HList.gskips rfl rfl rfl rfl (congrArg Value.bool hb3) ?_
      refine HList.uskips rfl rfl rfl rfl rfl ?_
      refine HList.uskips rfl rfl rfl rfl rfl ?_
      refine HList.gskips rfl rfl rfl rfl (congrArg Value.bool hb3) ?_
      refine HList.vals (v := (.bool true)) rfl (HVal.pickT rfl hb3 rfl) ?_
      refine HList.vals (v := (.bool true)) rfl (HVal.move' rfl) ?_
      refine HList.gskips rfl rfl rfl rfl rfl ?_
      refine HList.gskips rfl rfl rfl rfl rfl ?_
      refine HList.vals (v := (.bool true)) rfl (HVal.pickT rfl rfl rfl) ?_
      refine HList.vals (v := (.bool true)) rfl (HVal.move' rfl) ?_
      refine HList.gskips rfl rfl rfl rfl rfl ?_
      refine HList.gskips rfl rfl rfl rfl rfl ?_
      refine HList.vals (v := (.bool true)) rfl (HVal.pickT rfl rfl rfl) ?_
      refine HList.vals (v := (.bool true)) rfl (HVal.assign' rfl) ?_
      refine HList.nil ?_
      refine nt ?_
      refine HW.ret ?_
      exact ⟨_, resOf1 rfl Res1.t, ⟨true, rfl, h⟩⟩
    · have h := hF hb4
      clear hT hF
      refine HList.gvals (v := (.int .u8 p0)) rfl rfl rfl rfl (congrArg Value.bool hb4) (HVal.move' rfl) ?_
      refine HList.gvals (v := (.bool (decide ((65 : Int) ≤ p0)))) rfl rfl rfl rfl (congrArg Value.bool hb4) (HVal.geq rfl rfl) ?_
      refine HList.gvals (v := (.bool (decide ((65 : Int) ≤ p0)))) rfl rfl rfl rfl (congrArg Value.bool hb4) (HVal.move' rfl) ?_
      obtain ⟨hT, hF⟩ := h
      rcases Bool.eq_false_or_eq_true (decide ((65 : Int) ≤ p0)) with hb5 | hb6
      · have h := hT hb5
        clear hT hF
        refine HList.gvals (v := (.int .u8 p0)) rfl rfl rfl rfl (congrArg Value.bool hb5) (HVal.move' rfl) ?_
        refine HList.gvals (v := (.bool (decide (p0 ≤ 90)))) rfl rfl rfl rfl (congrArg Value.bool hb5) (HVal.leq rfl rfl) ?_
        refine HList.gvals (v := (.bool (decide (p0 ≤ 90)))) rfl rfl rfl rfl (congrArg Value.bool hb4) (HVal.pickT rfl hb5 rfl) ?_
        refine HList.vals (v := (.bool (decide (p0 ≤ 90)))) rfl (HVal.pickF rfl hb4 rfl) ?_
        refine HList.vals (v := (.bool (decide (p0 ≤ 90)))) rfl (HVal.move' rfl) ?_
        obtain ⟨hT, hF⟩ := h
        rcases Bool.eq_false_or_eq_true (decide (p0 ≤ 90)) with hb7 | hb8
        · have h := hT hb7
          clear hT hF
          refine HList.gskips rfl rfl rfl rfl (congrArg Value.bool hb7) ?_
          refine HList.gskips rfl rfl rfl rfl (congrArg Value.bool hb7) ?_
          refine HList.vals (v := (.bool true)) rfl (HVal.pickT rfl hb7 rfl) ?_
          refine HList.vals (v := (.bool true)) rfl (HVal.move' rfl) ?_
          refine HList.gskips rfl rfl rfl rfl rfl ?_
          refine HList.gskips rfl rfl rfl rfl rfl ?_
          refine HList.vals (v := (.bool true)) rfl (HVal.pickT rfl rfl rfl) ?_
          refine HList.vals (v := (.bool true)) rfl (HVal.assign' rfl) ?_
          refine HList.nil ?_
          refine nt ?_
          refine HW.ret ?_
          exact ⟨_, resOf1 rfl Res1.t, ⟨true, rfl, h⟩⟩
        · have h := hF hb8
          clear hT hF
          refine HList.gvals (v := (.int .u8 p0)) rfl rfl rfl rfl (congrArg Value.bool hb8) (HVal.move' rfl) ?_
          refine HList.gvals (v := (.bool (decide (p0 = 95)))) rfl rfl rfl rfl (congrArg Value.bool hb8) (HVal.eqlI rfl rfl) ?_
          refine HList.vals (v := (.bool (decide (p0 = 95)))) rfl (HVal.pickF rfl hb8 rfl) ?_
          refine HList.vals (v := (.bool (decide (p0 = 95)))) rfl (HVal.move' rfl) ?_
          obtain ⟨hT, hF⟩ := h
          rcases Bool.eq_false_or_eq_true (decide (p0 = 95)) with hb9 | hb10
          · have h := hT hb9
            clear hT hF
            refine HList.gskips rfl rfl rfl rfl (congrArg Value.bool hb9) ?_
            refine HList.gskips rfl rfl rfl rfl (congrArg Value.bool hb9) ?_
            refine HList.vals (v := (.bool true)) rfl (HVal.pickT rfl hb9 rfl) ?_
            refine HList.vals (v := (.bool true)) rfl (HVal.assign' rfl) ?_
            refine HList.nil ?_
            refine nt ?_
            refine HW.ret ?_
            exact ⟨_, resOf1 rfl Res1.t, ⟨true, rfl, h⟩⟩
          · have h := hF hb10
            clear hT hF
            refine HList.gvals (v := (.int .u8 p0)) rfl rfl rfl rfl (congrArg Value.bool hb10) (HVal.move' rfl) ?_
            refine HList.gops rfl rfl rfl rfl (congrArg Value.bool hb10) (HOp.call' 72 [(.int .u8 p0)] (cap := []) rfl rfl Tryd.call72 (walk72 h)) ?_
            rintro _ H11 ⟨r13, rfl, h⟩
            refine HList.vals (v := (.bool r13)) rfl (HVal.pickF rfl hb10 rfl) ?_
            refine HList.vals (v := (.bool r13)) rfl (HVal.assign' rfl) ?_
            refine HList.nil ?_
            refine nt ?_
            refine HW.ret ?_
            exact ⟨_, resOf1 rfl Res1.t, ⟨r13, rfl, h⟩⟩
      · have h := hF hb6
        clear hT hF
        refine HList.gskips rfl rfl rfl rfl (congrArg Value.bool hb6) ?_
        refine HList.gskips rfl rfl rfl rfl (congrArg Value.bool hb6) ?_
        refine HList.gvals (v := (.bool false)) rfl rfl rfl rfl (congrArg Value.bool hb4) (HVal.pickF rfl hb6 rfl) ?_
        refine HList.vals (v := (.bool false)) rfl (HVal.pickF rfl hb4 rfl) ?_
        refine HList.vals (v := (.bool false)) rfl (HVal.move' rfl) ?_
        refine HList.gvals (v := (.int .u8 p0)) rfl rfl rfl rfl rfl (HVal.move' rfl) ?_
        refine HList.gvals (v := (.bool (decide (p0 = 95)))) rfl rfl rfl rfl rfl (HVal.eqlI rfl rfl) ?_
        refine HList.vals (v := (.bool (decide (p0 = 95)))) rfl (HVal.pickF rfl rfl rfl) ?_
        refine HList.vals (v := (.bool (decide (p0 = 95)))) rfl (HVal.move' rfl) ?_
        obtain ⟨hT, hF⟩ := h
        rcases Bool.eq_false_or_eq_true (decide (p0 = 95)) with hb14 | hb15
        · have h := hT hb14
          clear hT hF
          refine HList.gskips rfl rfl rfl rfl (congrArg Value.bool hb14) ?_
          refine HList.gskips rfl rfl rfl rfl (congrArg Value.bool hb14) ?_
          refine HList.vals (v := (.bool true)) rfl (HVal.pickT rfl hb14 rfl) ?_
          refine HList.vals (v := (.bool true)) rfl (HVal.assign' rfl) ?_
          refine HList.nil ?_
          refine nt ?_
          refine HW.ret ?_
          exact ⟨_, resOf1 rfl Res1.t, ⟨true, rfl, h⟩⟩
        · have h := hF hb15
          clear hT hF
          refine HList.gvals (v := (.int .u8 p0)) rfl rfl rfl rfl (congrArg Value.bool hb15) (HVal.move' rfl) ?_
          refine HList.gops rfl rfl rfl rfl (congrArg Value.bool hb15) (HOp.call' 72 [(.int .u8 p0)] (cap := []) rfl rfl Tryd.call72 (walk72 h)) ?_
          rintro _ H16 ⟨r18, rfl, h⟩
          refine HList.vals (v := (.bool r18)) rfl (HVal.pickF rfl hb15 rfl) ?_
          refine HList.vals (v := (.bool r18)) rfl (HVal.assign' rfl) ?_
          refine HList.nil ?_
          refine nt ?_
          refine HW.ret ?_
          exact ⟨_, resOf1 rfl Res1.t, ⟨r18, rfl, h⟩⟩
  · have h := hF hb2
    clear hT hF
    refine HList.gskips rfl rfl rfl rfl (congrArg Value.bool hb2) ?_
    refine HList.gskips rfl rfl rfl rfl (congrArg Value.bool hb2) ?_
    refine HList.vals (v := (.bool false)) rfl (HVal.pickF rfl hb2 rfl) ?_
    refine HList.vals (v := (.bool false)) rfl (HVal.move' rfl) ?_
    refine HList.gvals (v := (.int .u8 p0)) rfl rfl rfl rfl rfl (HVal.move' rfl) ?_
    refine HList.gvals (v := (.bool (decide ((65 : Int) ≤ p0)))) rfl rfl rfl rfl rfl (HVal.geq rfl rfl) ?_
    refine HList.gvals (v := (.bool (decide ((65 : Int) ≤ p0)))) rfl rfl rfl rfl rfl (HVal.move' rfl) ?_
    obtain ⟨hT, hF⟩ := h
    rcases Bool.eq_false_or_eq_true (decide ((65 : Int) ≤ p0)) with hb19 | hb20
    · have h := hT hb19
      clear hT hF
      refine HList.gvals (v := (.int .u8 p0)) rfl rfl rfl rfl (congrArg Value.bool hb19) (HVal.move' rfl) ?_
      refine HList.gvals (v := (.bool (decide (p0 ≤ 90)))) rfl rfl rfl rfl (congrArg Value.bool hb19) (HVal.leq rfl rfl) ?_
      refine HList.gvals (v := (.bool (decide (p0 ≤ 90)))) rfl rfl rfl rfl rfl (HVal.pickT rfl hb19 rfl) ?_
      refine HList.vals (v := (.bool (decide (p0 ≤ 90)))) rfl (HVal.pickF rfl rfl rfl) ?_
      refine HList.vals (v := (.bool (decide (p0 ≤ 90)))) rfl (HVal.move' rfl) ?_
      obtain ⟨hT, hF⟩ := h
      rcases Bool.eq_false_or_eq_true (decide (p0 ≤ 90)) with hb21 | hb22
      · have h := hT hb21
        clear hT hF
        refine HList.gskips rfl rfl rfl rfl (congrArg Value.bool hb21) ?_
        refine HList.gskips rfl rfl rfl rfl (congrArg Value.bool hb21) ?_
        refine HList.vals (v := (.bool true)) rfl (HVal.pickT rfl hb21 rfl) ?_
        refine HList.vals (v := (.bool true)) rfl (HVal.move' rfl) ?_
        refine HList.gskips rfl rfl rfl rfl rfl ?_
        refine HList.gskips rfl rfl rfl rfl rfl ?_
        refine HList.vals (v := (.bool true)) rfl (HVal.pickT rfl rfl rfl) ?_
        refine HList.vals (v := (.bool true)) rfl (HVal.assign' rfl) ?_
        refine HList.nil ?_
        refine nt ?_
        refine HW.ret ?_
        exact ⟨_, resOf1 rfl Res1.t, ⟨true, rfl, h⟩⟩
      · have h := hF hb22
        clear hT hF
        refine HList.gvals (v := (.int .u8 p0)) rfl rfl rfl rfl (congrArg Value.bool hb22) (HVal.move' rfl) ?_
        refine HList.gvals (v := (.bool (decide (p0 = 95)))) rfl rfl rfl rfl (congrArg Value.bool hb22) (HVal.eqlI rfl rfl) ?_
        refine HList.vals (v := (.bool (decide (p0 = 95)))) rfl (HVal.pickF rfl hb22 rfl) ?_
        refine HList.vals (v := (.bool (decide (p0 = 95)))) rfl (HVal.move' rfl) ?_
        obtain ⟨hT, hF⟩ := h
        rcases Bool.eq_false_or_eq_true (decide (p0 = 95)) with hb23 | hb24
        · have h := hT hb23
          clear hT hF
          refine HList.gskips rfl rfl rfl rfl (congrArg Value.bool hb23) ?_
          refine HList.gskips rfl rfl rfl rfl (congrArg Value.bool hb23) ?_
          refine HList.vals (v := (.bool true)) rfl (HVal.pickT rfl hb23 rfl) ?_
          refine HList.vals (v := (.bool true)) rfl (HVal.assign' rfl) ?_
          refine HList.nil ?_
          refine nt ?_
          refine HW.ret ?_
          exact ⟨_, resOf1 rfl Res1.t, ⟨true, rfl, h⟩⟩
        · have h := hF hb24
          clear hT hF
          refine HList.gvals (v := (.int .u8 p0)) rfl rfl rfl rfl (congrArg Value.bool hb24) (HVal.move' rfl) ?_
          refine HList.gops rfl rfl rfl rfl (congrArg Value.bool hb24) (HOp.call' 72 [(.int .u8 p0)] (cap := []) rfl rfl Tryd.call72 (walk72 h)) ?_
          rintro _ H25 ⟨r27, rfl, h⟩
          refine HList.vals (v := (.bool r27)) rfl (HVal.pickF rfl hb24 rfl) ?_
          refine HList.vals (v := (.bool r27)) rfl (HVal.assign' rfl) ?_
          refine HList.nil ?_
          refine nt ?_
          refine HW.ret ?_
          exact ⟨_, resOf1 rfl Res1.t, ⟨r27, rfl, h⟩⟩
    · have h := hF hb20
      clear hT hF
      refine HList.gskips rfl rfl rfl rfl (congrArg Value.bool hb20) ?_
      refine HList.gskips rfl rfl rfl rfl (congrArg Value.bool hb20) ?_
      refine HList.gvals (v := (.bool false)) rfl rfl rfl rfl rfl (HVal.pickF rfl hb20 rfl) ?_
      refine HList.vals (v := (.bool false)) rfl (HVal.pickF rfl rfl rfl) ?_
      refine HList.vals (v := (.bool false)) rfl (HVal.move' rfl) ?_
      refine HList.gvals (v := (.int .u8 p0)) rfl rfl rfl rfl rfl (HVal.move' rfl) ?_
      refine HList.gvals (v := (.bool (decide (p0 = 95)))) rfl rfl rfl rfl rfl (HVal.eqlI rfl rfl) ?_
      refine HList.vals (v := (.bool (decide (p0 = 95)))) rfl (HVal.pickF rfl rfl rfl) ?_
      refine HList.vals (v := (.bool (decide (p0 = 95)))) rfl (HVal.move' rfl) ?_
      obtain ⟨hT, hF⟩ := h
      rcases Bool.eq_false_or_eq_true (decide (p0 = 95)) with hb28 | hb29
      · have h := hT hb28
        clear hT hF
        refine HList.gskips rfl rfl rfl rfl (congrArg Value.bool hb28) ?_
        refine HList.gskips rfl rfl rfl rfl (congrArg Value.bool hb28) ?_
        refine HList.vals (v := (.bool true)) rfl (HVal.pickT rfl hb28 rfl) ?_
        refine HList.vals (v := (.bool true)) rfl (HVal.assign' rfl) ?_
        refine HList.nil ?_
        refine nt ?_
        refine HW.ret ?_
        exact ⟨_, resOf1 rfl Res1.t, ⟨true, rfl, h⟩⟩
      · have h := hF hb29
        clear hT hF
        refine HList.gvals (v := (.int .u8 p0)) rfl rfl rfl rfl (congrArg Value.bool hb29) (HVal.move' rfl) ?_
        refine HList.gops rfl rfl rfl rfl (congrArg Value.bool hb29) (HOp.call' 72 [(.int .u8 p0)] (cap := []) rfl rfl Tryd.call72 (walk72 h)) ?_
        rintro _ H30 ⟨r32, rfl, h⟩
        refine HList.vals (v := (.bool r32)) rfl (HVal.pickF rfl hb29 rfl) ?_
        refine HList.vals (v := (.bool r32)) rfl (HVal.assign' rfl) ?_
        refine HList.nil ?_
        refine nt ?_
        refine HW.ret ?_
        exact ⟨_, resOf1 rfl Res1.t, ⟨r32, rfl, h⟩⟩

def F49_L2b (Q : Bool → Hp → Prop) (X2 : Int → Hp → Prop) (y19 : ByteArray) (y18 : Int) (H_2 : Hp) : Prop :=
((decide (y18 < ((y19).size : Int))) = true → ((0 : Int) ≤ y18 ∧ y18.toNat < (y19).size ∧ (
 F74 (bt y19 y18.toNat) H_2 (fun (r25 : Bool) (H23 : Hp) => 
 ((!r25) = true → (Q false H23)) ∧
 ((!r25) = false → (X2 (IntKind.i64.wrap (y18 + 1)) H23)))))) ∧
 ((decide (y18 < ((y19).size : Int))) = false → (Q true H_2))
def F49_L2 (Q : Bool → Hp → Prop) (y19 : ByteArray) (y18 : Int) (H_2 : Hp) : Prop :=
  ∀ X2 : Int → Hp → Prop, (∀ (y18 : Int) (H_2 : Hp), F49_L2b Q X2 y19 y18 H_2 → X2 y18 H_2) → X2 y18 H_2
def F49_1 (Q : Bool → Hp → Prop) (y1 : ByteArray) (y4 : Bool) (H_1 : Hp) : Prop :=
(y4 = true → (Q false H_1)) ∧
 (y4 = false → (F49_L2 Q y1 0 H_1))
def F49 (p0 : ByteArray) (H : Hp) (Q : Bool → Hp → Prop) : Prop :=
((decide (((p0).size : Int) < 1)) = true → (F49_1 Q p0 true H)) ∧
 ((decide (((p0).size : Int) < 1)) = false → (((decide ((32 : Int) < ((p0).size : Int))) = true → (F49_1 Q p0 true H)) ∧
 ((decide ((32 : Int) < ((p0).size : Int))) = false → ((0 : Int) ≤ 0 ∧ (0 : Int).toNat < (p0).size ∧ (
 F72 (bt p0 (0 : Int).toNat) H (fun (r11 : Bool) (H9 : Hp) => 
 (r11 = true → (F49_1 Q p0 true H9)) ∧
 (r11 = false → (F73 p0 H9 (fun (r16 : Bool) (H14 : Hp) => 
 F49_1 Q p0 r16 H14)))))))))
set_option maxRecDepth 100000 in
set_option maxHeartbeats 4000000 in
theorem walk49 {w0 : World} {p0 : ByteArray} {H : Hp} {Q : Bool → Hp → Prop} (h : F49 p0 H Q) :
    Good Tryd.prog w0 49 #[(.string p0)] H (fun v H => ∃ (r0 : Bool) , v = (.bool r0) ∧ Q r0 H) := by
  unfold F49 at h
  refine Good.enter' (fn := Tryd.f49) Tryd.func49 rfl rfl rfl ?_
  refine HW.seq ?_
  refine HW.region ?_
  refine HList.vals (v := (.bool false)) rfl (HVal.assign' rfl) ?_
  refine HList.nil ?_
  refine nt ?_
  refine HW.seq ?_
  refine HW.cut (fun ρ H_1 => ∃ (y4 : Bool), Env.Is ρ [(0, (.string p0)), (20, (.bool y4))] ∧ F49_1 Q p0 y4 H_1) ?_ ?_
  · refine HW.region ?_
    refine HList.vals (v := (.string p0)) rfl (HVal.move' rfl) ?_
    refine HList.vals (v := (.int .i64 ((p0).size : Int))) rfl (HVal.lenS Tryd.runUnderlying9 rfl) ?_
    refine HList.vals (v := (.bool (decide (((p0).size : Int) < 1)))) rfl (HVal.lss rfl rfl) ?_
    refine HList.vals (v := (.bool (decide (((p0).size : Int) < 1)))) rfl (HVal.move' rfl) ?_
    obtain ⟨hT, hF⟩ := h
    rcases Bool.eq_false_or_eq_true (decide (((p0).size : Int) < 1)) with hb2 | hb3
    · have h := hT hb2
      clear hT hF
      refine HList.gskips rfl rfl rfl rfl (congrArg Value.bool hb2) ?_
      refine HList.gskips rfl rfl rfl rfl (congrArg Value.bool hb2) ?_
      refine HList.gskips rfl rfl rfl rfl (congrArg Value.bool hb2) ?_
      refine HList.vals (v := (.bool true)) rfl (HVal.pickT rfl hb2 rfl) ?_
      refine HList.vals (v := (.bool true)) rfl (HVal.move' rfl) ?_
      refine HList.gskips rfl rfl rfl rfl rfl ?_
      refine HList.gskips rfl rfl rfl rfl rfl ?_
      refine HList.gskips rfl rfl rfl rfl rfl ?_
      refine HList.vals (v := (.bool true)) rfl (HVal.pickT rfl rfl rfl) ?_
      refine HList.vals (v := (.bool true)) rfl (HVal.move' rfl) ?_
      refine HList.gskips rfl rfl rfl rfl rfl ?_
      refine HList.gskips rfl rfl rfl rfl rfl ?_
      refine HList.vals (v := (.bool true)) rfl (HVal.pickT rfl rfl rfl) ?_
      refine HList.nil ?_
      refine nt ?_
      exact ⟨true, ⟨rfl, rfl, trivial⟩, h⟩
    · have h := hF hb3
      clear hT hF
      refine HList.gvals (v := (.string p0)) rfl rfl rfl rfl (congrArg Value.bool hb3) (HVal.move' rfl) ?_
      refine HList.gvals (v := (.int .i64 ((p0).size : Int))) rfl rfl rfl rfl (congrArg Value.bool hb3) (HVal.lenS Tryd.runUnderlying9 rfl) ?_
      refine HList.gvals (v := (.bool (decide ((32 : Int) < ((p0).size : Int))))) rfl rfl rfl rfl (congrArg Value.bool hb3) (HVal.gtr rfl rfl) ?_
      refine HList.vals (v := (.bool (decide ((32 : Int) < ((p0).size : Int))))) rfl (HVal.pickF rfl hb3 rfl) ?_
      refine HList.vals (v := (.bool (decide ((32 : Int) < ((p0).size : Int))))) rfl (HVal.move' rfl) ?_
      obtain ⟨hT, hF⟩ := h
      rcases Bool.eq_false_or_eq_true (decide ((32 : Int) < ((p0).size : Int))) with hb5 | hb6
      · have h := hT hb5
        clear hT hF
        refine HList.gskips rfl rfl rfl rfl (congrArg Value.bool hb5) ?_
        refine HList.gskips rfl rfl rfl rfl (congrArg Value.bool hb5) ?_
        refine HList.gskips rfl rfl rfl rfl (congrArg Value.bool hb5) ?_
        refine HList.vals (v := (.bool true)) rfl (HVal.pickT rfl hb5 rfl) ?_
        refine HList.vals (v := (.bool true)) rfl (HVal.move' rfl) ?_
        refine HList.gskips rfl rfl rfl rfl rfl ?_
        refine HList.gskips rfl rfl rfl rfl rfl ?_
        refine HList.vals (v := (.bool true)) rfl (HVal.pickT rfl rfl rfl) ?_
        refine HList.nil ?_
        refine nt ?_
        exact ⟨true, ⟨rfl, rfl, trivial⟩, h⟩
      · have h := hF hb6
        clear hT hF
        refine HList.gvals (v := (.string p0)) rfl rfl rfl rfl (congrArg Value.bool hb6) (HVal.move' rfl) ?_
        obtain ⟨b7, b8, h⟩ := h
        refine HList.gvals (v := (.int .u8 (bt p0 (0 : Int).toNat))) rfl rfl rfl rfl (congrArg Value.bool hb6) (HVal.indexS' Tryd.runUnderlying9 rfl rfl b7 b8) ?_
        refine HList.gops rfl rfl rfl rfl (congrArg Value.bool hb6) (HOp.call' 72 [(.int .u8 (bt p0 (0 : Int).toNat))] (cap := []) rfl rfl Tryd.call72 (walk72 h)) ?_
        rintro _ H9 ⟨r11, rfl, h⟩
        refine HList.vals (v := (.bool r11)) rfl (HVal.pickF rfl hb6 rfl) ?_
        refine HList.vals (v := (.bool r11)) rfl (HVal.move' rfl) ?_
        obtain ⟨hT, hF⟩ := h
        rcases Bool.eq_false_or_eq_true r11 with hb12 | hb13
        · have h := hT hb12
          clear hT hF
          refine HList.gskips rfl rfl rfl rfl (congrArg Value.bool hb12) ?_
          refine HList.gskips rfl rfl rfl rfl (congrArg Value.bool hb12) ?_
          refine HList.vals (v := (.bool true)) rfl (HVal.pickT rfl hb12 rfl) ?_
          refine HList.nil ?_
          refine nt ?_
          exact ⟨true, ⟨rfl, rfl, trivial⟩, h⟩
        · have h := hF hb13
          clear hT hF
          refine HList.gvals (v := (.string p0)) rfl rfl rfl rfl (congrArg Value.bool hb13) (HVal.move' rfl) ?_
          refine HList.gops rfl rfl rfl rfl (congrArg Value.bool hb13) (HOp.call' 73 [(.string p0)] (cap := []) rfl rfl Tryd.call73 (walk73 h)) ?_
          rintro _ H14 ⟨r16, rfl, h⟩
          refine HList.vals (v := (.bool r16)) rfl (HVal.pickF rfl hb13 rfl) ?_
          refine HList.nil ?_
          refine nt ?_
          exact ⟨r16, ⟨rfl, rfl, trivial⟩, h⟩
  · rintro ρ H_1 ⟨y4, hI, h⟩
    obtain ⟨ρ0, rfl⟩ : ∃ ρ0, ρ = (Env.set (Env.set ρ0 20 (.bool y4)) 0 (.string p0)) := ⟨ρ, hI.eq⟩
    clear hI; unfold F49_1 at h
    obtain ⟨hT, hF⟩ := h
    refine HW.cond y4 rfl (fun hb17 => ?_) (fun hb17 => ?_)
    · have h := hT hb17
      clear hT hF
      refine HW.seq ?_
      refine HW.region ?_
      refine HList.vals (v := (.bool false)) rfl (HVal.assign' rfl) ?_
      refine HList.nil ?_
      refine nt ?_
      refine HW.ret ?_
      refine tr ?_
      exact ⟨_, resOf1 rfl Res1.t, ⟨false, rfl, h⟩⟩
    · have h := hF hb17
      clear hT hF
      refine HW.skip ?_
      refine nt ?_
      refine HW.seq ?_
      refine HW.seq ?_
      refine HW.region ?_
      refine HList.vals (v := (.int .i64 0)) rfl (HVal.assign' rfl) ?_
      refine HList.nil ?_
      refine nt ?_
      refine HW.block ?_
      refine HW.loop' (fun L2 hL2 => ?_)
      obtain ⟨X2, hX2⟩ : ∃ X2 : Int → Hp → Prop, ∀ (y18 : Int) (H_2 : Hp), X2 y18 H_2 ↔ ∀ ρ, Env.Is ρ [(0, (.string p0)), (3, (.int .i64 y18))] → L2 ρ H_2 := ⟨_, fun _ _ => Iff.rfl⟩
      refine (hX2 _ _).1 (h X2 ?_) _ ?_
      rotate_left
      · exact ⟨rfl, rfl, trivial⟩
      clear h
      intro y18 H_2 h
      refine (hX2 _ _).2 fun ρ hI => ?_
      obtain ⟨ρ0, rfl⟩ : ∃ ρ0, ρ = (Env.set (Env.set ρ0 3 (.int .i64 y18)) 0 (.string p0)) := ⟨ρ, hI.eq⟩
      clear hI; unfold F49_L2b at h; refine hL2 _ _ ?_
      refine HW.seq ?_
      refine HW.seq ?_
      refine HW.region ?_
      refine HList.vals (v := (.int .i64 y18)) rfl (HVal.move' rfl) ?_
      refine HList.vals (v := (.string p0)) rfl (HVal.move' rfl) ?_
      refine HList.vals (v := (.int .i64 ((p0).size : Int))) rfl (HVal.lenS Tryd.runUnderlying9 rfl) ?_
      refine HList.vals (v := (.bool (decide (y18 < ((p0).size : Int))))) rfl (HVal.lss rfl rfl) ?_
      refine HList.nil ?_
      refine nt ?_
      obtain ⟨hT, hF⟩ := h
      refine HW.cond (decide (y18 < ((p0).size : Int))) rfl (fun hb20 => ?_) (fun hb20 => ?_)
      · have h := hT hb20
        clear hT hF
        refine HW.skip ?_
        refine nt ?_
        refine HW.seq ?_
        refine HW.block ?_
        refine HW.seq ?_
        refine HW.region ?_
        refine HList.vals (v := (.string p0)) rfl (HVal.move' rfl) ?_
        refine HList.vals (v := (.int .i64 y18)) rfl (HVal.move' rfl) ?_
        obtain ⟨b21, b22, h⟩ := h
        refine HList.vals (v := (.int .u8 (bt p0 y18.toNat))) rfl (HVal.indexS' Tryd.runUnderlying9 rfl rfl b21 b22) ?_
        refine HList.ops' rfl (HOp.call' 74 [(.int .u8 (bt p0 y18.toNat))] (cap := []) rfl rfl Tryd.call74 (walk74 h)) ?_
        rintro _ H23 ⟨r25, rfl, h⟩
        refine HList.vals (v := (.bool (!r25))) rfl (HVal.not rfl) ?_
        refine HList.nil ?_
        refine nt ?_
        obtain ⟨hT, hF⟩ := h
        refine HW.cond (!r25) rfl (fun hb26 => ?_) (fun hb26 => ?_)
        · have h := hT hb26
          clear hT hF
          refine HW.seq ?_
          refine HW.region ?_
          refine HList.vals (v := (.bool false)) rfl (HVal.assign' rfl) ?_
          refine HList.nil ?_
          refine nt ?_
          refine HW.ret ?_
          refine br ?_
          refine tr ?_
          refine tr ?_
          refine br ?_
          refine tr ?_
          exact ⟨_, resOf1 rfl Res1.t, ⟨false, rfl, h⟩⟩
        · have h := hF hb26
          clear hT hF
          refine HW.skip ?_
          refine nb ?_
          refine nt ?_
          refine HW.region ?_
          refine HList.vals (v := (.int .i64 y18)) rfl (HVal.move' rfl) ?_
          refine HList.vals (v := (.int .i64 (IntKind.i64.wrap (y18 + 1)))) rfl (HVal.add rfl rfl) ?_
          refine HList.vals (v := (.int .i64 (IntKind.i64.wrap (y18 + 1)))) rfl (HVal.assign' rfl) ?_
          refine HList.nil ?_
          refine nt ?_
          exact (hX2 _ _).1 h _ ⟨rfl, rfl, trivial⟩
      · have h := hF hb20
        clear hT hF
        refine HW.exit ?_
        refine te ?_
        refine te ?_
        refine be ?_
        refine nt ?_
        refine HW.seq ?_
        refine HW.region ?_
        refine HList.vals (v := (.bool true)) rfl (HVal.assign' rfl) ?_
        refine HList.nil ?_
        refine nt ?_
        refine HW.ret ?_
        exact ⟨_, resOf1 rfl Res1.t, ⟨true, rfl, h⟩⟩

def F68_2 (Q : Int → Hp → Prop) (X1 : Int → Hp → Prop) (y17 : Addr) (y18 : Int) (H_2 : Hp) : Prop :=
X1 (IntKind.i64.wrap (y18 + 1)) H_2
def F68_L5b (Q : Int → Hp → Prop) (X1 : Int → Hp → Prop) (X5 : Int → Hp → Prop) (y59 : Addr) (y60 : Int) (y61 : Addr) (y58 : Int) (H_5 : Hp) : Prop :=
((decide (y58 < y60)) = true → (∃ x64 : Sl, cell H_5 (Addr.add y59 1) = some (Sl.v x64) ∧ (
 ∃ a65 : Addr, (x64).b = some a65 ∧ (0 : Int) ≤ y58 ∧ y58 < ((x64).n : Int) ∧ (
 ∃ x70 : ByteArray, cell H_5 (Addr.add a65 (y58.toNat * 2)) = some (.string x70) ∧ (
 ∃ x72 : ByteArray, cell H_5 y61 = some (.string x72) ∧ (
 ((seq x70 x72) = true → (Q 5 H_5)) ∧
 ((seq x70 x72) = false → (X5 (IntKind.i64.wrap (y58 + 1)) H_5)))))))) ∧
 ((decide (y58 < y60)) = false → (F68_2 Q X1 y59 y60 H_5))
def F68_L5 (Q : Int → Hp → Prop) (X1 : Int → Hp → Prop) (y59 : Addr) (y60 : Int) (y61 : Addr) (y58 : Int) (H_5 : Hp) : Prop :=
  ∀ X5 : Int → Hp → Prop, (∀ (y58 : Int) (H_5 : Hp), F68_L5b Q X1 X5 y59 y60 y61 y58 H_5 → X5 y58 H_5) → X5 y58 H_5
def F68_4 (Q : Int → Hp → Prop) (X1 : Int → Hp → Prop) (y47 : Addr) (y48 : Int) (y49 : Addr) (y54 : Bool) (H_4 : Hp) : Prop :=
(y54 = true → (Q 24 H_4)) ∧
 (y54 = false → (F68_L5 Q X1 y47 y48 y49 0 H_4))
def F68_3 (Q : Int → Hp → Prop) (X1 : Int → Hp → Prop) (y33 : Addr) (y34 : Int) (y35 : Addr) (y43 : Bool) (H_3 : Hp) : Prop :=
(y43 = true → (Q 20 H_3)) ∧
 (y43 = false → (∃ x51 : Int, cell H_3 (Addr.add y35 1) = some (.int .i64 x51) ∧ (
 ((decide (x51 < 1)) = true → (F68_4 Q X1 y33 y34 y35 true H_3)) ∧
 ((decide (x51 < 1)) = false → (∃ x56 : Int, cell H_3 (Addr.add y35 1) = some (.int .i64 x56) ∧ (
 F68_4 Q X1 y33 y34 y35 (decide ((3 : Int) < x56)) H_3))))))
def F68_L1b (Q : Int → Hp → Prop) (X1 : Int → Hp → Prop) (y13 : Addr) (y12 : Int) (H_1 : Hp) : Prop :=
∃ x15 : Sl, cell H_1 (Addr.add y13 1) = some (Sl.v x15) ∧ (
 ((decide (y12 < ((x15).n : Int))) = true → (∃ x20 : Sl, cell H_1 (Addr.add y13 1) = some (Sl.v x20) ∧ (
 ∃ a21 : Addr, (x20).b = some a21 ∧ (0 : Int) ≤ y12 ∧ y12 < ((x20).n : Int) ∧ (
 ∃ (x26 : ByteArray) (x27 : Int), cells H_1 (Addr.add a21 (y12.toNat * 2)) [(.string x26), (.int .i64 x27)] 0 ∧ (
 ∀ H28 : Hp, H28 = Array.push H_1 (.cells #[(.string (ByteArray.mk #[])), (.int .i64 0)] 38) → (
 mayw H28 ⟨H_1.size, 0, none⟩ 2 0 ∧ ∀ H30 : Hp, H30 = sets H28 ⟨H_1.size, 0, none⟩ [(.string x26), (.int .i64 x27)] 0 → (
 ∃ x37 : ByteArray, cell H30 ⟨H_1.size, 0, none⟩ = some (.string x37) ∧ (
 F49 x37 H30 (fun (r40 : Bool) (H38 : Hp) => 
 ((!r40) = true → (F68_3 Q X1 y13 y12 ⟨H_1.size, 0, none⟩ true H38)) ∧
 ((!r40) = false → (∃ x45 : ByteArray, cell H38 ⟨H_1.size, 0, none⟩ = some (.string x45) ∧ (
 F68_3 Q X1 y13 y12 ⟨H_1.size, 0, none⟩ (seq x45 S_time) H38)))))))))))) ∧
 ((decide (y12 < ((x15).n : Int))) = false → (Q 0 H_1)))
def F68_L1 (Q : Int → Hp → Prop) (y13 : Addr) (y12 : Int) (H_1 : Hp) : Prop :=
  ∀ X1 : Int → Hp → Prop, (∀ (y12 : Int) (H_1 : Hp), F68_L1b Q X1 y13 y12 H_1 → X1 y12 H_1) → X1 y12 H_1
def F68 (p0_0 : ByteArray) (p0_1 : Sl) (H : Hp) (Q : Int → Hp → Prop) : Prop :=
∀ H1 : Hp, H1 = Array.push H (.cells #[(.string p0_0), (Sl.v p0_1)] 27) → (
 ∃ x4 : ByteArray, cell H1 ⟨H.size, 0, none⟩ = some (.string x4) ∧ (
 F49 x4 H1 (fun (r7 : Bool) (H5 : Hp) => 
 ((!r7) = true → (Q 20 H5)) ∧
 ((!r7) = false → (∃ x10 : Sl, cell H5 (Addr.add ⟨H.size, 0, none⟩ 1) = some (Sl.v x10) ∧ (
 ((decide ((16 : Int) < ((x10).n : Int))) = true → (Q 2 H5)) ∧
 ((decide ((16 : Int) < ((x10).n : Int))) = false → (F68_L1 Q ⟨H.size, 0, none⟩ 0 H5))))))))
set_option maxRecDepth 100000 in
set_option maxHeartbeats 4000000 in
theorem walk68 {w0 : World} {p0_0 : ByteArray} {p0_1 : Sl} {H : Hp} {Q : Int → Hp → Prop} (h : F68 p0_0 p0_1 H Q) :
    Good Tryd.prog w0 68 #[(.agg #[(.string p0_0), (Sl.v p0_1)])] H (fun v H => ∃ (r0 : Int) , v = (.int .i64 r0) ∧ Q r0 H) := by
  unfold F68 at h
  refine Good.enter' (fn := Tryd.f68) Tryd.func68 rfl rfl rfl ?_
  refine HW.seq ?_
  refine HW.region ?_
  refine HList.ops' rfl (HOp.box (v := (.agg #[(.string p0_0), (Sl.v p0_1)])) rfl) ?_
  rintro _ H1 ⟨rfl, e2⟩
  replace h := h H1 e2
  refine HList.vals (v := (.int .i64 0)) rfl (HVal.assign' rfl) ?_
  refine HList.nil ?_
  refine nt ?_
  refine HW.seq ?_
  refine HW.seq ?_
  refine HW.region ?_
  refine HList.vals (v := (.pointer (some ⟨H.size, 0, none⟩))) rfl (HVal.fieldAddr0 Tryd.runUnderlying27 rfl rfl Tryd.sizeOf9 rfl) ?_
  obtain ⟨x4, c3, h⟩ := h
  refine HList.vals (v := (.string x4)) rfl (HVal.load1 Tryd.isAgg9 rfl c3) ?_
  refine HList.ops' rfl (HOp.call' 49 [(.string x4)] (cap := []) rfl rfl Tryd.call49 (walk49 h)) ?_
  rintro _ H5 ⟨r7, rfl, h⟩
  refine HList.vals (v := (.bool (!r7))) rfl (HVal.not rfl) ?_
  refine HList.nil ?_
  refine nt ?_
  obtain ⟨hT, hF⟩ := h
  refine HW.cond (!r7) rfl (fun hb8 => ?_) (fun hb8 => ?_)
  · have h := hT hb8
    clear hT hF
    refine HW.seq ?_
    refine HW.region ?_
    refine HList.vals (v := (.int .i64 20)) rfl (HVal.assign' rfl) ?_
    refine HList.nil ?_
    refine nt ?_
    refine HW.ret ?_
    refine tr ?_
    exact ⟨_, resOf1 rfl Res1.t, ⟨20, rfl, h⟩⟩
  · have h := hF hb8
    clear hT hF
    refine HW.skip ?_
    refine nt ?_
    refine HW.seq ?_
    refine HW.seq ?_
    refine HW.region ?_
    refine HList.vals (v := (.pointer (some (Addr.add ⟨H.size, 0, none⟩ 1)))) rfl (HVal.fieldAddr' Tryd.runUnderlying27 rfl rfl Tryd.sizeOf25 rfl) ?_
    obtain ⟨x10, c9, h⟩ := h
    refine HList.vals (v := (Sl.v x10)) rfl (HVal.load1 Tryd.isAgg25 rfl c9) ?_
    refine HList.vals (v := (.int .i64 ((x10).n : Int))) rfl (HVal.len Tryd.runUnderlying25 rfl) ?_
    refine HList.vals (v := (.bool (decide ((16 : Int) < ((x10).n : Int))))) rfl (HVal.gtr rfl rfl) ?_
    refine HList.nil ?_
    refine nt ?_
    obtain ⟨hT, hF⟩ := h
    refine HW.cond (decide ((16 : Int) < ((x10).n : Int))) rfl (fun hb11 => ?_) (fun hb11 => ?_)
    · have h := hT hb11
      clear hT hF
      refine HW.seq ?_
      refine HW.region ?_
      refine HList.vals (v := (.int .i64 2)) rfl (HVal.assign' rfl) ?_
      refine HList.nil ?_
      refine nt ?_
      refine HW.ret ?_
      refine tr ?_
      exact ⟨_, resOf1 rfl Res1.t, ⟨2, rfl, h⟩⟩
    · have h := hF hb11
      clear hT hF
      refine HW.skip ?_
      refine nt ?_
      refine HW.seq ?_
      refine HW.seq ?_
      refine HW.region ?_
      refine HList.vals (v := (.int .i64 0)) rfl (HVal.assign' rfl) ?_
      refine HList.nil ?_
      refine nt ?_
      refine HW.block ?_
      refine HW.loop' (fun L1 hL1 => ?_)
      obtain ⟨X1, hX1⟩ : ∃ X1 : Int → Hp → Prop, ∀ (y12 : Int) (H_1 : Hp), X1 y12 H_1 ↔ ∀ ρ, Env.Is ρ [(1, (.pointer (some ⟨H.size, 0, none⟩))), (3, (.int .i64 y12))] → L1 ρ H_1 := ⟨_, fun _ _ => Iff.rfl⟩
      refine (hX1 _ _).1 (h X1 ?_) _ ?_
      rotate_left
      · exact ⟨rfl, rfl, trivial⟩
      clear h
      intro y12 H_1 h
      refine (hX1 _ _).2 fun ρ hI => ?_
      obtain ⟨ρ0, rfl⟩ : ∃ ρ0, ρ = (Env.set (Env.set ρ0 3 (.int .i64 y12)) 1 (.pointer (some ⟨H.size, 0, none⟩))) := ⟨ρ, hI.eq⟩
      clear hI; unfold F68_L1b at h; refine hL1 _ _ ?_
      refine HW.seq ?_
      refine HW.seq ?_
      refine HW.region ?_
      refine HList.vals (v := (.int .i64 y12)) rfl (HVal.move' rfl) ?_
      refine HList.vals (v := (.pointer (some (Addr.add ⟨H.size, 0, none⟩ 1)))) rfl (HVal.fieldAddr' Tryd.runUnderlying27 rfl rfl Tryd.sizeOf25 rfl) ?_
      obtain ⟨x15, c14, h⟩ := h
      refine HList.vals (v := (Sl.v x15)) rfl (HVal.load1 Tryd.isAgg25 rfl c14) ?_
      refine HList.vals (v := (.int .i64 ((x15).n : Int))) rfl (HVal.len Tryd.runUnderlying25 rfl) ?_
      refine HList.vals (v := (.bool (decide (y12 < ((x15).n : Int))))) rfl (HVal.lss rfl rfl) ?_
      refine HList.nil ?_
      refine nt ?_
      obtain ⟨hT, hF⟩ := h
      refine HW.cond (decide (y12 < ((x15).n : Int))) rfl (fun hb16 => ?_) (fun hb16 => ?_)
      · have h := hT hb16
        clear hT hF
        refine HW.skip ?_
        refine nt ?_
        refine HW.cut (fun ρ H_2 => Env.Is ρ [(1, (.pointer (some ⟨H.size, 0, none⟩))), (3, (.int .i64 y12))] ∧ F68_2 Q X1 ⟨H.size, 0, none⟩ y12 H_2) ?_ ?_
        · refine HW.block ?_
          refine HW.seq ?_
          refine HW.region ?_
          refine HList.vals (v := (.pointer (some (Addr.add ⟨H.size, 0, none⟩ 1)))) rfl (HVal.fieldAddr' Tryd.runUnderlying27 rfl rfl Tryd.sizeOf25 rfl) ?_
          obtain ⟨x20, c19, h⟩ := h
          refine HList.vals (v := (Sl.v x20)) rfl (HVal.load1 Tryd.isAgg25 rfl c19) ?_
          refine HList.vals (v := (.int .i64 y12)) rfl (HVal.move' rfl) ?_
          obtain ⟨a21, e22, b23, b24, h⟩ := h
          refine HList.vals (v := (.pointer (some (Addr.add a21 (y12.toNat * 2))))) rfl (HVal.indexAddr Tryd.runUnderlying25 Tryd.sizeOf38 (Sl.v_some rfl e22) rfl b23 b24) ?_
          obtain ⟨x26, x27, c25, h⟩ := h
          refine HList.vals (v := (.agg #[(.string x26), (.int .i64 x27)])) rfl (HVal.loadN [(.string x26), (.int .i64 x27)] Tryd.isAgg38 Tryd.sizeOf38 rfl c25) ?_
          refine HList.ops' rfl (HOp.alloc Tryd.zeroValue38) ?_
          rintro _ H28 ⟨rfl, e29⟩
          replace h := h H28 e29
          obtain ⟨z32, h⟩ := h
          refine HList.opsn (HOp.storeN' (l := [(.string x26), (.int .i64 x27)]) Tryd.sizeOf38 rfl rfl rfl z32) ?_
          rintro _ H30 e31
          replace h := h H30 e31
          refine HList.nil ?_
          refine nt ?_
          refine HW.seq ?_
          refine HW.cut (fun ρ H_3 => ∃ (y43 : Bool), Env.Is ρ [(1, (.pointer (some ⟨H.size, 0, none⟩))), (3, (.int .i64 y12)), (4, (.pointer (some ⟨H_1.size, 0, none⟩))), (34, (.bool y43))] ∧ F68_3 Q X1 ⟨H.size, 0, none⟩ y12 ⟨H_1.size, 0, none⟩ y43 H_3) ?_ ?_
          · refine HW.region ?_
            refine HList.vals (v := (.pointer (some ⟨H_1.size, 0, none⟩))) rfl (HVal.fieldAddr0 Tryd.runUnderlying38 rfl rfl Tryd.sizeOf9 rfl) ?_
            obtain ⟨x37, c36, h⟩ := h
            refine HList.vals (v := (.string x37)) rfl (HVal.load1 Tryd.isAgg9 rfl c36) ?_
            refine HList.ops' rfl (HOp.call' 49 [(.string x37)] (cap := []) rfl rfl Tryd.call49 (walk49 h)) ?_
            rintro _ H38 ⟨r40, rfl, h⟩
            refine HList.vals (v := (.bool (!r40))) rfl (HVal.not rfl) ?_
            refine HList.vals (v := (.bool (!r40))) rfl (HVal.move' rfl) ?_
            obtain ⟨hT, hF⟩ := h
            rcases Bool.eq_false_or_eq_true (!r40) with hb41 | hb42
            · have h := hT hb41
              clear hT hF
              refine HList.gskips rfl rfl rfl rfl (congrArg Value.bool hb41) ?_
              refine HList.gskips rfl rfl rfl rfl (congrArg Value.bool hb41) ?_
              refine HList.gskips rfl rfl rfl rfl (congrArg Value.bool hb41) ?_
              refine HList.vals (v := (.bool true)) rfl (HVal.pickT rfl hb41 rfl) ?_
              refine HList.nil ?_
              refine nt ?_
              exact ⟨true, ⟨rfl, rfl, rfl, rfl, trivial⟩, h⟩
            · have h := hF hb42
              clear hT hF
              refine HList.gvals (v := (.pointer (some ⟨H_1.size, 0, none⟩))) rfl rfl rfl rfl (congrArg Value.bool hb42) (HVal.fieldAddr0 Tryd.runUnderlying38 rfl rfl Tryd.sizeOf9 rfl) ?_
              obtain ⟨x45, c44, h⟩ := h
              refine HList.gvals (v := (.string x45)) rfl rfl rfl rfl (congrArg Value.bool hb42) (HVal.load1 Tryd.isAgg9 rfl c44) ?_
              refine HList.gvals (v := (.bool (seq x45 S_time))) rfl rfl rfl rfl (congrArg Value.bool hb42) (HVal.eqlS rfl rfl) ?_
              refine HList.vals (v := (.bool (seq x45 S_time))) rfl (HVal.pickF rfl hb42 rfl) ?_
              refine HList.nil ?_
              refine nt ?_
              exact ⟨(seq x45 S_time), ⟨rfl, rfl, rfl, rfl, trivial⟩, h⟩
          · rintro ρ H_3 ⟨y43, hI, h⟩
            obtain ⟨ρ0, rfl⟩ : ∃ ρ0, ρ = (Env.set (Env.set (Env.set (Env.set ρ0 34 (.bool y43)) 4 (.pointer (some ⟨H_1.size, 0, none⟩))) 3 (.int .i64 y12)) 1 (.pointer (some ⟨H.size, 0, none⟩))) := ⟨ρ, hI.eq⟩
            clear hI; unfold F68_3 at h
            obtain ⟨hT, hF⟩ := h
            refine HW.cond y43 rfl (fun hb46 => ?_) (fun hb46 => ?_)
            · have h := hT hb46
              clear hT hF
              refine HW.seq ?_
              refine HW.region ?_
              refine HList.vals (v := (.int .i64 20)) rfl (HVal.assign' rfl) ?_
              refine HList.nil ?_
              refine nt ?_
              refine HW.ret ?_
              refine tr ?_
              refine br ?_
              refine tr ?_
              refine tr ?_
              refine br ?_
              refine tr ?_
              exact ⟨_, resOf1 rfl Res1.t, ⟨20, rfl, h⟩⟩
            · have h := hF hb46
              clear hT hF
              refine HW.skip ?_
              refine nt ?_
              refine HW.seq ?_
              refine HW.cut (fun ρ H_4 => ∃ (y54 : Bool), Env.Is ρ [(1, (.pointer (some ⟨H.size, 0, none⟩))), (3, (.int .i64 y12)), (4, (.pointer (some ⟨H_1.size, 0, none⟩))), (42, (.bool y54))] ∧ F68_4 Q X1 ⟨H.size, 0, none⟩ y12 ⟨H_1.size, 0, none⟩ y54 H_4) ?_ ?_
              · refine HW.region ?_
                refine HList.vals (v := (.pointer (some (Addr.add ⟨H_1.size, 0, none⟩ 1)))) rfl (HVal.fieldAddr' Tryd.runUnderlying38 rfl rfl Tryd.sizeOf3 rfl) ?_
                obtain ⟨x51, c50, h⟩ := h
                refine HList.vals (v := (.int .i64 x51)) rfl (HVal.load1 Tryd.isAgg3 rfl c50) ?_
                refine HList.vals (v := (.bool (decide (x51 < 1)))) rfl (HVal.lss rfl rfl) ?_
                refine HList.vals (v := (.bool (decide (x51 < 1)))) rfl (HVal.move' rfl) ?_
                obtain ⟨hT, hF⟩ := h
                rcases Bool.eq_false_or_eq_true (decide (x51 < 1)) with hb52 | hb53
                · have h := hT hb52
                  clear hT hF
                  refine HList.gskips rfl rfl rfl rfl (congrArg Value.bool hb52) ?_
                  refine HList.gskips rfl rfl rfl rfl (congrArg Value.bool hb52) ?_
                  refine HList.gskips rfl rfl rfl rfl (congrArg Value.bool hb52) ?_
                  refine HList.vals (v := (.bool true)) rfl (HVal.pickT rfl hb52 rfl) ?_
                  refine HList.nil ?_
                  refine nt ?_
                  exact ⟨true, ⟨rfl, rfl, rfl, rfl, trivial⟩, h⟩
                · have h := hF hb53
                  clear hT hF
                  refine HList.gvals (v := (.pointer (some (Addr.add ⟨H_1.size, 0, none⟩ 1)))) rfl rfl rfl rfl (congrArg Value.bool hb53) (HVal.fieldAddr' Tryd.runUnderlying38 rfl rfl Tryd.sizeOf3 rfl) ?_
                  obtain ⟨x56, c55, h⟩ := h
                  refine HList.gvals (v := (.int .i64 x56)) rfl rfl rfl rfl (congrArg Value.bool hb53) (HVal.load1 Tryd.isAgg3 rfl c55) ?_
                  refine HList.gvals (v := (.bool (decide ((3 : Int) < x56)))) rfl rfl rfl rfl (congrArg Value.bool hb53) (HVal.gtr rfl rfl) ?_
                  refine HList.vals (v := (.bool (decide ((3 : Int) < x56)))) rfl (HVal.pickF rfl hb53 rfl) ?_
                  refine HList.nil ?_
                  refine nt ?_
                  exact ⟨(decide ((3 : Int) < x56)), ⟨rfl, rfl, rfl, rfl, trivial⟩, h⟩
              · rintro ρ H_4 ⟨y54, hI, h⟩
                obtain ⟨ρ0, rfl⟩ : ∃ ρ0, ρ = (Env.set (Env.set (Env.set (Env.set ρ0 42 (.bool y54)) 4 (.pointer (some ⟨H_1.size, 0, none⟩))) 3 (.int .i64 y12)) 1 (.pointer (some ⟨H.size, 0, none⟩))) := ⟨ρ, hI.eq⟩
                clear hI; unfold F68_4 at h
                obtain ⟨hT, hF⟩ := h
                refine HW.cond y54 rfl (fun hb57 => ?_) (fun hb57 => ?_)
                · have h := hT hb57
                  clear hT hF
                  refine HW.seq ?_
                  refine HW.region ?_
                  refine HList.vals (v := (.int .i64 24)) rfl (HVal.assign' rfl) ?_
                  refine HList.nil ?_
                  refine nt ?_
                  refine HW.ret ?_
                  refine tr ?_
                  refine br ?_
                  refine tr ?_
                  refine tr ?_
                  refine br ?_
                  refine tr ?_
                  exact ⟨_, resOf1 rfl Res1.t, ⟨24, rfl, h⟩⟩
                · have h := hF hb57
                  clear hT hF
                  refine HW.skip ?_
                  refine nt ?_
                  refine HW.seq ?_
                  refine HW.region ?_
                  refine HList.vals (v := (.int .i64 0)) rfl (HVal.assign' rfl) ?_
                  refine HList.nil ?_
                  refine nt ?_
                  refine HW.block ?_
                  refine HW.loop' (fun L5 hL5 => ?_)
                  obtain ⟨X5, hX5⟩ : ∃ X5 : Int → Hp → Prop, ∀ (y58 : Int) (H_5 : Hp), X5 y58 H_5 ↔ ∀ ρ, Env.Is ρ [(1, (.pointer (some ⟨H.size, 0, none⟩))), (3, (.int .i64 y12)), (4, (.pointer (some ⟨H_1.size, 0, none⟩))), (5, (.int .i64 y58))] → L5 ρ H_5 := ⟨_, fun _ _ => Iff.rfl⟩
                  refine (hX5 _ _).1 (h X5 ?_) _ ?_
                  rotate_left
                  · exact ⟨rfl, rfl, rfl, rfl, trivial⟩
                  clear h
                  intro y58 H_5 h
                  refine (hX5 _ _).2 fun ρ hI => ?_
                  obtain ⟨ρ0, rfl⟩ : ∃ ρ0, ρ = (Env.set (Env.set (Env.set (Env.set ρ0 5 (.int .i64 y58)) 4 (.pointer (some ⟨H_1.size, 0, none⟩))) 3 (.int .i64 y12)) 1 (.pointer (some ⟨H.size, 0, none⟩))) := ⟨ρ, hI.eq⟩
                  clear hI; unfold F68_L5b at h; refine hL5 _ _ ?_
                  refine HW.seq ?_
                  refine HW.seq ?_
                  refine HW.region ?_
                  refine HList.vals (v := (.int .i64 y58)) rfl (HVal.move' rfl) ?_
                  refine HList.vals (v := (.int .i64 y12)) rfl (HVal.move' rfl) ?_
                  refine HList.vals (v := (.bool (decide (y58 < y12)))) rfl (HVal.lss rfl rfl) ?_
                  refine HList.nil ?_
                  refine nt ?_
                  obtain ⟨hT, hF⟩ := h
                  refine HW.cond (decide (y58 < y12)) rfl (fun hb62 => ?_) (fun hb62 => ?_)
                  · have h := hT hb62
                    clear hT hF
                    refine HW.skip ?_
                    refine nt ?_
                    refine HW.seq ?_
                    refine HW.block ?_
                    refine HW.seq ?_
                    refine HW.draw mixed [(0, some []), (1, some []), (2, some []), (3, some []), (4, some []), (5, some []), (6, some []), (7, some []), (8, some [])] rfl (by kernel_rfl) (by kernel_rfl) ?_
                    refine HPlan.takev (v := (.pointer (some (Addr.add ⟨H.size, 0, none⟩ 1)))) rfl rfl (fun _ => HVal.fieldAddr' Tryd.runUnderlying27 rfl rfl Tryd.sizeOf25 rfl) ?_
                    obtain ⟨x64, c63, h⟩ := h
                    refine HPlan.takel (v := (Sl.v x64)) (fun X => cell X (Addr.add ⟨H.size, 0, none⟩ 1) = some (Sl.v x64)) rfl rfl (fun _ hX => HVal.load1 Tryd.isAgg25 rfl hX) c63 ?_
                    refine HPlan.takev (v := (.int .i64 y58)) rfl rfl (fun _ => HVal.move' rfl) ?_
                    obtain ⟨a65, e66, b67, b68, h⟩ := h
                    refine HPlan.takev (v := (.pointer (some (Addr.add a65 (y58.toNat * 2))))) rfl rfl (fun _ => HVal.indexAddr Tryd.runUnderlying25 Tryd.sizeOf38 (Sl.v_some rfl e66) rfl b67 b68) ?_
                    refine HPlan.takev (v := (.pointer (some (Addr.add a65 (y58.toNat * 2))))) rfl rfl (fun _ => HVal.fieldAddr0 Tryd.runUnderlying38 rfl rfl Tryd.sizeOf9 rfl) ?_
                    obtain ⟨x70, c69, h⟩ := h
                    refine HPlan.takel (v := (.string x70)) (fun X => cell X (Addr.add a65 (y58.toNat * 2)) = some (.string x70)) rfl rfl (fun _ hX => HVal.load1 Tryd.isAgg9 rfl hX) c69 ?_
                    refine HPlan.takev (v := (.pointer (some ⟨H_1.size, 0, none⟩))) rfl rfl (fun _ => HVal.fieldAddr0 Tryd.runUnderlying38 rfl rfl Tryd.sizeOf9 rfl) ?_
                    obtain ⟨x72, c71, h⟩ := h
                    refine HPlan.takel (v := (.string x72)) (fun X => cell X ⟨H_1.size, 0, none⟩ = some (.string x72)) rfl rfl (fun _ hX => HVal.load1 Tryd.isAgg9 rfl hX) c71 ?_
                    refine HPlan.takev (v := (.bool (seq x70 x72))) rfl rfl (fun _ => HVal.eqlS rfl rfl) ?_
                    refine HPlan.done ?_
                    refine nt ?_
                    obtain ⟨hT, hF⟩ := h
                    refine HW.cond (seq x70 x72) rfl (fun hb73 => ?_) (fun hb73 => ?_)
                    · have h := hT hb73
                      clear hT hF
                      refine HW.seq ?_
                      refine HW.region ?_
                      refine HList.vals (v := (.int .i64 5)) rfl (HVal.assign' rfl) ?_
                      refine HList.nil ?_
                      refine nt ?_
                      refine HW.ret ?_
                      refine br ?_
                      refine tr ?_
                      refine tr ?_
                      refine br ?_
                      refine br ?_
                      refine tr ?_
                      refine tr ?_
                      refine br ?_
                      refine tr ?_
                      exact ⟨_, resOf1 rfl Res1.t, ⟨5, rfl, h⟩⟩
                    · have h := hF hb73
                      clear hT hF
                      refine HW.skip ?_
                      refine nb ?_
                      refine nt ?_
                      refine HW.region ?_
                      refine HList.vals (v := (.int .i64 y58)) rfl (HVal.move' rfl) ?_
                      refine HList.vals (v := (.int .i64 (IntKind.i64.wrap (y58 + 1)))) rfl (HVal.add rfl rfl) ?_
                      refine HList.vals (v := (.int .i64 (IntKind.i64.wrap (y58 + 1)))) rfl (HVal.assign' rfl) ?_
                      refine HList.nil ?_
                      refine nt ?_
                      exact (hX5 _ _).1 h _ ⟨rfl, rfl, rfl, rfl, trivial⟩
                  · have h := hF hb62
                    clear hT hF
                    refine HW.exit ?_
                    refine te ?_
                    refine te ?_
                    refine be ?_
                    refine nb ?_
                    refine nt ?_
                    exact ⟨⟨rfl, rfl, trivial⟩, h⟩
        · rintro ρ H_2 ⟨hI, h⟩
          obtain ⟨ρ0, rfl⟩ : ∃ ρ0, ρ = (Env.set (Env.set ρ0 3 (.int .i64 y12)) 1 (.pointer (some ⟨H.size, 0, none⟩))) := ⟨ρ, hI.eq⟩
          clear hI; unfold F68_2 at h
          refine HW.region ?_
          refine HList.vals (v := (.int .i64 y12)) rfl (HVal.move' rfl) ?_
          refine HList.vals (v := (.int .i64 (IntKind.i64.wrap (y12 + 1)))) rfl (HVal.add rfl rfl) ?_
          refine HList.vals (v := (.int .i64 (IntKind.i64.wrap (y12 + 1)))) rfl (HVal.assign' rfl) ?_
          refine HList.nil ?_
          refine nt ?_
          exact (hX1 _ _).1 h _ ⟨rfl, rfl, trivial⟩
      · have h := hF hb16
        clear hT hF
        refine HW.exit ?_
        refine te ?_
        refine te ?_
        refine be ?_
        refine nt ?_
        refine HW.seq ?_
        refine HW.region ?_
        refine HList.vals (v := (.int .i64 0)) rfl (HVal.assign' rfl) ?_
        refine HList.nil ?_
        refine nt ?_
        refine HW.ret ?_
        exact ⟨_, resOf1 rfl Res1.t, ⟨0, rfl, h⟩⟩

def F69_L1b (Q : Int → Hp → Prop) (X1 : Int → Hp → Prop) (y2 : (Option Addr)) (y3 : ByteArray) (y1 : Int) (H_1 : Hp) : Prop :=
∃ a4 : Addr, y2 = some a4 ∧ (
 ∃ x7 : Sl, cell H_1 a4 = some (Sl.v x7) ∧ (
 ((decide (y1 < ((x7).n : Int))) = true → (∃ a9 : Addr, y2 = some a9 ∧ (
 ∃ x12 : Sl, cell H_1 a9 = some (Sl.v x12) ∧ (
 ∃ a13 : Addr, (x12).b = some a13 ∧ (0 : Int) ≤ y1 ∧ y1 < ((x12).n : Int) ∧ (
 ∃ x18 : ByteArray, cell H_1 (Addr.add a13 (y1.toNat * 2)) = some (.string x18) ∧ (
 ((seq x18 y3) = true → (Q y1 H_1)) ∧
 ((seq x18 y3) = false → (X1 (IntKind.i64.wrap (y1 + 1)) H_1)))))))) ∧
 ((decide (y1 < ((x7).n : Int))) = false → (Q (-1) H_1))))
def F69_L1 (Q : Int → Hp → Prop) (y2 : (Option Addr)) (y3 : ByteArray) (y1 : Int) (H_1 : Hp) : Prop :=
  ∀ X1 : Int → Hp → Prop, (∀ (y1 : Int) (H_1 : Hp), F69_L1b Q X1 y2 y3 y1 H_1 → X1 y1 H_1) → X1 y1 H_1
def F69 (p0 : (Option Addr)) (p1 : ByteArray) (H : Hp) (Q : Int → Hp → Prop) : Prop :=
F69_L1 Q p0 p1 0 H
set_option maxRecDepth 100000 in
set_option maxHeartbeats 4000000 in
theorem walk69 {w0 : World} {p0 : (Option Addr)} {p1 : ByteArray} {H : Hp} {Q : Int → Hp → Prop} (h : F69 p0 p1 H Q) :
    Good Tryd.prog w0 69 #[(.pointer p0), (.string p1)] H (fun v H => ∃ (r0 : Int) , v = (.int .i64 r0) ∧ Q r0 H) := by
  unfold F69 at h
  refine Good.enter' (fn := Tryd.f69) Tryd.func69 rfl rfl rfl ?_
  refine HW.seq ?_
  refine HW.region ?_
  refine HList.vals (v := (.int .i64 0)) rfl (HVal.assign' rfl) ?_
  refine HList.nil ?_
  refine nt ?_
  refine HW.seq ?_
  refine HW.seq ?_
  refine HW.region ?_
  refine HList.vals (v := (.int .i64 0)) rfl (HVal.assign' rfl) ?_
  refine HList.nil ?_
  refine nt ?_
  refine HW.block ?_
  refine HW.loop' (fun L1 hL1 => ?_)
  obtain ⟨X1, hX1⟩ : ∃ X1 : Int → Hp → Prop, ∀ (y1 : Int) (H_1 : Hp), X1 y1 H_1 ↔ ∀ ρ, Env.Is ρ [(0, (.pointer p0)), (1, (.string p1)), (5, (.int .i64 y1))] → L1 ρ H_1 := ⟨_, fun _ _ => Iff.rfl⟩
  refine (hX1 _ _).1 (h X1 ?_) _ ?_
  rotate_left
  · exact ⟨rfl, rfl, rfl, trivial⟩
  clear h
  intro y1 H_1 h
  refine (hX1 _ _).2 fun ρ hI => ?_
  obtain ⟨ρ0, rfl⟩ : ∃ ρ0, ρ = (Env.set (Env.set (Env.set ρ0 5 (.int .i64 y1)) 1 (.string p1)) 0 (.pointer p0)) := ⟨ρ, hI.eq⟩
  clear hI; unfold F69_L1b at h; refine hL1 _ _ ?_
  refine HW.seq ?_
  refine HW.seq ?_
  refine HW.region ?_
  refine HList.vals (v := (.int .i64 y1)) rfl (HVal.move' rfl) ?_
  refine HList.vals (v := (.pointer p0)) rfl (HVal.move' rfl) ?_
  obtain ⟨a4, e5, h⟩ := h
  refine HList.vals (v := (.pointer (some a4))) rfl (HVal.nilCheck (congrArg Value.pointer e5)) ?_
  refine HList.vals (v := (.pointer (some a4))) rfl (HVal.fieldAddr0 Tryd.runUnderlying118 rfl rfl Tryd.sizeOf54 rfl) ?_
  obtain ⟨x7, c6, h⟩ := h
  refine HList.vals (v := (Sl.v x7)) rfl (HVal.load1 Tryd.isAgg54 rfl c6) ?_
  refine HList.vals (v := (.int .i64 ((x7).n : Int))) rfl (HVal.len Tryd.runUnderlying54 rfl) ?_
  refine HList.vals (v := (.bool (decide (y1 < ((x7).n : Int))))) rfl (HVal.lss rfl rfl) ?_
  refine HList.nil ?_
  refine nt ?_
  obtain ⟨hT, hF⟩ := h
  refine HW.cond (decide (y1 < ((x7).n : Int))) rfl (fun hb8 => ?_) (fun hb8 => ?_)
  · have h := hT hb8
    clear hT hF
    refine HW.skip ?_
    refine nt ?_
    refine HW.seq ?_
    refine HW.block ?_
    refine HW.seq ?_
    refine HW.region ?_
    refine HList.vals (v := (.pointer p0)) rfl (HVal.move' rfl) ?_
    obtain ⟨a9, e10, h⟩ := h
    refine HList.vals (v := (.pointer (some a9))) rfl (HVal.nilCheck (congrArg Value.pointer e10)) ?_
    refine HList.vals (v := (.pointer (some a9))) rfl (HVal.fieldAddr0 Tryd.runUnderlying118 rfl rfl Tryd.sizeOf54 rfl) ?_
    obtain ⟨x12, c11, h⟩ := h
    refine HList.vals (v := (Sl.v x12)) rfl (HVal.load1 Tryd.isAgg54 rfl c11) ?_
    refine HList.vals (v := (.int .i64 y1)) rfl (HVal.move' rfl) ?_
    obtain ⟨a13, e14, b15, b16, h⟩ := h
    refine HList.vals (v := (.pointer (some (Addr.add a13 (y1.toNat * 2))))) rfl (HVal.indexAddr Tryd.runUnderlying54 Tryd.sizeOf27 (Sl.v_some rfl e14) rfl b15 b16) ?_
    refine HList.vals (v := (.pointer (some (Addr.add a13 (y1.toNat * 2))))) rfl (HVal.fieldAddr0 Tryd.runUnderlying27 rfl rfl Tryd.sizeOf9 rfl) ?_
    obtain ⟨x18, c17, h⟩ := h
    refine HList.vals (v := (.string x18)) rfl (HVal.load1 Tryd.isAgg9 rfl c17) ?_
    refine HList.vals (v := (.string p1)) rfl (HVal.move' rfl) ?_
    refine HList.vals (v := (.bool (seq x18 p1))) rfl (HVal.eqlS rfl rfl) ?_
    refine HList.nil ?_
    refine nt ?_
    obtain ⟨hT, hF⟩ := h
    refine HW.cond (seq x18 p1) rfl (fun hb19 => ?_) (fun hb19 => ?_)
    · have h := hT hb19
      clear hT hF
      refine HW.seq ?_
      refine HW.region ?_
      refine HList.vals (v := (.int .i64 y1)) rfl (HVal.move' rfl) ?_
      refine HList.vals (v := (.int .i64 y1)) rfl (HVal.assign' rfl) ?_
      refine HList.nil ?_
      refine nt ?_
      refine HW.ret ?_
      refine br ?_
      refine tr ?_
      refine tr ?_
      refine br ?_
      refine tr ?_
      exact ⟨_, resOf1 rfl Res1.t, ⟨y1, rfl, h⟩⟩
    · have h := hF hb19
      clear hT hF
      refine HW.skip ?_
      refine nb ?_
      refine nt ?_
      refine HW.region ?_
      refine HList.vals (v := (.int .i64 y1)) rfl (HVal.move' rfl) ?_
      refine HList.vals (v := (.int .i64 (IntKind.i64.wrap (y1 + 1)))) rfl (HVal.add rfl rfl) ?_
      refine HList.vals (v := (.int .i64 (IntKind.i64.wrap (y1 + 1)))) rfl (HVal.assign' rfl) ?_
      refine HList.nil ?_
      refine nt ?_
      exact (hX1 _ _).1 h _ ⟨rfl, rfl, rfl, trivial⟩
  · have h := hF hb8
    clear hT hF
    refine HW.exit ?_
    refine te ?_
    refine te ?_
    refine be ?_
    refine nt ?_
    refine HW.seq ?_
    refine HW.region ?_
    refine HList.vals (v := (.int .i64 (-1))) rfl (HVal.assign' rfl) ?_
    refine HList.nil ?_
    refine nt ?_
    refine HW.ret ?_
    exact ⟨_, resOf1 rfl Res1.t, ⟨(-1), rfl, h⟩⟩

def F70 (p0_0 : ByteArray) (p0_1 : Sl) (H : Hp) (Q : ByteArray → Sl → Hp → Prop) : Prop :=
∀ H1 : Hp, H1 = Array.push H (.cells #[(.string p0_0), (Sl.v p0_1)] 27) → (
 ∀ H3 : Hp, H3 = Array.push H1 (.cells #[(.string (ByteArray.mk #[])), (Sl.v Sl.nil)] 27) → (
 ∃ x6 : Sl, cell H3 (Addr.add ⟨H.size, 0, none⟩ 1) = some (Sl.v x6) ∧ (
 AppendF H3 38 2 24 #[(.string (ByteArray.mk #[])), (.int .i64 0)] Sl.nil (x6).b (x6).n (fun (r9 : Sl) (H7 : Hp) => 
 (cell H7 (Addr.add ⟨H.size, 0, none⟩ 1)).isSome = true ∧ frz H7 (Addr.add ⟨H.size, 0, none⟩ 1) = false ∧ ∀ H10 : Hp, H10 = setc H7 (Addr.add ⟨H.size, 0, none⟩ 1) (Sl.v r9) → (
 ∃ (x15 : ByteArray) (x16 : Sl), cells H10 ⟨H.size, 0, none⟩ [(.string x15), (Sl.v x16)] 0 ∧ (
 mayw H10 ⟨H1.size, 0, none⟩ 2 0 ∧ ∀ H17 : Hp, H17 = sets H10 ⟨H1.size, 0, none⟩ [(.string x15), (Sl.v x16)] 0 → (
 ∃ (x20 : ByteArray) (x21 : Sl), cells H17 ⟨H1.size, 0, none⟩ [(.string x20), (Sl.v x21)] 0 ∧ (
 Q x20 x21 H17))))))))
set_option maxRecDepth 100000 in
set_option maxHeartbeats 4000000 in
theorem walk70 {w0 : World} {p0_0 : ByteArray} {p0_1 : Sl} {H : Hp} {Q : ByteArray → Sl → Hp → Prop} (h : F70 p0_0 p0_1 H Q) :
    Good Tryd.prog w0 70 #[(.agg #[(.string p0_0), (Sl.v p0_1)])] H (fun v H => ∃ (r0 : ByteArray) (r1 : Sl) , v = (.agg #[(.string r0), (Sl.v r1)]) ∧ Q r0 r1 H) := by
  unfold F70 at h
  refine Good.enter' (fn := Tryd.f70) Tryd.func70 rfl rfl rfl ?_
  refine HW.seq ?_
  refine HW.region ?_
  refine HList.ops' rfl (HOp.box (v := (.agg #[(.string p0_0), (Sl.v p0_1)])) rfl) ?_
  rintro _ H1 ⟨rfl, e2⟩
  replace h := h H1 e2
  refine HList.ops' rfl (HOp.alloc Tryd.zeroValue27) ?_
  rintro _ H3 ⟨rfl, e4⟩
  replace h := h H3 e4
  refine HList.nil ?_
  refine nt ?_
  refine HW.seq ?_
  refine HW.region ?_
  refine HList.vals (v := (.pointer (some (Addr.add ⟨H.size, 0, none⟩ 1)))) rfl (HVal.fieldAddr' Tryd.runUnderlying27 rfl rfl Tryd.sizeOf25 rfl) ?_
  obtain ⟨x6, c5, h⟩ := h
  refine HList.vals (v := (Sl.v x6)) rfl (HVal.load1 Tryd.isAgg25 rfl c5) ?_
  refine HList.ops' rfl (HOp.append (k := 2) (b := 24) Tryd.runUnderlying25 Tryd.runUnderlying25 Tryd.typeInfo38 rfl rfl Tryd.zeroValue38 rfl rfl h) ?_
  rintro _ H7 ⟨r9, rfl, h⟩
  refine HList.vals (v := (.pointer (some (Addr.add ⟨H.size, 0, none⟩ 1)))) rfl (HVal.fieldAddr' Tryd.runUnderlying27 rfl rfl Tryd.sizeOf25 rfl) ?_
  obtain ⟨z12, z13, h⟩ := h
  refine HList.opsn (HOp.store1 Tryd.sizeOf25 rfl rfl rfl z12 z13) ?_
  rintro _ H10 e11
  replace h := h H10 e11
  refine HList.nil ?_
  refine nt ?_
  refine HW.seq ?_
  refine HW.region ?_
  obtain ⟨x15, x16, c14, h⟩ := h
  refine HList.vals (v := (.agg #[(.string x15), (Sl.v x16)])) rfl (HVal.loadN [(.string x15), (Sl.v x16)] Tryd.isAgg27 Tryd.sizeOf27 rfl c14) ?_
  obtain ⟨z19, h⟩ := h
  refine HList.opsn (HOp.storeN' (l := [(.string x15), (Sl.v x16)]) Tryd.sizeOf27 rfl rfl rfl z19) ?_
  rintro _ H17 e18
  replace h := h H17 e18
  refine HList.nil ?_
  refine nt ?_
  refine HW.ret ?_
  obtain ⟨x20, x21, c22, h⟩ := h
  exact ⟨_, resOf1 rfl (Res1.n [(.string x20), (Sl.v x21)] Tryd.isAgg27 Tryd.sizeOf27 rfl c22), ⟨x20, x21, rfl, h⟩⟩

def F40 (p0 : (Option Addr)) (p1_0 : ByteArray) (p1_1 : Sl) (H : Hp) (Q : Int → Hp → Prop) : Prop :=
∀ H1 : Hp, H1 = Array.push H (.cells #[(.string p1_0), (Sl.v p1_1)] 27) → (
 ∃ (x4 : ByteArray) (x5 : Sl), cells H1 ⟨H.size, 0, none⟩ [(.string x4), (Sl.v x5)] 0 ∧ (
 F68 x4 x5 H1 (fun (r8 : Int) (H6 : Hp) => 
 ((decide (r8 ≠ 0)) = true → (Q r8 H6)) ∧
 ((decide (r8 ≠ 0)) = false → (∃ x11 : ByteArray, cell H6 ⟨H.size, 0, none⟩ = some (.string x11) ∧ (
 F69 p0 x11 H6 (fun (r14 : Int) (H12 : Hp) => 
 ((decide ((0 : Int) ≤ r14)) = true → (Q 5 H12)) ∧
 ((decide ((0 : Int) ≤ r14)) = false → (∃ a16 : Addr, p0 = some a16 ∧ (
 ∃ x19 : Sl, cell H12 a16 = some (Sl.v x19) ∧ (
 ((decide ((64 : Int) ≤ ((x19).n : Int))) = true → (Q 4 H12)) ∧
 ((decide ((64 : Int) ≤ ((x19).n : Int))) = false → (∃ a21 : Addr, p0 = some a21 ∧ (
 ∃ x24 : Sl, cell H12 a21 = some (Sl.v x24) ∧ (
 ∃ (x26 : ByteArray) (x27 : Sl), cells H12 ⟨H.size, 0, none⟩ [(.string x26), (Sl.v x27)] 0 ∧ (
 F70 x26 x27 H12 (fun (r30 : ByteArray) (r31 : Sl) (H28 : Hp) => 
 cell H28 a21 = some (Sl.v x24) ∧ (
 ∀ H33 : Hp, H33 = Array.push H28 (.cells #[(.string r30), (Sl.v r31)] 27) → (
 cell H33 a21 = some (Sl.v x24) ∧ (
 AppendF H33 27 2 40 #[(.string (ByteArray.mk #[])), (Sl.v Sl.nil)] x24 ((Sl.mk (some ⟨H28.size, 0, none⟩) 1 1)).b ((Sl.mk (some ⟨H28.size, 0, none⟩) 1 1)).n (fun (r38 : Sl) (H36 : Hp) => 
 ∃ a39 : Addr, p0 = some a39 ∧ (
 (cell H36 a39).isSome = true ∧ frz H36 a39 = false ∧ ∀ H41 : Hp, H41 = setc H36 a39 (Sl.v r38) → (
 Q 0 H41)))))))))))))))))))))))
set_option maxRecDepth 100000 in
set_option maxHeartbeats 4000000 in
theorem walk40 {w0 : World} {p0 : (Option Addr)} {p1_0 : ByteArray} {p1_1 : Sl} {H : Hp} {Q : Int → Hp → Prop} (h : F40 p0 p1_0 p1_1 H Q) :
    Good Tryd.prog w0 40 #[(.pointer p0), (.agg #[(.string p1_0), (Sl.v p1_1)])] H (fun v H => ∃ (r0 : Int) , v = (.int .i64 r0) ∧ Q r0 H) := by
  unfold F40 at h
  refine Good.enter' (fn := Tryd.f40) Tryd.func40 rfl rfl rfl ?_
  refine HW.seq ?_
  refine HW.region ?_
  refine HList.ops' rfl (HOp.box (v := (.agg #[(.string p1_0), (Sl.v p1_1)])) rfl) ?_
  rintro _ H1 ⟨rfl, e2⟩
  replace h := h H1 e2
  refine HList.vals (v := (.int .i64 0)) rfl (HVal.assign' rfl) ?_
  refine HList.nil ?_
  refine nt ?_
  refine HW.seq ?_
  refine HW.region ?_
  obtain ⟨x4, x5, c3, h⟩ := h
  refine HList.vals (v := (.agg #[(.string x4), (Sl.v x5)])) rfl (HVal.loadN [(.string x4), (Sl.v x5)] Tryd.isAgg27 Tryd.sizeOf27 rfl c3) ?_
  refine HList.ops' rfl (HOp.call' 68 [(.agg #[(.string x4), (Sl.v x5)])] (cap := []) rfl rfl Tryd.call68 (walk68 h)) ?_
  rintro _ H6 ⟨r8, rfl, h⟩
  refine HList.vals (v := (.int .i64 r8)) rfl (HVal.assign' rfl) ?_
  refine HList.nil ?_
  refine nt ?_
  refine HW.seq ?_
  refine HW.seq ?_
  refine HW.region ?_
  refine HList.vals (v := (.int .i64 r8)) rfl (HVal.move' rfl) ?_
  refine HList.vals (v := (.bool (decide (r8 ≠ 0)))) rfl (HVal.neqI rfl rfl) ?_
  refine HList.nil ?_
  refine nt ?_
  obtain ⟨hT, hF⟩ := h
  refine HW.cond (decide (r8 ≠ 0)) rfl (fun hb9 => ?_) (fun hb9 => ?_)
  · have h := hT hb9
    clear hT hF
    refine HW.seq ?_
    refine HW.region ?_
    refine HList.vals (v := (.int .i64 r8)) rfl (HVal.move' rfl) ?_
    refine HList.vals (v := (.int .i64 r8)) rfl (HVal.assign' rfl) ?_
    refine HList.nil ?_
    refine nt ?_
    refine HW.ret ?_
    refine tr ?_
    exact ⟨_, resOf1 rfl Res1.t, ⟨r8, rfl, h⟩⟩
  · have h := hF hb9
    clear hT hF
    refine HW.skip ?_
    refine nt ?_
    refine HW.seq ?_
    refine HW.seq ?_
    refine HW.region ?_
    refine HList.vals (v := (.pointer p0)) rfl (HVal.move' rfl) ?_
    refine HList.vals (v := (.pointer (some ⟨H.size, 0, none⟩))) rfl (HVal.fieldAddr0 Tryd.runUnderlying27 rfl rfl Tryd.sizeOf9 rfl) ?_
    obtain ⟨x11, c10, h⟩ := h
    refine HList.vals (v := (.string x11)) rfl (HVal.load1 Tryd.isAgg9 rfl c10) ?_
    refine HList.ops' rfl (HOp.call' 69 [(.pointer p0), (.string x11)] (cap := []) rfl rfl Tryd.call69 (walk69 h)) ?_
    rintro _ H12 ⟨r14, rfl, h⟩
    refine HList.vals (v := (.bool (decide ((0 : Int) ≤ r14)))) rfl (HVal.geq rfl rfl) ?_
    refine HList.nil ?_
    refine nt ?_
    obtain ⟨hT, hF⟩ := h
    refine HW.cond (decide ((0 : Int) ≤ r14)) rfl (fun hb15 => ?_) (fun hb15 => ?_)
    · have h := hT hb15
      clear hT hF
      refine HW.seq ?_
      refine HW.region ?_
      refine HList.vals (v := (.int .i64 5)) rfl (HVal.assign' rfl) ?_
      refine HList.nil ?_
      refine nt ?_
      refine HW.ret ?_
      refine tr ?_
      exact ⟨_, resOf1 rfl Res1.t, ⟨5, rfl, h⟩⟩
    · have h := hF hb15
      clear hT hF
      refine HW.skip ?_
      refine nt ?_
      refine HW.seq ?_
      refine HW.seq ?_
      refine HW.region ?_
      refine HList.vals (v := (.pointer p0)) rfl (HVal.move' rfl) ?_
      obtain ⟨a16, e17, h⟩ := h
      refine HList.vals (v := (.pointer (some a16))) rfl (HVal.nilCheck (congrArg Value.pointer e17)) ?_
      refine HList.vals (v := (.pointer (some a16))) rfl (HVal.fieldAddr0 Tryd.runUnderlying118 rfl rfl Tryd.sizeOf54 rfl) ?_
      obtain ⟨x19, c18, h⟩ := h
      refine HList.vals (v := (Sl.v x19)) rfl (HVal.load1 Tryd.isAgg54 rfl c18) ?_
      refine HList.vals (v := (.int .i64 ((x19).n : Int))) rfl (HVal.len Tryd.runUnderlying54 rfl) ?_
      refine HList.vals (v := (.bool (decide ((64 : Int) ≤ ((x19).n : Int))))) rfl (HVal.geq rfl rfl) ?_
      refine HList.nil ?_
      refine nt ?_
      obtain ⟨hT, hF⟩ := h
      refine HW.cond (decide ((64 : Int) ≤ ((x19).n : Int))) rfl (fun hb20 => ?_) (fun hb20 => ?_)
      · have h := hT hb20
        clear hT hF
        refine HW.seq ?_
        refine HW.region ?_
        refine HList.vals (v := (.int .i64 4)) rfl (HVal.assign' rfl) ?_
        refine HList.nil ?_
        refine nt ?_
        refine HW.ret ?_
        refine tr ?_
        exact ⟨_, resOf1 rfl Res1.t, ⟨4, rfl, h⟩⟩
      · have h := hF hb20
        clear hT hF
        refine HW.skip ?_
        refine nt ?_
        refine HW.seq ?_
        refine HW.draw mixed [(0, some []), (1, some []), (2, some []), (3, some []), (4, some [8, 11]), (5, some [6, 11]), (6, none), (7, none), (8, none), (9, some []), (10, some []), (11, none)] rfl (by kernel_rfl) (by kernel_rfl) ?_
        refine HPlan.takev (v := (.pointer p0)) rfl rfl (fun _ => HVal.move' rfl) ?_
        refine HPlan.takev (v := (.pointer p0)) rfl rfl (fun _ => HVal.move' rfl) ?_
        obtain ⟨a21, e22, h⟩ := h
        refine HPlan.takev (v := (.pointer (some a21))) rfl rfl (fun _ => HVal.nilCheck (congrArg Value.pointer e22)) ?_
        refine HPlan.takev (v := (.pointer (some a21))) rfl rfl (fun _ => HVal.fieldAddr0 Tryd.runUnderlying118 rfl rfl Tryd.sizeOf54 rfl) ?_
        obtain ⟨x24, c23, h⟩ := h
        refine HPlan.takel (v := (Sl.v x24)) (fun X => cell X a21 = some (Sl.v x24)) rfl rfl (fun _ hX => HVal.load1 Tryd.isAgg54 rfl hX) c23 ?_
        obtain ⟨x26, x27, c25, h⟩ := h
        refine HPlan.takel (v := (.agg #[(.string x26), (Sl.v x27)])) (fun X => cells X ⟨H.size, 0, none⟩ [(.string x26), (Sl.v x27)] 0) rfl rfl (fun _ hX => HVal.loadN [(.string x26), (Sl.v x27)] Tryd.isAgg27 Tryd.sizeOf27 rfl hX) c25 ?_
        refine HPlan.ops' rfl rfl (HOp.call' 70 [(.agg #[(.string x26), (Sl.v x27)])] (cap := []) rfl rfl Tryd.call70 (walk70 h)) ?_
        rintro _ H28 ⟨r30, r31, rfl, h⟩
        obtain ⟨s32, h⟩ := h
        refine ⟨SC_of ⟨fun e => absurd e (by decide), fun _ => s32, trivial⟩, ?_⟩
        refine HPlan.ops' rfl rfl (HOp.buildSlice' (zs := [(.string (ByteArray.mk #[])), (Sl.v Sl.nil)]) (cs := [(.string r30), (Sl.v r31)]) Tryd.runUnderlying54 Tryd.sizeOf27 Tryd.zeroValue27 (by decide) (by kernel_rfl) rfl (by decide)) ?_
        rintro _ H33 ⟨rfl, e34⟩
        replace h := h H33 e34
        obtain ⟨s35, h⟩ := h
        refine ⟨SC_of ⟨fun e => absurd e (by decide), fun _ => s35, trivial⟩, ?_⟩
        refine HPlan.ops' rfl rfl (HOp.append (k := 2) (b := 40) Tryd.runUnderlying54 Tryd.runUnderlying54 Tryd.typeInfo27 rfl rfl Tryd.zeroValue27 rfl rfl h) ?_
        rintro _ H36 ⟨r38, rfl, h⟩
        refine ⟨SC_of ⟨fun e => absurd e (by decide), fun e => absurd e (by decide), trivial⟩, ?_⟩
        obtain ⟨a39, e40, h⟩ := h
        refine HPlan.takev (v := (.pointer (some a39))) rfl rfl (fun _ => HVal.nilCheck (congrArg Value.pointer e40)) ?_
        refine HPlan.takev (v := (.pointer (some a39))) rfl rfl (fun _ => HVal.fieldAddr0 Tryd.runUnderlying118 rfl rfl Tryd.sizeOf54 rfl) ?_
        obtain ⟨z43, z44, h⟩ := h
        refine HPlan.opsn rfl (HOp.store1 Tryd.sizeOf54 rfl rfl rfl z43 z44) ?_
        rintro _ H41 e42
        replace h := h H41 e42
        refine ⟨SC_of ⟨fun e => absurd e (by decide), fun e => absurd e (by decide), trivial⟩, ?_⟩
        refine HPlan.done ?_
        refine nt ?_
        refine HW.seq ?_
        refine HW.region ?_
        refine HList.vals (v := (.int .i64 0)) rfl (HVal.assign' rfl) ?_
        refine HList.nil ?_
        refine nt ?_
        refine HW.ret ?_
        exact ⟨_, resOf1 rfl Res1.t, ⟨0, rfl, h⟩⟩

def F41_1 (Q : Bool → Hp → Prop) (y68 : Bool) (H_1 : Hp) : Prop :=
Q y68 H_1
def F41_4 (Q : Bool → Hp → Prop) (X2 : Bool → Int → Hp → Prop) (y37 : (Option Addr)) (y38 : Addr) (y39 : Int) (y56 : Bool) (H_4 : Hp) : Prop :=
∃ a57 : Addr, y37 = some a57 ∧ (
 ∃ x60 : Sl, cell H_4 a57 = some (Sl.v x60) ∧ (
 ∃ a61 : Addr, (x60).b = some a61 ∧ (0 : Int) ≤ y39 ∧ y39 < ((x60).n : Int) ∧ (
 mayw H_4 (Addr.add a61 (y39.toNat * 2)) 2 0 ∧ ∀ H65 : Hp, H65 = sets H_4 (Addr.add a61 (y39.toNat * 2)) [(.string S_kept), (.int .i64 0)] 0 → (
 X2 y56 (IntKind.i64.wrap (y39 + 1)) H65))))
def F41_3 (Q : Bool → Hp → Prop) (X2 : Bool → Int → Hp → Prop) (y17 : (Option Addr)) (y18 : Addr) (y19 : Bool) (y20 : Int) (y21 : Addr) (H_3 : Hp) : Prop :=
(y19 = true → (∃ a42 : Addr, y17 = some a42 ∧ (
 ∃ x45 : Sl, cell H_3 a42 = some (Sl.v x45) ∧ (
 ∃ a46 : Addr, (x45).b = some a46 ∧ (0 : Int) ≤ y20 ∧ y20 < ((x45).n : Int) ∧ (
 ∃ (x51 : ByteArray) (x52 : Int), cells H_3 (Addr.add a46 (y20.toNat * 2)) [(.string x51), (.int .i64 x52)] 0 ∧ (
 ∃ (x54 : ByteArray) (x55 : Int), cells H_3 y21 [(.string x54), (.int .i64 x55)] 0 ∧ (
 F41_4 Q X2 y17 y18 y20 (seq x51 x54 && decide (x52 = x55)) H_3))))))) ∧
 (y19 = false → (F41_4 Q X2 y17 y18 y20 false H_3))
def F41_L2b (Q : Bool → Hp → Prop) (X2 : Bool → Int → Hp → Prop) (y5 : (Option Addr)) (y6 : Addr) (y3 : Bool) (y4 : Int) (H_2 : Hp) : Prop :=
∃ a7 : Addr, y5 = some a7 ∧ (
 ∃ x10 : Sl, cell H_2 a7 = some (Sl.v x10) ∧ (
 ((decide (y4 < ((x10).n : Int))) = true → (∀ H12 : Hp, H12 = Array.push H_2 (.cells #[(.string (ByteArray.mk #[])), (.int .i64 0)] 38) → (
 mayw H12 ⟨H_2.size, 0, none⟩ 2 0 ∧ ∀ H14 : Hp, H14 = sets H12 ⟨H_2.size, 0, none⟩ [(.string (ByteArray.mk #[])), (.int .i64 (IntKind.i64.wrap (77 + y4)))] 0 → (
 ∃ x23 : Sl, cell H14 (Addr.add y6 1) = some (Sl.v x23) ∧ (
 ((decide (y4 < ((x23).n : Int))) = true → (∃ x26 : Sl, cell H14 (Addr.add y6 1) = some (Sl.v x26) ∧ (
 ∃ a27 : Addr, (x26).b = some a27 ∧ (0 : Int) ≤ y4 ∧ y4 < ((x26).n : Int) ∧ (
 ∃ (x32 : ByteArray) (x33 : Int), cells H14 (Addr.add a27 (y4.toNat * 2)) [(.string x32), (.int .i64 x33)] 0 ∧ (
 mayw H14 ⟨H_2.size, 0, none⟩ 2 0 ∧ ∀ H34 : Hp, H34 = sets H14 ⟨H_2.size, 0, none⟩ [(.string x32), (.int .i64 x33)] 0 → (
 F41_3 Q X2 y5 y6 y3 y4 ⟨H_2.size, 0, none⟩ H34)))))) ∧
 ((decide (y4 < ((x23).n : Int))) = false → (F41_3 Q X2 y5 y6 y3 y4 ⟨H_2.size, 0, none⟩ H14))))))) ∧
 ((decide (y4 < ((x10).n : Int))) = false → (F41_1 Q y3 H_2))))
def F41_L2 (Q : Bool → Hp → Prop) (y5 : (Option Addr)) (y6 : Addr) (y3 : Bool) (y4 : Int) (H_2 : Hp) : Prop :=
  ∀ X2 : Bool → Int → Hp → Prop, (∀ (y3 : Bool) (y4 : Int) (H_2 : Hp), F41_L2b Q X2 y5 y6 y3 y4 H_2 → X2 y3 y4 H_2) → X2 y3 y4 H_2
def F41 (p0 : (Option Addr)) (p1_0 : ByteArray) (p1_1 : Sl) (H : Hp) (Q : Bool → Hp → Prop) : Prop :=
∀ H1 : Hp, H1 = Array.push H (.cells #[(.string p1_0), (Sl.v p1_1)] 27) → (
 F41_L2 Q p0 ⟨H.size, 0, none⟩ true 0 H1)
set_option maxRecDepth 100000 in
set_option maxHeartbeats 4000000 in
theorem walk41 {w0 : World} {p0 : (Option Addr)} {p1_0 : ByteArray} {p1_1 : Sl} {H : Hp} {Q : Bool → Hp → Prop} (h : F41 p0 p1_0 p1_1 H Q) :
    Good Tryd.prog w0 41 #[(.pointer p0), (.agg #[(.string p1_0), (Sl.v p1_1)])] H (fun v H => ∃ (r0 : Bool) , v = (.bool r0) ∧ Q r0 H) := by
  unfold F41 at h
  refine Good.enter' (fn := Tryd.f41) Tryd.func41 rfl rfl rfl ?_
  refine HW.seq ?_
  refine HW.region ?_
  refine HList.ops' rfl (HOp.box (v := (.agg #[(.string p1_0), (Sl.v p1_1)])) rfl) ?_
  rintro _ H1 ⟨rfl, e2⟩
  replace h := h H1 e2
  refine HList.vals (v := (.bool false)) rfl (HVal.assign' rfl) ?_
  refine HList.nil ?_
  refine nt ?_
  refine HW.seq ?_
  refine HW.region ?_
  refine HList.vals (v := (.bool true)) rfl (HVal.assign' rfl) ?_
  refine HList.nil ?_
  refine nt ?_
  refine HW.cut (fun ρ H_1 => ∃ (y68 : Bool), Env.Is ρ [(5, (.bool y68))] ∧ F41_1 Q y68 H_1) ?_ ?_
  · refine HW.seq ?_
    refine HW.region ?_
    refine HList.vals (v := (.int .i64 0)) rfl (HVal.assign' rfl) ?_
    refine HList.nil ?_
    refine nt ?_
    refine HW.block ?_
    refine HW.loop' (fun L2 hL2 => ?_)
    obtain ⟨X2, hX2⟩ : ∃ X2 : Bool → Int → Hp → Prop, ∀ (y3 : Bool) (y4 : Int) (H_2 : Hp), X2 y3 y4 H_2 ↔ ∀ ρ, Env.Is ρ [(0, (.pointer p0)), (3, (.pointer (some ⟨H.size, 0, none⟩))), (5, (.bool y3)), (6, (.int .i64 y4))] → L2 ρ H_2 := ⟨_, fun _ _ _ => Iff.rfl⟩
    refine (hX2 _ _ _).1 (h X2 ?_) _ ?_
    rotate_left
    · exact ⟨rfl, rfl, rfl, rfl, trivial⟩
    clear h
    intro y3 y4 H_2 h
    refine (hX2 _ _ _).2 fun ρ hI => ?_
    obtain ⟨ρ0, rfl⟩ : ∃ ρ0, ρ = (Env.set (Env.set (Env.set (Env.set ρ0 6 (.int .i64 y4)) 5 (.bool y3)) 3 (.pointer (some ⟨H.size, 0, none⟩))) 0 (.pointer p0)) := ⟨ρ, hI.eq⟩
    clear hI; unfold F41_L2b at h; refine hL2 _ _ ?_
    refine HW.seq ?_
    refine HW.seq ?_
    refine HW.region ?_
    refine HList.vals (v := (.int .i64 y4)) rfl (HVal.move' rfl) ?_
    refine HList.vals (v := (.pointer p0)) rfl (HVal.move' rfl) ?_
    obtain ⟨a7, e8, h⟩ := h
    refine HList.vals (v := (.pointer (some a7))) rfl (HVal.nilCheck (congrArg Value.pointer e8)) ?_
    refine HList.vals (v := (.pointer (some a7))) rfl (HVal.fieldAddr0 Tryd.runUnderlying60 rfl rfl Tryd.sizeOf25 rfl) ?_
    obtain ⟨x10, c9, h⟩ := h
    refine HList.vals (v := (Sl.v x10)) rfl (HVal.load1 Tryd.isAgg25 rfl c9) ?_
    refine HList.vals (v := (.int .i64 ((x10).n : Int))) rfl (HVal.len Tryd.runUnderlying25 rfl) ?_
    refine HList.vals (v := (.bool (decide (y4 < ((x10).n : Int))))) rfl (HVal.lss rfl rfl) ?_
    refine HList.nil ?_
    refine nt ?_
    obtain ⟨hT, hF⟩ := h
    refine HW.cond (decide (y4 < ((x10).n : Int))) rfl (fun hb11 => ?_) (fun hb11 => ?_)
    · have h := hT hb11
      clear hT hF
      refine HW.skip ?_
      refine nt ?_
      refine HW.seq ?_
      refine HW.block ?_
      refine HW.seq ?_
      refine HW.region ?_
      refine HList.vals (v := (.int .i64 y4)) rfl (HVal.move' rfl) ?_
      refine HList.vals (v := (.int .i64 (IntKind.i64.wrap (77 + y4)))) rfl (HVal.add rfl rfl) ?_
      refine HList.vals (v := (.agg #[(.string (ByteArray.mk #[])), (.int .i64 (IntKind.i64.wrap (77 + y4)))])) rfl (HVal.build' (cs := [(.string (ByteArray.mk #[])), (.int .i64 (IntKind.i64.wrap (77 + y4)))]) Tryd.runUnderlying38 Tryd.zeroValue38 places38 rfl) ?_
      refine HList.ops' rfl (HOp.alloc Tryd.zeroValue38) ?_
      rintro _ H12 ⟨rfl, e13⟩
      replace h := h H12 e13
      obtain ⟨z16, h⟩ := h
      refine HList.opsn (HOp.storeN' (l := [(.string (ByteArray.mk #[])), (.int .i64 (IntKind.i64.wrap (77 + y4)))]) Tryd.sizeOf38 rfl rfl rfl z16) ?_
      rintro _ H14 e15
      replace h := h H14 e15
      refine HList.nil ?_
      refine nt ?_
      refine HW.cut (fun ρ H_3 => Env.Is ρ [(0, (.pointer p0)), (3, (.pointer (some ⟨H.size, 0, none⟩))), (5, (.bool y3)), (6, (.int .i64 y4)), (7, (.pointer (some ⟨H_2.size, 0, none⟩)))] ∧ F41_3 Q X2 p0 ⟨H.size, 0, none⟩ y3 y4 ⟨H_2.size, 0, none⟩ H_3) ?_ ?_
      · refine HW.seq ?_
        refine HW.region ?_
        refine HList.vals (v := (.int .i64 y4)) rfl (HVal.move' rfl) ?_
        refine HList.vals (v := (.pointer (some (Addr.add ⟨H.size, 0, none⟩ 1)))) rfl (HVal.fieldAddr' Tryd.runUnderlying27 rfl rfl Tryd.sizeOf25 rfl) ?_
        obtain ⟨x23, c22, h⟩ := h
        refine HList.vals (v := (Sl.v x23)) rfl (HVal.load1 Tryd.isAgg25 rfl c22) ?_
        refine HList.vals (v := (.int .i64 ((x23).n : Int))) rfl (HVal.len Tryd.runUnderlying25 rfl) ?_
        refine HList.vals (v := (.bool (decide (y4 < ((x23).n : Int))))) rfl (HVal.lss rfl rfl) ?_
        refine HList.nil ?_
        refine nt ?_
        obtain ⟨hT, hF⟩ := h
        refine HW.cond (decide (y4 < ((x23).n : Int))) rfl (fun hb24 => ?_) (fun hb24 => ?_)
        · have h := hT hb24
          clear hT hF
          refine HW.region ?_
          refine HList.vals (v := (.pointer (some (Addr.add ⟨H.size, 0, none⟩ 1)))) rfl (HVal.fieldAddr' Tryd.runUnderlying27 rfl rfl Tryd.sizeOf25 rfl) ?_
          obtain ⟨x26, c25, h⟩ := h
          refine HList.vals (v := (Sl.v x26)) rfl (HVal.load1 Tryd.isAgg25 rfl c25) ?_
          refine HList.vals (v := (.int .i64 y4)) rfl (HVal.move' rfl) ?_
          obtain ⟨a27, e28, b29, b30, h⟩ := h
          refine HList.vals (v := (.pointer (some (Addr.add a27 (y4.toNat * 2))))) rfl (HVal.indexAddr Tryd.runUnderlying25 Tryd.sizeOf38 (Sl.v_some rfl e28) rfl b29 b30) ?_
          obtain ⟨x32, x33, c31, h⟩ := h
          refine HList.vals (v := (.agg #[(.string x32), (.int .i64 x33)])) rfl (HVal.loadN [(.string x32), (.int .i64 x33)] Tryd.isAgg38 Tryd.sizeOf38 rfl c31) ?_
          obtain ⟨z36, h⟩ := h
          refine HList.opsn (HOp.storeN' (l := [(.string x32), (.int .i64 x33)]) Tryd.sizeOf38 rfl rfl rfl z36) ?_
          rintro _ H34 e35
          replace h := h H34 e35
          refine HList.nil ?_
          refine nt ?_
          exact ⟨⟨rfl, rfl, rfl, rfl, rfl, trivial⟩, h⟩
        · have h := hF hb24
          clear hT hF
          refine HW.skip ?_
          refine nt ?_
          exact ⟨⟨rfl, rfl, rfl, rfl, rfl, trivial⟩, h⟩
      · rintro ρ H_3 ⟨hI, h⟩
        obtain ⟨ρ0, rfl⟩ : ∃ ρ0, ρ = (Env.set (Env.set (Env.set (Env.set (Env.set ρ0 7 (.pointer (some ⟨H_2.size, 0, none⟩))) 6 (.int .i64 y4)) 5 (.bool y3)) 3 (.pointer (some ⟨H.size, 0, none⟩))) 0 (.pointer p0)) := ⟨ρ, hI.eq⟩
        clear hI; unfold F41_3 at h
        refine HW.cut (fun ρ H_4 => ∃ (y56 : Bool), Env.Is ρ [(0, (.pointer p0)), (3, (.pointer (some ⟨H.size, 0, none⟩))), (6, (.int .i64 y4)), (5, (.bool y56))] ∧ F41_4 Q X2 p0 ⟨H.size, 0, none⟩ y4 y56 H_4) ?_ ?_
        · refine HW.draw mixed [(0, some []), (1, some []), (2, some []), (3, some []), (4, some []), (5, some []), (6, some []), (7, some []), (8, some []), (9, some []), (10, some []), (11, some []), (12, some [])] rfl (by kernel_rfl) (by kernel_rfl) ?_
          refine HPlan.takev (v := (.bool y3)) rfl rfl (fun _ => HVal.move' rfl) ?_
          refine HPlan.takev (v := (.bool y3)) rfl rfl (fun _ => HVal.move' rfl) ?_
          obtain ⟨hT, hF⟩ := h
          rcases Bool.eq_false_or_eq_true y3 with hb40 | hb41
          · have h := hT hb40
            clear hT hF
            refine HPlan.gtakev (v := (.pointer p0)) rfl rfl rfl rfl rfl (congrArg Value.bool hb40) (fun _ => HVal.move' rfl) ?_
            obtain ⟨a42, e43, h⟩ := h
            refine HPlan.gtakev (v := (.pointer (some a42))) rfl rfl rfl rfl rfl (congrArg Value.bool hb40) (fun _ => HVal.nilCheck (congrArg Value.pointer e43)) ?_
            refine HPlan.gtakev (v := (.pointer (some a42))) rfl rfl rfl rfl rfl (congrArg Value.bool hb40) (fun _ => HVal.fieldAddr0 Tryd.runUnderlying60 rfl rfl Tryd.sizeOf25 rfl) ?_
            obtain ⟨x45, c44, h⟩ := h
            refine HPlan.gtakel (v := (Sl.v x45)) (fun X => cell X a42 = some (Sl.v x45)) rfl rfl rfl rfl rfl (congrArg Value.bool hb40) (fun _ hX => HVal.load1 Tryd.isAgg25 rfl hX) c44 ?_
            refine HPlan.gtakev (v := (.int .i64 y4)) rfl rfl rfl rfl rfl (congrArg Value.bool hb40) (fun _ => HVal.move' rfl) ?_
            obtain ⟨a46, e47, b48, b49, h⟩ := h
            refine HPlan.gtakev (v := (.pointer (some (Addr.add a46 (y4.toNat * 2))))) rfl rfl rfl rfl rfl (congrArg Value.bool hb40) (fun _ => HVal.indexAddr Tryd.runUnderlying25 Tryd.sizeOf38 (Sl.v_some rfl e47) rfl b48 b49) ?_
            obtain ⟨x51, x52, c50, h⟩ := h
            refine HPlan.gtakel (v := (.agg #[(.string x51), (.int .i64 x52)])) (fun X => cells X (Addr.add a46 (y4.toNat * 2)) [(.string x51), (.int .i64 x52)] 0) rfl rfl rfl rfl rfl (congrArg Value.bool hb40) (fun _ hX => HVal.loadN [(.string x51), (.int .i64 x52)] Tryd.isAgg38 Tryd.sizeOf38 rfl hX) c50 ?_
            obtain ⟨x54, x55, c53, h⟩ := h
            refine HPlan.gtakel (v := (.agg #[(.string x54), (.int .i64 x55)])) (fun X => cells X ⟨H_2.size, 0, none⟩ [(.string x54), (.int .i64 x55)] 0) rfl rfl rfl rfl rfl (congrArg Value.bool hb40) (fun _ hX => HVal.loadN [(.string x54), (.int .i64 x55)] Tryd.isAgg38 Tryd.sizeOf38 rfl hX) c53 ?_
            refine HPlan.gtakev (v := (.bool (seq x51 x54 && decide (x52 = x55)))) rfl rfl rfl rfl rfl (congrArg Value.bool hb40) (fun _ => eqs38_eql rfl rfl) ?_
            refine HPlan.takev (v := (.bool (seq x51 x54 && decide (x52 = x55)))) rfl rfl (fun _ => HVal.pickT rfl hb40 rfl) ?_
            refine HPlan.takev (v := (.bool (seq x51 x54 && decide (x52 = x55)))) rfl rfl (fun _ => HVal.assign' rfl) ?_
            refine HPlan.done ?_
            refine nt ?_
            exact ⟨(seq x51 x54 && decide (x52 = x55)), ⟨rfl, rfl, rfl, rfl, trivial⟩, h⟩
          · have h := hF hb41
            clear hT hF
            refine HPlan.takegskip rfl rfl rfl rfl (congrArg Value.bool hb41) ?_
            refine HPlan.takegskip rfl rfl rfl rfl (congrArg Value.bool hb41) ?_
            refine HPlan.takegskip rfl rfl rfl rfl (congrArg Value.bool hb41) ?_
            refine HPlan.takegskip rfl rfl rfl rfl (congrArg Value.bool hb41) ?_
            refine HPlan.takegskip rfl rfl rfl rfl (congrArg Value.bool hb41) ?_
            refine HPlan.takegskip rfl rfl rfl rfl (congrArg Value.bool hb41) ?_
            refine HPlan.takegskip rfl rfl rfl rfl (congrArg Value.bool hb41) ?_
            refine HPlan.takegskip rfl rfl rfl rfl (congrArg Value.bool hb41) ?_
            refine HPlan.takegskip rfl rfl rfl rfl (congrArg Value.bool hb41) ?_
            refine HPlan.takev (v := (.bool false)) rfl rfl (fun _ => HVal.pickF rfl hb41 rfl) ?_
            refine HPlan.takev (v := (.bool false)) rfl rfl (fun _ => HVal.assign' rfl) ?_
            refine HPlan.done ?_
            refine nt ?_
            exact ⟨false, ⟨rfl, rfl, rfl, rfl, trivial⟩, h⟩
        · rintro ρ H_4 ⟨y56, hI, h⟩
          obtain ⟨ρ0, rfl⟩ : ∃ ρ0, ρ = (Env.set (Env.set (Env.set (Env.set ρ0 5 (.bool y56)) 6 (.int .i64 y4)) 3 (.pointer (some ⟨H.size, 0, none⟩))) 0 (.pointer p0)) := ⟨ρ, hI.eq⟩
          clear hI; unfold F41_4 at h
          refine HW.region ?_
          refine HList.vals (v := (.pointer p0)) rfl (HVal.move' rfl) ?_
          obtain ⟨a57, e58, h⟩ := h
          refine HList.vals (v := (.pointer (some a57))) rfl (HVal.nilCheck (congrArg Value.pointer e58)) ?_
          refine HList.vals (v := (.pointer (some a57))) rfl (HVal.fieldAddr0 Tryd.runUnderlying60 rfl rfl Tryd.sizeOf25 rfl) ?_
          obtain ⟨x60, c59, h⟩ := h
          refine HList.vals (v := (Sl.v x60)) rfl (HVal.load1 Tryd.isAgg25 rfl c59) ?_
          refine HList.vals (v := (.int .i64 y4)) rfl (HVal.move' rfl) ?_
          refine HList.vals (v := (.agg #[(.string S_kept), (.int .i64 0)])) rfl (HVal.build' (cs := [(.string S_kept), (.int .i64 0)]) Tryd.runUnderlying38 Tryd.zeroValue38 places38 rfl) ?_
          obtain ⟨a61, e62, b63, b64, h⟩ := h
          refine HList.vals (v := (.pointer (some (Addr.add a61 (y4.toNat * 2))))) rfl (HVal.indexAddr Tryd.runUnderlying25 Tryd.sizeOf38 (Sl.v_some rfl e62) rfl b63 b64) ?_
          obtain ⟨z67, h⟩ := h
          refine HList.opsn (HOp.storeN' (l := [(.string S_kept), (.int .i64 0)]) Tryd.sizeOf38 rfl rfl rfl z67) ?_
          rintro _ H65 e66
          replace h := h H65 e66
          refine HList.nil ?_
          refine nb ?_
          refine nt ?_
          refine HW.region ?_
          refine HList.vals (v := (.int .i64 y4)) rfl (HVal.move' rfl) ?_
          refine HList.vals (v := (.int .i64 (IntKind.i64.wrap (y4 + 1)))) rfl (HVal.add rfl rfl) ?_
          refine HList.vals (v := (.int .i64 (IntKind.i64.wrap (y4 + 1)))) rfl (HVal.assign' rfl) ?_
          refine HList.nil ?_
          refine nt ?_
          exact (hX2 _ _ _).1 h _ ⟨rfl, rfl, rfl, rfl, trivial⟩
    · have h := hF hb11
      clear hT hF
      refine HW.exit ?_
      refine te ?_
      refine te ?_
      refine be ?_
      refine nt ?_
      exact ⟨y3, ⟨rfl, trivial⟩, h⟩
  · rintro ρ H_1 ⟨y68, hI, h⟩
    obtain ⟨ρ0, rfl⟩ : ∃ ρ0, ρ = (Env.set ρ0 5 (.bool y68)) := ⟨ρ, hI.eq⟩
    clear hI; unfold F41_1 at h
    refine HW.seq ?_
    refine HW.region ?_
    refine HList.vals (v := (.bool y68)) rfl (HVal.move' rfl) ?_
    refine HList.vals (v := (.bool y68)) rfl (HVal.assign' rfl) ?_
    refine HList.nil ?_
    refine nt ?_
    refine HW.ret ?_
    exact ⟨_, resOf1 rfl Res1.t, ⟨y68, rfl, h⟩⟩

def F42 (p0 : (Option Addr)) (p1 : ByteArray) (H : Hp) (Q : ByteArray → Sl → Int → Hp → Prop) : Prop :=
∀ H1 : Hp, H1 = Array.push H (.cells #[(.string (ByteArray.mk #[])), (Sl.v Sl.nil)] 27) → (
 ∃ a3 : Addr, p0 = some a3 ∧ (
 ∃ x6 : (Option Nat), cell H1 a3 = some (.map x6) ∧ (
 ∃ (L7 : ML ByteArray (ByteArray × Sl)) (c8 : Nat), MapK mk9 mv27 Always H1 x6 L7 c8 p1 ∧ (
 ∀ H10 : Hp, H10 = Array.push H1 (.cells #[(.string (ByteArray.mk #[])), (Sl.v Sl.nil)] 27) → (
 mayw H10 ⟨H1.size, 0, none⟩ 2 0 ∧ ∀ H12 : Hp, H12 = sets H10 ⟨H1.size, 0, none⟩ [(.string ((mget L7 p1).getD ((ByteArray.mk #[]), Sl.nil)).1), (Sl.v ((mget L7 p1).getD ((ByteArray.mk #[]), Sl.nil)).2)] 0 → (
 ((!((mget L7 p1).isSome)) = true → (mayw H12 ⟨H.size, 0, none⟩ 2 0 ∧ ∀ H16 : Hp, H16 = sets H12 ⟨H.size, 0, none⟩ [(.string (ByteArray.mk #[])), (Sl.v Sl.nil)] 0 → (
 ∃ (x19 : ByteArray) (x20 : Sl), cells H16 ⟨H.size, 0, none⟩ [(.string x19), (Sl.v x20)] 0 ∧ (
 Q x19 x20 21 H16)))) ∧
 ((!((mget L7 p1).isSome)) = false → (∃ (x23 : ByteArray) (x24 : Sl), cells H12 ⟨H1.size, 0, none⟩ [(.string x23), (Sl.v x24)] 0 ∧ (
 F25 x23 x24 H12 (fun (r27 : ByteArray) (r28 : Sl) (H25 : Hp) => 
 mayw H25 ⟨H.size, 0, none⟩ 2 0 ∧ ∀ H29 : Hp, H29 = sets H25 ⟨H.size, 0, none⟩ [(.string r27), (Sl.v r28)] 0 → (
 ∃ (x32 : ByteArray) (x33 : Sl), cells H29 ⟨H.size, 0, none⟩ [(.string x32), (Sl.v x33)] 0 ∧ (
 Q x32 x33 0 H29))))))))))))
set_option maxRecDepth 100000 in
set_option maxHeartbeats 4000000 in
theorem walk42 {w0 : World} {p0 : (Option Addr)} {p1 : ByteArray} {H : Hp} {Q : ByteArray → Sl → Int → Hp → Prop} (h : F42 p0 p1 H Q) :
    Good Tryd.prog w0 42 #[(.pointer p0), (.string p1)] H (fun v H => ∃ (r0 : ByteArray) (r1 : Sl) (r2 : Int) , v = (.tuple #[(.agg #[(.string r0), (Sl.v r1)]), (.int .i64 r2)]) ∧ Q r0 r1 r2 H) := by
  unfold F42 at h
  refine Good.enter' (fn := Tryd.f42) Tryd.func42 rfl rfl rfl ?_
  refine HW.seq ?_
  refine HW.region ?_
  refine HList.ops' rfl (HOp.alloc Tryd.zeroValue27) ?_
  rintro _ H1 ⟨rfl, e2⟩
  replace h := h H1 e2
  refine HList.vals (v := (.int .i64 0)) rfl (HVal.assign' rfl) ?_
  refine HList.nil ?_
  refine nt ?_
  refine HW.seq ?_
  refine HW.region ?_
  refine HList.vals (v := (.pointer p0)) rfl (HVal.move' rfl) ?_
  obtain ⟨a3, e4, h⟩ := h
  refine HList.vals (v := (.pointer (some a3))) rfl (HVal.nilCheck (congrArg Value.pointer e4)) ?_
  refine HList.vals (v := (.pointer (some a3))) rfl (HVal.fieldAddr0 Tryd.runUnderlying72 rfl rfl Tryd.sizeOf70 rfl) ?_
  obtain ⟨x6, c5, h⟩ := h
  refine HList.vals (v := (.map x6)) rfl (HVal.load1 Tryd.isAgg70 rfl c5) ?_
  refine HList.vals (v := (.string p1)) rfl (HVal.move' rfl) ?_
  obtain ⟨L7, c8, c9, h⟩ := h
  refine HList.vals (v := (.tuple #[(.agg #[(.string ((mget L7 p1).getD ((ByteArray.mk #[]), Sl.nil)).1), (Sl.v ((mget L7 p1).getD ((ByteArray.mk #[]), Sl.nil)).2)]), (.bool ((mget L7 p1).isSome))])) rfl (HVal.lookupOk (f := mk9) (g := mv27) (k := p1) (z := ((ByteArray.mk #[]), Sl.nil)) Tryd.runUnderlying70 mkk9 Tryd.zeroValue27 rfl rfl c9) ?_
  refine HList.vals (v := (.tuple #[(.agg #[(.string ((mget L7 p1).getD ((ByteArray.mk #[]), Sl.nil)).1), (Sl.v ((mget L7 p1).getD ((ByteArray.mk #[]), Sl.nil)).2)]), (.bool ((mget L7 p1).isSome))])) rfl (HVal.move' rfl) ?_
  refine HList.vals (v := (.agg #[(.string ((mget L7 p1).getD ((ByteArray.mk #[]), Sl.nil)).1), (Sl.v ((mget L7 p1).getD ((ByteArray.mk #[]), Sl.nil)).2)])) rfl (HVal.extract rfl rfl) ?_
  refine HList.vals (v := (.bool ((mget L7 p1).isSome))) rfl (HVal.extract rfl rfl) ?_
  refine HList.ops' rfl (HOp.alloc Tryd.zeroValue27) ?_
  rintro _ H10 ⟨rfl, e11⟩
  replace h := h H10 e11
  obtain ⟨z14, h⟩ := h
  refine HList.opsn (HOp.storeN' (l := [(.string ((mget L7 p1).getD ((ByteArray.mk #[]), Sl.nil)).1), (Sl.v ((mget L7 p1).getD ((ByteArray.mk #[]), Sl.nil)).2)]) Tryd.sizeOf27 rfl rfl rfl z14) ?_
  rintro _ H12 e13
  replace h := h H12 e13
  refine HList.vals (v := (.bool ((mget L7 p1).isSome))) rfl (HVal.assign' rfl) ?_
  refine HList.nil ?_
  refine nt ?_
  refine HW.seq ?_
  refine HW.seq ?_
  refine HW.region ?_
  refine HList.vals (v := (.bool ((mget L7 p1).isSome))) rfl (HVal.move' rfl) ?_
  refine HList.vals (v := (.bool (!((mget L7 p1).isSome)))) rfl (HVal.not rfl) ?_
  refine HList.nil ?_
  refine nt ?_
  obtain ⟨hT, hF⟩ := h
  refine HW.cond (!((mget L7 p1).isSome)) rfl (fun hb15 => ?_) (fun hb15 => ?_)
  · have h := hT hb15
    clear hT hF
    refine HW.seq ?_
    refine HW.region ?_
    refine HList.vals (v := (.agg #[(.string (ByteArray.mk #[])), (Sl.v Sl.nil)])) rfl (HVal.build' (cs := [(.string (ByteArray.mk #[])), (Sl.v Sl.nil)]) Tryd.runUnderlying27 Tryd.zeroValue27 places27 rfl) ?_
    obtain ⟨z18, h⟩ := h
    refine HList.opsn (HOp.storeN' (l := [(.string (ByteArray.mk #[])), (Sl.v Sl.nil)]) Tryd.sizeOf27 rfl rfl rfl z18) ?_
    rintro _ H16 e17
    replace h := h H16 e17
    refine HList.vals (v := (.int .i64 21)) rfl (HVal.assign' rfl) ?_
    refine HList.nil ?_
    refine nt ?_
    refine HW.ret ?_
    refine tr ?_
    obtain ⟨x19, x20, c21, h⟩ := h
    exact ⟨_, resOf2 rfl (Res1.n [(.string x19), (Sl.v x20)] Tryd.isAgg27 Tryd.sizeOf27 rfl c21) Res1.t, ⟨x19, x20, 21, rfl, h⟩⟩
  · have h := hF hb15
    clear hT hF
    refine HW.skip ?_
    refine nt ?_
    refine HW.seq ?_
    refine HW.region ?_
    obtain ⟨x23, x24, c22, h⟩ := h
    refine HList.vals (v := (.agg #[(.string x23), (Sl.v x24)])) rfl (HVal.loadN [(.string x23), (Sl.v x24)] Tryd.isAgg27 Tryd.sizeOf27 rfl c22) ?_
    refine HList.ops' rfl (HOp.call' 25 [(.agg #[(.string x23), (Sl.v x24)])] (cap := []) rfl rfl Tryd.call25 (walk25 h)) ?_
    rintro _ H25 ⟨r27, r28, rfl, h⟩
    obtain ⟨z31, h⟩ := h
    refine HList.opsn (HOp.storeN' (l := [(.string r27), (Sl.v r28)]) Tryd.sizeOf27 rfl rfl rfl z31) ?_
    rintro _ H29 e30
    replace h := h H29 e30
    refine HList.vals (v := (.int .i64 0)) rfl (HVal.assign' rfl) ?_
    refine HList.nil ?_
    refine nt ?_
    refine HW.ret ?_
    obtain ⟨x32, x33, c34, h⟩ := h
    exact ⟨_, resOf2 rfl (Res1.n [(.string x32), (Sl.v x33)] Tryd.isAgg27 Tryd.sizeOf27 rfl c34) Res1.t, ⟨x32, x33, 0, rfl, h⟩⟩

def F43 (p0 : (Option Addr)) (p1 : ByteArray) (H : Hp) (Q : ByteArray → Sl → Int → Hp → Prop) : Prop :=
∀ H1 : Hp, H1 = Array.push H (.cells #[(.string (ByteArray.mk #[])), (Sl.v Sl.nil)] 27) → (
 F69 p0 p1 H1 (fun (r5 : Int) (H3 : Hp) => 
 ((decide (r5 < 0)) = true → (mayw H3 ⟨H.size, 0, none⟩ 2 0 ∧ ∀ H7 : Hp, H7 = sets H3 ⟨H.size, 0, none⟩ [(.string (ByteArray.mk #[])), (Sl.v Sl.nil)] 0 → (
 ∃ (x10 : ByteArray) (x11 : Sl), cells H7 ⟨H.size, 0, none⟩ [(.string x10), (Sl.v x11)] 0 ∧ (
 Q x10 x11 21 H7)))) ∧
 ((decide (r5 < 0)) = false → (∃ a13 : Addr, p0 = some a13 ∧ (
 ∃ x16 : Sl, cell H3 a13 = some (Sl.v x16) ∧ (
 ∃ a17 : Addr, (x16).b = some a17 ∧ (0 : Int) ≤ r5 ∧ r5 < ((x16).n : Int) ∧ (
 ∃ (x22 : ByteArray) (x23 : Sl), cells H3 (Addr.add a17 (r5.toNat * 2)) [(.string x22), (Sl.v x23)] 0 ∧ (
 F70 x22 x23 H3 (fun (r26 : ByteArray) (r27 : Sl) (H24 : Hp) => 
 mayw H24 ⟨H.size, 0, none⟩ 2 0 ∧ ∀ H28 : Hp, H28 = sets H24 ⟨H.size, 0, none⟩ [(.string r26), (Sl.v r27)] 0 → (
 ∃ (x31 : ByteArray) (x32 : Sl), cells H28 ⟨H.size, 0, none⟩ [(.string x31), (Sl.v x32)] 0 ∧ (
 Q x31 x32 0 H28)))))))))))
set_option maxRecDepth 100000 in
set_option maxHeartbeats 4000000 in
theorem walk43 {w0 : World} {p0 : (Option Addr)} {p1 : ByteArray} {H : Hp} {Q : ByteArray → Sl → Int → Hp → Prop} (h : F43 p0 p1 H Q) :
    Good Tryd.prog w0 43 #[(.pointer p0), (.string p1)] H (fun v H => ∃ (r0 : ByteArray) (r1 : Sl) (r2 : Int) , v = (.tuple #[(.agg #[(.string r0), (Sl.v r1)]), (.int .i64 r2)]) ∧ Q r0 r1 r2 H) := by
  unfold F43 at h
  refine Good.enter' (fn := Tryd.f43) Tryd.func43 rfl rfl rfl ?_
  refine HW.seq ?_
  refine HW.region ?_
  refine HList.ops' rfl (HOp.alloc Tryd.zeroValue27) ?_
  rintro _ H1 ⟨rfl, e2⟩
  replace h := h H1 e2
  refine HList.vals (v := (.int .i64 0)) rfl (HVal.assign' rfl) ?_
  refine HList.nil ?_
  refine nt ?_
  refine HW.seq ?_
  refine HW.region ?_
  refine HList.vals (v := (.pointer p0)) rfl (HVal.move' rfl) ?_
  refine HList.vals (v := (.string p1)) rfl (HVal.move' rfl) ?_
  refine HList.ops' rfl (HOp.call' 69 [(.pointer p0), (.string p1)] (cap := []) rfl rfl Tryd.call69 (walk69 h)) ?_
  rintro _ H3 ⟨r5, rfl, h⟩
  refine HList.vals (v := (.int .i64 r5)) rfl (HVal.assign' rfl) ?_
  refine HList.nil ?_
  refine nt ?_
  refine HW.seq ?_
  refine HW.seq ?_
  refine HW.region ?_
  refine HList.vals (v := (.int .i64 r5)) rfl (HVal.move' rfl) ?_
  refine HList.vals (v := (.bool (decide (r5 < 0)))) rfl (HVal.lss rfl rfl) ?_
  refine HList.nil ?_
  refine nt ?_
  obtain ⟨hT, hF⟩ := h
  refine HW.cond (decide (r5 < 0)) rfl (fun hb6 => ?_) (fun hb6 => ?_)
  · have h := hT hb6
    clear hT hF
    refine HW.seq ?_
    refine HW.region ?_
    refine HList.vals (v := (.agg #[(.string (ByteArray.mk #[])), (Sl.v Sl.nil)])) rfl (HVal.build' (cs := [(.string (ByteArray.mk #[])), (Sl.v Sl.nil)]) Tryd.runUnderlying27 Tryd.zeroValue27 places27 rfl) ?_
    obtain ⟨z9, h⟩ := h
    refine HList.opsn (HOp.storeN' (l := [(.string (ByteArray.mk #[])), (Sl.v Sl.nil)]) Tryd.sizeOf27 rfl rfl rfl z9) ?_
    rintro _ H7 e8
    replace h := h H7 e8
    refine HList.vals (v := (.int .i64 21)) rfl (HVal.assign' rfl) ?_
    refine HList.nil ?_
    refine nt ?_
    refine HW.ret ?_
    refine tr ?_
    obtain ⟨x10, x11, c12, h⟩ := h
    exact ⟨_, resOf2 rfl (Res1.n [(.string x10), (Sl.v x11)] Tryd.isAgg27 Tryd.sizeOf27 rfl c12) Res1.t, ⟨x10, x11, 21, rfl, h⟩⟩
  · have h := hF hb6
    clear hT hF
    refine HW.skip ?_
    refine nt ?_
    refine HW.seq ?_
    refine HW.region ?_
    refine HList.vals (v := (.pointer p0)) rfl (HVal.move' rfl) ?_
    obtain ⟨a13, e14, h⟩ := h
    refine HList.vals (v := (.pointer (some a13))) rfl (HVal.nilCheck (congrArg Value.pointer e14)) ?_
    refine HList.vals (v := (.pointer (some a13))) rfl (HVal.fieldAddr0 Tryd.runUnderlying118 rfl rfl Tryd.sizeOf54 rfl) ?_
    obtain ⟨x16, c15, h⟩ := h
    refine HList.vals (v := (Sl.v x16)) rfl (HVal.load1 Tryd.isAgg54 rfl c15) ?_
    refine HList.vals (v := (.int .i64 r5)) rfl (HVal.move' rfl) ?_
    obtain ⟨a17, e18, b19, b20, h⟩ := h
    refine HList.vals (v := (.pointer (some (Addr.add a17 (r5.toNat * 2))))) rfl (HVal.indexAddr Tryd.runUnderlying54 Tryd.sizeOf27 (Sl.v_some rfl e18) rfl b19 b20) ?_
    obtain ⟨x22, x23, c21, h⟩ := h
    refine HList.vals (v := (.agg #[(.string x22), (Sl.v x23)])) rfl (HVal.loadN [(.string x22), (Sl.v x23)] Tryd.isAgg27 Tryd.sizeOf27 rfl c21) ?_
    refine HList.ops' rfl (HOp.call' 70 [(.agg #[(.string x22), (Sl.v x23)])] (cap := []) rfl rfl Tryd.call70 (walk70 h)) ?_
    rintro _ H24 ⟨r26, r27, rfl, h⟩
    obtain ⟨z30, h⟩ := h
    refine HList.opsn (HOp.storeN' (l := [(.string r26), (Sl.v r27)]) Tryd.sizeOf27 rfl rfl rfl z30) ?_
    rintro _ H28 e29
    replace h := h H28 e29
    refine HList.vals (v := (.int .i64 0)) rfl (HVal.assign' rfl) ?_
    refine HList.nil ?_
    refine nt ?_
    refine HW.ret ?_
    obtain ⟨x31, x32, c33, h⟩ := h
    exact ⟨_, resOf2 rfl (Res1.n [(.string x31), (Sl.v x32)] Tryd.isAgg27 Tryd.sizeOf27 rfl c33) Res1.t, ⟨x31, x32, 0, rfl, h⟩⟩

def F44_L1b (Q : Bool → Hp → Prop) (X1 : Int → Hp → Prop) (y3 : Sl) (y4 : Sl) (y2 : Int) (H_1 : Hp) : Prop :=
((decide (y2 < ((y3).n : Int))) = true → (∃ a6 : Addr, (y3).b = some a6 ∧ (0 : Int) ≤ y2 ∧ y2 < ((y3).n : Int) ∧ (
 ∃ (x11 : ByteArray) (x12 : Sl), cells H_1 (Addr.add a6 (y2.toNat * 2)) [(.string x11), (Sl.v x12)] 0 ∧ (
 ∃ a13 : Addr, (y4).b = some a13 ∧ (0 : Int) ≤ y2 ∧ y2 < ((y4).n : Int) ∧ (
 ∃ (x18 : ByteArray) (x19 : Sl), cells H_1 (Addr.add a13 (y2.toNat * 2)) [(.string x18), (Sl.v x19)] 0 ∧ (
 F15 x11 x12 x18 x19 H_1 (fun (r22 : Bool) (H20 : Hp) => 
 ((!r22) = true → (Q false H20)) ∧
 ((!r22) = false → (X1 (IntKind.i64.wrap (y2 + 1)) H20))))))))) ∧
 ((decide (y2 < ((y3).n : Int))) = false → (Q true H_1))
def F44_L1 (Q : Bool → Hp → Prop) (y3 : Sl) (y4 : Sl) (y2 : Int) (H_1 : Hp) : Prop :=
  ∀ X1 : Int → Hp → Prop, (∀ (y2 : Int) (H_1 : Hp), F44_L1b Q X1 y3 y4 y2 H_1 → X1 y2 H_1) → X1 y2 H_1
def F44 (p0 : Sl) (p1 : Sl) (H : Hp) (Q : Bool → Hp → Prop) : Prop :=
((decide (((p0).n : Int) ≠ ((p1).n : Int))) = true → (Q false H)) ∧
 ((decide (((p0).n : Int) ≠ ((p1).n : Int))) = false → (F44_L1 Q p0 p1 0 H))
set_option maxRecDepth 100000 in
set_option maxHeartbeats 4000000 in
theorem walk44 {w0 : World} {p0 : Sl} {p1 : Sl} {H : Hp} {Q : Bool → Hp → Prop} (h : F44 p0 p1 H Q) :
    Good Tryd.prog w0 44 #[(Sl.v p0), (Sl.v p1)] H (fun v H => ∃ (r0 : Bool) , v = (.bool r0) ∧ Q r0 H) := by
  unfold F44 at h
  refine Good.enter' (fn := Tryd.f44) Tryd.func44 rfl rfl rfl ?_
  refine HW.seq ?_
  refine HW.region ?_
  refine HList.vals (v := (.bool false)) rfl (HVal.assign' rfl) ?_
  refine HList.nil ?_
  refine nt ?_
  refine HW.seq ?_
  refine HW.seq ?_
  refine HW.region ?_
  refine HList.vals (v := (Sl.v p0)) rfl (HVal.move' rfl) ?_
  refine HList.vals (v := (.int .i64 ((p0).n : Int))) rfl (HVal.len Tryd.runUnderlying54 rfl) ?_
  refine HList.vals (v := (Sl.v p1)) rfl (HVal.move' rfl) ?_
  refine HList.vals (v := (.int .i64 ((p1).n : Int))) rfl (HVal.len Tryd.runUnderlying54 rfl) ?_
  refine HList.vals (v := (.bool (decide (((p0).n : Int) ≠ ((p1).n : Int))))) rfl (HVal.neqI rfl rfl) ?_
  refine HList.nil ?_
  refine nt ?_
  obtain ⟨hT, hF⟩ := h
  refine HW.cond (decide (((p0).n : Int) ≠ ((p1).n : Int))) rfl (fun hb1 => ?_) (fun hb1 => ?_)
  · have h := hT hb1
    clear hT hF
    refine HW.seq ?_
    refine HW.region ?_
    refine HList.vals (v := (.bool false)) rfl (HVal.assign' rfl) ?_
    refine HList.nil ?_
    refine nt ?_
    refine HW.ret ?_
    refine tr ?_
    exact ⟨_, resOf1 rfl Res1.t, ⟨false, rfl, h⟩⟩
  · have h := hF hb1
    clear hT hF
    refine HW.skip ?_
    refine nt ?_
    refine HW.seq ?_
    refine HW.seq ?_
    refine HW.region ?_
    refine HList.vals (v := (.int .i64 0)) rfl (HVal.assign' rfl) ?_
    refine HList.nil ?_
    refine nt ?_
    refine HW.block ?_
    refine HW.loop' (fun L1 hL1 => ?_)
    obtain ⟨X1, hX1⟩ : ∃ X1 : Int → Hp → Prop, ∀ (y2 : Int) (H_1 : Hp), X1 y2 H_1 ↔ ∀ ρ, Env.Is ρ [(0, (Sl.v p0)), (1, (Sl.v p1)), (5, (.int .i64 y2))] → L1 ρ H_1 := ⟨_, fun _ _ => Iff.rfl⟩
    refine (hX1 _ _).1 (h X1 ?_) _ ?_
    rotate_left
    · exact ⟨rfl, rfl, rfl, trivial⟩
    clear h
    intro y2 H_1 h
    refine (hX1 _ _).2 fun ρ hI => ?_
    obtain ⟨ρ0, rfl⟩ : ∃ ρ0, ρ = (Env.set (Env.set (Env.set ρ0 5 (.int .i64 y2)) 1 (Sl.v p1)) 0 (Sl.v p0)) := ⟨ρ, hI.eq⟩
    clear hI; unfold F44_L1b at h; refine hL1 _ _ ?_
    refine HW.seq ?_
    refine HW.seq ?_
    refine HW.region ?_
    refine HList.vals (v := (.int .i64 y2)) rfl (HVal.move' rfl) ?_
    refine HList.vals (v := (Sl.v p0)) rfl (HVal.move' rfl) ?_
    refine HList.vals (v := (.int .i64 ((p0).n : Int))) rfl (HVal.len Tryd.runUnderlying54 rfl) ?_
    refine HList.vals (v := (.bool (decide (y2 < ((p0).n : Int))))) rfl (HVal.lss rfl rfl) ?_
    refine HList.nil ?_
    refine nt ?_
    obtain ⟨hT, hF⟩ := h
    refine HW.cond (decide (y2 < ((p0).n : Int))) rfl (fun hb5 => ?_) (fun hb5 => ?_)
    · have h := hT hb5
      clear hT hF
      refine HW.skip ?_
      refine nt ?_
      refine HW.seq ?_
      refine HW.block ?_
      refine HW.seq ?_
      refine HW.draw mixed [(0, some []), (1, some []), (2, some []), (3, some [8]), (4, some []), (5, some []), (6, some []), (7, some [8]), (8, none), (9, some [])] rfl (by kernel_rfl) (by kernel_rfl) ?_
      refine HPlan.takev (v := (Sl.v p0)) rfl rfl (fun _ => HVal.move' rfl) ?_
      refine HPlan.takev (v := (.int .i64 y2)) rfl rfl (fun _ => HVal.move' rfl) ?_
      obtain ⟨a6, e7, b8, b9, h⟩ := h
      refine HPlan.takev (v := (.pointer (some (Addr.add a6 (y2.toNat * 2))))) rfl rfl (fun _ => HVal.indexAddr Tryd.runUnderlying54 Tryd.sizeOf27 (Sl.v_some rfl e7) rfl b8 b9) ?_
      obtain ⟨x11, x12, c10, h⟩ := h
      refine HPlan.takel (v := (.agg #[(.string x11), (Sl.v x12)])) (fun X => cells X (Addr.add a6 (y2.toNat * 2)) [(.string x11), (Sl.v x12)] 0) rfl rfl (fun _ hX => HVal.loadN [(.string x11), (Sl.v x12)] Tryd.isAgg27 Tryd.sizeOf27 rfl hX) c10 ?_
      refine HPlan.takev (v := (Sl.v p1)) rfl rfl (fun _ => HVal.move' rfl) ?_
      refine HPlan.takev (v := (.int .i64 y2)) rfl rfl (fun _ => HVal.move' rfl) ?_
      obtain ⟨a13, e14, b15, b16, h⟩ := h
      refine HPlan.takev (v := (.pointer (some (Addr.add a13 (y2.toNat * 2))))) rfl rfl (fun _ => HVal.indexAddr Tryd.runUnderlying54 Tryd.sizeOf27 (Sl.v_some rfl e14) rfl b15 b16) ?_
      obtain ⟨x18, x19, c17, h⟩ := h
      refine HPlan.takel (v := (.agg #[(.string x18), (Sl.v x19)])) (fun X => cells X (Addr.add a13 (y2.toNat * 2)) [(.string x18), (Sl.v x19)] 0) rfl rfl (fun _ hX => HVal.loadN [(.string x18), (Sl.v x19)] Tryd.isAgg27 Tryd.sizeOf27 rfl hX) c17 ?_
      refine HPlan.ops' rfl rfl (HOp.call' 15 [(.agg #[(.string x11), (Sl.v x12)]), (.agg #[(.string x18), (Sl.v x19)])] (cap := []) rfl rfl Tryd.call15 (walk15 h)) ?_
      rintro _ H20 ⟨r22, rfl, h⟩
      refine ⟨SC_of ⟨fun e => absurd e (by decide), fun e => absurd e (by decide), trivial⟩, ?_⟩
      refine HPlan.takev (v := (.bool (!r22))) rfl rfl (fun _ => HVal.not rfl) ?_
      refine HPlan.done ?_
      refine nt ?_
      obtain ⟨hT, hF⟩ := h
      refine HW.cond (!r22) rfl (fun hb23 => ?_) (fun hb23 => ?_)
      · have h := hT hb23
        clear hT hF
        refine HW.seq ?_
        refine HW.region ?_
        refine HList.vals (v := (.bool false)) rfl (HVal.assign' rfl) ?_
        refine HList.nil ?_
        refine nt ?_
        refine HW.ret ?_
        refine br ?_
        refine tr ?_
        refine tr ?_
        refine br ?_
        refine tr ?_
        exact ⟨_, resOf1 rfl Res1.t, ⟨false, rfl, h⟩⟩
      · have h := hF hb23
        clear hT hF
        refine HW.skip ?_
        refine nb ?_
        refine nt ?_
        refine HW.region ?_
        refine HList.vals (v := (.int .i64 y2)) rfl (HVal.move' rfl) ?_
        refine HList.vals (v := (.int .i64 (IntKind.i64.wrap (y2 + 1)))) rfl (HVal.add rfl rfl) ?_
        refine HList.vals (v := (.int .i64 (IntKind.i64.wrap (y2 + 1)))) rfl (HVal.assign' rfl) ?_
        refine HList.nil ?_
        refine nt ?_
        exact (hX1 _ _).1 h _ ⟨rfl, rfl, rfl, trivial⟩
    · have h := hF hb5
      clear hT hF
      refine HW.exit ?_
      refine te ?_
      refine te ?_
      refine be ?_
      refine nt ?_
      refine HW.seq ?_
      refine HW.region ?_
      refine HList.vals (v := (.bool true)) rfl (HVal.assign' rfl) ?_
      refine HList.nil ?_
      refine nt ?_
      refine HW.ret ?_
      exact ⟨_, resOf1 rfl Res1.t, ⟨true, rfl, h⟩⟩

def F45_1 (Q : Sl → Hp → Prop) (y87 : Sl) (H_1 : Hp) : Prop :=
Q y87 H_1
def F45_3 (Q : Sl → Hp → Prop) (X2 : Sl → Int → Hp → Prop) (y9 : (Option Addr)) (y10 : Int) (y86 : Sl) (H_3 : Hp) : Prop :=
X2 y86 (IntKind.i64.wrap (y10 + 1)) H_3
def F45_L4b (Q : Sl → Hp → Prop) (X2 : Sl → Int → Hp → Prop) (X4 : Int → Hp → Prop) (y32 : (Option Addr)) (y33 : Sl) (y34 : Int) (y31 : Int) (H_4 : Hp) : Prop :=
((decide ((0 : Int) < y31)) = true → (∃ a37 : Addr, (y33).b = some a37 ∧ (0 : Int) ≤ y31 ∧ y31 < ((y33).n : Int) ∧ (
 ∃ x42 : ByteArray, cell H_4 (Addr.add a37 (y31.toNat * 2)) = some (.string x42) ∧ (
 ∃ a43 : Addr, (y33).b = some a43 ∧ (0 : Int) ≤ (IntKind.i64.wrap (y31 - 1)) ∧ (IntKind.i64.wrap (y31 - 1)) < ((y33).n : Int) ∧ (
 ∃ x48 : ByteArray, cell H_4 (Addr.add a43 ((IntKind.i64.wrap (y31 - 1)).toNat * 2)) = some (.string x48) ∧ (
 ((slt x42 x48) = true → (∃ a50 : Addr, (y33).b = some a50 ∧ (0 : Int) ≤ y31 ∧ y31 < ((y33).n : Int) ∧ (
 ∃ (x55 : ByteArray) (x56 : Sl), cells H_4 (Addr.add a50 (y31.toNat * 2)) [(.string x55), (Sl.v x56)] 0 ∧ (
 ∀ H57 : Hp, H57 = Array.push H_4 (.cells #[(.string (ByteArray.mk #[])), (Sl.v Sl.nil)] 27) → (
 mayw H57 ⟨H_4.size, 0, none⟩ 2 0 ∧ ∀ H59 : Hp, H59 = sets H57 ⟨H_4.size, 0, none⟩ [(.string x55), (Sl.v x56)] 0 → (
 ∃ a62 : Addr, (y33).b = some a62 ∧ (0 : Int) ≤ (IntKind.i64.wrap (y31 - 1)) ∧ (IntKind.i64.wrap (y31 - 1)) < ((y33).n : Int) ∧ (
 ∃ (x67 : ByteArray) (x68 : Sl), cells H59 (Addr.add a62 ((IntKind.i64.wrap (y31 - 1)).toNat * 2)) [(.string x67), (Sl.v x68)] 0 ∧ (
 ∃ a69 : Addr, (y33).b = some a69 ∧ (0 : Int) ≤ y31 ∧ y31 < ((y33).n : Int) ∧ (
 mayw H59 (Addr.add a69 (y31.toNat * 2)) 2 0 ∧ ∀ H73 : Hp, H73 = sets H59 (Addr.add a69 (y31.toNat * 2)) [(.string x67), (Sl.v x68)] 0 → (
 ∃ (x77 : ByteArray) (x78 : Sl), cells H73 ⟨H_4.size, 0, none⟩ [(.string x77), (Sl.v x78)] 0 ∧ (
 ∃ a79 : Addr, (y33).b = some a79 ∧ (0 : Int) ≤ (IntKind.i64.wrap (y31 - 1)) ∧ (IntKind.i64.wrap (y31 - 1)) < ((y33).n : Int) ∧ (
 mayw H73 (Addr.add a79 ((IntKind.i64.wrap (y31 - 1)).toNat * 2)) 2 0 ∧ ∀ H83 : Hp, H83 = sets H73 (Addr.add a79 ((IntKind.i64.wrap (y31 - 1)).toNat * 2)) [(.string x77), (Sl.v x78)] 0 → (
 X4 (IntKind.i64.wrap (y31 - 1)) H83))))))))))))) ∧
 ((slt x42 x48) = false → (F45_3 Q X2 y32 y34 y33 H_4)))))))) ∧
 ((decide ((0 : Int) < y31)) = false → (F45_3 Q X2 y32 y34 y33 H_4))
def F45_L4 (Q : Sl → Hp → Prop) (X2 : Sl → Int → Hp → Prop) (y32 : (Option Addr)) (y33 : Sl) (y34 : Int) (y31 : Int) (H_4 : Hp) : Prop :=
  ∀ X4 : Int → Hp → Prop, (∀ (y31 : Int) (H_4 : Hp), F45_L4b Q X2 X4 y32 y33 y34 y31 H_4 → X4 y31 H_4) → X4 y31 H_4
def F45_L2b (Q : Sl → Hp → Prop) (X2 : Sl → Int → Hp → Prop) (y3 : (Option Addr)) (y1 : Sl) (y2 : Int) (H_2 : Hp) : Prop :=
∃ a4 : Addr, y3 = some a4 ∧ (
 ∃ x7 : Sl, cell H_2 a4 = some (Sl.v x7) ∧ (
 ((decide (y2 < ((x7).n : Int))) = true → (∃ a11 : Addr, y3 = some a11 ∧ (
 ∃ x14 : Sl, cell H_2 a11 = some (Sl.v x14) ∧ (
 ∃ a15 : Addr, (x14).b = some a15 ∧ (0 : Int) ≤ y2 ∧ y2 < ((x14).n : Int) ∧ (
 ∃ (x20 : ByteArray) (x21 : Sl), cells H_2 (Addr.add a15 (y2.toNat * 2)) [(.string x20), (Sl.v x21)] 0 ∧ (
 F70 x20 x21 H_2 (fun (r24 : ByteArray) (r25 : Sl) (H22 : Hp) => 
 ∀ H26 : Hp, H26 = Array.push H22 (.cells #[(.string r24), (Sl.v r25)] 27) → (
 AppendF H26 27 2 40 #[(.string (ByteArray.mk #[])), (Sl.v Sl.nil)] y1 ((Sl.mk (some ⟨H22.size, 0, none⟩) 1 1)).b ((Sl.mk (some ⟨H22.size, 0, none⟩) 1 1)).n (fun (r30 : Sl) (H28 : Hp) => 
 F45_L4 Q X2 y3 r30 y2 (IntKind.i64.wrap (((r30).n : Int) - 1)) H28))))))))) ∧
 ((decide (y2 < ((x7).n : Int))) = false → (F45_1 Q y1 H_2))))
def F45_L2 (Q : Sl → Hp → Prop) (y3 : (Option Addr)) (y1 : Sl) (y2 : Int) (H_2 : Hp) : Prop :=
  ∀ X2 : Sl → Int → Hp → Prop, (∀ (y1 : Sl) (y2 : Int) (H_2 : Hp), F45_L2b Q X2 y3 y1 y2 H_2 → X2 y1 y2 H_2) → X2 y1 y2 H_2
def F45 (p0 : (Option Addr)) (H : Hp) (Q : Sl → Hp → Prop) : Prop :=
F45_L2 Q p0 Sl.nil 0 H
set_option maxRecDepth 100000 in
set_option maxHeartbeats 4000000 in
theorem walk45 {w0 : World} {p0 : (Option Addr)} {H : Hp} {Q : Sl → Hp → Prop} (h : F45 p0 H Q) :
    Good Tryd.prog w0 45 #[(.pointer p0)] H (fun v H => ∃ (r0 : Sl) , v = (Sl.v r0) ∧ Q r0 H) := by
  unfold F45 at h
  refine Good.enter' (fn := Tryd.f45) Tryd.func45 rfl rfl rfl ?_
  refine HW.seq ?_
  refine HW.region ?_
  refine HList.vals (v := (Sl.v Sl.nil)) rfl (HVal.assign' rfl) ?_
  refine HList.nil ?_
  refine nt ?_
  refine HW.seq ?_
  refine HW.region ?_
  refine HList.vals (v := (Sl.v Sl.nil)) rfl (HVal.assign' rfl) ?_
  refine HList.nil ?_
  refine nt ?_
  refine HW.cut (fun ρ H_1 => ∃ (y87 : Sl), Env.Is ρ [(3, (Sl.v y87))] ∧ F45_1 Q y87 H_1) ?_ ?_
  · refine HW.seq ?_
    refine HW.region ?_
    refine HList.vals (v := (.int .i64 0)) rfl (HVal.assign' rfl) ?_
    refine HList.nil ?_
    refine nt ?_
    refine HW.block ?_
    refine HW.loop' (fun L2 hL2 => ?_)
    obtain ⟨X2, hX2⟩ : ∃ X2 : Sl → Int → Hp → Prop, ∀ (y1 : Sl) (y2 : Int) (H_2 : Hp), X2 y1 y2 H_2 ↔ ∀ ρ, Env.Is ρ [(0, (.pointer p0)), (3, (Sl.v y1)), (4, (.int .i64 y2))] → L2 ρ H_2 := ⟨_, fun _ _ _ => Iff.rfl⟩
    refine (hX2 _ _ _).1 (h X2 ?_) _ ?_
    rotate_left
    · exact ⟨rfl, rfl, rfl, trivial⟩
    clear h
    intro y1 y2 H_2 h
    refine (hX2 _ _ _).2 fun ρ hI => ?_
    obtain ⟨ρ0, rfl⟩ : ∃ ρ0, ρ = (Env.set (Env.set (Env.set ρ0 4 (.int .i64 y2)) 3 (Sl.v y1)) 0 (.pointer p0)) := ⟨ρ, hI.eq⟩
    clear hI; unfold F45_L2b at h; refine hL2 _ _ ?_
    refine HW.seq ?_
    refine HW.seq ?_
    refine HW.region ?_
    refine HList.vals (v := (.int .i64 y2)) rfl (HVal.move' rfl) ?_
    refine HList.vals (v := (.pointer p0)) rfl (HVal.move' rfl) ?_
    obtain ⟨a4, e5, h⟩ := h
    refine HList.vals (v := (.pointer (some a4))) rfl (HVal.nilCheck (congrArg Value.pointer e5)) ?_
    refine HList.vals (v := (.pointer (some a4))) rfl (HVal.fieldAddr0 Tryd.runUnderlying118 rfl rfl Tryd.sizeOf54 rfl) ?_
    obtain ⟨x7, c6, h⟩ := h
    refine HList.vals (v := (Sl.v x7)) rfl (HVal.load1 Tryd.isAgg54 rfl c6) ?_
    refine HList.vals (v := (.int .i64 ((x7).n : Int))) rfl (HVal.len Tryd.runUnderlying54 rfl) ?_
    refine HList.vals (v := (.bool (decide (y2 < ((x7).n : Int))))) rfl (HVal.lss rfl rfl) ?_
    refine HList.nil ?_
    refine nt ?_
    obtain ⟨hT, hF⟩ := h
    refine HW.cond (decide (y2 < ((x7).n : Int))) rfl (fun hb8 => ?_) (fun hb8 => ?_)
    · have h := hT hb8
      clear hT hF
      refine HW.skip ?_
      refine nt ?_
      refine HW.cut (fun ρ H_3 => ∃ (y86 : Sl), Env.Is ρ [(0, (.pointer p0)), (4, (.int .i64 y2)), (3, (Sl.v y86))] ∧ F45_3 Q X2 p0 y2 y86 H_3) ?_ ?_
      · refine HW.block ?_
        refine HW.seq ?_
        refine HW.region ?_
        refine HList.vals (v := (Sl.v y1)) rfl (HVal.move' rfl) ?_
        refine HList.vals (v := (.pointer p0)) rfl (HVal.move' rfl) ?_
        obtain ⟨a11, e12, h⟩ := h
        refine HList.vals (v := (.pointer (some a11))) rfl (HVal.nilCheck (congrArg Value.pointer e12)) ?_
        refine HList.vals (v := (.pointer (some a11))) rfl (HVal.fieldAddr0 Tryd.runUnderlying118 rfl rfl Tryd.sizeOf54 rfl) ?_
        obtain ⟨x14, c13, h⟩ := h
        refine HList.vals (v := (Sl.v x14)) rfl (HVal.load1 Tryd.isAgg54 rfl c13) ?_
        refine HList.vals (v := (.int .i64 y2)) rfl (HVal.move' rfl) ?_
        obtain ⟨a15, e16, b17, b18, h⟩ := h
        refine HList.vals (v := (.pointer (some (Addr.add a15 (y2.toNat * 2))))) rfl (HVal.indexAddr Tryd.runUnderlying54 Tryd.sizeOf27 (Sl.v_some rfl e16) rfl b17 b18) ?_
        obtain ⟨x20, x21, c19, h⟩ := h
        refine HList.vals (v := (.agg #[(.string x20), (Sl.v x21)])) rfl (HVal.loadN [(.string x20), (Sl.v x21)] Tryd.isAgg27 Tryd.sizeOf27 rfl c19) ?_
        refine HList.ops' rfl (HOp.call' 70 [(.agg #[(.string x20), (Sl.v x21)])] (cap := []) rfl rfl Tryd.call70 (walk70 h)) ?_
        rintro _ H22 ⟨r24, r25, rfl, h⟩
        refine HList.ops' rfl (HOp.buildSlice' (zs := [(.string (ByteArray.mk #[])), (Sl.v Sl.nil)]) (cs := [(.string r24), (Sl.v r25)]) Tryd.runUnderlying54 Tryd.sizeOf27 Tryd.zeroValue27 (by decide) (by kernel_rfl) rfl (by decide)) ?_
        rintro _ H26 ⟨rfl, e27⟩
        replace h := h H26 e27
        refine HList.ops' rfl (HOp.append (k := 2) (b := 40) Tryd.runUnderlying54 Tryd.runUnderlying54 Tryd.typeInfo27 rfl rfl Tryd.zeroValue27 rfl rfl h) ?_
        rintro _ H28 ⟨r30, rfl, h⟩
        refine HList.vals (v := (Sl.v r30)) rfl (HVal.assign' rfl) ?_
        refine HList.nil ?_
        refine nt ?_
        refine HW.seq ?_
        refine HW.region ?_
        refine HList.vals (v := (Sl.v r30)) rfl (HVal.move' rfl) ?_
        refine HList.vals (v := (.int .i64 ((r30).n : Int))) rfl (HVal.len Tryd.runUnderlying54 rfl) ?_
        refine HList.vals (v := (.int .i64 (IntKind.i64.wrap (((r30).n : Int) - 1)))) rfl (HVal.sub rfl rfl) ?_
        refine HList.vals (v := (.int .i64 (IntKind.i64.wrap (((r30).n : Int) - 1)))) rfl (HVal.assign' rfl) ?_
        refine HList.nil ?_
        refine nt ?_
        refine HW.block ?_
        refine HW.loop' (fun L4 hL4 => ?_)
        obtain ⟨X4, hX4⟩ : ∃ X4 : Int → Hp → Prop, ∀ (y31 : Int) (H_4 : Hp), X4 y31 H_4 ↔ ∀ ρ, Env.Is ρ [(0, (.pointer p0)), (3, (Sl.v r30)), (4, (.int .i64 y2)), (5, (.int .i64 y31))] → L4 ρ H_4 := ⟨_, fun _ _ => Iff.rfl⟩
        refine (hX4 _ _).1 (h X4 ?_) _ ?_
        rotate_left
        · exact ⟨rfl, rfl, rfl, rfl, trivial⟩
        clear h
        intro y31 H_4 h
        refine (hX4 _ _).2 fun ρ hI => ?_
        obtain ⟨ρ0, rfl⟩ : ∃ ρ0, ρ = (Env.set (Env.set (Env.set (Env.set ρ0 5 (.int .i64 y31)) 4 (.int .i64 y2)) 3 (Sl.v r30)) 0 (.pointer p0)) := ⟨ρ, hI.eq⟩
        clear hI; unfold F45_L4b at h; refine hL4 _ _ ?_
        refine HW.seq ?_
        refine HW.seq ?_
        refine HW.draw mixed [(0, some []), (1, some []), (2, some []), (3, some []), (4, some []), (5, some []), (6, some []), (7, some []), (8, some []), (9, some []), (10, some []), (11, some []), (12, some []), (13, some []), (14, some []), (15, some [])] rfl (by kernel_rfl) (by kernel_rfl) ?_
        refine HPlan.takev (v := (.int .i64 y31)) rfl rfl (fun _ => HVal.move' rfl) ?_
        refine HPlan.takev (v := (.bool (decide ((0 : Int) < y31)))) rfl rfl (fun _ => HVal.gtr rfl rfl) ?_
        refine HPlan.takev (v := (.bool (decide ((0 : Int) < y31)))) rfl rfl (fun _ => HVal.move' rfl) ?_
        obtain ⟨hT, hF⟩ := h
        rcases Bool.eq_false_or_eq_true (decide ((0 : Int) < y31)) with hb35 | hb36
        · have h := hT hb35
          clear hT hF
          refine HPlan.gtakev (v := (Sl.v r30)) rfl rfl rfl rfl rfl (congrArg Value.bool hb35) (fun _ => HVal.move' rfl) ?_
          refine HPlan.gtakev (v := (.int .i64 y31)) rfl rfl rfl rfl rfl (congrArg Value.bool hb35) (fun _ => HVal.move' rfl) ?_
          obtain ⟨a37, e38, b39, b40, h⟩ := h
          refine HPlan.gtakev (v := (.pointer (some (Addr.add a37 (y31.toNat * 2))))) rfl rfl rfl rfl rfl (congrArg Value.bool hb35) (fun _ => HVal.indexAddr Tryd.runUnderlying54 Tryd.sizeOf27 (Sl.v_some rfl e38) rfl b39 b40) ?_
          refine HPlan.gtakev (v := (.pointer (some (Addr.add a37 (y31.toNat * 2))))) rfl rfl rfl rfl rfl (congrArg Value.bool hb35) (fun _ => HVal.fieldAddr0 Tryd.runUnderlying27 rfl rfl Tryd.sizeOf9 rfl) ?_
          obtain ⟨x42, c41, h⟩ := h
          refine HPlan.gtakel (v := (.string x42)) (fun X => cell X (Addr.add a37 (y31.toNat * 2)) = some (.string x42)) rfl rfl rfl rfl rfl (congrArg Value.bool hb35) (fun _ hX => HVal.load1 Tryd.isAgg9 rfl hX) c41 ?_
          refine HPlan.gtakev (v := (Sl.v r30)) rfl rfl rfl rfl rfl (congrArg Value.bool hb35) (fun _ => HVal.move' rfl) ?_
          refine HPlan.gtakev (v := (.int .i64 y31)) rfl rfl rfl rfl rfl (congrArg Value.bool hb35) (fun _ => HVal.move' rfl) ?_
          refine HPlan.gtakev (v := (.int .i64 (IntKind.i64.wrap (y31 - 1)))) rfl rfl rfl rfl rfl (congrArg Value.bool hb35) (fun _ => HVal.sub rfl rfl) ?_
          obtain ⟨a43, e44, b45, b46, h⟩ := h
          refine HPlan.gtakev (v := (.pointer (some (Addr.add a43 ((IntKind.i64.wrap (y31 - 1)).toNat * 2))))) rfl rfl rfl rfl rfl (congrArg Value.bool hb35) (fun _ => HVal.indexAddr Tryd.runUnderlying54 Tryd.sizeOf27 (Sl.v_some rfl e44) rfl b45 b46) ?_
          refine HPlan.gtakev (v := (.pointer (some (Addr.add a43 ((IntKind.i64.wrap (y31 - 1)).toNat * 2))))) rfl rfl rfl rfl rfl (congrArg Value.bool hb35) (fun _ => HVal.fieldAddr0 Tryd.runUnderlying27 rfl rfl Tryd.sizeOf9 rfl) ?_
          obtain ⟨x48, c47, h⟩ := h
          refine HPlan.gtakel (v := (.string x48)) (fun X => cell X (Addr.add a43 ((IntKind.i64.wrap (y31 - 1)).toNat * 2)) = some (.string x48)) rfl rfl rfl rfl rfl (congrArg Value.bool hb35) (fun _ hX => HVal.load1 Tryd.isAgg9 rfl hX) c47 ?_
          refine HPlan.gtakev (v := (.bool (slt x42 x48))) rfl rfl rfl rfl rfl (congrArg Value.bool hb35) (fun _ => HVal.lssS rfl rfl) ?_
          refine HPlan.takev (v := (.bool (slt x42 x48))) rfl rfl (fun _ => HVal.pickT rfl hb35 rfl) ?_
          refine HPlan.done ?_
          refine nt ?_
          obtain ⟨hT, hF⟩ := h
          refine HW.cond (slt x42 x48) rfl (fun hb49 => ?_) (fun hb49 => ?_)
          · have h := hT hb49
            clear hT hF
            refine HW.skip ?_
            refine nt ?_
            refine HW.seq ?_
            refine HW.block ?_
            refine HW.seq ?_
            refine HW.region ?_
            refine HList.vals (v := (Sl.v r30)) rfl (HVal.move' rfl) ?_
            refine HList.vals (v := (.int .i64 y31)) rfl (HVal.move' rfl) ?_
            obtain ⟨a50, e51, b52, b53, h⟩ := h
            refine HList.vals (v := (.pointer (some (Addr.add a50 (y31.toNat * 2))))) rfl (HVal.indexAddr Tryd.runUnderlying54 Tryd.sizeOf27 (Sl.v_some rfl e51) rfl b52 b53) ?_
            obtain ⟨x55, x56, c54, h⟩ := h
            refine HList.vals (v := (.agg #[(.string x55), (Sl.v x56)])) rfl (HVal.loadN [(.string x55), (Sl.v x56)] Tryd.isAgg27 Tryd.sizeOf27 rfl c54) ?_
            refine HList.ops' rfl (HOp.alloc Tryd.zeroValue27) ?_
            rintro _ H57 ⟨rfl, e58⟩
            replace h := h H57 e58
            obtain ⟨z61, h⟩ := h
            refine HList.opsn (HOp.storeN' (l := [(.string x55), (Sl.v x56)]) Tryd.sizeOf27 rfl rfl rfl z61) ?_
            rintro _ H59 e60
            replace h := h H59 e60
            refine HList.nil ?_
            refine nt ?_
            refine HW.seq ?_
            refine HW.region ?_
            refine HList.vals (v := (Sl.v r30)) rfl (HVal.move' rfl) ?_
            refine HList.vals (v := (.int .i64 y31)) rfl (HVal.move' rfl) ?_
            refine HList.vals (v := (Sl.v r30)) rfl (HVal.move' rfl) ?_
            refine HList.vals (v := (.int .i64 y31)) rfl (HVal.move' rfl) ?_
            refine HList.vals (v := (.int .i64 (IntKind.i64.wrap (y31 - 1)))) rfl (HVal.sub rfl rfl) ?_
            obtain ⟨a62, e63, b64, b65, h⟩ := h
            refine HList.vals (v := (.pointer (some (Addr.add a62 ((IntKind.i64.wrap (y31 - 1)).toNat * 2))))) rfl (HVal.indexAddr Tryd.runUnderlying54 Tryd.sizeOf27 (Sl.v_some rfl e63) rfl b64 b65) ?_
            obtain ⟨x67, x68, c66, h⟩ := h
            refine HList.vals (v := (.agg #[(.string x67), (Sl.v x68)])) rfl (HVal.loadN [(.string x67), (Sl.v x68)] Tryd.isAgg27 Tryd.sizeOf27 rfl c66) ?_
            obtain ⟨a69, e70, b71, b72, h⟩ := h
            refine HList.vals (v := (.pointer (some (Addr.add a69 (y31.toNat * 2))))) rfl (HVal.indexAddr Tryd.runUnderlying54 Tryd.sizeOf27 (Sl.v_some rfl e70) rfl b71 b72) ?_
            obtain ⟨z75, h⟩ := h
            refine HList.opsn (HOp.storeN' (l := [(.string x67), (Sl.v x68)]) Tryd.sizeOf27 rfl rfl rfl z75) ?_
            rintro _ H73 e74
            replace h := h H73 e74
            refine HList.nil ?_
            refine nt ?_
            refine HW.region ?_
            refine HList.vals (v := (Sl.v r30)) rfl (HVal.move' rfl) ?_
            refine HList.vals (v := (.int .i64 y31)) rfl (HVal.move' rfl) ?_
            refine HList.vals (v := (.int .i64 (IntKind.i64.wrap (y31 - 1)))) rfl (HVal.sub rfl rfl) ?_
            obtain ⟨x77, x78, c76, h⟩ := h
            refine HList.vals (v := (.agg #[(.string x77), (Sl.v x78)])) rfl (HVal.loadN [(.string x77), (Sl.v x78)] Tryd.isAgg27 Tryd.sizeOf27 rfl c76) ?_
            obtain ⟨a79, e80, b81, b82, h⟩ := h
            refine HList.vals (v := (.pointer (some (Addr.add a79 ((IntKind.i64.wrap (y31 - 1)).toNat * 2))))) rfl (HVal.indexAddr Tryd.runUnderlying54 Tryd.sizeOf27 (Sl.v_some rfl e80) rfl b81 b82) ?_
            obtain ⟨z85, h⟩ := h
            refine HList.opsn (HOp.storeN' (l := [(.string x77), (Sl.v x78)]) Tryd.sizeOf27 rfl rfl rfl z85) ?_
            rintro _ H83 e84
            replace h := h H83 e84
            refine HList.nil ?_
            refine nb ?_
            refine nt ?_
            refine HW.region ?_
            refine HList.vals (v := (.int .i64 y31)) rfl (HVal.move' rfl) ?_
            refine HList.vals (v := (.int .i64 (IntKind.i64.wrap (y31 - 1)))) rfl (HVal.sub rfl rfl) ?_
            refine HList.vals (v := (.int .i64 (IntKind.i64.wrap (y31 - 1)))) rfl (HVal.assign' rfl) ?_
            refine HList.nil ?_
            refine nt ?_
            exact (hX4 _ _).1 h _ ⟨rfl, rfl, rfl, rfl, trivial⟩
          · have h := hF hb49
            clear hT hF
            refine HW.exit ?_
            refine te ?_
            refine te ?_
            refine be ?_
            refine nb ?_
            refine nt ?_
            exact ⟨r30, ⟨rfl, rfl, rfl, trivial⟩, h⟩
        · have h := hF hb36
          clear hT hF
          refine HPlan.takegskip rfl rfl rfl rfl (congrArg Value.bool hb36) ?_
          refine HPlan.takegskip rfl rfl rfl rfl (congrArg Value.bool hb36) ?_
          refine HPlan.takegskip rfl rfl rfl rfl (congrArg Value.bool hb36) ?_
          refine HPlan.takegskip rfl rfl rfl rfl (congrArg Value.bool hb36) ?_
          refine HPlan.takegskip rfl rfl rfl rfl (congrArg Value.bool hb36) ?_
          refine HPlan.takegskip rfl rfl rfl rfl (congrArg Value.bool hb36) ?_
          refine HPlan.takegskip rfl rfl rfl rfl (congrArg Value.bool hb36) ?_
          refine HPlan.takegskip rfl rfl rfl rfl (congrArg Value.bool hb36) ?_
          refine HPlan.takegskip rfl rfl rfl rfl (congrArg Value.bool hb36) ?_
          refine HPlan.takegskip rfl rfl rfl rfl (congrArg Value.bool hb36) ?_
          refine HPlan.takegskip rfl rfl rfl rfl (congrArg Value.bool hb36) ?_
          refine HPlan.takegskip rfl rfl rfl rfl (congrArg Value.bool hb36) ?_
          refine HPlan.takev (v := (.bool false)) rfl rfl (fun _ => HVal.pickF rfl hb36 rfl) ?_
          refine HPlan.done ?_
          refine nt ?_
          refine HW.condF false rfl rfl ?_
          refine HW.exit ?_
          refine te ?_
          refine te ?_
          refine be ?_
          refine nb ?_
          refine nt ?_
          exact ⟨r30, ⟨rfl, rfl, rfl, trivial⟩, h⟩
      · rintro ρ H_3 ⟨y86, hI, h⟩
        obtain ⟨ρ0, rfl⟩ : ∃ ρ0, ρ = (Env.set (Env.set (Env.set ρ0 3 (Sl.v y86)) 4 (.int .i64 y2)) 0 (.pointer p0)) := ⟨ρ, hI.eq⟩
        clear hI; unfold F45_3 at h
        refine HW.region ?_
        refine HList.vals (v := (.int .i64 y2)) rfl (HVal.move' rfl) ?_
        refine HList.vals (v := (.int .i64 (IntKind.i64.wrap (y2 + 1)))) rfl (HVal.add rfl rfl) ?_
        refine HList.vals (v := (.int .i64 (IntKind.i64.wrap (y2 + 1)))) rfl (HVal.assign' rfl) ?_
        refine HList.nil ?_
        refine nt ?_
        exact (hX2 _ _ _).1 h _ ⟨rfl, rfl, rfl, trivial⟩
    · have h := hF hb8
      clear hT hF
      refine HW.exit ?_
      refine te ?_
      refine te ?_
      refine be ?_
      refine nt ?_
      exact ⟨y1, ⟨rfl, trivial⟩, h⟩
  · rintro ρ H_1 ⟨y87, hI, h⟩
    obtain ⟨ρ0, rfl⟩ : ∃ ρ0, ρ = (Env.set ρ0 3 (Sl.v y87)) := ⟨ρ, hI.eq⟩
    clear hI; unfold F45_1 at h
    refine HW.seq ?_
    refine HW.region ?_
    refine HList.vals (v := (Sl.v y87)) rfl (HVal.move' rfl) ?_
    refine HList.vals (v := (Sl.v y87)) rfl (HVal.assign' rfl) ?_
    refine HList.nil ?_
    refine nt ?_
    refine HW.ret ?_
    exact ⟨_, resOf1 rfl Res1.t, ⟨y87, rfl, h⟩⟩

def F46_2 (Q : ByteArray → Int → Sl → Hp → Prop) (y44 : (Option Addr)) (y45 : Addr) (y46 : Addr) (y47 : Int) (y48 : Sl) (H_2 : Hp) : Prop :=
∃ a63 : Addr, y44 = some a63 ∧ (
 (cell H_2 (Addr.add a63 1)).isSome = true ∧ frz H_2 (Addr.add a63 1) = false ∧ ∀ H65 : Hp, H65 = setc H_2 (Addr.add a63 1) (Sl.v y48) → (
 (0 : Int) ≤ y47 ∧ 0 ≤ y47.toNat ∧ y47.toNat ≤ (y48).c ∧ (y48).c ≤ (y48).c ∧ (
 (cell H65 (Addr.add y45 2)).isSome = true ∧ frz H65 (Addr.add y45 2) = false ∧ ∀ H73 : Hp, H73 = setc H65 (Addr.add y45 2) (Sl.v (Sl.cut y48 4 0 y47.toNat ((y48).c))) → (
 ∃ (x78 : ByteArray) (x79 : Int) (x80 : Sl), cells H73 y45 [(.string x78), (.int .i64 x79), (Sl.v x80)] 0 ∧ (
 mayw H73 y46 3 0 ∧ ∀ H81 : Hp, H81 = sets H73 y46 [(.string x78), (.int .i64 x79), (Sl.v x80)] 0 → (
 ∃ (x84 : ByteArray) (x85 : Int) (x86 : Sl), cells H81 y46 [(.string x84), (.int .i64 x85), (Sl.v x86)] 0 ∧ (
 Q x84 x85 x86 H81)))))))
def F46_L3b (Q : ByteArray → Int → Sl → Hp → Prop) (X3 : Int → Hp → Prop) (y50 : (Option Addr)) (y51 : Addr) (y52 : Addr) (y53 : Int) (y54 : Sl) (y49 : Int) (H_3 : Hp) : Prop :=
((decide (y49 < ((y54).n : Int))) = true → (∃ a56 : Addr, (y54).b = some a56 ∧ (0 : Int) ≤ y49 ∧ y49 < ((y54).n : Int) ∧ (
 mayw H_3 (Addr.add a56 (y49.toNat * 4)) 4 0 ∧ ∀ H60 : Hp, H60 = sets H_3 (Addr.add a56 (y49.toNat * 4)) [(.int .i64 (IntKind.i64.wrap (77 + y49))), (.int .i64 0), (.string (ByteArray.mk #[])), (.bool false)] 0 → (
 X3 (IntKind.i64.wrap (y49 + 1)) H60)))) ∧
 ((decide (y49 < ((y54).n : Int))) = false → (F46_2 Q y50 y51 y52 y53 y54 H_3))
def F46_L3 (Q : ByteArray → Int → Sl → Hp → Prop) (y50 : (Option Addr)) (y51 : Addr) (y52 : Addr) (y53 : Int) (y54 : Sl) (y49 : Int) (H_3 : Hp) : Prop :=
  ∀ X3 : Int → Hp → Prop, (∀ (y49 : Int) (H_3 : Hp), F46_L3b Q X3 y50 y51 y52 y53 y54 y49 H_3 → X3 y49 H_3) → X3 y49 H_3
def F46_1 (Q : ByteArray → Int → Sl → Hp → Prop) (y7 : (Option Addr)) (y8 : Addr) (y9 : Addr) (y10 : Int) (H_1 : Hp) : Prop :=
∃ a22 : Addr, y7 = some a22 ∧ (
 ∃ x25 : Sl, cell H_1 (Addr.add a22 1) = some (Sl.v x25) ∧ (
 0 ≤ (0 : Int).toNat ∧ (0 : Int).toNat ≤ (x25).c ∧ (x25).c ≤ (x25).c ∧ (
 ∃ x30 : Sl, cell H_1 (Addr.add y8 2) = some (Sl.v x30) ∧ (
 AppendF H_1 35 4 40 #[(.int .i64 0), (.int .i64 0), (.string (ByteArray.mk #[])), (.bool false)] (Sl.cut x25 4 0 ((0 : Int).toNat) ((x25).c)) (x30).b (x30).n (fun (r33 : Sl) (H31 : Hp) => 
 cell H31 (Addr.add a22 1) = some (Sl.v x25) ∧ (
 ∀ H35 : Hp, H35 = Array.push H31 (.cells #[(.int .i64 0), (.int .i64 0), (.string (ByteArray.mk #[])), (.bool false), (.int .i64 0), (.int .i64 0), (.string (ByteArray.mk #[])), (.bool false)] 35) → (
 AppendF H35 35 4 40 #[(.int .i64 0), (.int .i64 0), (.string (ByteArray.mk #[])), (.bool false)] r33 ((Sl.mk (some ⟨H31.size, 0, none⟩) 2 2)).b ((Sl.mk (some ⟨H31.size, 0, none⟩) 2 2)).n (fun (r39 : Sl) (H37 : Hp) => 
 (0 : Int) ≤ ((r39).c : Int) ∧ 0 ≤ ((r39).c : Int).toNat ∧ ((r39).c : Int).toNat ≤ (r39).c ∧ (r39).c ≤ (r39).c ∧ (
 F46_L3 Q y7 y8 y9 y10 (Sl.cut r39 4 0 (((r39).c : Int).toNat) ((r39).c)) y10 H37)))))))))
def F46 (p0 : (Option Addr)) (p1_0 : ByteArray) (p1_1 : Int) (p1_2 : Sl) (H : Hp) (Q : ByteArray → Int → Sl → Hp → Prop) : Prop :=
∀ H1 : Hp, H1 = Array.push H (.cells #[(.string p1_0), (.int .i64 p1_1), (Sl.v p1_2)] 33) → (
 ∀ H3 : Hp, H3 = Array.push H1 (.cells #[(.string (ByteArray.mk #[])), (.int .i64 0), (Sl.v Sl.nil)] 33) → (
 ∃ x6 : Sl, cell H3 (Addr.add ⟨H.size, 0, none⟩ 2) = some (Sl.v x6) ∧ (
 ∃ a11 : Addr, p0 = some a11 ∧ (
 ∃ x14 : Sl, cell H3 (Addr.add a11 1) = some (Sl.v x14) ∧ (
 ((decide ((IntKind.i64.wrap (((x6).n : Int) + 70000)) < ((x14).c : Int))) = true → (∃ a16 : Addr, p0 = some a16 ∧ (
 (cell H3 (Addr.add a16 1)).isSome = true ∧ frz H3 (Addr.add a16 1) = false ∧ ∀ H18 : Hp, H18 = setc H3 (Addr.add a16 1) (Sl.v Sl.nil) → (
 F46_1 Q p0 ⟨H.size, 0, none⟩ ⟨H1.size, 0, none⟩ ((x6).n : Int) H18)))) ∧
 ((decide ((IntKind.i64.wrap (((x6).n : Int) + 70000)) < ((x14).c : Int))) = false → (F46_1 Q p0 ⟨H.size, 0, none⟩ ⟨H1.size, 0, none⟩ ((x6).n : Int) H3)))))))
set_option maxRecDepth 100000 in
set_option maxHeartbeats 4000000 in
theorem walk46 {w0 : World} {p0 : (Option Addr)} {p1_0 : ByteArray} {p1_1 : Int} {p1_2 : Sl} {H : Hp} {Q : ByteArray → Int → Sl → Hp → Prop} (h : F46 p0 p1_0 p1_1 p1_2 H Q) :
    Good Tryd.prog w0 46 #[(.pointer p0), (.agg #[(.string p1_0), (.int .i64 p1_1), (Sl.v p1_2)])] H (fun v H => ∃ (r0 : ByteArray) (r1 : Int) (r2 : Sl) , v = (.agg #[(.string r0), (.int .i64 r1), (Sl.v r2)]) ∧ Q r0 r1 r2 H) := by
  unfold F46 at h
  refine Good.enter' (fn := Tryd.f46) Tryd.func46 rfl rfl rfl ?_
  refine HW.seq ?_
  refine HW.region ?_
  refine HList.ops' rfl (HOp.box (v := (.agg #[(.string p1_0), (.int .i64 p1_1), (Sl.v p1_2)])) rfl) ?_
  rintro _ H1 ⟨rfl, e2⟩
  replace h := h H1 e2
  refine HList.ops' rfl (HOp.alloc Tryd.zeroValue33) ?_
  rintro _ H3 ⟨rfl, e4⟩
  replace h := h H3 e4
  refine HList.nil ?_
  refine nt ?_
  refine HW.seq ?_
  refine HW.region ?_
  refine HList.vals (v := (.pointer (some (Addr.add ⟨H.size, 0, none⟩ 2)))) rfl (HVal.fieldAddr' Tryd.runUnderlying33 rfl rfl Tryd.sizeOf31 rfl) ?_
  obtain ⟨x6, c5, h⟩ := h
  refine HList.vals (v := (Sl.v x6)) rfl (HVal.load1 Tryd.isAgg31 rfl c5) ?_
  refine HList.vals (v := (.int .i64 ((x6).n : Int))) rfl (HVal.len Tryd.runUnderlying31 rfl) ?_
  refine HList.vals (v := (.int .i64 ((x6).n : Int))) rfl (HVal.assign' rfl) ?_
  refine HList.nil ?_
  refine nt ?_
  refine HW.cut (fun ρ H_1 => Env.Is ρ [(0, (.pointer p0)), (3, (.pointer (some ⟨H.size, 0, none⟩))), (4, (.pointer (some ⟨H1.size, 0, none⟩))), (5, (.int .i64 ((x6).n : Int)))] ∧ F46_1 Q p0 ⟨H.size, 0, none⟩ ⟨H1.size, 0, none⟩ ((x6).n : Int) H_1) ?_ ?_
  · refine HW.seq ?_
    refine HW.region ?_
    refine HList.vals (v := (.pointer p0)) rfl (HVal.move' rfl) ?_
    obtain ⟨a11, e12, h⟩ := h
    refine HList.vals (v := (.pointer (some a11))) rfl (HVal.nilCheck (congrArg Value.pointer e12)) ?_
    refine HList.vals (v := (.pointer (some (Addr.add a11 1)))) rfl (HVal.fieldAddr' Tryd.runUnderlying60 rfl rfl Tryd.sizeOf31 rfl) ?_
    obtain ⟨x14, c13, h⟩ := h
    refine HList.vals (v := (Sl.v x14)) rfl (HVal.load1 Tryd.isAgg31 rfl c13) ?_
    refine HList.vals (v := (.int .i64 ((x14).c : Int))) rfl (HVal.cap Tryd.runUnderlying31 rfl) ?_
    refine HList.vals (v := (.int .i64 ((x6).n : Int))) rfl (HVal.move' rfl) ?_
    refine HList.vals (v := (.int .i64 (IntKind.i64.wrap (((x6).n : Int) + 70000)))) rfl (HVal.add rfl rfl) ?_
    refine HList.vals (v := (.bool (decide ((IntKind.i64.wrap (((x6).n : Int) + 70000)) < ((x14).c : Int))))) rfl (HVal.gtr rfl rfl) ?_
    refine HList.nil ?_
    refine nt ?_
    obtain ⟨hT, hF⟩ := h
    refine HW.cond (decide ((IntKind.i64.wrap (((x6).n : Int) + 70000)) < ((x14).c : Int))) rfl (fun hb15 => ?_) (fun hb15 => ?_)
    · have h := hT hb15
      clear hT hF
      refine HW.region ?_
      refine HList.vals (v := (.pointer p0)) rfl (HVal.move' rfl) ?_
      obtain ⟨a16, e17, h⟩ := h
      refine HList.vals (v := (.pointer (some a16))) rfl (HVal.nilCheck (congrArg Value.pointer e17)) ?_
      refine HList.vals (v := (.pointer (some (Addr.add a16 1)))) rfl (HVal.fieldAddr' Tryd.runUnderlying60 rfl rfl Tryd.sizeOf31 rfl) ?_
      obtain ⟨z20, z21, h⟩ := h
      refine HList.opsn (HOp.store1 Tryd.sizeOf31 rfl rfl rfl z20 z21) ?_
      rintro _ H18 e19
      replace h := h H18 e19
      refine HList.nil ?_
      refine nt ?_
      exact ⟨⟨rfl, rfl, rfl, rfl, trivial⟩, h⟩
    · have h := hF hb15
      clear hT hF
      refine HW.skip ?_
      refine nt ?_
      exact ⟨⟨rfl, rfl, rfl, rfl, trivial⟩, h⟩
  · rintro ρ H_1 ⟨hI, h⟩
    obtain ⟨ρ0, rfl⟩ : ∃ ρ0, ρ = (Env.set (Env.set (Env.set (Env.set ρ0 5 (.int .i64 ((x6).n : Int))) 4 (.pointer (some ⟨H1.size, 0, none⟩))) 3 (.pointer (some ⟨H.size, 0, none⟩))) 0 (.pointer p0)) := ⟨ρ, hI.eq⟩
    clear hI; unfold F46_1 at h
    refine HW.seq ?_
    refine HW.draw mixed [(0, some []), (1, some []), (2, some []), (3, some []), (4, some []), (5, some []), (6, some [7]), (7, none), (8, some [])] rfl (by kernel_rfl) (by kernel_rfl) ?_
    refine HPlan.takev (v := (.pointer p0)) rfl rfl (fun _ => HVal.move' rfl) ?_
    obtain ⟨a22, e23, h⟩ := h
    refine HPlan.takev (v := (.pointer (some a22))) rfl rfl (fun _ => HVal.nilCheck (congrArg Value.pointer e23)) ?_
    refine HPlan.takev (v := (.pointer (some (Addr.add a22 1)))) rfl rfl (fun _ => HVal.fieldAddr' Tryd.runUnderlying60 rfl rfl Tryd.sizeOf31 rfl) ?_
    obtain ⟨x25, c24, h⟩ := h
    refine HPlan.takel (v := (Sl.v x25)) (fun X => cell X (Addr.add a22 1) = some (Sl.v x25)) rfl rfl (fun _ hX => HVal.load1 Tryd.isAgg31 rfl hX) c24 ?_
    obtain ⟨z26, z27, z28, h⟩ := h
    refine HPlan.takev (v := (Sl.v (Sl.cut x25 4 0 ((0 : Int).toNat) ((x25).c)))) rfl rfl (fun _ => HVal.slice _ _ _ Tryd.runUnderlying31 Tryd.sizeOf35 rfl rfl ⟨_, _, rfl, by decide, rfl⟩ rfl (by decide) z26 z27 z28) ?_
    refine HPlan.takev (v := (.pointer (some (Addr.add ⟨H.size, 0, none⟩ 2)))) rfl rfl (fun _ => HVal.fieldAddr' Tryd.runUnderlying33 rfl rfl Tryd.sizeOf31 rfl) ?_
    obtain ⟨x30, c29, h⟩ := h
    refine HPlan.takel (v := (Sl.v x30)) (fun X => cell X (Addr.add ⟨H.size, 0, none⟩ 2) = some (Sl.v x30)) rfl rfl (fun _ hX => HVal.load1 Tryd.isAgg31 rfl hX) c29 ?_
    refine HPlan.ops' rfl rfl (HOp.append (k := 4) (b := 40) Tryd.runUnderlying31 Tryd.runUnderlying31 Tryd.typeInfo35 rfl rfl Tryd.zeroValue35 rfl rfl h) ?_
    rintro _ H31 ⟨r33, rfl, h⟩
    obtain ⟨s34, h⟩ := h
    refine ⟨SC_of ⟨fun e => absurd e (by decide), fun _ => s34, trivial⟩, ?_⟩
    refine HPlan.takev (v := (Sl.v r33)) rfl rfl (fun _ => HVal.assign' rfl) ?_
    refine HPlan.done ?_
    refine nt ?_
    refine HW.seq ?_
    refine HW.region ?_
    refine HList.vals (v := (Sl.v r33)) rfl (HVal.move' rfl) ?_
    refine HList.vals (v := (.agg #[(.int .i64 0), (.int .i64 0), (.string (ByteArray.mk #[])), (.bool false)])) rfl (HVal.build' (cs := [(.int .i64 0), (.int .i64 0), (.string (ByteArray.mk #[])), (.bool false)]) Tryd.runUnderlying35 Tryd.zeroValue35 places35 rfl) ?_
    refine HList.vals (v := (.agg #[(.int .i64 0), (.int .i64 0), (.string (ByteArray.mk #[])), (.bool false)])) rfl (HVal.build' (cs := [(.int .i64 0), (.int .i64 0), (.string (ByteArray.mk #[])), (.bool false)]) Tryd.runUnderlying35 Tryd.zeroValue35 places35 rfl) ?_
    refine HList.ops' rfl (HOp.buildSlice' (zs := [(.int .i64 0), (.int .i64 0), (.string (ByteArray.mk #[])), (.bool false), (.int .i64 0), (.int .i64 0), (.string (ByteArray.mk #[])), (.bool false)]) (cs := [(.int .i64 0), (.int .i64 0), (.string (ByteArray.mk #[])), (.bool false), (.int .i64 0), (.int .i64 0), (.string (ByteArray.mk #[])), (.bool false)]) Tryd.runUnderlying31 Tryd.sizeOf35 Tryd.zeroValue35 (by decide) (by kernel_rfl) (by kernel_rfl) (by decide)) ?_
    rintro _ H35 ⟨rfl, e36⟩
    replace h := h H35 e36
    refine HList.ops' rfl (HOp.append (k := 4) (b := 40) Tryd.runUnderlying31 Tryd.runUnderlying31 Tryd.typeInfo35 rfl rfl Tryd.zeroValue35 rfl rfl h) ?_
    rintro _ H37 ⟨r39, rfl, h⟩
    refine HList.vals (v := (Sl.v r39)) rfl (HVal.assign' rfl) ?_
    refine HList.nil ?_
    refine nt ?_
    refine HW.seq ?_
    refine HW.region ?_
    refine HList.vals (v := (Sl.v r39)) rfl (HVal.move' rfl) ?_
    refine HList.vals (v := (Sl.v r39)) rfl (HVal.move' rfl) ?_
    refine HList.vals (v := (.int .i64 ((r39).c : Int))) rfl (HVal.cap Tryd.runUnderlying31 rfl) ?_
    obtain ⟨z40, z41, z42, z43, h⟩ := h
    refine HList.vals (v := (Sl.v (Sl.cut r39 4 0 (((r39).c : Int).toNat) ((r39).c)))) rfl (HVal.slice _ _ _ Tryd.runUnderlying31 Tryd.sizeOf35 rfl rfl ⟨_, _, rfl, z40, rfl⟩ rfl (by decide) z41 z42 z43) ?_
    refine HList.vals (v := (Sl.v (Sl.cut r39 4 0 (((r39).c : Int).toNat) ((r39).c)))) rfl (HVal.assign' rfl) ?_
    refine HList.nil ?_
    refine nt ?_
    refine HW.cut (fun ρ H_2 => Env.Is ρ [(0, (.pointer p0)), (3, (.pointer (some ⟨H.size, 0, none⟩))), (4, (.pointer (some ⟨H1.size, 0, none⟩))), (5, (.int .i64 ((x6).n : Int))), (6, (Sl.v (Sl.cut r39 4 0 (((r39).c : Int).toNat) ((r39).c))))] ∧ F46_2 Q p0 ⟨H.size, 0, none⟩ ⟨H1.size, 0, none⟩ ((x6).n : Int) (Sl.cut r39 4 0 (((r39).c : Int).toNat) ((r39).c)) H_2) ?_ ?_
    · refine HW.seq ?_
      refine HW.region ?_
      refine HList.vals (v := (.int .i64 ((x6).n : Int))) rfl (HVal.move' rfl) ?_
      refine HList.vals (v := (.int .i64 ((x6).n : Int))) rfl (HVal.assign' rfl) ?_
      refine HList.nil ?_
      refine nt ?_
      refine HW.block ?_
      refine HW.loop' (fun L3 hL3 => ?_)
      obtain ⟨X3, hX3⟩ : ∃ X3 : Int → Hp → Prop, ∀ (y49 : Int) (H_3 : Hp), X3 y49 H_3 ↔ ∀ ρ, Env.Is ρ [(0, (.pointer p0)), (3, (.pointer (some ⟨H.size, 0, none⟩))), (4, (.pointer (some ⟨H1.size, 0, none⟩))), (5, (.int .i64 ((x6).n : Int))), (6, (Sl.v (Sl.cut r39 4 0 (((r39).c : Int).toNat) ((r39).c)))), (7, (.int .i64 y49))] → L3 ρ H_3 := ⟨_, fun _ _ => Iff.rfl⟩
      refine (hX3 _ _).1 (h X3 ?_) _ ?_
      rotate_left
      · exact ⟨rfl, rfl, rfl, rfl, rfl, rfl, trivial⟩
      clear h
      intro y49 H_3 h
      refine (hX3 _ _).2 fun ρ hI => ?_
      obtain ⟨ρ0, rfl⟩ : ∃ ρ0, ρ = (Env.set (Env.set (Env.set (Env.set (Env.set (Env.set ρ0 7 (.int .i64 y49)) 6 (Sl.v (Sl.cut r39 4 0 (((r39).c : Int).toNat) ((r39).c)))) 5 (.int .i64 ((x6).n : Int))) 4 (.pointer (some ⟨H1.size, 0, none⟩))) 3 (.pointer (some ⟨H.size, 0, none⟩))) 0 (.pointer p0)) := ⟨ρ, hI.eq⟩
      clear hI; unfold F46_L3b at h; refine hL3 _ _ ?_
      refine HW.seq ?_
      refine HW.seq ?_
      refine HW.region ?_
      refine HList.vals (v := (.int .i64 y49)) rfl (HVal.move' rfl) ?_
      refine HList.vals (v := (Sl.v (Sl.cut r39 4 0 (((r39).c : Int).toNat) ((r39).c)))) rfl (HVal.move' rfl) ?_
      refine HList.vals (v := (.int .i64 (((Sl.cut r39 4 0 (((r39).c : Int).toNat) ((r39).c))).n : Int))) rfl (HVal.len Tryd.runUnderlying31 rfl) ?_
      refine HList.vals (v := (.bool (decide (y49 < (((Sl.cut r39 4 0 (((r39).c : Int).toNat) ((r39).c))).n : Int))))) rfl (HVal.lss rfl rfl) ?_
      refine HList.nil ?_
      refine nt ?_
      obtain ⟨hT, hF⟩ := h
      refine HW.cond (decide (y49 < (((Sl.cut r39 4 0 (((r39).c : Int).toNat) ((r39).c))).n : Int))) rfl (fun hb55 => ?_) (fun hb55 => ?_)
      · have h := hT hb55
        clear hT hF
        refine HW.skip ?_
        refine nt ?_
        refine HW.seq ?_
        refine HW.block ?_
        refine HW.region ?_
        refine HList.vals (v := (Sl.v (Sl.cut r39 4 0 (((r39).c : Int).toNat) ((r39).c)))) rfl (HVal.move' rfl) ?_
        refine HList.vals (v := (.int .i64 y49)) rfl (HVal.move' rfl) ?_
        refine HList.vals (v := (.int .i64 y49)) rfl (HVal.move' rfl) ?_
        refine HList.vals (v := (.int .i64 (IntKind.i64.wrap (77 + y49)))) rfl (HVal.add rfl rfl) ?_
        refine HList.vals (v := (.agg #[(.int .i64 (IntKind.i64.wrap (77 + y49))), (.int .i64 0), (.string (ByteArray.mk #[])), (.bool false)])) rfl (HVal.build' (cs := [(.int .i64 (IntKind.i64.wrap (77 + y49))), (.int .i64 0), (.string (ByteArray.mk #[])), (.bool false)]) Tryd.runUnderlying35 Tryd.zeroValue35 places35 rfl) ?_
        obtain ⟨a56, e57, b58, b59, h⟩ := h
        refine HList.vals (v := (.pointer (some (Addr.add a56 (y49.toNat * 4))))) rfl (HVal.indexAddr Tryd.runUnderlying31 Tryd.sizeOf35 (Sl.v_some rfl e57) rfl b58 b59) ?_
        obtain ⟨z62, h⟩ := h
        refine HList.opsn (HOp.storeN' (l := [(.int .i64 (IntKind.i64.wrap (77 + y49))), (.int .i64 0), (.string (ByteArray.mk #[])), (.bool false)]) Tryd.sizeOf35 rfl rfl rfl z62) ?_
        rintro _ H60 e61
        replace h := h H60 e61
        refine HList.nil ?_
        refine nb ?_
        refine nt ?_
        refine HW.region ?_
        refine HList.vals (v := (.int .i64 y49)) rfl (HVal.move' rfl) ?_
        refine HList.vals (v := (.int .i64 (IntKind.i64.wrap (y49 + 1)))) rfl (HVal.add rfl rfl) ?_
        refine HList.vals (v := (.int .i64 (IntKind.i64.wrap (y49 + 1)))) rfl (HVal.assign' rfl) ?_
        refine HList.nil ?_
        refine nt ?_
        exact (hX3 _ _).1 h _ ⟨rfl, rfl, rfl, rfl, rfl, rfl, trivial⟩
      · have h := hF hb55
        clear hT hF
        refine HW.exit ?_
        refine te ?_
        refine te ?_
        refine be ?_
        refine nt ?_
        exact ⟨⟨rfl, rfl, rfl, rfl, rfl, trivial⟩, h⟩
    · rintro ρ H_2 ⟨hI, h⟩
      obtain ⟨ρ0, rfl⟩ : ∃ ρ0, ρ = (Env.set (Env.set (Env.set (Env.set (Env.set ρ0 6 (Sl.v (Sl.cut r39 4 0 (((r39).c : Int).toNat) ((r39).c)))) 5 (.int .i64 ((x6).n : Int))) 4 (.pointer (some ⟨H1.size, 0, none⟩))) 3 (.pointer (some ⟨H.size, 0, none⟩))) 0 (.pointer p0)) := ⟨ρ, hI.eq⟩
      clear hI; unfold F46_2 at h
      refine HW.seq ?_
      refine HW.region ?_
      refine HList.vals (v := (.pointer p0)) rfl (HVal.move' rfl) ?_
      refine HList.vals (v := (Sl.v (Sl.cut r39 4 0 (((r39).c : Int).toNat) ((r39).c)))) rfl (HVal.move' rfl) ?_
      obtain ⟨a63, e64, h⟩ := h
      refine HList.vals (v := (.pointer (some a63))) rfl (HVal.nilCheck (congrArg Value.pointer e64)) ?_
      refine HList.vals (v := (.pointer (some (Addr.add a63 1)))) rfl (HVal.fieldAddr' Tryd.runUnderlying60 rfl rfl Tryd.sizeOf31 rfl) ?_
      obtain ⟨z67, z68, h⟩ := h
      refine HList.opsn (HOp.store1 Tryd.sizeOf31 rfl rfl rfl z67 z68) ?_
      rintro _ H65 e66
      replace h := h H65 e66
      refine HList.nil ?_
      refine nt ?_
      refine HW.seq ?_
      refine HW.region ?_
      refine HList.vals (v := (Sl.v (Sl.cut r39 4 0 (((r39).c : Int).toNat) ((r39).c)))) rfl (HVal.move' rfl) ?_
      refine HList.vals (v := (.int .i64 ((x6).n : Int))) rfl (HVal.move' rfl) ?_
      obtain ⟨z69, z70, z71, z72, h⟩ := h
      refine HList.vals (v := (Sl.v (Sl.cut (Sl.cut r39 4 0 (((r39).c : Int).toNat) ((r39).c)) 4 0 ((x6).n : Int).toNat (((Sl.cut r39 4 0 (((r39).c : Int).toNat) ((r39).c))).c)))) rfl (HVal.slice _ _ _ Tryd.runUnderlying31 Tryd.sizeOf35 rfl rfl ⟨_, _, rfl, z69, rfl⟩ rfl (by decide) z70 z71 z72) ?_
      refine HList.vals (v := (.pointer (some (Addr.add ⟨H.size, 0, none⟩ 2)))) rfl (HVal.fieldAddr' Tryd.runUnderlying33 rfl rfl Tryd.sizeOf31 rfl) ?_
      obtain ⟨z75, z76, h⟩ := h
      refine HList.opsn (HOp.store1 Tryd.sizeOf31 rfl rfl rfl z75 z76) ?_
      rintro _ H73 e74
      replace h := h H73 e74
      refine HList.nil ?_
      refine nt ?_
      refine HW.seq ?_
      refine HW.region ?_
      obtain ⟨x78, x79, x80, c77, h⟩ := h
      refine HList.vals (v := (.agg #[(.string x78), (.int .i64 x79), (Sl.v x80)])) rfl (HVal.loadN [(.string x78), (.int .i64 x79), (Sl.v x80)] Tryd.isAgg33 Tryd.sizeOf33 rfl c77) ?_
      obtain ⟨z83, h⟩ := h
      refine HList.opsn (HOp.storeN' (l := [(.string x78), (.int .i64 x79), (Sl.v x80)]) Tryd.sizeOf33 rfl rfl rfl z83) ?_
      rintro _ H81 e82
      replace h := h H81 e82
      refine HList.nil ?_
      refine nt ?_
      refine HW.ret ?_
      obtain ⟨x84, x85, x86, c87, h⟩ := h
      exact ⟨_, resOf1 rfl (Res1.n [(.string x84), (.int .i64 x85), (Sl.v x86)] Tryd.isAgg33 Tryd.sizeOf33 rfl c87), ⟨x84, x85, x86, rfl, h⟩⟩

def F71 (p0_0 : Int) (p0_1 : Int) (p0_2 : ByteArray) (p0_3 : Bool) (H : Hp) (Q : Bool → Hp → Prop) : Prop :=
∀ H1 : Hp, H1 = Array.push H (.cells #[(.int .i64 p0_0), (.int .i64 p0_1), (.string p0_2), (.bool p0_3)] 35) → (
 ∃ x4 : Int, cell H1 ⟨H.size, 0, none⟩ = some (.int .i64 x4) ∧ (
 ((decide (x4 = 1)) = true → (∃ x7 : ByteArray, cell H1 (Addr.add ⟨H.size, 0, none⟩ 2) = some (.string x7) ∧ (
 ((seq x7 (ByteArray.mk #[])) = true → (∃ x11 : Bool, cell H1 (Addr.add ⟨H.size, 0, none⟩ 3) = some (.bool x11) ∧ (
 Q (!x11) H1))) ∧
 ((seq x7 (ByteArray.mk #[])) = false → (Q false H1))))) ∧
 ((decide (x4 = 1)) = false → (((decide (x4 = 2)) = true → (∃ x14 : Int, cell H1 (Addr.add ⟨H.size, 0, none⟩ 1) = some (.int .i64 x14) ∧ (
 ((decide (x14 = 0)) = true → (∃ x18 : Bool, cell H1 (Addr.add ⟨H.size, 0, none⟩ 3) = some (.bool x18) ∧ (
 ((!x18) = true → (∃ x22 : ByteArray, cell H1 (Addr.add ⟨H.size, 0, none⟩ 2) = some (.string x22) ∧ (
 Q (decide (((x22).size : Int) ≤ 256)) H1))) ∧
 ((!x18) = false → (Q false H1))))) ∧
 ((decide (x14 = 0)) = false → (Q false H1))))) ∧
 ((decide (x4 = 2)) = false → (((decide (x4 = 3)) = true → (∃ x25 : Int, cell H1 (Addr.add ⟨H.size, 0, none⟩ 1) = some (.int .i64 x25) ∧ (
 ((decide (x25 = 0)) = true → (∃ x29 : ByteArray, cell H1 (Addr.add ⟨H.size, 0, none⟩ 2) = some (.string x29) ∧ (
 Q (seq x29 (ByteArray.mk #[])) H1))) ∧
 ((decide (x25 = 0)) = false → (Q false H1))))) ∧
 ((decide (x4 = 3)) = false → (Q false H1))))))))
set_option maxRecDepth 100000 in
set_option maxHeartbeats 4000000 in
theorem walk71 {w0 : World} {p0_0 : Int} {p0_1 : Int} {p0_2 : ByteArray} {p0_3 : Bool} {H : Hp} {Q : Bool → Hp → Prop} (h : F71 p0_0 p0_1 p0_2 p0_3 H Q) :
    Good Tryd.prog w0 71 #[(.agg #[(.int .i64 p0_0), (.int .i64 p0_1), (.string p0_2), (.bool p0_3)])] H (fun v H => ∃ (r0 : Bool) , v = (.bool r0) ∧ Q r0 H) := by
  unfold F71 at h
  refine Good.enter' (fn := Tryd.f71) Tryd.func71 rfl rfl rfl ?_
  refine HW.seq ?_
  refine HW.region ?_
  refine HList.ops' rfl (HOp.box (v := (.agg #[(.int .i64 p0_0), (.int .i64 p0_1), (.string p0_2), (.bool p0_3)])) rfl) ?_
  rintro _ H1 ⟨rfl, e2⟩
  replace h := h H1 e2
  refine HList.vals (v := (.bool false)) rfl (HVal.assign' rfl) ?_
  refine HList.nil ?_
  refine nt ?_
  refine HW.seq ?_
  refine HW.seq ?_
  refine HW.region ?_
  refine HList.vals (v := (.pointer (some ⟨H.size, 0, none⟩))) rfl (HVal.fieldAddr0 Tryd.runUnderlying35 rfl rfl Tryd.sizeOf3 rfl) ?_
  obtain ⟨x4, c3, h⟩ := h
  refine HList.vals (v := (.int .i64 x4)) rfl (HVal.load1 Tryd.isAgg3 rfl c3) ?_
  refine HList.nil ?_
  refine nt ?_
  refine HW.block ?_
  refine HW.seq ?_
  refine HW.region ?_
  refine HList.vals (v := (.bool (decide (x4 = 1)))) rfl (HVal.eqlI rfl rfl) ?_
  refine HList.vals (v := (.bool (decide (x4 = 1)))) rfl (HVal.assign' rfl) ?_
  refine HList.nil ?_
  refine nt ?_
  obtain ⟨hT, hF⟩ := h
  refine HW.cond (decide (x4 = 1)) rfl (fun hb5 => ?_) (fun hb5 => ?_)
  · have h := hT hb5
    clear hT hF
    refine HW.seq ?_
    refine HW.region ?_
    refine HList.vals (v := (.pointer (some (Addr.add ⟨H.size, 0, none⟩ 2)))) rfl (HVal.fieldAddr' Tryd.runUnderlying35 rfl rfl Tryd.sizeOf9 rfl) ?_
    obtain ⟨x7, c6, h⟩ := h
    refine HList.vals (v := (.string x7)) rfl (HVal.load1 Tryd.isAgg9 rfl c6) ?_
    refine HList.vals (v := (.bool (seq x7 (ByteArray.mk #[])))) rfl (HVal.eqlS rfl rfl) ?_
    refine HList.vals (v := (.bool (seq x7 (ByteArray.mk #[])))) rfl (HVal.move' rfl) ?_
    obtain ⟨hT, hF⟩ := h
    rcases Bool.eq_false_or_eq_true (seq x7 (ByteArray.mk #[])) with hb8 | hb9
    · have h := hT hb8
      clear hT hF
      refine HList.gvals (v := (.pointer (some (Addr.add ⟨H.size, 0, none⟩ 3)))) rfl rfl rfl rfl (congrArg Value.bool hb8) (HVal.fieldAddr' Tryd.runUnderlying35 rfl rfl Tryd.sizeOf4 rfl) ?_
      obtain ⟨x11, c10, h⟩ := h
      refine HList.gvals (v := (.bool x11)) rfl rfl rfl rfl (congrArg Value.bool hb8) (HVal.load1 Tryd.isAgg4 rfl c10) ?_
      refine HList.gvals (v := (.bool (!x11))) rfl rfl rfl rfl (congrArg Value.bool hb8) (HVal.not rfl) ?_
      refine HList.vals (v := (.bool (!x11))) rfl (HVal.pickT rfl hb8 rfl) ?_
      refine HList.vals (v := (.bool (!x11))) rfl (HVal.assign' rfl) ?_
      refine HList.nil ?_
      refine nt ?_
      refine HW.ret ?_
      refine br ?_
      refine tr ?_
      exact ⟨_, resOf1 rfl Res1.t, ⟨(!x11), rfl, h⟩⟩
    · have h := hF hb9
      clear hT hF
      refine HList.gskips rfl rfl rfl rfl (congrArg Value.bool hb9) ?_
      refine HList.gskips rfl rfl rfl rfl (congrArg Value.bool hb9) ?_
      refine HList.gskips rfl rfl rfl rfl (congrArg Value.bool hb9) ?_
      refine HList.vals (v := (.bool false)) rfl (HVal.pickF rfl hb9 rfl) ?_
      refine HList.vals (v := (.bool false)) rfl (HVal.assign' rfl) ?_
      refine HList.nil ?_
      refine nt ?_
      refine HW.ret ?_
      refine br ?_
      refine tr ?_
      exact ⟨_, resOf1 rfl Res1.t, ⟨false, rfl, h⟩⟩
  · have h := hF hb5
    clear hT hF
    refine HW.seq ?_
    refine HW.region ?_
    refine HList.vals (v := (.bool (decide (x4 = 2)))) rfl (HVal.eqlI rfl rfl) ?_
    refine HList.vals (v := (.bool (decide (x4 = 2)))) rfl (HVal.assign' rfl) ?_
    refine HList.nil ?_
    refine nt ?_
    obtain ⟨hT, hF⟩ := h
    refine HW.cond (decide (x4 = 2)) rfl (fun hb12 => ?_) (fun hb12 => ?_)
    · have h := hT hb12
      clear hT hF
      refine HW.seq ?_
      refine HW.region ?_
      refine HList.vals (v := (.pointer (some (Addr.add ⟨H.size, 0, none⟩ 1)))) rfl (HVal.fieldAddr' Tryd.runUnderlying35 rfl rfl Tryd.sizeOf2 rfl) ?_
      obtain ⟨x14, c13, h⟩ := h
      refine HList.vals (v := (.int .i64 x14)) rfl (HVal.load1 Tryd.isAgg2 rfl c13) ?_
      refine HList.vals (v := (.bool (decide (x14 = 0)))) rfl (HVal.eqlI rfl rfl) ?_
      refine HList.vals (v := (.bool (decide (x14 = 0)))) rfl (HVal.move' rfl) ?_
      obtain ⟨hT, hF⟩ := h
      rcases Bool.eq_false_or_eq_true (decide (x14 = 0)) with hb15 | hb16
      · have h := hT hb15
        clear hT hF
        refine HList.gvals (v := (.pointer (some (Addr.add ⟨H.size, 0, none⟩ 3)))) rfl rfl rfl rfl (congrArg Value.bool hb15) (HVal.fieldAddr' Tryd.runUnderlying35 rfl rfl Tryd.sizeOf4 rfl) ?_
        obtain ⟨x18, c17, h⟩ := h
        refine HList.gvals (v := (.bool x18)) rfl rfl rfl rfl (congrArg Value.bool hb15) (HVal.load1 Tryd.isAgg4 rfl c17) ?_
        refine HList.gvals (v := (.bool (!x18))) rfl rfl rfl rfl (congrArg Value.bool hb15) (HVal.not rfl) ?_
        refine HList.vals (v := (.bool (!x18))) rfl (HVal.pickT rfl hb15 rfl) ?_
        refine HList.vals (v := (.bool (!x18))) rfl (HVal.move' rfl) ?_
        obtain ⟨hT, hF⟩ := h
        rcases Bool.eq_false_or_eq_true (!x18) with hb19 | hb20
        · have h := hT hb19
          clear hT hF
          refine HList.gvals (v := (.pointer (some (Addr.add ⟨H.size, 0, none⟩ 2)))) rfl rfl rfl rfl (congrArg Value.bool hb19) (HVal.fieldAddr' Tryd.runUnderlying35 rfl rfl Tryd.sizeOf9 rfl) ?_
          obtain ⟨x22, c21, h⟩ := h
          refine HList.gvals (v := (.string x22)) rfl rfl rfl rfl (congrArg Value.bool hb19) (HVal.load1 Tryd.isAgg9 rfl c21) ?_
          refine HList.gvals (v := (.int .i64 ((x22).size : Int))) rfl rfl rfl rfl (congrArg Value.bool hb19) (HVal.lenS Tryd.runUnderlying9 rfl) ?_
          refine HList.gvals (v := (.bool (decide (((x22).size : Int) ≤ 256)))) rfl rfl rfl rfl (congrArg Value.bool hb19) (HVal.leq rfl rfl) ?_
          refine HList.vals (v := (.bool (decide (((x22).size : Int) ≤ 256)))) rfl (HVal.pickT rfl hb19 rfl) ?_
          refine HList.vals (v := (.bool (decide (((x22).size : Int) ≤ 256)))) rfl (HVal.assign' rfl) ?_
          refine HList.nil ?_
          refine nt ?_
          refine HW.ret ?_
          refine br ?_
          refine tr ?_
          exact ⟨_, resOf1 rfl Res1.t, ⟨(decide (((x22).size : Int) ≤ 256)), rfl, h⟩⟩
        · have h := hF hb20
          clear hT hF
          refine HList.gskips rfl rfl rfl rfl (congrArg Value.bool hb20) ?_
          refine HList.gskips rfl rfl rfl rfl (congrArg Value.bool hb20) ?_
          refine HList.gskips rfl rfl rfl rfl (congrArg Value.bool hb20) ?_
          refine HList.gskips rfl rfl rfl rfl (congrArg Value.bool hb20) ?_
          refine HList.vals (v := (.bool false)) rfl (HVal.pickF rfl hb20 rfl) ?_
          refine HList.vals (v := (.bool false)) rfl (HVal.assign' rfl) ?_
          refine HList.nil ?_
          refine nt ?_
          refine HW.ret ?_
          refine br ?_
          refine tr ?_
          exact ⟨_, resOf1 rfl Res1.t, ⟨false, rfl, h⟩⟩
      · have h := hF hb16
        clear hT hF
        refine HList.gskips rfl rfl rfl rfl (congrArg Value.bool hb16) ?_
        refine HList.gskips rfl rfl rfl rfl (congrArg Value.bool hb16) ?_
        refine HList.gskips rfl rfl rfl rfl (congrArg Value.bool hb16) ?_
        refine HList.vals (v := (.bool false)) rfl (HVal.pickF rfl hb16 rfl) ?_
        refine HList.vals (v := (.bool false)) rfl (HVal.move' rfl) ?_
        refine HList.gskips rfl rfl rfl rfl rfl ?_
        refine HList.gskips rfl rfl rfl rfl rfl ?_
        refine HList.gskips rfl rfl rfl rfl rfl ?_
        refine HList.gskips rfl rfl rfl rfl rfl ?_
        refine HList.vals (v := (.bool false)) rfl (HVal.pickF rfl rfl rfl) ?_
        refine HList.vals (v := (.bool false)) rfl (HVal.assign' rfl) ?_
        refine HList.nil ?_
        refine nt ?_
        refine HW.ret ?_
        refine br ?_
        refine tr ?_
        exact ⟨_, resOf1 rfl Res1.t, ⟨false, rfl, h⟩⟩
    · have h := hF hb12
      clear hT hF
      refine HW.seq ?_
      refine HW.region ?_
      refine HList.vals (v := (.bool (decide (x4 = 3)))) rfl (HVal.eqlI rfl rfl) ?_
      refine HList.vals (v := (.bool (decide (x4 = 3)))) rfl (HVal.assign' rfl) ?_
      refine HList.nil ?_
      refine nt ?_
      obtain ⟨hT, hF⟩ := h
      refine HW.cond (decide (x4 = 3)) rfl (fun hb23 => ?_) (fun hb23 => ?_)
      · have h := hT hb23
        clear hT hF
        refine HW.seq ?_
        refine HW.region ?_
        refine HList.vals (v := (.pointer (some (Addr.add ⟨H.size, 0, none⟩ 1)))) rfl (HVal.fieldAddr' Tryd.runUnderlying35 rfl rfl Tryd.sizeOf2 rfl) ?_
        obtain ⟨x25, c24, h⟩ := h
        refine HList.vals (v := (.int .i64 x25)) rfl (HVal.load1 Tryd.isAgg2 rfl c24) ?_
        refine HList.vals (v := (.bool (decide (x25 = 0)))) rfl (HVal.eqlI rfl rfl) ?_
        refine HList.vals (v := (.bool (decide (x25 = 0)))) rfl (HVal.move' rfl) ?_
        obtain ⟨hT, hF⟩ := h
        rcases Bool.eq_false_or_eq_true (decide (x25 = 0)) with hb26 | hb27
        · have h := hT hb26
          clear hT hF
          refine HList.gvals (v := (.pointer (some (Addr.add ⟨H.size, 0, none⟩ 2)))) rfl rfl rfl rfl (congrArg Value.bool hb26) (HVal.fieldAddr' Tryd.runUnderlying35 rfl rfl Tryd.sizeOf9 rfl) ?_
          obtain ⟨x29, c28, h⟩ := h
          refine HList.gvals (v := (.string x29)) rfl rfl rfl rfl (congrArg Value.bool hb26) (HVal.load1 Tryd.isAgg9 rfl c28) ?_
          refine HList.gvals (v := (.bool (seq x29 (ByteArray.mk #[])))) rfl rfl rfl rfl (congrArg Value.bool hb26) (HVal.eqlS rfl rfl) ?_
          refine HList.vals (v := (.bool (seq x29 (ByteArray.mk #[])))) rfl (HVal.pickT rfl hb26 rfl) ?_
          refine HList.vals (v := (.bool (seq x29 (ByteArray.mk #[])))) rfl (HVal.assign' rfl) ?_
          refine HList.nil ?_
          refine nt ?_
          refine HW.ret ?_
          refine br ?_
          refine tr ?_
          exact ⟨_, resOf1 rfl Res1.t, ⟨(seq x29 (ByteArray.mk #[])), rfl, h⟩⟩
        · have h := hF hb27
          clear hT hF
          refine HList.gskips rfl rfl rfl rfl (congrArg Value.bool hb27) ?_
          refine HList.gskips rfl rfl rfl rfl (congrArg Value.bool hb27) ?_
          refine HList.gskips rfl rfl rfl rfl (congrArg Value.bool hb27) ?_
          refine HList.vals (v := (.bool false)) rfl (HVal.pickF rfl hb27 rfl) ?_
          refine HList.vals (v := (.bool false)) rfl (HVal.assign' rfl) ?_
          refine HList.nil ?_
          refine nt ?_
          refine HW.ret ?_
          refine br ?_
          refine tr ?_
          exact ⟨_, resOf1 rfl Res1.t, ⟨false, rfl, h⟩⟩
      · have h := hF hb23
        clear hT hF
        refine HW.skip ?_
        refine nb ?_
        refine nt ?_
        refine HW.seq ?_
        refine HW.region ?_
        refine HList.vals (v := (.bool false)) rfl (HVal.assign' rfl) ?_
        refine HList.nil ?_
        refine nt ?_
        refine HW.ret ?_
        exact ⟨_, resOf1 rfl Res1.t, ⟨false, rfl, h⟩⟩

def F47_L2b (Q : Int → Hp → Prop) (X2 : Int → Hp → Prop) (y34 : Addr) (y35 : Sl) (y33 : Int) (H_2 : Hp) : Prop :=
((decide (y33 < ((y35).n : Int))) = true → (∃ x38 : Sl, cell H_2 (Addr.add y34 2) = some (Sl.v x38) ∧ (
 ∃ a39 : Addr, (x38).b = some a39 ∧ (0 : Int) ≤ y33 ∧ y33 < ((x38).n : Int) ∧ (
 ∃ x44 : Int, cell H_2 (Addr.add a39 (y33.toNat * 4)) = some (.int .i64 x44) ∧ (
 ∃ a45 : Addr, (y35).b = some a45 ∧ (0 : Int) ≤ y33 ∧ y33 < ((y35).n : Int) ∧ (
 ∃ x50 : Int, cell H_2 (Addr.add (Addr.add a45 (y33.toNat * 2)) 1) = some (.int .i64 x50) ∧ (
 ((decide (x44 ≠ x50)) = true → (Q 10 H_2)) ∧
 ((decide (x44 ≠ x50)) = false → (∃ x53 : Sl, cell H_2 (Addr.add y34 2) = some (Sl.v x53) ∧ (
 ∃ a54 : Addr, (x53).b = some a54 ∧ (0 : Int) ≤ y33 ∧ y33 < ((x53).n : Int) ∧ (
 ∃ (x59 : Int) (x60 : Int) (x61 : ByteArray) (x62 : Bool), cells H_2 (Addr.add a54 (y33.toNat * 4)) [(.int .i64 x59), (.int .i64 x60), (.string x61), (.bool x62)] 0 ∧ (
 F71 x59 x60 x61 x62 H_2 (fun (r65 : Bool) (H63 : Hp) => 
 ((!r65) = true → (Q 12 H63)) ∧
 ((!r65) = false → (X2 (IntKind.i64.wrap (y33 + 1)) H63))))))))))))))) ∧
 ((decide (y33 < ((y35).n : Int))) = false → (Q 0 H_2))
def F47_L2 (Q : Int → Hp → Prop) (y34 : Addr) (y35 : Sl) (y33 : Int) (H_2 : Hp) : Prop :=
  ∀ X2 : Int → Hp → Prop, (∀ (y33 : Int) (H_2 : Hp), F47_L2b Q X2 y34 y35 y33 H_2 → X2 y33 H_2) → X2 y33 H_2
def F47_1 (Q : Int → Hp → Prop) (y9 : (Option Addr)) (y10 : Addr) (y11 : Int) (y16 : Bool) (H_1 : Hp) : Prop :=
(y16 = true → (Q 23 H_1)) ∧
 (y16 = false → (∃ a20 : Addr, y9 = some a20 ∧ (
 ∃ x23 : Sl, cell H_1 a20 = some (Sl.v x23) ∧ (
 ∃ a24 : Addr, (x23).b = some a24 ∧ (0 : Int) ≤ y11 ∧ y11 < ((x23).n : Int) ∧ (
 ∃ x29 : Sl, cell H_1 (Addr.add (Addr.add a24 (y11.toNat * 2)) 1) = some (Sl.v x29) ∧ (
 ∃ x31 : Sl, cell H_1 (Addr.add y10 2) = some (Sl.v x31) ∧ (
 ((decide (((x29).n : Int) ≠ ((x31).n : Int))) = true → (Q 22 H_1)) ∧
 ((decide (((x29).n : Int) ≠ ((x31).n : Int))) = false → (F47_L2 Q y10 x29 0 H_1)))))))))
def F47 (p0 : (Option Addr)) (p1_0 : ByteArray) (p1_1 : Int) (p1_2 : Sl) (H : Hp) (Q : Int → Hp → Prop) : Prop :=
∀ H1 : Hp, H1 = Array.push H (.cells #[(.string p1_0), (.int .i64 p1_1), (Sl.v p1_2)] 33) → (
 ∃ x4 : ByteArray, cell H1 ⟨H.size, 0, none⟩ = some (.string x4) ∧ (
 F69 p0 x4 H1 (fun (r7 : Int) (H5 : Hp) => 
 ((decide (r7 < 0)) = true → (Q 21 H5)) ∧
 ((decide (r7 < 0)) = false → (∃ x13 : Int, cell H5 (Addr.add ⟨H.size, 0, none⟩ 1) = some (.int .i64 x13) ∧ (
 ((decide (x13 < 0)) = true → (F47_1 Q p0 ⟨H.size, 0, none⟩ r7 true H5)) ∧
 ((decide (x13 < 0)) = false → (∃ x18 : Int, cell H5 (Addr.add ⟨H.size, 0, none⟩ 1) = some (.int .i64 x18) ∧ (
 F47_1 Q p0 ⟨H.size, 0, none⟩ r7 (decide ((4611686018427387904 : Int) < x18)) H5)))))))))
set_option maxRecDepth 100000 in
set_option maxHeartbeats 4000000 in
theorem walk47 {w0 : World} {p0 : (Option Addr)} {p1_0 : ByteArray} {p1_1 : Int} {p1_2 : Sl} {H : Hp} {Q : Int → Hp → Prop} (h : F47 p0 p1_0 p1_1 p1_2 H Q) :
    Good Tryd.prog w0 47 #[(.pointer p0), (.agg #[(.string p1_0), (.int .i64 p1_1), (Sl.v p1_2)])] H (fun v H => ∃ (r0 : Int) , v = (.int .i64 r0) ∧ Q r0 H) := by
  unfold F47 at h
  refine Good.enter' (fn := Tryd.f47) Tryd.func47 rfl rfl rfl ?_
  refine HW.seq ?_
  refine HW.region ?_
  refine HList.ops' rfl (HOp.box (v := (.agg #[(.string p1_0), (.int .i64 p1_1), (Sl.v p1_2)])) rfl) ?_
  rintro _ H1 ⟨rfl, e2⟩
  replace h := h H1 e2
  refine HList.vals (v := (.int .i64 0)) rfl (HVal.assign' rfl) ?_
  refine HList.nil ?_
  refine nt ?_
  refine HW.seq ?_
  refine HW.region ?_
  refine HList.vals (v := (.pointer p0)) rfl (HVal.move' rfl) ?_
  refine HList.vals (v := (.pointer (some ⟨H.size, 0, none⟩))) rfl (HVal.fieldAddr0 Tryd.runUnderlying33 rfl rfl Tryd.sizeOf9 rfl) ?_
  obtain ⟨x4, c3, h⟩ := h
  refine HList.vals (v := (.string x4)) rfl (HVal.load1 Tryd.isAgg9 rfl c3) ?_
  refine HList.ops' rfl (HOp.call' 69 [(.pointer p0), (.string x4)] (cap := []) rfl rfl Tryd.call69 (walk69 h)) ?_
  rintro _ H5 ⟨r7, rfl, h⟩
  refine HList.vals (v := (.int .i64 r7)) rfl (HVal.assign' rfl) ?_
  refine HList.nil ?_
  refine nt ?_
  refine HW.seq ?_
  refine HW.seq ?_
  refine HW.region ?_
  refine HList.vals (v := (.int .i64 r7)) rfl (HVal.move' rfl) ?_
  refine HList.vals (v := (.bool (decide (r7 < 0)))) rfl (HVal.lss rfl rfl) ?_
  refine HList.nil ?_
  refine nt ?_
  obtain ⟨hT, hF⟩ := h
  refine HW.cond (decide (r7 < 0)) rfl (fun hb8 => ?_) (fun hb8 => ?_)
  · have h := hT hb8
    clear hT hF
    refine HW.seq ?_
    refine HW.region ?_
    refine HList.vals (v := (.int .i64 21)) rfl (HVal.assign' rfl) ?_
    refine HList.nil ?_
    refine nt ?_
    refine HW.ret ?_
    refine tr ?_
    exact ⟨_, resOf1 rfl Res1.t, ⟨21, rfl, h⟩⟩
  · have h := hF hb8
    clear hT hF
    refine HW.skip ?_
    refine nt ?_
    refine HW.seq ?_
    refine HW.cut (fun ρ H_1 => ∃ (y16 : Bool), Env.Is ρ [(0, (.pointer p0)), (3, (.pointer (some ⟨H.size, 0, none⟩))), (5, (.int .i64 r7)), (21, (.bool y16))] ∧ F47_1 Q p0 ⟨H.size, 0, none⟩ r7 y16 H_1) ?_ ?_
    · refine HW.region ?_
      refine HList.vals (v := (.pointer (some (Addr.add ⟨H.size, 0, none⟩ 1)))) rfl (HVal.fieldAddr' Tryd.runUnderlying33 rfl rfl Tryd.sizeOf2 rfl) ?_
      obtain ⟨x13, c12, h⟩ := h
      refine HList.vals (v := (.int .i64 x13)) rfl (HVal.load1 Tryd.isAgg2 rfl c12) ?_
      refine HList.vals (v := (.bool (decide (x13 < 0)))) rfl (HVal.lss rfl rfl) ?_
      refine HList.vals (v := (.bool (decide (x13 < 0)))) rfl (HVal.move' rfl) ?_
      obtain ⟨hT, hF⟩ := h
      rcases Bool.eq_false_or_eq_true (decide (x13 < 0)) with hb14 | hb15
      · have h := hT hb14
        clear hT hF
        refine HList.gskips rfl rfl rfl rfl (congrArg Value.bool hb14) ?_
        refine HList.gskips rfl rfl rfl rfl (congrArg Value.bool hb14) ?_
        refine HList.gskips rfl rfl rfl rfl (congrArg Value.bool hb14) ?_
        refine HList.vals (v := (.bool true)) rfl (HVal.pickT rfl hb14 rfl) ?_
        refine HList.nil ?_
        refine nt ?_
        exact ⟨true, ⟨rfl, rfl, rfl, rfl, trivial⟩, h⟩
      · have h := hF hb15
        clear hT hF
        refine HList.gvals (v := (.pointer (some (Addr.add ⟨H.size, 0, none⟩ 1)))) rfl rfl rfl rfl (congrArg Value.bool hb15) (HVal.fieldAddr' Tryd.runUnderlying33 rfl rfl Tryd.sizeOf2 rfl) ?_
        obtain ⟨x18, c17, h⟩ := h
        refine HList.gvals (v := (.int .i64 x18)) rfl rfl rfl rfl (congrArg Value.bool hb15) (HVal.load1 Tryd.isAgg2 rfl c17) ?_
        refine HList.gvals (v := (.bool (decide ((4611686018427387904 : Int) < x18)))) rfl rfl rfl rfl (congrArg Value.bool hb15) (HVal.gtr rfl rfl) ?_
        refine HList.vals (v := (.bool (decide ((4611686018427387904 : Int) < x18)))) rfl (HVal.pickF rfl hb15 rfl) ?_
        refine HList.nil ?_
        refine nt ?_
        exact ⟨(decide ((4611686018427387904 : Int) < x18)), ⟨rfl, rfl, rfl, rfl, trivial⟩, h⟩
    · rintro ρ H_1 ⟨y16, hI, h⟩
      obtain ⟨ρ0, rfl⟩ : ∃ ρ0, ρ = (Env.set (Env.set (Env.set (Env.set ρ0 21 (.bool y16)) 5 (.int .i64 r7)) 3 (.pointer (some ⟨H.size, 0, none⟩))) 0 (.pointer p0)) := ⟨ρ, hI.eq⟩
      clear hI; unfold F47_1 at h
      obtain ⟨hT, hF⟩ := h
      refine HW.cond y16 rfl (fun hb19 => ?_) (fun hb19 => ?_)
      · have h := hT hb19
        clear hT hF
        refine HW.seq ?_
        refine HW.region ?_
        refine HList.vals (v := (.int .i64 23)) rfl (HVal.assign' rfl) ?_
        refine HList.nil ?_
        refine nt ?_
        refine HW.ret ?_
        refine tr ?_
        exact ⟨_, resOf1 rfl Res1.t, ⟨23, rfl, h⟩⟩
      · have h := hF hb19
        clear hT hF
        refine HW.skip ?_
        refine nt ?_
        refine HW.seq ?_
        refine HW.region ?_
        refine HList.vals (v := (.pointer p0)) rfl (HVal.move' rfl) ?_
        obtain ⟨a20, e21, h⟩ := h
        refine HList.vals (v := (.pointer (some a20))) rfl (HVal.nilCheck (congrArg Value.pointer e21)) ?_
        refine HList.vals (v := (.pointer (some a20))) rfl (HVal.fieldAddr0 Tryd.runUnderlying118 rfl rfl Tryd.sizeOf54 rfl) ?_
        obtain ⟨x23, c22, h⟩ := h
        refine HList.vals (v := (Sl.v x23)) rfl (HVal.load1 Tryd.isAgg54 rfl c22) ?_
        refine HList.vals (v := (.int .i64 r7)) rfl (HVal.move' rfl) ?_
        obtain ⟨a24, e25, b26, b27, h⟩ := h
        refine HList.vals (v := (.pointer (some (Addr.add a24 (r7.toNat * 2))))) rfl (HVal.indexAddr Tryd.runUnderlying54 Tryd.sizeOf27 (Sl.v_some rfl e25) rfl b26 b27) ?_
        refine HList.vals (v := (.pointer (some (Addr.add (Addr.add a24 (r7.toNat * 2)) 1)))) rfl (HVal.fieldAddr' Tryd.runUnderlying27 rfl rfl Tryd.sizeOf25 rfl) ?_
        obtain ⟨x29, c28, h⟩ := h
        refine HList.vals (v := (Sl.v x29)) rfl (HVal.load1 Tryd.isAgg25 rfl c28) ?_
        refine HList.vals (v := (Sl.v x29)) rfl (HVal.assign' rfl) ?_
        refine HList.nil ?_
        refine nt ?_
        refine HW.seq ?_
        refine HW.seq ?_
        refine HW.region ?_
        refine HList.vals (v := (Sl.v x29)) rfl (HVal.move' rfl) ?_
        refine HList.vals (v := (.int .i64 ((x29).n : Int))) rfl (HVal.len Tryd.runUnderlying25 rfl) ?_
        refine HList.vals (v := (.pointer (some (Addr.add ⟨H.size, 0, none⟩ 2)))) rfl (HVal.fieldAddr' Tryd.runUnderlying33 rfl rfl Tryd.sizeOf31 rfl) ?_
        obtain ⟨x31, c30, h⟩ := h
        refine HList.vals (v := (Sl.v x31)) rfl (HVal.load1 Tryd.isAgg31 rfl c30) ?_
        refine HList.vals (v := (.int .i64 ((x31).n : Int))) rfl (HVal.len Tryd.runUnderlying31 rfl) ?_
        refine HList.vals (v := (.bool (decide (((x29).n : Int) ≠ ((x31).n : Int))))) rfl (HVal.neqI rfl rfl) ?_
        refine HList.nil ?_
        refine nt ?_
        obtain ⟨hT, hF⟩ := h
        refine HW.cond (decide (((x29).n : Int) ≠ ((x31).n : Int))) rfl (fun hb32 => ?_) (fun hb32 => ?_)
        · have h := hT hb32
          clear hT hF
          refine HW.seq ?_
          refine HW.region ?_
          refine HList.vals (v := (.int .i64 22)) rfl (HVal.assign' rfl) ?_
          refine HList.nil ?_
          refine nt ?_
          refine HW.ret ?_
          refine tr ?_
          exact ⟨_, resOf1 rfl Res1.t, ⟨22, rfl, h⟩⟩
        · have h := hF hb32
          clear hT hF
          refine HW.skip ?_
          refine nt ?_
          refine HW.seq ?_
          refine HW.seq ?_
          refine HW.region ?_
          refine HList.vals (v := (.int .i64 0)) rfl (HVal.assign' rfl) ?_
          refine HList.nil ?_
          refine nt ?_
          refine HW.block ?_
          refine HW.loop' (fun L2 hL2 => ?_)
          obtain ⟨X2, hX2⟩ : ∃ X2 : Int → Hp → Prop, ∀ (y33 : Int) (H_2 : Hp), X2 y33 H_2 ↔ ∀ ρ, Env.Is ρ [(3, (.pointer (some ⟨H.size, 0, none⟩))), (6, (Sl.v x29)), (7, (.int .i64 y33))] → L2 ρ H_2 := ⟨_, fun _ _ => Iff.rfl⟩
          refine (hX2 _ _).1 (h X2 ?_) _ ?_
          rotate_left
          · exact ⟨rfl, rfl, rfl, trivial⟩
          clear h
          intro y33 H_2 h
          refine (hX2 _ _).2 fun ρ hI => ?_
          obtain ⟨ρ0, rfl⟩ : ∃ ρ0, ρ = (Env.set (Env.set (Env.set ρ0 7 (.int .i64 y33)) 6 (Sl.v x29)) 3 (.pointer (some ⟨H.size, 0, none⟩))) := ⟨ρ, hI.eq⟩
          clear hI; unfold F47_L2b at h; refine hL2 _ _ ?_
          refine HW.seq ?_
          refine HW.seq ?_
          refine HW.region ?_
          refine HList.vals (v := (.int .i64 y33)) rfl (HVal.move' rfl) ?_
          refine HList.vals (v := (Sl.v x29)) rfl (HVal.move' rfl) ?_
          refine HList.vals (v := (.int .i64 ((x29).n : Int))) rfl (HVal.len Tryd.runUnderlying25 rfl) ?_
          refine HList.vals (v := (.bool (decide (y33 < ((x29).n : Int))))) rfl (HVal.lss rfl rfl) ?_
          refine HList.nil ?_
          refine nt ?_
          obtain ⟨hT, hF⟩ := h
          refine HW.cond (decide (y33 < ((x29).n : Int))) rfl (fun hb36 => ?_) (fun hb36 => ?_)
          · have h := hT hb36
            clear hT hF
            refine HW.skip ?_
            refine nt ?_
            refine HW.seq ?_
            refine HW.block ?_
            refine HW.seq ?_
            refine HW.seq ?_
            refine HW.draw mixed [(0, some []), (1, some []), (2, some []), (3, some []), (4, some []), (5, some []), (6, some []), (7, some []), (8, some []), (9, some []), (10, some []), (11, some [])] rfl (by kernel_rfl) (by kernel_rfl) ?_
            refine HPlan.takev (v := (.pointer (some (Addr.add ⟨H.size, 0, none⟩ 2)))) rfl rfl (fun _ => HVal.fieldAddr' Tryd.runUnderlying33 rfl rfl Tryd.sizeOf31 rfl) ?_
            obtain ⟨x38, c37, h⟩ := h
            refine HPlan.takel (v := (Sl.v x38)) (fun X => cell X (Addr.add ⟨H.size, 0, none⟩ 2) = some (Sl.v x38)) rfl rfl (fun _ hX => HVal.load1 Tryd.isAgg31 rfl hX) c37 ?_
            refine HPlan.takev (v := (.int .i64 y33)) rfl rfl (fun _ => HVal.move' rfl) ?_
            obtain ⟨a39, e40, b41, b42, h⟩ := h
            refine HPlan.takev (v := (.pointer (some (Addr.add a39 (y33.toNat * 4))))) rfl rfl (fun _ => HVal.indexAddr Tryd.runUnderlying31 Tryd.sizeOf35 (Sl.v_some rfl e40) rfl b41 b42) ?_
            refine HPlan.takev (v := (.pointer (some (Addr.add a39 (y33.toNat * 4))))) rfl rfl (fun _ => HVal.fieldAddr0 Tryd.runUnderlying35 rfl rfl Tryd.sizeOf3 rfl) ?_
            obtain ⟨x44, c43, h⟩ := h
            refine HPlan.takel (v := (.int .i64 x44)) (fun X => cell X (Addr.add a39 (y33.toNat * 4)) = some (.int .i64 x44)) rfl rfl (fun _ hX => HVal.load1 Tryd.isAgg3 rfl hX) c43 ?_
            refine HPlan.takev (v := (Sl.v x29)) rfl rfl (fun _ => HVal.move' rfl) ?_
            refine HPlan.takev (v := (.int .i64 y33)) rfl rfl (fun _ => HVal.move' rfl) ?_
            obtain ⟨a45, e46, b47, b48, h⟩ := h
            refine HPlan.takev (v := (.pointer (some (Addr.add a45 (y33.toNat * 2))))) rfl rfl (fun _ => HVal.indexAddr Tryd.runUnderlying25 Tryd.sizeOf38 (Sl.v_some rfl e46) rfl b47 b48) ?_
            refine HPlan.takev (v := (.pointer (some (Addr.add (Addr.add a45 (y33.toNat * 2)) 1)))) rfl rfl (fun _ => HVal.fieldAddr' Tryd.runUnderlying38 rfl rfl Tryd.sizeOf3 rfl) ?_
            obtain ⟨x50, c49, h⟩ := h
            refine HPlan.takel (v := (.int .i64 x50)) (fun X => cell X (Addr.add (Addr.add a45 (y33.toNat * 2)) 1) = some (.int .i64 x50)) rfl rfl (fun _ hX => HVal.load1 Tryd.isAgg3 rfl hX) c49 ?_
            refine HPlan.takev (v := (.bool (decide (x44 ≠ x50)))) rfl rfl (fun _ => HVal.neqI rfl rfl) ?_
            refine HPlan.done ?_
            refine nt ?_
            obtain ⟨hT, hF⟩ := h
            refine HW.cond (decide (x44 ≠ x50)) rfl (fun hb51 => ?_) (fun hb51 => ?_)
            · have h := hT hb51
              clear hT hF
              refine HW.seq ?_
              refine HW.region ?_
              refine HList.vals (v := (.int .i64 10)) rfl (HVal.assign' rfl) ?_
              refine HList.nil ?_
              refine nt ?_
              refine HW.ret ?_
              refine tr ?_
              refine br ?_
              refine tr ?_
              refine tr ?_
              refine br ?_
              refine tr ?_
              exact ⟨_, resOf1 rfl Res1.t, ⟨10, rfl, h⟩⟩
            · have h := hF hb51
              clear hT hF
              refine HW.skip ?_
              refine nt ?_
              refine HW.seq ?_
              refine HW.region ?_
              refine HList.vals (v := (.pointer (some (Addr.add ⟨H.size, 0, none⟩ 2)))) rfl (HVal.fieldAddr' Tryd.runUnderlying33 rfl rfl Tryd.sizeOf31 rfl) ?_
              obtain ⟨x53, c52, h⟩ := h
              refine HList.vals (v := (Sl.v x53)) rfl (HVal.load1 Tryd.isAgg31 rfl c52) ?_
              refine HList.vals (v := (.int .i64 y33)) rfl (HVal.move' rfl) ?_
              obtain ⟨a54, e55, b56, b57, h⟩ := h
              refine HList.vals (v := (.pointer (some (Addr.add a54 (y33.toNat * 4))))) rfl (HVal.indexAddr Tryd.runUnderlying31 Tryd.sizeOf35 (Sl.v_some rfl e55) rfl b56 b57) ?_
              obtain ⟨x59, x60, x61, x62, c58, h⟩ := h
              refine HList.vals (v := (.agg #[(.int .i64 x59), (.int .i64 x60), (.string x61), (.bool x62)])) rfl (HVal.loadN [(.int .i64 x59), (.int .i64 x60), (.string x61), (.bool x62)] Tryd.isAgg35 Tryd.sizeOf35 rfl c58) ?_
              refine HList.ops' rfl (HOp.call' 71 [(.agg #[(.int .i64 x59), (.int .i64 x60), (.string x61), (.bool x62)])] (cap := []) rfl rfl Tryd.call71 (walk71 h)) ?_
              rintro _ H63 ⟨r65, rfl, h⟩
              refine HList.vals (v := (.bool (!r65))) rfl (HVal.not rfl) ?_
              refine HList.nil ?_
              refine nt ?_
              obtain ⟨hT, hF⟩ := h
              refine HW.cond (!r65) rfl (fun hb66 => ?_) (fun hb66 => ?_)
              · have h := hT hb66
                clear hT hF
                refine HW.seq ?_
                refine HW.region ?_
                refine HList.vals (v := (.int .i64 12)) rfl (HVal.assign' rfl) ?_
                refine HList.nil ?_
                refine nt ?_
                refine HW.ret ?_
                refine br ?_
                refine tr ?_
                refine tr ?_
                refine br ?_
                refine tr ?_
                exact ⟨_, resOf1 rfl Res1.t, ⟨12, rfl, h⟩⟩
              · have h := hF hb66
                clear hT hF
                refine HW.skip ?_
                refine nb ?_
                refine nt ?_
                refine HW.region ?_
                refine HList.vals (v := (.int .i64 y33)) rfl (HVal.move' rfl) ?_
                refine HList.vals (v := (.int .i64 (IntKind.i64.wrap (y33 + 1)))) rfl (HVal.add rfl rfl) ?_
                refine HList.vals (v := (.int .i64 (IntKind.i64.wrap (y33 + 1)))) rfl (HVal.assign' rfl) ?_
                refine HList.nil ?_
                refine nt ?_
                exact (hX2 _ _).1 h _ ⟨rfl, rfl, rfl, trivial⟩
          · have h := hF hb36
            clear hT hF
            refine HW.exit ?_
            refine te ?_
            refine te ?_
            refine be ?_
            refine nt ?_
            refine HW.seq ?_
            refine HW.region ?_
            refine HList.vals (v := (.int .i64 0)) rfl (HVal.assign' rfl) ?_
            refine HList.nil ?_
            refine nt ?_
            refine HW.ret ?_
            exact ⟨_, resOf1 rfl Res1.t, ⟨0, rfl, h⟩⟩

def F48_1 (Q : Bool → Hp → Prop) (y74 : Bool) (H_1 : Hp) : Prop :=
Q y74 H_1
def F48_4 (Q : Bool → Hp → Prop) (X2 : Bool → Int → Hp → Prop) (y39 : (Option Addr)) (y40 : Addr) (y41 : Int) (y62 : Bool) (H_4 : Hp) : Prop :=
∃ a63 : Addr, y39 = some a63 ∧ (
 ∃ x66 : Sl, cell H_4 (Addr.add a63 1) = some (Sl.v x66) ∧ (
 ∃ a67 : Addr, (x66).b = some a67 ∧ (0 : Int) ≤ y41 ∧ y41 < ((x66).n : Int) ∧ (
 mayw H_4 (Addr.add a67 (y41.toNat * 4)) 4 0 ∧ ∀ H71 : Hp, H71 = sets H_4 (Addr.add a67 (y41.toNat * 4)) [(.int .i64 99), (.int .i64 0), (.string S_kept), (.bool false)] 0 → (
 X2 y62 (IntKind.i64.wrap (y41 + 1)) H71))))
def F48_3 (Q : Bool → Hp → Prop) (X2 : Bool → Int → Hp → Prop) (y17 : (Option Addr)) (y18 : Addr) (y19 : Bool) (y20 : Int) (y21 : Addr) (H_3 : Hp) : Prop :=
(y19 = true → (∃ a44 : Addr, y17 = some a44 ∧ (
 ∃ x47 : Sl, cell H_3 (Addr.add a44 1) = some (Sl.v x47) ∧ (
 ∃ a48 : Addr, (x47).b = some a48 ∧ (0 : Int) ≤ y20 ∧ y20 < ((x47).n : Int) ∧ (
 ∃ (x53 : Int) (x54 : Int) (x55 : ByteArray) (x56 : Bool), cells H_3 (Addr.add a48 (y20.toNat * 4)) [(.int .i64 x53), (.int .i64 x54), (.string x55), (.bool x56)] 0 ∧ (
 ∃ (x58 : Int) (x59 : Int) (x60 : ByteArray) (x61 : Bool), cells H_3 y21 [(.int .i64 x58), (.int .i64 x59), (.string x60), (.bool x61)] 0 ∧ (
 F48_4 Q X2 y17 y18 y20 (decide (x53 = x58) && (decide (x54 = x59) && (seq x55 x60 && (x56 == x61)))) H_3))))))) ∧
 (y19 = false → (F48_4 Q X2 y17 y18 y20 false H_3))
def F48_L2b (Q : Bool → Hp → Prop) (X2 : Bool → Int → Hp → Prop) (y5 : (Option Addr)) (y6 : Addr) (y3 : Bool) (y4 : Int) (H_2 : Hp) : Prop :=
∃ a7 : Addr, y5 = some a7 ∧ (
 ∃ x10 : Sl, cell H_2 (Addr.add a7 1) = some (Sl.v x10) ∧ (
 ((decide (y4 < ((x10).n : Int))) = true → (∀ H12 : Hp, H12 = Array.push H_2 (.cells #[(.int .i64 0), (.int .i64 0), (.string (ByteArray.mk #[])), (.bool false)] 35) → (
 mayw H12 ⟨H_2.size, 0, none⟩ 4 0 ∧ ∀ H14 : Hp, H14 = sets H12 ⟨H_2.size, 0, none⟩ [(.int .i64 (IntKind.i64.wrap (77 + y4))), (.int .i64 0), (.string (ByteArray.mk #[])), (.bool false)] 0 → (
 ∃ x23 : Sl, cell H14 (Addr.add y6 2) = some (Sl.v x23) ∧ (
 ((decide (y4 < ((x23).n : Int))) = true → (∃ x26 : Sl, cell H14 (Addr.add y6 2) = some (Sl.v x26) ∧ (
 ∃ a27 : Addr, (x26).b = some a27 ∧ (0 : Int) ≤ y4 ∧ y4 < ((x26).n : Int) ∧ (
 ∃ (x32 : Int) (x33 : Int) (x34 : ByteArray) (x35 : Bool), cells H14 (Addr.add a27 (y4.toNat * 4)) [(.int .i64 x32), (.int .i64 x33), (.string x34), (.bool x35)] 0 ∧ (
 mayw H14 ⟨H_2.size, 0, none⟩ 4 0 ∧ ∀ H36 : Hp, H36 = sets H14 ⟨H_2.size, 0, none⟩ [(.int .i64 x32), (.int .i64 x33), (.string x34), (.bool x35)] 0 → (
 F48_3 Q X2 y5 y6 y3 y4 ⟨H_2.size, 0, none⟩ H36)))))) ∧
 ((decide (y4 < ((x23).n : Int))) = false → (F48_3 Q X2 y5 y6 y3 y4 ⟨H_2.size, 0, none⟩ H14))))))) ∧
 ((decide (y4 < ((x10).n : Int))) = false → (F48_1 Q y3 H_2))))
def F48_L2 (Q : Bool → Hp → Prop) (y5 : (Option Addr)) (y6 : Addr) (y3 : Bool) (y4 : Int) (H_2 : Hp) : Prop :=
  ∀ X2 : Bool → Int → Hp → Prop, (∀ (y3 : Bool) (y4 : Int) (H_2 : Hp), F48_L2b Q X2 y5 y6 y3 y4 H_2 → X2 y3 y4 H_2) → X2 y3 y4 H_2
def F48 (p0 : (Option Addr)) (p1_0 : ByteArray) (p1_1 : Int) (p1_2 : Sl) (H : Hp) (Q : Bool → Hp → Prop) : Prop :=
∀ H1 : Hp, H1 = Array.push H (.cells #[(.string p1_0), (.int .i64 p1_1), (Sl.v p1_2)] 33) → (
 F48_L2 Q p0 ⟨H.size, 0, none⟩ true 0 H1)
set_option maxRecDepth 100000 in
set_option maxHeartbeats 4000000 in
theorem walk48 {w0 : World} {p0 : (Option Addr)} {p1_0 : ByteArray} {p1_1 : Int} {p1_2 : Sl} {H : Hp} {Q : Bool → Hp → Prop} (h : F48 p0 p1_0 p1_1 p1_2 H Q) :
    Good Tryd.prog w0 48 #[(.pointer p0), (.agg #[(.string p1_0), (.int .i64 p1_1), (Sl.v p1_2)])] H (fun v H => ∃ (r0 : Bool) , v = (.bool r0) ∧ Q r0 H) := by
  unfold F48 at h
  refine Good.enter' (fn := Tryd.f48) Tryd.func48 rfl rfl rfl ?_
  refine HW.seq ?_
  refine HW.region ?_
  refine HList.ops' rfl (HOp.box (v := (.agg #[(.string p1_0), (.int .i64 p1_1), (Sl.v p1_2)])) rfl) ?_
  rintro _ H1 ⟨rfl, e2⟩
  replace h := h H1 e2
  refine HList.vals (v := (.bool false)) rfl (HVal.assign' rfl) ?_
  refine HList.nil ?_
  refine nt ?_
  refine HW.seq ?_
  refine HW.region ?_
  refine HList.vals (v := (.bool true)) rfl (HVal.assign' rfl) ?_
  refine HList.nil ?_
  refine nt ?_
  refine HW.cut (fun ρ H_1 => ∃ (y74 : Bool), Env.Is ρ [(5, (.bool y74))] ∧ F48_1 Q y74 H_1) ?_ ?_
  · refine HW.seq ?_
    refine HW.region ?_
    refine HList.vals (v := (.int .i64 0)) rfl (HVal.assign' rfl) ?_
    refine HList.nil ?_
    refine nt ?_
    refine HW.block ?_
    refine HW.loop' (fun L2 hL2 => ?_)
    obtain ⟨X2, hX2⟩ : ∃ X2 : Bool → Int → Hp → Prop, ∀ (y3 : Bool) (y4 : Int) (H_2 : Hp), X2 y3 y4 H_2 ↔ ∀ ρ, Env.Is ρ [(0, (.pointer p0)), (3, (.pointer (some ⟨H.size, 0, none⟩))), (5, (.bool y3)), (6, (.int .i64 y4))] → L2 ρ H_2 := ⟨_, fun _ _ _ => Iff.rfl⟩
    refine (hX2 _ _ _).1 (h X2 ?_) _ ?_
    rotate_left
    · exact ⟨rfl, rfl, rfl, rfl, trivial⟩
    clear h
    intro y3 y4 H_2 h
    refine (hX2 _ _ _).2 fun ρ hI => ?_
    obtain ⟨ρ0, rfl⟩ : ∃ ρ0, ρ = (Env.set (Env.set (Env.set (Env.set ρ0 6 (.int .i64 y4)) 5 (.bool y3)) 3 (.pointer (some ⟨H.size, 0, none⟩))) 0 (.pointer p0)) := ⟨ρ, hI.eq⟩
    clear hI; unfold F48_L2b at h; refine hL2 _ _ ?_
    refine HW.seq ?_
    refine HW.seq ?_
    refine HW.region ?_
    refine HList.vals (v := (.int .i64 y4)) rfl (HVal.move' rfl) ?_
    refine HList.vals (v := (.pointer p0)) rfl (HVal.move' rfl) ?_
    obtain ⟨a7, e8, h⟩ := h
    refine HList.vals (v := (.pointer (some a7))) rfl (HVal.nilCheck (congrArg Value.pointer e8)) ?_
    refine HList.vals (v := (.pointer (some (Addr.add a7 1)))) rfl (HVal.fieldAddr' Tryd.runUnderlying60 rfl rfl Tryd.sizeOf31 rfl) ?_
    obtain ⟨x10, c9, h⟩ := h
    refine HList.vals (v := (Sl.v x10)) rfl (HVal.load1 Tryd.isAgg31 rfl c9) ?_
    refine HList.vals (v := (.int .i64 ((x10).n : Int))) rfl (HVal.len Tryd.runUnderlying31 rfl) ?_
    refine HList.vals (v := (.bool (decide (y4 < ((x10).n : Int))))) rfl (HVal.lss rfl rfl) ?_
    refine HList.nil ?_
    refine nt ?_
    obtain ⟨hT, hF⟩ := h
    refine HW.cond (decide (y4 < ((x10).n : Int))) rfl (fun hb11 => ?_) (fun hb11 => ?_)
    · have h := hT hb11
      clear hT hF
      refine HW.skip ?_
      refine nt ?_
      refine HW.seq ?_
      refine HW.block ?_
      refine HW.seq ?_
      refine HW.region ?_
      refine HList.vals (v := (.int .i64 y4)) rfl (HVal.move' rfl) ?_
      refine HList.vals (v := (.int .i64 (IntKind.i64.wrap (77 + y4)))) rfl (HVal.add rfl rfl) ?_
      refine HList.vals (v := (.agg #[(.int .i64 (IntKind.i64.wrap (77 + y4))), (.int .i64 0), (.string (ByteArray.mk #[])), (.bool false)])) rfl (HVal.build' (cs := [(.int .i64 (IntKind.i64.wrap (77 + y4))), (.int .i64 0), (.string (ByteArray.mk #[])), (.bool false)]) Tryd.runUnderlying35 Tryd.zeroValue35 places35 rfl) ?_
      refine HList.ops' rfl (HOp.alloc Tryd.zeroValue35) ?_
      rintro _ H12 ⟨rfl, e13⟩
      replace h := h H12 e13
      obtain ⟨z16, h⟩ := h
      refine HList.opsn (HOp.storeN' (l := [(.int .i64 (IntKind.i64.wrap (77 + y4))), (.int .i64 0), (.string (ByteArray.mk #[])), (.bool false)]) Tryd.sizeOf35 rfl rfl rfl z16) ?_
      rintro _ H14 e15
      replace h := h H14 e15
      refine HList.nil ?_
      refine nt ?_
      refine HW.cut (fun ρ H_3 => Env.Is ρ [(0, (.pointer p0)), (3, (.pointer (some ⟨H.size, 0, none⟩))), (5, (.bool y3)), (6, (.int .i64 y4)), (7, (.pointer (some ⟨H_2.size, 0, none⟩)))] ∧ F48_3 Q X2 p0 ⟨H.size, 0, none⟩ y3 y4 ⟨H_2.size, 0, none⟩ H_3) ?_ ?_
      · refine HW.seq ?_
        refine HW.region ?_
        refine HList.vals (v := (.int .i64 y4)) rfl (HVal.move' rfl) ?_
        refine HList.vals (v := (.pointer (some (Addr.add ⟨H.size, 0, none⟩ 2)))) rfl (HVal.fieldAddr' Tryd.runUnderlying33 rfl rfl Tryd.sizeOf31 rfl) ?_
        obtain ⟨x23, c22, h⟩ := h
        refine HList.vals (v := (Sl.v x23)) rfl (HVal.load1 Tryd.isAgg31 rfl c22) ?_
        refine HList.vals (v := (.int .i64 ((x23).n : Int))) rfl (HVal.len Tryd.runUnderlying31 rfl) ?_
        refine HList.vals (v := (.bool (decide (y4 < ((x23).n : Int))))) rfl (HVal.lss rfl rfl) ?_
        refine HList.nil ?_
        refine nt ?_
        obtain ⟨hT, hF⟩ := h
        refine HW.cond (decide (y4 < ((x23).n : Int))) rfl (fun hb24 => ?_) (fun hb24 => ?_)
        · have h := hT hb24
          clear hT hF
          refine HW.region ?_
          refine HList.vals (v := (.pointer (some (Addr.add ⟨H.size, 0, none⟩ 2)))) rfl (HVal.fieldAddr' Tryd.runUnderlying33 rfl rfl Tryd.sizeOf31 rfl) ?_
          obtain ⟨x26, c25, h⟩ := h
          refine HList.vals (v := (Sl.v x26)) rfl (HVal.load1 Tryd.isAgg31 rfl c25) ?_
          refine HList.vals (v := (.int .i64 y4)) rfl (HVal.move' rfl) ?_
          obtain ⟨a27, e28, b29, b30, h⟩ := h
          refine HList.vals (v := (.pointer (some (Addr.add a27 (y4.toNat * 4))))) rfl (HVal.indexAddr Tryd.runUnderlying31 Tryd.sizeOf35 (Sl.v_some rfl e28) rfl b29 b30) ?_
          obtain ⟨x32, x33, x34, x35, c31, h⟩ := h
          refine HList.vals (v := (.agg #[(.int .i64 x32), (.int .i64 x33), (.string x34), (.bool x35)])) rfl (HVal.loadN [(.int .i64 x32), (.int .i64 x33), (.string x34), (.bool x35)] Tryd.isAgg35 Tryd.sizeOf35 rfl c31) ?_
          obtain ⟨z38, h⟩ := h
          refine HList.opsn (HOp.storeN' (l := [(.int .i64 x32), (.int .i64 x33), (.string x34), (.bool x35)]) Tryd.sizeOf35 rfl rfl rfl z38) ?_
          rintro _ H36 e37
          replace h := h H36 e37
          refine HList.nil ?_
          refine nt ?_
          exact ⟨⟨rfl, rfl, rfl, rfl, rfl, trivial⟩, h⟩
        · have h := hF hb24
          clear hT hF
          refine HW.skip ?_
          refine nt ?_
          exact ⟨⟨rfl, rfl, rfl, rfl, rfl, trivial⟩, h⟩
      · rintro ρ H_3 ⟨hI, h⟩
        obtain ⟨ρ0, rfl⟩ : ∃ ρ0, ρ = (Env.set (Env.set (Env.set (Env.set (Env.set ρ0 7 (.pointer (some ⟨H_2.size, 0, none⟩))) 6 (.int .i64 y4)) 5 (.bool y3)) 3 (.pointer (some ⟨H.size, 0, none⟩))) 0 (.pointer p0)) := ⟨ρ, hI.eq⟩
        clear hI; unfold F48_3 at h
        refine HW.cut (fun ρ H_4 => ∃ (y62 : Bool), Env.Is ρ [(0, (.pointer p0)), (3, (.pointer (some ⟨H.size, 0, none⟩))), (6, (.int .i64 y4)), (5, (.bool y62))] ∧ F48_4 Q X2 p0 ⟨H.size, 0, none⟩ y4 y62 H_4) ?_ ?_
        · refine HW.draw mixed [(0, some []), (1, some []), (2, some []), (3, some []), (4, some []), (5, some []), (6, some []), (7, some []), (8, some []), (9, some []), (10, some []), (11, some []), (12, some [])] rfl (by kernel_rfl) (by kernel_rfl) ?_
          refine HPlan.takev (v := (.bool y3)) rfl rfl (fun _ => HVal.move' rfl) ?_
          refine HPlan.takev (v := (.bool y3)) rfl rfl (fun _ => HVal.move' rfl) ?_
          obtain ⟨hT, hF⟩ := h
          rcases Bool.eq_false_or_eq_true y3 with hb42 | hb43
          · have h := hT hb42
            clear hT hF
            refine HPlan.gtakev (v := (.pointer p0)) rfl rfl rfl rfl rfl (congrArg Value.bool hb42) (fun _ => HVal.move' rfl) ?_
            obtain ⟨a44, e45, h⟩ := h
            refine HPlan.gtakev (v := (.pointer (some a44))) rfl rfl rfl rfl rfl (congrArg Value.bool hb42) (fun _ => HVal.nilCheck (congrArg Value.pointer e45)) ?_
            refine HPlan.gtakev (v := (.pointer (some (Addr.add a44 1)))) rfl rfl rfl rfl rfl (congrArg Value.bool hb42) (fun _ => HVal.fieldAddr' Tryd.runUnderlying60 rfl rfl Tryd.sizeOf31 rfl) ?_
            obtain ⟨x47, c46, h⟩ := h
            refine HPlan.gtakel (v := (Sl.v x47)) (fun X => cell X (Addr.add a44 1) = some (Sl.v x47)) rfl rfl rfl rfl rfl (congrArg Value.bool hb42) (fun _ hX => HVal.load1 Tryd.isAgg31 rfl hX) c46 ?_
            refine HPlan.gtakev (v := (.int .i64 y4)) rfl rfl rfl rfl rfl (congrArg Value.bool hb42) (fun _ => HVal.move' rfl) ?_
            obtain ⟨a48, e49, b50, b51, h⟩ := h
            refine HPlan.gtakev (v := (.pointer (some (Addr.add a48 (y4.toNat * 4))))) rfl rfl rfl rfl rfl (congrArg Value.bool hb42) (fun _ => HVal.indexAddr Tryd.runUnderlying31 Tryd.sizeOf35 (Sl.v_some rfl e49) rfl b50 b51) ?_
            obtain ⟨x53, x54, x55, x56, c52, h⟩ := h
            refine HPlan.gtakel (v := (.agg #[(.int .i64 x53), (.int .i64 x54), (.string x55), (.bool x56)])) (fun X => cells X (Addr.add a48 (y4.toNat * 4)) [(.int .i64 x53), (.int .i64 x54), (.string x55), (.bool x56)] 0) rfl rfl rfl rfl rfl (congrArg Value.bool hb42) (fun _ hX => HVal.loadN [(.int .i64 x53), (.int .i64 x54), (.string x55), (.bool x56)] Tryd.isAgg35 Tryd.sizeOf35 rfl hX) c52 ?_
            obtain ⟨x58, x59, x60, x61, c57, h⟩ := h
            refine HPlan.gtakel (v := (.agg #[(.int .i64 x58), (.int .i64 x59), (.string x60), (.bool x61)])) (fun X => cells X ⟨H_2.size, 0, none⟩ [(.int .i64 x58), (.int .i64 x59), (.string x60), (.bool x61)] 0) rfl rfl rfl rfl rfl (congrArg Value.bool hb42) (fun _ hX => HVal.loadN [(.int .i64 x58), (.int .i64 x59), (.string x60), (.bool x61)] Tryd.isAgg35 Tryd.sizeOf35 rfl hX) c57 ?_
            refine HPlan.gtakev (v := (.bool (decide (x53 = x58) && (decide (x54 = x59) && (seq x55 x60 && (x56 == x61)))))) rfl rfl rfl rfl rfl (congrArg Value.bool hb42) (fun _ => eqs35_eql rfl rfl) ?_
            refine HPlan.takev (v := (.bool (decide (x53 = x58) && (decide (x54 = x59) && (seq x55 x60 && (x56 == x61)))))) rfl rfl (fun _ => HVal.pickT rfl hb42 rfl) ?_
            refine HPlan.takev (v := (.bool (decide (x53 = x58) && (decide (x54 = x59) && (seq x55 x60 && (x56 == x61)))))) rfl rfl (fun _ => HVal.assign' rfl) ?_
            refine HPlan.done ?_
            refine nt ?_
            exact ⟨(decide (x53 = x58) && (decide (x54 = x59) && (seq x55 x60 && (x56 == x61)))), ⟨rfl, rfl, rfl, rfl, trivial⟩, h⟩
          · have h := hF hb43
            clear hT hF
            refine HPlan.takegskip rfl rfl rfl rfl (congrArg Value.bool hb43) ?_
            refine HPlan.takegskip rfl rfl rfl rfl (congrArg Value.bool hb43) ?_
            refine HPlan.takegskip rfl rfl rfl rfl (congrArg Value.bool hb43) ?_
            refine HPlan.takegskip rfl rfl rfl rfl (congrArg Value.bool hb43) ?_
            refine HPlan.takegskip rfl rfl rfl rfl (congrArg Value.bool hb43) ?_
            refine HPlan.takegskip rfl rfl rfl rfl (congrArg Value.bool hb43) ?_
            refine HPlan.takegskip rfl rfl rfl rfl (congrArg Value.bool hb43) ?_
            refine HPlan.takegskip rfl rfl rfl rfl (congrArg Value.bool hb43) ?_
            refine HPlan.takegskip rfl rfl rfl rfl (congrArg Value.bool hb43) ?_
            refine HPlan.takev (v := (.bool false)) rfl rfl (fun _ => HVal.pickF rfl hb43 rfl) ?_
            refine HPlan.takev (v := (.bool false)) rfl rfl (fun _ => HVal.assign' rfl) ?_
            refine HPlan.done ?_
            refine nt ?_
            exact ⟨false, ⟨rfl, rfl, rfl, rfl, trivial⟩, h⟩
        · rintro ρ H_4 ⟨y62, hI, h⟩
          obtain ⟨ρ0, rfl⟩ : ∃ ρ0, ρ = (Env.set (Env.set (Env.set (Env.set ρ0 5 (.bool y62)) 6 (.int .i64 y4)) 3 (.pointer (some ⟨H.size, 0, none⟩))) 0 (.pointer p0)) := ⟨ρ, hI.eq⟩
          clear hI; unfold F48_4 at h
          refine HW.region ?_
          refine HList.vals (v := (.pointer p0)) rfl (HVal.move' rfl) ?_
          obtain ⟨a63, e64, h⟩ := h
          refine HList.vals (v := (.pointer (some a63))) rfl (HVal.nilCheck (congrArg Value.pointer e64)) ?_
          refine HList.vals (v := (.pointer (some (Addr.add a63 1)))) rfl (HVal.fieldAddr' Tryd.runUnderlying60 rfl rfl Tryd.sizeOf31 rfl) ?_
          obtain ⟨x66, c65, h⟩ := h
          refine HList.vals (v := (Sl.v x66)) rfl (HVal.load1 Tryd.isAgg31 rfl c65) ?_
          refine HList.vals (v := (.int .i64 y4)) rfl (HVal.move' rfl) ?_
          refine HList.vals (v := (.agg #[(.int .i64 99), (.int .i64 0), (.string S_kept), (.bool false)])) rfl (HVal.build' (cs := [(.int .i64 99), (.int .i64 0), (.string S_kept), (.bool false)]) Tryd.runUnderlying35 Tryd.zeroValue35 places35 rfl) ?_
          obtain ⟨a67, e68, b69, b70, h⟩ := h
          refine HList.vals (v := (.pointer (some (Addr.add a67 (y4.toNat * 4))))) rfl (HVal.indexAddr Tryd.runUnderlying31 Tryd.sizeOf35 (Sl.v_some rfl e68) rfl b69 b70) ?_
          obtain ⟨z73, h⟩ := h
          refine HList.opsn (HOp.storeN' (l := [(.int .i64 99), (.int .i64 0), (.string S_kept), (.bool false)]) Tryd.sizeOf35 rfl rfl rfl z73) ?_
          rintro _ H71 e72
          replace h := h H71 e72
          refine HList.nil ?_
          refine nb ?_
          refine nt ?_
          refine HW.region ?_
          refine HList.vals (v := (.int .i64 y4)) rfl (HVal.move' rfl) ?_
          refine HList.vals (v := (.int .i64 (IntKind.i64.wrap (y4 + 1)))) rfl (HVal.add rfl rfl) ?_
          refine HList.vals (v := (.int .i64 (IntKind.i64.wrap (y4 + 1)))) rfl (HVal.assign' rfl) ?_
          refine HList.nil ?_
          refine nt ?_
          exact (hX2 _ _ _).1 h _ ⟨rfl, rfl, rfl, rfl, trivial⟩
    · have h := hF hb11
      clear hT hF
      refine HW.exit ?_
      refine te ?_
      refine te ?_
      refine be ?_
      refine nt ?_
      exact ⟨y3, ⟨rfl, trivial⟩, h⟩
  · rintro ρ H_1 ⟨y74, hI, h⟩
    obtain ⟨ρ0, rfl⟩ : ∃ ρ0, ρ = (Env.set ρ0 5 (.bool y74)) := ⟨ρ, hI.eq⟩
    clear hI; unfold F48_1 at h
    refine HW.seq ?_
    refine HW.region ?_
    refine HList.vals (v := (.bool y74)) rfl (HVal.move' rfl) ?_
    refine HList.vals (v := (.bool y74)) rfl (HVal.assign' rfl) ?_
    refine HList.nil ?_
    refine nt ?_
    refine HW.ret ?_
    exact ⟨_, resOf1 rfl Res1.t, ⟨y74, rfl, h⟩⟩

end Go.Hw
