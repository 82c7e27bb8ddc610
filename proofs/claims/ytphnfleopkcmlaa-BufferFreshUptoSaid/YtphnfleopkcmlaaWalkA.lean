/- The walks of this seat, printed by a program of this session (wip/tools/gen.py): of each function what it does to the heap, and that it does so. -/
import Derived.Test.YtphnfleopkcmlaaHwM
import Derived.Test.YtphnfleopkcmlaaProg
import Derived.Test.YtphnfleopkcmlaaWAux
import Derived.Test.YtphnfleopkcmlaaWAux
set_option linter.unusedVariables false
set_option linter.unusedSimpArgs false
namespace Go.Hw
open Go Go.Proofs
def F9_1 (Q : (Option Addr) → Int → Hp → Prop) (y1 : Int) (y4 : Bool) (H_1 : Hp) : Prop :=
(y4 = true → (Q none 1 H_1)) ∧
 (y4 = false → (∀ H6 : Hp, H6 = Array.push H_1 (.map #[] 0) → (
 ∀ H8 : Hp, H8 = Array.push H6 (.cells #[(.int .i64 y1), (.int .i64 0), (.map (some (Array.size H_1))), (Sl.v Sl.nil)] 71) → (
 Q (some ⟨H6.size, 0, none⟩) 0 H8))))
def F9 (p0 : Int) (H : Hp) (Q : (Option Addr) → Int → Hp → Prop) : Prop :=
((decide (p0 < 1)) = true → (F9_1 Q p0 true H)) ∧
 ((decide (p0 < 1)) = false → (F9_1 Q p0 (decide ((8 : Int) < p0)) H))
set_option maxRecDepth 100000 in
set_option maxHeartbeats 4000000 in
theorem walk9 {w0 : World} {p0 : Int} {H : Hp} {Q : (Option Addr) → Int → Hp → Prop} (h : F9 p0 H Q) :
    Good Try.prog w0 9 #[(.int .i64 p0)] H (fun v H => ∃ (r0 : (Option Addr)) (r1 : Int) , v = (.tuple #[(.pointer r0), (.int .i64 r1)]) ∧ Q r0 r1 H) := by
  unfold F9 at h
  refine Good.enter' (fn := Try.f9) Try.func9 rfl rfl rfl ?_
  refine HW.seq ?_
  refine HW.region ?_
  refine HList.vals (v := (.pointer none)) rfl (HVal.assign' rfl) ?_
  refine HList.vals (v := (.int .i64 0)) rfl (HVal.assign' rfl) ?_
  refine HList.nil ?_
  refine nt ?_
  refine HW.seq ?_
  refine HW.cut (fun ρ H_1 => ∃ (y4 : Bool), Env.Is ρ [(0, (.int .i64 p0)), (9, (.bool y4))] ∧ F9_1 Q p0 y4 H_1) ?_ ?_
  · refine HW.region ?_
    refine HList.vals (v := (.int .i64 p0)) rfl (HVal.move' rfl) ?_
    refine HList.vals (v := (.bool (decide (p0 < 1)))) rfl (HVal.lss rfl rfl) ?_
    refine HList.vals (v := (.bool (decide (p0 < 1)))) rfl (HVal.move' rfl) ?_
    obtain ⟨hT, hF⟩ := h
    rcases Bool.eq_false_or_eq_true (decide (p0 < 1)) with hb2 | hb3
    · have h := hT hb2
      clear hT hF
      refine HList.gskips rfl rfl rfl rfl (congrArg Value.bool hb2) ?_
      refine HList.gskips rfl rfl rfl rfl (congrArg Value.bool hb2) ?_
      refine HList.vals (v := (.bool true)) rfl (HVal.pickT rfl hb2 rfl) ?_
      refine HList.nil ?_
      refine nt ?_
      exact ⟨true, ⟨rfl, rfl, trivial⟩, h⟩
    · have h := hF hb3
      clear hT hF
      refine HList.gvals (v := (.int .i64 p0)) rfl rfl rfl rfl (congrArg Value.bool hb3) (HVal.move' rfl) ?_
      refine HList.gvals (v := (.bool (decide ((8 : Int) < p0)))) rfl rfl rfl rfl (congrArg Value.bool hb3) (HVal.gtr rfl rfl) ?_
      refine HList.vals (v := (.bool (decide ((8 : Int) < p0)))) rfl (HVal.pickF rfl hb3 rfl) ?_
      refine HList.nil ?_
      refine nt ?_
      exact ⟨(decide ((8 : Int) < p0)), ⟨rfl, rfl, trivial⟩, h⟩
  · rintro ρ H_1 ⟨y4, hI, h⟩
    obtain ⟨ρ0, rfl⟩ : ∃ ρ0, ρ = (Env.set (Env.set ρ0 9 (.bool y4)) 0 (.int .i64 p0)) := ⟨ρ, hI.eq⟩
    clear hI; unfold F9_1 at h
    obtain ⟨hT, hF⟩ := h
    refine HW.cond y4 rfl (fun hb5 => ?_) (fun hb5 => ?_)
    · have h := hT hb5
      clear hT hF
      refine HW.seq ?_
      refine HW.region ?_
      refine HList.vals (v := (.pointer none)) rfl (HVal.assign' rfl) ?_
      refine HList.vals (v := (.int .i64 1)) rfl (HVal.assign' rfl) ?_
      refine HList.nil ?_
      refine nt ?_
      refine HW.ret ?_
      refine tr ?_
      exact ⟨_, resOf2 rfl Res1.t Res1.t, ⟨none, 1, rfl, h⟩⟩
    · have h := hF hb5
      clear hT hF
      refine HW.skip ?_
      refine nt ?_
      refine HW.seq ?_
      refine HW.region ?_
      refine HList.vals (v := (.int .i64 p0)) rfl (HVal.move' rfl) ?_
      refine HList.ops' rfl (HOp.makeMap) ?_
      rintro _ H6 ⟨rfl, e7⟩
      replace h := h H6 e7
      refine HList.vals (v := (.agg #[(.int .i64 p0), (.int .i64 0), (.map (some (Array.size H_1))), (Sl.v Sl.nil)])) rfl (HVal.build' (cs := [(.int .i64 p0), (.int .i64 0), (.map (some (Array.size H_1))), (Sl.v Sl.nil)]) Try.runUnderlying71 Try.zeroValue71 places71 rfl) ?_
      refine HList.ops' rfl (HOp.box (v := (.agg #[(.int .i64 p0), (.int .i64 0), (.map (some (Array.size H_1))), (Sl.v Sl.nil)])) rfl) ?_
      rintro _ H8 ⟨rfl, e9⟩
      replace h := h H8 e9
      refine HList.vals (v := (.pointer (some ⟨H6.size, 0, none⟩))) rfl (HVal.assign' rfl) ?_
      refine HList.vals (v := (.int .i64 0)) rfl (HVal.assign' rfl) ?_
      refine HList.nil ?_
      refine nt ?_
      refine HW.ret ?_
      exact ⟨_, resOf2 rfl Res1.t Res1.t, ⟨(some ⟨H6.size, 0, none⟩), 0, rfl, h⟩⟩

def F45 (p0 : Sl) (H : Hp) (Q : Int → Hp → Prop) : Prop :=
∃ a1 : Addr, (p0).b = some a1 ∧ (0 : Int) ≤ (IntKind.i64.wrap (((p0).n : Int) - 1)) ∧ (IntKind.i64.wrap (((p0).n : Int) - 1)) < ((p0).n : Int) ∧ (
 ∃ x6 : Int, cell H (Addr.add a1 ((IntKind.i64.wrap (((p0).n : Int) - 1)).toNat * 1)) = some (.int .i64 x6) ∧ (
 Q x6 H))
set_option maxRecDepth 100000 in
set_option maxHeartbeats 4000000 in
theorem walk45 {w0 : World} {p0 : Sl} {H : Hp} {Q : Int → Hp → Prop} (h : F45 p0 H Q) :
    Good Try.prog w0 45 #[(Sl.v p0)] H (fun v H => ∃ (r0 : Int) , v = (.int .i64 r0) ∧ Q r0 H) := by
  unfold F45 at h
  refine Good.enter' (fn := Try.f45) Try.func45 rfl rfl rfl ?_
  refine HW.seq ?_
  refine HW.region ?_
  refine HList.vals (v := (.int .i64 0)) rfl (HVal.assign' rfl) ?_
  refine HList.nil ?_
  refine nt ?_
  refine HW.seq ?_
  refine HW.region ?_
  refine HList.vals (v := (Sl.v p0)) rfl (HVal.move' rfl) ?_
  refine HList.vals (v := (Sl.v p0)) rfl (HVal.move' rfl) ?_
  refine HList.vals (v := (.int .i64 ((p0).n : Int))) rfl (HVal.len Try.runUnderlying50 rfl) ?_
  refine HList.vals (v := (.int .i64 (IntKind.i64.wrap (((p0).n : Int) - 1)))) rfl (HVal.sub rfl rfl) ?_
  obtain ⟨a1, e2, b3, b4, h⟩ := h
  refine HList.vals (v := (.pointer (some (Addr.add a1 ((IntKind.i64.wrap (((p0).n : Int) - 1)).toNat * 1))))) rfl (HVal.indexAddr Try.runUnderlying50 Try.sizeOf3 (Sl.v_some rfl e2) rfl b3 b4) ?_
  obtain ⟨x6, c5, h⟩ := h
  refine HList.vals (v := (.int .i64 x6)) rfl (HVal.load1 Try.isAgg3 rfl c5) ?_
  refine HList.vals (v := (.int .i64 x6)) rfl (HVal.assign' rfl) ?_
  refine HList.nil ?_
  refine nt ?_
  refine HW.ret ?_
  exact ⟨_, resOf1 rfl Res1.t, ⟨x6, rfl, h⟩⟩

def F46_L1b (Q : Int → Hp → Prop) (X1 : Int → Hp → Prop) (y2 : Sl) (y3 : (Option Addr)) (y4 : Int) (y1 : Int) (H_1 : Hp) : Prop :=
((decide (y1 < y4)) = true → (∃ a6 : Addr, (y2).b = some a6 ∧ (0 : Int) ≤ y1 ∧ y1 < ((y2).n : Int) ∧ (
 ∃ x11 : (Option Addr), cell H_1 (Addr.add a6 (y1.toNat * 1)) = some (.pointer x11) ∧ (
 (Plain H_1 y3 ∧ Plain H_1 x11) ∧ (
 ((decide (y3 = x11)) = true → (Q y1 H_1)) ∧
 ((decide (y3 = x11)) = false → (X1 (IntKind.i64.wrap (y1 + 1)) H_1))))))) ∧
 ((decide (y1 < y4)) = false → (Q (-1) H_1))
def F46_L1 (Q : Int → Hp → Prop) (y2 : Sl) (y3 : (Option Addr)) (y4 : Int) (y1 : Int) (H_1 : Hp) : Prop :=
  ∀ X1 : Int → Hp → Prop, (∀ (y1 : Int) (H_1 : Hp), F46_L1b Q X1 y2 y3 y4 y1 H_1 → X1 y1 H_1) → X1 y1 H_1
def F46 (p0 : Sl) (p1 : (Option Addr)) (H : Hp) (Q : Int → Hp → Prop) : Prop :=
F46_L1 Q p0 p1 ((p0).n : Int) 0 H
set_option maxRecDepth 100000 in
set_option maxHeartbeats 4000000 in
theorem walk46 {w0 : World} {p0 : Sl} {p1 : (Option Addr)} {H : Hp} {Q : Int → Hp → Prop} (h : F46 p0 p1 H Q) :
    Good Try.prog w0 46 #[(Sl.v p0), (.pointer p1)] H (fun v H => ∃ (r0 : Int) , v = (.int .i64 r0) ∧ Q r0 H) := by
  unfold F46 at h
  refine Good.enter' (fn := Try.f46) Try.func46 rfl rfl rfl ?_
  refine HW.seq ?_
  refine HW.region ?_
  refine HList.vals (v := (.int .i64 0)) rfl (HVal.assign' rfl) ?_
  refine HList.nil ?_
  refine nt ?_
  refine HW.seq ?_
  refine HW.seq ?_
  refine HW.region ?_
  refine HList.vals (v := (Sl.v p0)) rfl (HVal.move' rfl) ?_
  refine HList.vals (v := (.int .i64 ((p0).n : Int))) rfl (HVal.len Try.runUnderlying69 rfl) ?_
  refine HList.vals (v := (.int .i64 0)) rfl (HVal.move' rfl) ?_
  refine HList.nil ?_
  refine nt ?_
  refine HW.block ?_
  refine HW.loop' (fun L1 hL1 => ?_)
  obtain ⟨X1, hX1⟩ : ∃ X1 : Int → Hp → Prop, ∀ (y1 : Int) (H_1 : Hp), X1 y1 H_1 ↔ ∀ ρ, Env.Is ρ [(0, (Sl.v p0)), (1, (.pointer p1)), (7, (.int .i64 ((p0).n : Int))), (8, (.int .i64 y1))] → L1 ρ H_1 := ⟨_, fun _ _ => Iff.rfl⟩
  refine (hX1 _ _).1 (h X1 ?_) _ ?_
  rotate_left
  · exact ⟨rfl, rfl, rfl, rfl, trivial⟩
  clear h
  intro y1 H_1 h
  refine (hX1 _ _).2 fun ρ hI => ?_
  obtain ⟨ρ0, rfl⟩ : ∃ ρ0, ρ = (Env.set (Env.set (Env.set (Env.set ρ0 8 (.int .i64 y1)) 7 (.int .i64 ((p0).n : Int))) 1 (.pointer p1)) 0 (Sl.v p0)) := ⟨ρ, hI.eq⟩
  clear hI; unfold F46_L1b at h; refine hL1 _ _ ?_
  refine HW.seq ?_
  refine HW.region ?_
  refine HList.vals (v := (.bool (decide (y1 < ((p0).n : Int))))) rfl (HVal.lss rfl rfl) ?_
  refine HList.nil ?_
  refine nt ?_
  refine HW.seq ?_
  obtain ⟨hT, hF⟩ := h
  refine HW.cond (decide (y1 < ((p0).n : Int))) rfl (fun hb5 => ?_) (fun hb5 => ?_)
  · have h := hT hb5
    clear hT hF
    refine HW.skip ?_
    refine nt ?_
    refine HW.seq ?_
    refine HW.block ?_
    refine HW.seq ?_
    refine HW.region ?_
    refine HList.vals (v := (.int .i64 y1)) rfl (HVal.move' rfl) ?_
    refine HList.vals (v := (.int .i64 y1)) rfl (HVal.assign' rfl) ?_
    refine HList.nil ?_
    refine nt ?_
    refine HW.seq ?_
    refine HW.region ?_
    refine HList.vals (v := (.pointer p1)) rfl (HVal.move' rfl) ?_
    refine HList.vals (v := (Sl.v p0)) rfl (HVal.move' rfl) ?_
    refine HList.vals (v := (.int .i64 y1)) rfl (HVal.move' rfl) ?_
    obtain ⟨a6, e7, b8, b9, h⟩ := h
    refine HList.vals (v := (.pointer (some (Addr.add a6 (y1.toNat * 1))))) rfl (HVal.indexAddr Try.runUnderlying69 Try.sizeOf80 (Sl.v_some rfl e7) rfl b8 b9) ?_
    obtain ⟨x11, c10, h⟩ := h
    refine HList.vals (v := (.pointer x11)) rfl (HVal.load1 Try.isAgg80 rfl c10) ?_
    obtain ⟨c12, h⟩ := h
    refine HList.vals (v := (.bool (decide (p1 = x11)))) rfl (HVal.eqlPP Try.underlying80 Try.sizeOf83 rfl rfl c12) ?_
    refine HList.nil ?_
    refine nt ?_
    obtain ⟨hT, hF⟩ := h
    refine HW.cond (decide (p1 = x11)) rfl (fun hb13 => ?_) (fun hb13 => ?_)
    · have h := hT hb13
      clear hT hF
      refine HW.seq ?_
      refine HW.region ?_
      refine HList.vals (v := (.int .i64 y1)) rfl (HVal.move' rfl) ?_
      refine HList.vals (v := (.int .i64 y1)) rfl (HVal.assign' rfl) ?_
      refine HList.nil ?_
      refine nt ?_
      refine HW.ret ?_
      refine br ?_
      refine tr ?_
      refine tr ?_
      refine br ?_
      refine tr ?_
      exact ⟨_, resOf1 rfl Res1.t, ⟨y1, rfl, h⟩⟩
    · have h := hF hb13
      clear hT hF
      refine HW.skip ?_
      refine nb ?_
      refine nt ?_
      refine HW.region ?_
      refine HList.vals (v := (.int .i64 (IntKind.i64.wrap (y1 + 1)))) rfl (HVal.add rfl rfl) ?_
      refine HList.vals (v := (.int .i64 (IntKind.i64.wrap (y1 + 1)))) rfl (HVal.move' rfl) ?_
      refine HList.nil ?_
      refine nt ?_
      exact (hX1 _ _).1 h _ ⟨rfl, rfl, rfl, rfl, trivial⟩
  · have h := hF hb5
    clear hT hF
    refine HW.exit ?_
    refine te ?_
    refine te ?_
    refine be ?_
    refine nt ?_
    refine HW.seq ?_
    refine HW.region ?_
    refine HList.vals (v := (.int .i64 (-1))) rfl (HVal.assign' rfl) ?_
    refine HList.nil ?_
    refine nt ?_
    refine HW.ret ?_
    exact ⟨_, resOf1 rfl Res1.t, ⟨(-1), rfl, h⟩⟩

def F35_2 (Q : Int → Hp → Prop) (y25 : (Option Addr)) (y26 : (Option Addr)) (y27 : Addr) (H_2 : Hp) : Prop :=
∃ a57 : Addr, y25 = some a57 ∧ (
 ∃ x60 : (Option Nat), cell H_2 (Addr.add a57 2) = some (.map x60) ∧ (
 ∃ (x62 : Int) (x63 : Int), cells H_2 y27 [(.int .i64 x62), (.int .i64 x63)] 0 ∧ (
 ∃ (L64 : ML (Int × Int) (Option Nat)) (c65 : Nat), MapK mk32 mv94 Always H_2 x60 L64 c65 (x62, x63) ∧ (
 ∃ a67 : Addr, y26 = some a67 ∧ (
 ∃ x70 : Sl, cell H_2 a67 = some (Sl.v x70) ∧ (
 F45 x70 H_2 (fun (r73 : Int) (H71 : Hp) => 
 MapK mk32 mv94 Always H71 x60 L64 c65 (x62, x63) ∧ cells H71 y27 [(.int .i64 x62), (.int .i64 x63)] 0 ∧ cell H71 (Addr.add a57 2) = some (.map x60) ∧ (
 ∃ (r79 : Nat) (L80 : ML Int (Option Addr)) (c81 : Nat), ((mget L64 (x62, x63)).getD none) = some r79 ∧ MapK mk3 mv76 Always H71 (some r79) L80 c81 r73 ∧ ∀ H77 : Hp, H77 = seto H71 r79 (mapo mk3 mv76 (mput L80 c81 r73 y26).1 (mput L80 c81 r73 y26).2) → (
 ∃ (x85 : Int) (x86 : Int), cells H77 y27 [(.int .i64 x85), (.int .i64 x86)] 0 ∧ (
 ∃ a87 : Addr, y26 = some a87 ∧ (
 ∃ x90 : Sl, cell H77 a87 = some (Sl.v x90) ∧ (
 ∀ H91 : Hp, H91 = Array.push H77 (.cells #[(.int .i64 x85), (.int .i64 x86), (Sl.v x90)] 83) → (
 cell H91 a87 = some (Sl.v x90) ∧ cells H91 y27 [(.int .i64 x85), (.int .i64 x86)] 0 ∧ (
 ∃ a95 : Addr, y25 = some a95 ∧ (
 ∃ x98 : Sl, cell H91 (Addr.add a95 3) = some (Sl.v x98) ∧ (
 F46 x98 none H91 (fun (r101 : Int) (H99 : Hp) => 
 ((decide ((0 : Int) ≤ r101)) = true → (∃ a103 : Addr, y25 = some a103 ∧ (
 ∃ x106 : Sl, cell H99 (Addr.add a103 3) = some (Sl.v x106) ∧ (
 ∃ a107 : Addr, (x106).b = some a107 ∧ (0 : Int) ≤ r101 ∧ r101 < ((x106).n : Int) ∧ (
 (cell H99 (Addr.add a107 (r101.toNat * 1))).isSome = true ∧ frz H99 (Addr.add a107 (r101.toNat * 1)) = false ∧ ∀ H111 : Hp, H111 = setc H99 (Addr.add a107 (r101.toNat * 1)) (.pointer (some ⟨H77.size, 0, none⟩)) → (
 Q r101 H111)))))) ∧
 ((decide ((0 : Int) ≤ r101)) = false → (∃ a115 : Addr, y25 = some a115 ∧ (
 ∃ x118 : Sl, cell H99 (Addr.add a115 3) = some (Sl.v x118) ∧ (
 ∀ H119 : Hp, H119 = Array.push H99 (.cells #[(.pointer (some ⟨H77.size, 0, none⟩))] 80) → (
 AppendF H119 80 1 8 #[(.pointer none)] x118 ((Sl.mk (some ⟨H99.size, 0, none⟩) 1 1)).b ((Sl.mk (some ⟨H99.size, 0, none⟩) 1 1)).n (fun (r123 : Sl) (H121 : Hp) => 
 ∃ a124 : Addr, y25 = some a124 ∧ (
 (cell H121 (Addr.add a124 3)).isSome = true ∧ frz H121 (Addr.add a124 3) = false ∧ ∀ H126 : Hp, H126 = setc H121 (Addr.add a124 3) (Sl.v r123) → (
 ∃ a130 : Addr, y25 = some a130 ∧ (
 ∃ x133 : Sl, cell H126 (Addr.add a130 3) = some (Sl.v x133) ∧ (
 Q (IntKind.i64.wrap (((x133).n : Int) - 1)) H126)))))))))))))))))))))))))))
def F35_1 (Q : Int → Hp → Prop) (y9 : (Option Addr)) (y10 : (Option Addr)) (y11 : Addr) (H_1 : Hp) : Prop :=
∃ a28 : Addr, y9 = some a28 ∧ (
 ∃ x31 : (Option Nat), cell H_1 (Addr.add a28 2) = some (.map x31) ∧ (
 ∃ (x33 : Int) (x34 : Int), cells H_1 y11 [(.int .i64 x33), (.int .i64 x34)] 0 ∧ (
 ∃ (L35 : ML (Int × Int) (Option Nat)) (c36 : Nat), MapK mk32 mv94 Always H_1 x31 L35 c36 (x33, x34) ∧ (
 ((((mget L35 (x33, x34)).getD none).isNone) = true → (∃ a39 : Addr, y9 = some a39 ∧ (
 ∃ x42 : (Option Nat), cell H_1 (Addr.add a39 2) = some (.map x42) ∧ (
 ∃ (x44 : Int) (x45 : Int), cells H_1 y11 [(.int .i64 x44), (.int .i64 x45)] 0 ∧ (
 ∀ H46 : Hp, H46 = Array.push H_1 (.map #[] 0) → (
 cells H46 y11 [(.int .i64 x44), (.int .i64 x45)] 0 ∧ cell H46 (Addr.add a39 2) = some (.map x42) ∧ (
 ∃ (r52 : Nat) (L53 : ML (Int × Int) (Option Nat)) (c54 : Nat), x42 = some r52 ∧ MapK mk32 mv94 Always H46 (some r52) L53 c54 (x44, x45) ∧ ∀ H50 : Hp, H50 = seto H46 r52 (mapo mk32 mv94 (mput L53 c54 (x44, x45) (some (Array.size H_1))).1 (mput L53 c54 (x44, x45) (some (Array.size H_1))).2) → (
 F35_2 Q y9 y10 y11 H50)))))))) ∧
 ((((mget L35 (x33, x34)).getD none).isNone) = false → (F35_2 Q y9 y10 y11 H_1))))))
def F35 (p0 : (Option Addr)) (p1_0 : Int) (p1_1 : Int) (p2 : (Option Addr)) (H : Hp) (Q : Int → Hp → Prop) : Prop :=
∀ H1 : Hp, H1 = Array.push H (.cells #[(.int .i64 p1_0), (.int .i64 p1_1)] 32) → (
 ∃ a3 : Addr, p2 = some a3 ∧ (
 (cell H1 (Addr.add a3 4)).isSome = true ∧ frz H1 (Addr.add a3 4) = false ∧ ∀ H5 : Hp, H5 = setc H1 (Addr.add a3 4) (.int .i64 1) → (
 ∃ a12 : Addr, p0 = some a12 ∧ (
 ∃ x15 : (Option Nat), cell H5 (Addr.add a12 2) = some (.map x15) ∧ (
 ((x15.isNone) = true → (∀ H17 : Hp, H17 = Array.push H5 (.map #[] 0) → (
 ∃ a19 : Addr, p0 = some a19 ∧ (
 (cell H17 (Addr.add a19 2)).isSome = true ∧ frz H17 (Addr.add a19 2) = false ∧ ∀ H21 : Hp, H21 = setc H17 (Addr.add a19 2) (.map (some (Array.size H5))) → (
 F35_1 Q p0 p2 ⟨H.size, 0, none⟩ H21))))) ∧
 ((x15.isNone) = false → (F35_1 Q p0 p2 ⟨H.size, 0, none⟩ H5)))))))
set_option maxRecDepth 100000 in
set_option maxHeartbeats 4000000 in
theorem walk35 {w0 : World} {p0 : (Option Addr)} {p1_0 : Int} {p1_1 : Int} {p2 : (Option Addr)} {H : Hp} {Q : Int → Hp → Prop} (h : F35 p0 p1_0 p1_1 p2 H Q) :
    Good Try.prog w0 35 #[(.pointer p0), (.agg #[(.int .i64 p1_0), (.int .i64 p1_1)]), (.pointer p2)] H (fun v H => ∃ (r0 : Int) , v = (.int .i64 r0) ∧ Q r0 H) := by
  unfold F35 at h
  refine Good.enter' (fn := Try.f35) Try.func35 rfl rfl rfl ?_
  refine HW.seq ?_
  refine HW.region ?_
  refine HList.ops' rfl (HOp.box (v := (.agg #[(.int .i64 p1_0), (.int .i64 p1_1)])) rfl) ?_
  rintro _ H1 ⟨rfl, e2⟩
  replace h := h H1 e2
  refine HList.vals (v := (.int .i64 0)) rfl (HVal.assign' rfl) ?_
  refine HList.nil ?_
  refine nt ?_
  refine HW.seq ?_
  refine HW.region ?_
  refine HList.vals (v := (.pointer p2)) rfl (HVal.move' rfl) ?_
  obtain ⟨a3, e4, h⟩ := h
  refine HList.vals (v := (.pointer (some a3))) rfl (HVal.nilCheck (congrArg Value.pointer e4)) ?_
  refine HList.vals (v := (.pointer (some (Addr.add a3 4)))) rfl (HVal.fieldAddr' Try.runUnderlying79 rfl rfl Try.sizeOf3 rfl) ?_
  obtain ⟨z7, z8, h⟩ := h
  refine HList.opsn (HOp.store1 Try.sizeOf3 rfl rfl rfl z7 z8) ?_
  rintro _ H5 e6
  replace h := h H5 e6
  refine HList.nil ?_
  refine nt ?_
  refine HW.cut (fun ρ H_1 => Env.Is ρ [(0, (.pointer p0)), (2, (.pointer p2)), (4, (.pointer (some ⟨H.size, 0, none⟩)))] ∧ F35_1 Q p0 p2 ⟨H.size, 0, none⟩ H_1) ?_ ?_
  · refine HW.seq ?_
    refine HW.region ?_
    refine HList.vals (v := (.pointer p0)) rfl (HVal.move' rfl) ?_
    obtain ⟨a12, e13, h⟩ := h
    refine HList.vals (v := (.pointer (some a12))) rfl (HVal.nilCheck (congrArg Value.pointer e13)) ?_
    refine HList.vals (v := (.pointer (some (Addr.add a12 2)))) rfl (HVal.fieldAddr' Try.runUnderlying71 rfl rfl Try.sizeOf68 rfl) ?_
    obtain ⟨x15, c14, h⟩ := h
    refine HList.vals (v := (.map x15)) rfl (HVal.load1 Try.isAgg68 rfl c14) ?_
    refine HList.vals (v := (.bool (x15.isNone))) rfl (HVal.eqlMN Try.underlying68 rfl rfl) ?_
    refine HList.nil ?_
    refine nt ?_
    obtain ⟨hT, hF⟩ := h
    refine HW.cond (x15.isNone) rfl (fun hb16 => ?_) (fun hb16 => ?_)
    · have h := hT hb16
      clear hT hF
      refine HW.region ?_
      refine HList.vals (v := (.pointer p0)) rfl (HVal.move' rfl) ?_
      refine HList.ops' rfl (HOp.makeMap) ?_
      rintro _ H17 ⟨rfl, e18⟩
      replace h := h H17 e18
      obtain ⟨a19, e20, h⟩ := h
      refine HList.vals (v := (.pointer (some a19))) rfl (HVal.nilCheck (congrArg Value.pointer e20)) ?_
      refine HList.vals (v := (.pointer (some (Addr.add a19 2)))) rfl (HVal.fieldAddr' Try.runUnderlying71 rfl rfl Try.sizeOf68 rfl) ?_
      obtain ⟨z23, z24, h⟩ := h
      refine HList.opsn (HOp.store1 Try.sizeOf68 rfl rfl rfl z23 z24) ?_
      rintro _ H21 e22
      replace h := h H21 e22
      refine HList.nil ?_
      refine nt ?_
      exact ⟨⟨rfl, rfl, rfl, trivial⟩, h⟩
    · have h := hF hb16
      clear hT hF
      refine HW.skip ?_
      refine nt ?_
      exact ⟨⟨rfl, rfl, rfl, trivial⟩, h⟩
  · rintro ρ H_1 ⟨hI, h⟩
    obtain ⟨ρ0, rfl⟩ : ∃ ρ0, ρ = (Env.set (Env.set (Env.set ρ0 4 (.pointer (some ⟨H.size, 0, none⟩))) 2 (.pointer p2)) 0 (.pointer p0)) := ⟨ρ, hI.eq⟩
    clear hI; unfold F35_1 at h
    refine HW.cut (fun ρ H_2 => Env.Is ρ [(0, (.pointer p0)), (2, (.pointer p2)), (4, (.pointer (some ⟨H.size, 0, none⟩)))] ∧ F35_2 Q p0 p2 ⟨H.size, 0, none⟩ H_2) ?_ ?_
    · refine HW.seq ?_
      refine HW.draw mixed [(0, some []), (1, some []), (2, some []), (3, some []), (4, some []), (5, some []), (6, some [])] rfl (by kernel_rfl) (by kernel_rfl) ?_
      refine HPlan.takev (v := (.pointer p0)) rfl rfl (fun _ => HVal.move' rfl) ?_
      obtain ⟨a28, e29, h⟩ := h
      refine HPlan.takev (v := (.pointer (some a28))) rfl rfl (fun _ => HVal.nilCheck (congrArg Value.pointer e29)) ?_
      refine HPlan.takev (v := (.pointer (some (Addr.add a28 2)))) rfl rfl (fun _ => HVal.fieldAddr' Try.runUnderlying71 rfl rfl Try.sizeOf68 rfl) ?_
      obtain ⟨x31, c30, h⟩ := h
      refine HPlan.takel (v := (.map x31)) (fun X => cell X (Addr.add a28 2) = some (.map x31)) rfl rfl (fun _ hX => HVal.load1 Try.isAgg68 rfl hX) c30 ?_
      obtain ⟨x33, x34, c32, h⟩ := h
      refine HPlan.takel (v := (.agg #[(.int .i64 x33), (.int .i64 x34)])) (fun X => cells X ⟨H.size, 0, none⟩ [(.int .i64 x33), (.int .i64 x34)] 0) rfl rfl (fun _ hX => HVal.loadN [(.int .i64 x33), (.int .i64 x34)] Try.isAgg32 Try.sizeOf32 rfl hX) c32 ?_
      obtain ⟨L35, c36, c37, h⟩ := h
      refine HPlan.takel (v := (.map ((mget L35 (x33, x34)).getD none))) (fun X => MapK mk32 mv94 Always X x31 L35 c36 (x33, x34)) rfl rfl (fun _ hX => HVal.lookup (f := mk32) (g := mv94) (k := (x33, x34)) (z := none) Try.runUnderlying68 mkk32 Try.zeroValue94 rfl rfl hX) c37 ?_
      refine HPlan.takev (v := (.bool (((mget L35 (x33, x34)).getD none).isNone))) rfl rfl (fun _ => HVal.eqlMN Try.underlying94 rfl rfl) ?_
      refine HPlan.done ?_
      refine nt ?_
      obtain ⟨hT, hF⟩ := h
      refine HW.cond (((mget L35 (x33, x34)).getD none).isNone) rfl (fun hb38 => ?_) (fun hb38 => ?_)
      · have h := hT hb38
        clear hT hF
        refine HW.draw mixed [(0, some []), (1, some []), (2, some []), (3, some [6]), (4, some [6]), (5, none), (6, none)] rfl (by kernel_rfl) (by kernel_rfl) ?_
        refine HPlan.takev (v := (.pointer p0)) rfl rfl (fun _ => HVal.move' rfl) ?_
        obtain ⟨a39, e40, h⟩ := h
        refine HPlan.takev (v := (.pointer (some a39))) rfl rfl (fun _ => HVal.nilCheck (congrArg Value.pointer e40)) ?_
        refine HPlan.takev (v := (.pointer (some (Addr.add a39 2)))) rfl rfl (fun _ => HVal.fieldAddr' Try.runUnderlying71 rfl rfl Try.sizeOf68 rfl) ?_
        obtain ⟨x42, c41, h⟩ := h
        refine HPlan.takel (v := (.map x42)) (fun X => cell X (Addr.add a39 2) = some (.map x42)) rfl rfl (fun _ hX => HVal.load1 Try.isAgg68 rfl hX) c41 ?_
        obtain ⟨x44, x45, c43, h⟩ := h
        refine HPlan.takel (v := (.agg #[(.int .i64 x44), (.int .i64 x45)])) (fun X => cells X ⟨H.size, 0, none⟩ [(.int .i64 x44), (.int .i64 x45)] 0) rfl rfl (fun _ hX => HVal.loadN [(.int .i64 x44), (.int .i64 x45)] Try.isAgg32 Try.sizeOf32 rfl hX) c43 ?_
        refine HPlan.ops' rfl rfl (HOp.makeMap) ?_
        rintro _ H46 ⟨rfl, e47⟩
        replace h := h H46 e47
        obtain ⟨s48, s49, h⟩ := h
        refine ⟨SC_of ⟨fun _ => s48, fun _ => s49, trivial⟩, ?_⟩
        obtain ⟨r52, L53, c54, e56, c55, h⟩ := h
        refine HPlan.opsn rfl (HOp.mapUpdate (f := mk32) (g := mv94) (k := (x44, x45)) (v := (some (Array.size H_1))) Try.runUnderlying68 mkk32 (congrArg Value.map e56) rfl rfl c55) ?_
        rintro _ H50 e51
        replace h := h H50 e51
        refine ⟨SC_of ⟨fun e => absurd e (by decide), fun e => absurd e (by decide), trivial⟩, ?_⟩
        refine HPlan.done ?_
        refine nt ?_
        exact ⟨⟨rfl, rfl, rfl, trivial⟩, h⟩
      · have h := hF hb38
        clear hT hF
        refine HW.skip ?_
        refine nt ?_
        exact ⟨⟨rfl, rfl, rfl, trivial⟩, h⟩
    · rintro ρ H_2 ⟨hI, h⟩
      obtain ⟨ρ0, rfl⟩ : ∃ ρ0, ρ = (Env.set (Env.set (Env.set ρ0 4 (.pointer (some ⟨H.size, 0, none⟩))) 2 (.pointer p2)) 0 (.pointer p0)) := ⟨ρ, hI.eq⟩
      clear hI; unfold F35_2 at h
      refine HW.seq ?_
      refine HW.draw mixed [(0, some []), (1, some []), (2, some []), (3, some [12]), (4, some [12]), (5, some [12]), (6, some []), (7, some []), (8, some []), (9, some [10, 12]), (11, some []), (10, none), (12, none)] rfl (by kernel_rfl) (by kernel_rfl) ?_
      refine HPlan.takev (v := (.pointer p0)) rfl rfl (fun _ => HVal.move' rfl) ?_
      obtain ⟨a57, e58, h⟩ := h
      refine HPlan.takev (v := (.pointer (some a57))) rfl rfl (fun _ => HVal.nilCheck (congrArg Value.pointer e58)) ?_
      refine HPlan.takev (v := (.pointer (some (Addr.add a57 2)))) rfl rfl (fun _ => HVal.fieldAddr' Try.runUnderlying71 rfl rfl Try.sizeOf68 rfl) ?_
      obtain ⟨x60, c59, h⟩ := h
      refine HPlan.takel (v := (.map x60)) (fun X => cell X (Addr.add a57 2) = some (.map x60)) rfl rfl (fun _ hX => HVal.load1 Try.isAgg68 rfl hX) c59 ?_
      obtain ⟨x62, x63, c61, h⟩ := h
      refine HPlan.takel (v := (.agg #[(.int .i64 x62), (.int .i64 x63)])) (fun X => cells X ⟨H.size, 0, none⟩ [(.int .i64 x62), (.int .i64 x63)] 0) rfl rfl (fun _ hX => HVal.loadN [(.int .i64 x62), (.int .i64 x63)] Try.isAgg32 Try.sizeOf32 rfl hX) c61 ?_
      obtain ⟨L64, c65, c66, h⟩ := h
      refine HPlan.takel (v := (.map ((mget L64 (x62, x63)).getD none))) (fun X => MapK mk32 mv94 Always X x60 L64 c65 (x62, x63)) rfl rfl (fun _ hX => HVal.lookup (f := mk32) (g := mv94) (k := (x62, x63)) (z := none) Try.runUnderlying68 mkk32 Try.zeroValue94 rfl rfl hX) c66 ?_
      refine HPlan.takev (v := (.pointer p2)) rfl rfl (fun _ => HVal.move' rfl) ?_
      obtain ⟨a67, e68, h⟩ := h
      refine HPlan.takev (v := (.pointer (some a67))) rfl rfl (fun _ => HVal.nilCheck (congrArg Value.pointer e68)) ?_
      refine HPlan.takev (v := (.pointer (some a67))) rfl rfl (fun _ => HVal.fieldAddr0 Try.runUnderlying79 rfl rfl Try.sizeOf50 rfl) ?_
      obtain ⟨x70, c69, h⟩ := h
      refine HPlan.takel (v := (Sl.v x70)) (fun X => cell X a67 = some (Sl.v x70)) rfl rfl (fun _ hX => HVal.load1 Try.isAgg50 rfl hX) c69 ?_
      refine HPlan.takev (v := (.pointer p2)) rfl rfl (fun _ => HVal.move' rfl) ?_
      refine HPlan.ops' rfl rfl (HOp.call' 45 [(Sl.v x70)] (cap := []) rfl rfl Try.call45 (walk45 h)) ?_
      rintro _ H71 ⟨r73, rfl, h⟩
      obtain ⟨s74, s75, s76, h⟩ := h
      refine ⟨SC_of ⟨fun e => absurd e (by decide), fun _ => s74, fun _ => s75, fun _ => s76, trivial⟩, ?_⟩
      obtain ⟨r79, L80, c81, e83, c82, h⟩ := h
      refine HPlan.opsn rfl (HOp.mapUpdate (f := mk3) (g := mv76) (k := r73) (v := p2) Try.runUnderlying94 mkk3 (congrArg Value.map e83) rfl rfl c82) ?_
      rintro _ H77 e78
      replace h := h H77 e78
      refine ⟨SC_of ⟨fun e => absurd e (by decide), fun e => absurd e (by decide), fun e => absurd e (by decide), fun e => absurd e (by decide), trivial⟩, ?_⟩
      refine HPlan.done ?_
      refine nt ?_
      refine HW.seq ?_
      refine HW.draw mixed [(0, some []), (1, some []), (2, some []), (3, some []), (4, some []), (5, some []), (6, none), (7, some [])] rfl (by kernel_rfl) (by kernel_rfl) ?_
      obtain ⟨x85, x86, c84, h⟩ := h
      refine HPlan.takel (v := (.agg #[(.int .i64 x85), (.int .i64 x86)])) (fun X => cells X ⟨H.size, 0, none⟩ [(.int .i64 x85), (.int .i64 x86)] 0) rfl rfl (fun _ hX => HVal.loadN [(.int .i64 x85), (.int .i64 x86)] Try.isAgg32 Try.sizeOf32 rfl hX) c84 ?_
      refine HPlan.takev (v := (.pointer p2)) rfl rfl (fun _ => HVal.move' rfl) ?_
      obtain ⟨a87, e88, h⟩ := h
      refine HPlan.takev (v := (.pointer (some a87))) rfl rfl (fun _ => HVal.nilCheck (congrArg Value.pointer e88)) ?_
      refine HPlan.takev (v := (.pointer (some a87))) rfl rfl (fun _ => HVal.fieldAddr0 Try.runUnderlying79 rfl rfl Try.sizeOf50 rfl) ?_
      obtain ⟨x90, c89, h⟩ := h
      refine HPlan.takel (v := (Sl.v x90)) (fun X => cell X a87 = some (Sl.v x90)) rfl rfl (fun _ hX => HVal.load1 Try.isAgg50 rfl hX) c89 ?_
      refine HPlan.takev (v := (.agg #[(.int .i64 x85), (.int .i64 x86), (Sl.v x90)])) rfl rfl (fun _ => HVal.build' (cs := [(.int .i64 x85), (.int .i64 x86), (Sl.v x90)]) Try.runUnderlying83 Try.zeroValue83 places83 rfl) ?_
      refine HPlan.ops' rfl rfl (HOp.box (v := (.agg #[(.int .i64 x85), (.int .i64 x86), (Sl.v x90)])) rfl) ?_
      rintro _ H91 ⟨rfl, e92⟩
      replace h := h H91 e92
      obtain ⟨s93, s94, h⟩ := h
      refine ⟨SC_of ⟨fun _ => s93, fun _ => s94, trivial⟩, ?_⟩
      refine HPlan.takev (v := (.pointer (some ⟨H77.size, 0, none⟩))) rfl rfl (fun _ => HVal.assign' rfl) ?_
      refine HPlan.done ?_
      refine nt ?_
      refine HW.seq ?_
      refine HW.seq ?_
      refine HW.region ?_
      refine HList.vals (v := (.pointer p0)) rfl (HVal.move' rfl) ?_
      obtain ⟨a95, e96, h⟩ := h
      refine HList.vals (v := (.pointer (some a95))) rfl (HVal.nilCheck (congrArg Value.pointer e96)) ?_
      refine HList.vals (v := (.pointer (some (Addr.add a95 3)))) rfl (HVal.fieldAddr' Try.runUnderlying71 rfl rfl Try.sizeOf69 rfl) ?_
      obtain ⟨x98, c97, h⟩ := h
      refine HList.vals (v := (Sl.v x98)) rfl (HVal.load1 Try.isAgg69 rfl c97) ?_
      refine HList.ops' rfl (HOp.call' 46 [(Sl.v x98), (.pointer none)] (cap := []) rfl rfl Try.call46 (walk46 h)) ?_
      rintro _ H99 ⟨r101, rfl, h⟩
      refine HList.vals (v := (.int .i64 r101)) rfl (HVal.assign' rfl) ?_
      refine HList.nil ?_
      refine nt ?_
      refine HW.seq ?_
      refine HW.region ?_
      refine HList.vals (v := (.int .i64 r101)) rfl (HVal.move' rfl) ?_
      refine HList.vals (v := (.bool (decide ((0 : Int) ≤ r101)))) rfl (HVal.geq rfl rfl) ?_
      refine HList.nil ?_
      refine nt ?_
      obtain ⟨hT, hF⟩ := h
      refine HW.cond (decide ((0 : Int) ≤ r101)) rfl (fun hb102 => ?_) (fun hb102 => ?_)
      · have h := hT hb102
        clear hT hF
        refine HW.seq ?_
        refine HW.region ?_
        refine HList.vals (v := (.pointer p0)) rfl (HVal.move' rfl) ?_
        obtain ⟨a103, e104, h⟩ := h
        refine HList.vals (v := (.pointer (some a103))) rfl (HVal.nilCheck (congrArg Value.pointer e104)) ?_
        refine HList.vals (v := (.pointer (some (Addr.add a103 3)))) rfl (HVal.fieldAddr' Try.runUnderlying71 rfl rfl Try.sizeOf69 rfl) ?_
        obtain ⟨x106, c105, h⟩ := h
        refine HList.vals (v := (Sl.v x106)) rfl (HVal.load1 Try.isAgg69 rfl c105) ?_
        refine HList.vals (v := (.int .i64 r101)) rfl (HVal.move' rfl) ?_
        refine HList.vals (v := (.pointer (some ⟨H77.size, 0, none⟩))) rfl (HVal.move' rfl) ?_
        obtain ⟨a107, e108, b109, b110, h⟩ := h
        refine HList.vals (v := (.pointer (some (Addr.add a107 (r101.toNat * 1))))) rfl (HVal.indexAddr Try.runUnderlying69 Try.sizeOf80 (Sl.v_some rfl e108) rfl b109 b110) ?_
        obtain ⟨z113, z114, h⟩ := h
        refine HList.opsn (HOp.store1 Try.sizeOf80 rfl rfl rfl z113 z114) ?_
        rintro _ H111 e112
        replace h := h H111 e112
        refine HList.nil ?_
        refine nt ?_
        refine HW.seq ?_
        refine HW.region ?_
        refine HList.vals (v := (.int .i64 r101)) rfl (HVal.move' rfl) ?_
        refine HList.vals (v := (.int .i64 r101)) rfl (HVal.assign' rfl) ?_
        refine HList.nil ?_
        refine nt ?_
        refine HW.ret ?_
        refine tr ?_
        exact ⟨_, resOf1 rfl Res1.t, ⟨r101, rfl, h⟩⟩
      · have h := hF hb102
        clear hT hF
        refine HW.skip ?_
        refine nt ?_
        refine HW.seq ?_
        refine HW.region ?_
        refine HList.vals (v := (.pointer p0)) rfl (HVal.move' rfl) ?_
        refine HList.vals (v := (.pointer p0)) rfl (HVal.move' rfl) ?_
        obtain ⟨a115, e116, h⟩ := h
        refine HList.vals (v := (.pointer (some a115))) rfl (HVal.nilCheck (congrArg Value.pointer e116)) ?_
        refine HList.vals (v := (.pointer (some (Addr.add a115 3)))) rfl (HVal.fieldAddr' Try.runUnderlying71 rfl rfl Try.sizeOf69 rfl) ?_
        obtain ⟨x118, c117, h⟩ := h
        refine HList.vals (v := (Sl.v x118)) rfl (HVal.load1 Try.isAgg69 rfl c117) ?_
        refine HList.vals (v := (.pointer (some ⟨H77.size, 0, none⟩))) rfl (HVal.move' rfl) ?_
        refine HList.ops' rfl (HOp.buildSlice' (zs := [(.pointer none)]) (cs := [(.pointer (some ⟨H77.size, 0, none⟩))]) Try.runUnderlying69 Try.sizeOf80 Try.zeroValue80 (by decide) (by kernel_rfl) rfl (by decide)) ?_
        rintro _ H119 ⟨rfl, e120⟩
        replace h := h H119 e120
        refine HList.ops' rfl (HOp.append (k := 1) (b := 8) Try.runUnderlying69 Try.runUnderlying69 Try.typeInfo80 rfl rfl Try.zeroValue80 rfl rfl h) ?_
        rintro _ H121 ⟨r123, rfl, h⟩
        obtain ⟨a124, e125, h⟩ := h
        refine HList.vals (v := (.pointer (some a124))) rfl (HVal.nilCheck (congrArg Value.pointer e125)) ?_
        refine HList.vals (v := (.pointer (some (Addr.add a124 3)))) rfl (HVal.fieldAddr' Try.runUnderlying71 rfl rfl Try.sizeOf69 rfl) ?_
        obtain ⟨z128, z129, h⟩ := h
        refine HList.opsn (HOp.store1 Try.sizeOf69 rfl rfl rfl z128 z129) ?_
        rintro _ H126 e127
        replace h := h H126 e127
        refine HList.nil ?_
        refine nt ?_
        refine HW.seq ?_
        refine HW.region ?_
        refine HList.vals (v := (.pointer p0)) rfl (HVal.move' rfl) ?_
        obtain ⟨a130, e131, h⟩ := h
        refine HList.vals (v := (.pointer (some a130))) rfl (HVal.nilCheck (congrArg Value.pointer e131)) ?_
        refine HList.vals (v := (.pointer (some (Addr.add a130 3)))) rfl (HVal.fieldAddr' Try.runUnderlying71 rfl rfl Try.sizeOf69 rfl) ?_
        obtain ⟨x133, c132, h⟩ := h
        refine HList.vals (v := (Sl.v x133)) rfl (HVal.load1 Try.isAgg69 rfl c132) ?_
        refine HList.vals (v := (.int .i64 ((x133).n : Int))) rfl (HVal.len Try.runUnderlying69 rfl) ?_
        refine HList.vals (v := (.int .i64 (IntKind.i64.wrap (((x133).n : Int) - 1)))) rfl (HVal.sub rfl rfl) ?_
        refine HList.vals (v := (.int .i64 (IntKind.i64.wrap (((x133).n : Int) - 1)))) rfl (HVal.assign' rfl) ?_
        refine HList.nil ?_
        refine nt ?_
        refine HW.ret ?_
        exact ⟨_, resOf1 rfl Res1.t, ⟨(IntKind.i64.wrap (((x133).n : Int) - 1)), rfl, h⟩⟩

def F36_1 (Q : Sl → Hp → Prop) (y1 : (Option Addr)) (y5 : Sl) (H_1 : Hp) : Prop :=
∃ a6 : Addr, y1 = some a6 ∧ (
 ∃ x9 : Int, cell H_1 (Addr.add a6 1) = some (.int .i64 x9) ∧ (
 ∃ a10 : Addr, y1 = some a10 ∧ (
 (cell H_1 (Addr.add a10 1)).isSome = true ∧ frz H_1 (Addr.add a10 1) = false ∧ ∀ H12 : Hp, H12 = setc H_1 (Addr.add a10 1) (.int .i64 (IntKind.i64.wrap (x9 + 1))) → (
 ∃ a16 : Addr, y1 = some a16 ∧ (
 ∃ x19 : Int, cell H12 (Addr.add a16 1) = some (.int .i64 x19) ∧ (
 ∃ a20 : Addr, (y5).b = some a20 ∧ (0 : Int) ≤ (IntKind.i64.wrap (((y5).n : Int) - 1)) ∧ (IntKind.i64.wrap (((y5).n : Int) - 1)) < ((y5).n : Int) ∧ (
 (cell H12 (Addr.add a20 ((IntKind.i64.wrap (((y5).n : Int) - 1)).toNat * 1))).isSome = true ∧ frz H12 (Addr.add a20 ((IntKind.i64.wrap (((y5).n : Int) - 1)).toNat * 1)) = false ∧ ∀ H24 : Hp, H24 = setc H12 (Addr.add a20 ((IntKind.i64.wrap (((y5).n : Int) - 1)).toNat * 1)) (.int .i64 x19) → (
 Q y5 H24))))))))
def F36 (p0 : (Option Addr)) (p1 : Sl) (H : Hp) (Q : Sl → Hp → Prop) : Prop :=
((decide (((p1).n : Int) = 0)) = true → (∀ H3 : Hp, H3 = Array.push H (.cells #[(.int .i64 0)] 3) → (
 F36_1 Q p0 (Sl.mk (some ⟨H.size, 0, none⟩) 1 1) H3))) ∧
 ((decide (((p1).n : Int) = 0)) = false → (F36_1 Q p0 p1 H))
set_option maxRecDepth 100000 in
set_option maxHeartbeats 4000000 in
theorem walk36 {w0 : World} {p0 : (Option Addr)} {p1 : Sl} {H : Hp} {Q : Sl → Hp → Prop} (h : F36 p0 p1 H Q) :
    Good Try.prog w0 36 #[(.pointer p0), (Sl.v p1)] H (fun v H => ∃ (r0 : Sl) , v = (Sl.v r0) ∧ Q r0 H) := by
  unfold F36 at h
  refine Good.enter' (fn := Try.f36) Try.func36 rfl rfl rfl ?_
  refine HW.seq ?_
  refine HW.region ?_
  refine HList.vals (v := (Sl.v Sl.nil)) rfl (HVal.assign' rfl) ?_
  refine HList.nil ?_
  refine nt ?_
  refine HW.cut (fun ρ H_1 => ∃ (y5 : Sl), Env.Is ρ [(0, (.pointer p0)), (1, (Sl.v y5))] ∧ F36_1 Q p0 y5 H_1) ?_ ?_
  · refine HW.seq ?_
    refine HW.region ?_
    refine HList.vals (v := (Sl.v p1)) rfl (HVal.move' rfl) ?_
    refine HList.vals (v := (.int .i64 ((p1).n : Int))) rfl (HVal.len Try.runUnderlying50 rfl) ?_
    refine HList.vals (v := (.bool (decide (((p1).n : Int) = 0)))) rfl (HVal.eqlI rfl rfl) ?_
    refine HList.nil ?_
    refine nt ?_
    obtain ⟨hT, hF⟩ := h
    refine HW.cond (decide (((p1).n : Int) = 0)) rfl (fun hb2 => ?_) (fun hb2 => ?_)
    · have h := hT hb2
      clear hT hF
      refine HW.region ?_
      refine HList.ops' rfl (HOp.buildSlice' (zs := [(.int .i64 0)]) (cs := [(.int .i64 0)]) Try.runUnderlying50 Try.sizeOf3 Try.zeroValue3 (by decide) (by kernel_rfl) rfl (by decide)) ?_
      rintro _ H3 ⟨rfl, e4⟩
      replace h := h H3 e4
      refine HList.vals (v := (Sl.v (Sl.mk (some ⟨H.size, 0, none⟩) 1 1))) rfl (HVal.assign' rfl) ?_
      refine HList.nil ?_
      refine nt ?_
      exact ⟨(Sl.mk (some ⟨H.size, 0, none⟩) 1 1), ⟨rfl, rfl, trivial⟩, h⟩
    · have h := hF hb2
      clear hT hF
      refine HW.skip ?_
      refine nt ?_
      exact ⟨p1, ⟨rfl, rfl, trivial⟩, h⟩
  · rintro ρ H_1 ⟨y5, hI, h⟩
    obtain ⟨ρ0, rfl⟩ : ∃ ρ0, ρ = (Env.set (Env.set ρ0 1 (Sl.v y5)) 0 (.pointer p0)) := ⟨ρ, hI.eq⟩
    clear hI; unfold F36_1 at h
    refine HW.seq ?_
    refine HW.region ?_
    refine HList.vals (v := (.pointer p0)) rfl (HVal.move' rfl) ?_
    obtain ⟨a6, e7, h⟩ := h
    refine HList.vals (v := (.pointer (some a6))) rfl (HVal.nilCheck (congrArg Value.pointer e7)) ?_
    refine HList.vals (v := (.pointer (some (Addr.add a6 1)))) rfl (HVal.fieldAddr' Try.runUnderlying71 rfl rfl Try.sizeOf3 rfl) ?_
    obtain ⟨x9, c8, h⟩ := h
    refine HList.vals (v := (.int .i64 x9)) rfl (HVal.load1 Try.isAgg3 rfl c8) ?_
    refine HList.vals (v := (.int .i64 (IntKind.i64.wrap (x9 + 1)))) rfl (HVal.add rfl rfl) ?_
    obtain ⟨a10, e11, h⟩ := h
    refine HList.vals (v := (.pointer (some a10))) rfl (HVal.nilCheck (congrArg Value.pointer e11)) ?_
    refine HList.vals (v := (.pointer (some (Addr.add a10 1)))) rfl (HVal.fieldAddr' Try.runUnderlying71 rfl rfl Try.sizeOf3 rfl) ?_
    obtain ⟨z14, z15, h⟩ := h
    refine HList.opsn (HOp.store1 Try.sizeOf3 rfl rfl rfl z14 z15) ?_
    rintro _ H12 e13
    replace h := h H12 e13
    refine HList.nil ?_
    refine nt ?_
    refine HW.seq ?_
    refine HW.region ?_
    refine HList.vals (v := (Sl.v y5)) rfl (HVal.move' rfl) ?_
    refine HList.vals (v := (Sl.v y5)) rfl (HVal.move' rfl) ?_
    refine HList.vals (v := (.int .i64 ((y5).n : Int))) rfl (HVal.len Try.runUnderlying50 rfl) ?_
    refine HList.vals (v := (.int .i64 (IntKind.i64.wrap (((y5).n : Int) - 1)))) rfl (HVal.sub rfl rfl) ?_
    refine HList.vals (v := (.pointer p0)) rfl (HVal.move' rfl) ?_
    obtain ⟨a16, e17, h⟩ := h
    refine HList.vals (v := (.pointer (some a16))) rfl (HVal.nilCheck (congrArg Value.pointer e17)) ?_
    refine HList.vals (v := (.pointer (some (Addr.add a16 1)))) rfl (HVal.fieldAddr' Try.runUnderlying71 rfl rfl Try.sizeOf3 rfl) ?_
    obtain ⟨x19, c18, h⟩ := h
    refine HList.vals (v := (.int .i64 x19)) rfl (HVal.load1 Try.isAgg3 rfl c18) ?_
    obtain ⟨a20, e21, b22, b23, h⟩ := h
    refine HList.vals (v := (.pointer (some (Addr.add a20 ((IntKind.i64.wrap (((y5).n : Int) - 1)).toNat * 1))))) rfl (HVal.indexAddr Try.runUnderlying50 Try.sizeOf3 (Sl.v_some rfl e21) rfl b22 b23) ?_
    obtain ⟨z26, z27, h⟩ := h
    refine HList.opsn (HOp.store1 Try.sizeOf3 rfl rfl rfl z26 z27) ?_
    rintro _ H24 e25
    replace h := h H24 e25
    refine HList.nil ?_
    refine nt ?_
    refine HW.seq ?_
    refine HW.region ?_
    refine HList.vals (v := (Sl.v y5)) rfl (HVal.move' rfl) ?_
    refine HList.vals (v := (Sl.v y5)) rfl (HVal.assign' rfl) ?_
    refine HList.nil ?_
    refine nt ?_
    refine HW.ret ?_
    exact ⟨_, resOf1 rfl Res1.t, ⟨y5, rfl, h⟩⟩

def F37 (p0 : Sl) (H : Hp) (Q : Sl → Hp → Prop) : Prop :=
(0 : Int) ≤ ((p0).n : Int) ∧ (0 : Int) ≤ ((p0).n : Int) ∧ 0 ≤ ((p0).n : Int).toNat ∧ ((p0).n : Int).toNat ≤ ((p0).n : Int).toNat ∧ ((p0).n : Int).toNat ≤ (p0).c ∧ (
 ∀ H6 : Hp, H6 = Array.push H (.cells #[(.int .i64 0)] 3) → (
 AppendF H6 3 1 8 #[(.int .i64 0)] (Sl.cut p0 1 0 (((p0).n : Int).toNat) (((p0).n : Int).toNat)) ((Sl.mk (some ⟨H.size, 0, none⟩) 1 1)).b ((Sl.mk (some ⟨H.size, 0, none⟩) 1 1)).n (fun (r10 : Sl) (H8 : Hp) => 
 Q r10 H8)))
set_option maxRecDepth 100000 in
set_option maxHeartbeats 4000000 in
theorem walk37 {w0 : World} {p0 : Sl} {H : Hp} {Q : Sl → Hp → Prop} (h : F37 p0 H Q) :
    Good Try.prog w0 37 #[(Sl.v p0)] H (fun v H => ∃ (r0 : Sl) , v = (Sl.v r0) ∧ Q r0 H) := by
  unfold F37 at h
  refine Good.enter' (fn := Try.f37) Try.func37 rfl rfl rfl ?_
  refine HW.seq ?_
  refine HW.region ?_
  refine HList.vals (v := (Sl.v Sl.nil)) rfl (HVal.assign' rfl) ?_
  refine HList.nil ?_
  refine nt ?_
  refine HW.seq ?_
  refine HW.region ?_
  refine HList.vals (v := (Sl.v p0)) rfl (HVal.move' rfl) ?_
  refine HList.vals (v := (Sl.v p0)) rfl (HVal.move' rfl) ?_
  refine HList.vals (v := (.int .i64 ((p0).n : Int))) rfl (HVal.len Try.runUnderlying50 rfl) ?_
  refine HList.vals (v := (Sl.v p0)) rfl (HVal.move' rfl) ?_
  refine HList.vals (v := (.int .i64 ((p0).n : Int))) rfl (HVal.len Try.runUnderlying50 rfl) ?_
  obtain ⟨z1, z2, z3, z4, z5, h⟩ := h
  refine HList.vals (v := (Sl.v (Sl.cut p0 1 0 (((p0).n : Int).toNat) (((p0).n : Int).toNat)))) rfl (HVal.slice _ _ _ Try.runUnderlying50 Try.sizeOf3 rfl rfl ⟨_, _, rfl, z1, rfl⟩ ⟨_, _, rfl, z2, rfl⟩ (by decide) z3 z4 z5) ?_
  refine HList.ops' rfl (HOp.buildSlice' (zs := [(.int .i64 0)]) (cs := [(.int .i64 0)]) Try.runUnderlying50 Try.sizeOf3 Try.zeroValue3 (by decide) (by kernel_rfl) rfl (by decide)) ?_
  rintro _ H6 ⟨rfl, e7⟩
  replace h := h H6 e7
  refine HList.ops' rfl (HOp.append (k := 1) (b := 8) Try.runUnderlying50 Try.runUnderlying50 Try.typeInfo3 rfl rfl Try.zeroValue3 rfl rfl h) ?_
  rintro _ H8 ⟨r10, rfl, h⟩
  refine HList.vals (v := (Sl.v r10)) rfl (HVal.assign' rfl) ?_
  refine HList.nil ?_
  refine nt ?_
  refine HW.ret ?_
  exact ⟨_, resOf1 rfl Res1.t, ⟨r10, rfl, h⟩⟩

def F13 (p0 : (Option Addr)) (p1_0 : Int) (p1_1 : Int) (H : Hp) (Q : Int → Int → Hp → Prop) : Prop :=
∀ H1 : Hp, H1 = Array.push H (.cells #[(.int .i64 p1_0), (.int .i64 p1_1)] 32) → (
 ∃ x4 : Int, cell H1 ⟨H.size, 0, none⟩ = some (.int .i64 x4) ∧ (
 ((decide (x4 ≠ 0)) = true → (Q 0 131 H1)) ∧
 ((decide (x4 ≠ 0)) = false → (∃ (x7 : Int) (x8 : Int), cells H1 ⟨H.size, 0, none⟩ [(.int .i64 x7), (.int .i64 x8)] 0 ∧ (
 F37 Sl.nil H1 (fun (r11 : Sl) (H9 : Hp) => 
 cells H9 ⟨H.size, 0, none⟩ [(.int .i64 x7), (.int .i64 x8)] 0 ∧ (
 F36 p0 r11 H9 (fun (r15 : Sl) (H13 : Hp) => 
 cells H13 ⟨H.size, 0, none⟩ [(.int .i64 x7), (.int .i64 x8)] 0 ∧ (
 ∀ H17 : Hp, H17 = Array.push H13 (.cells #[(Sl.v r15), (.int .i64 0), (.int .i64 0), (Sl.v Sl.nil), (.int .i64 0)] 79) → (
 cells H17 ⟨H.size, 0, none⟩ [(.int .i64 x7), (.int .i64 x8)] 0 ∧ (
 F35 p0 x7 x8 (some ⟨H13.size, 0, none⟩) H17 (fun (r22 : Int) (H20 : Hp) => 
 Q r22 0 H20))))))))))))
set_option maxRecDepth 100000 in
set_option maxHeartbeats 4000000 in
theorem walk13 {w0 : World} {p0 : (Option Addr)} {p1_0 : Int} {p1_1 : Int} {H : Hp} {Q : Int → Int → Hp → Prop} (h : F13 p0 p1_0 p1_1 H Q) :
    Good Try.prog w0 13 #[(.pointer p0), (.agg #[(.int .i64 p1_0), (.int .i64 p1_1)])] H (fun v H => ∃ (r0 : Int) (r1 : Int) , v = (.tuple #[(.int .i64 r0), (.int .i64 r1)]) ∧ Q r0 r1 H) := by
  unfold F13 at h
  refine Good.enter' (fn := Try.f13) Try.func13 rfl rfl rfl ?_
  refine HW.seq ?_
  refine HW.region ?_
  refine HList.ops' rfl (HOp.box (v := (.agg #[(.int .i64 p1_0), (.int .i64 p1_1)])) rfl) ?_
  rintro _ H1 ⟨rfl, e2⟩
  replace h := h H1 e2
  refine HList.vals (v := (.int .i64 0)) rfl (HVal.assign' rfl) ?_
  refine HList.vals (v := (.int .i64 0)) rfl (HVal.assign' rfl) ?_
  refine HList.nil ?_
  refine nt ?_
  refine HW.seq ?_
  refine HW.seq ?_
  refine HW.region ?_
  refine HList.vals (v := (.pointer (some ⟨H.size, 0, none⟩))) rfl (HVal.fieldAddr0 Try.runUnderlying32 rfl rfl Try.sizeOf3 rfl) ?_
  obtain ⟨x4, c3, h⟩ := h
  refine HList.vals (v := (.int .i64 x4)) rfl (HVal.load1 Try.isAgg3 rfl c3) ?_
  refine HList.vals (v := (.bool (decide (x4 ≠ 0)))) rfl (HVal.neqI rfl rfl) ?_
  refine HList.nil ?_
  refine nt ?_
  obtain ⟨hT, hF⟩ := h
  refine HW.cond (decide (x4 ≠ 0)) rfl (fun hb5 => ?_) (fun hb5 => ?_)
  · have h := hT hb5
    clear hT hF
    refine HW.seq ?_
    refine HW.region ?_
    refine HList.vals (v := (.int .i64 0)) rfl (HVal.assign' rfl) ?_
    refine HList.vals (v := (.int .i64 131)) rfl (HVal.assign' rfl) ?_
    refine HList.nil ?_
    refine nt ?_
    refine HW.ret ?_
    refine tr ?_
    exact ⟨_, resOf2 rfl Res1.t Res1.t, ⟨0, 131, rfl, h⟩⟩
  · have h := hF hb5
    clear hT hF
    refine HW.skip ?_
    refine nt ?_
    refine HW.seq ?_
    refine HW.draw mixed [(0, some []), (1, some [7]), (2, some []), (3, none), (4, none), (5, some []), (6, none), (7, none), (8, some []), (9, some [])] rfl (by kernel_rfl) (by kernel_rfl) ?_
    refine HPlan.takev (v := (.pointer p0)) rfl rfl (fun _ => HVal.move' rfl) ?_
    obtain ⟨x7, x8, c6, h⟩ := h
    refine HPlan.takel (v := (.agg #[(.int .i64 x7), (.int .i64 x8)])) (fun X => cells X ⟨H.size, 0, none⟩ [(.int .i64 x7), (.int .i64 x8)] 0) rfl rfl (fun _ hX => HVal.loadN [(.int .i64 x7), (.int .i64 x8)] Try.isAgg32 Try.sizeOf32 rfl hX) c6 ?_
    refine HPlan.takev (v := (.pointer p0)) rfl rfl (fun _ => HVal.move' rfl) ?_
    refine HPlan.ops' rfl rfl (HOp.call' 37 [(Sl.v Sl.nil)] (cap := []) rfl rfl Try.call37 (walk37 h)) ?_
    rintro _ H9 ⟨r11, rfl, h⟩
    obtain ⟨s12, h⟩ := h
    refine ⟨SC_of ⟨fun _ => s12, trivial⟩, ?_⟩
    refine HPlan.ops' rfl rfl (HOp.call' 36 [(.pointer p0), (Sl.v r11)] (cap := []) rfl rfl Try.call36 (walk36 h)) ?_
    rintro _ H13 ⟨r15, rfl, h⟩
    obtain ⟨s16, h⟩ := h
    refine ⟨SC_of ⟨fun _ => s16, trivial⟩, ?_⟩
    refine HPlan.takev (v := (.agg #[(Sl.v r15), (.int .i64 0), (.int .i64 0), (Sl.v Sl.nil), (.int .i64 0)])) rfl rfl (fun _ => HVal.build' (cs := [(Sl.v r15), (.int .i64 0), (.int .i64 0), (Sl.v Sl.nil), (.int .i64 0)]) Try.runUnderlying79 Try.zeroValue79 places79 rfl) ?_
    refine HPlan.ops' rfl rfl (HOp.box (v := (.agg #[(Sl.v r15), (.int .i64 0), (.int .i64 0), (Sl.v Sl.nil), (.int .i64 0)])) rfl) ?_
    rintro _ H17 ⟨rfl, e18⟩
    replace h := h H17 e18
    obtain ⟨s19, h⟩ := h
    refine ⟨SC_of ⟨fun _ => s19, trivial⟩, ?_⟩
    refine HPlan.ops' rfl rfl (HOp.call' 35 [(.pointer p0), (.agg #[(.int .i64 x7), (.int .i64 x8)]), (.pointer (some ⟨H13.size, 0, none⟩))] (cap := []) rfl rfl Try.call35 (walk35 h)) ?_
    rintro _ H20 ⟨r22, rfl, h⟩
    refine ⟨SC_of ⟨fun e => absurd e (by decide), trivial⟩, ?_⟩
    refine HPlan.takev (v := (.int .i64 r22)) rfl rfl (fun _ => HVal.assign' rfl) ?_
    refine HPlan.takev (v := (.int .i64 0)) rfl rfl (fun _ => HVal.assign' rfl) ?_
    refine HPlan.done ?_
    refine nt ?_
    refine HW.ret ?_
    exact ⟨_, resOf2 rfl Res1.t Res1.t, ⟨r22, 0, rfl, h⟩⟩

def F38_1 (Q : (Option Addr) → Hp → Prop) (y1 : (Option Addr)) (y2 : Int) (y5 : Bool) (H_1 : Hp) : Prop :=
(y5 = true → (Q none H_1)) ∧
 (y5 = false → (∃ a11 : Addr, y1 = some a11 ∧ (
 ∃ x14 : Sl, cell H_1 (Addr.add a11 3) = some (Sl.v x14) ∧ (
 ∃ a15 : Addr, (x14).b = some a15 ∧ (0 : Int) ≤ y2 ∧ y2 < ((x14).n : Int) ∧ (
 ∃ x20 : (Option Addr), cell H_1 (Addr.add a15 (y2.toNat * 1)) = some (.pointer x20) ∧ (
 Q x20 H_1))))))
def F38 (p0 : (Option Addr)) (p1 : Int) (H : Hp) (Q : (Option Addr) → Hp → Prop) : Prop :=
((decide (p1 < 0)) = true → (F38_1 Q p0 p1 true H)) ∧
 ((decide (p1 < 0)) = false → (∃ a6 : Addr, p0 = some a6 ∧ (
 ∃ x9 : Sl, cell H (Addr.add a6 3) = some (Sl.v x9) ∧ (
 F38_1 Q p0 p1 (decide (((x9).n : Int) ≤ p1)) H))))
set_option maxRecDepth 100000 in
set_option maxHeartbeats 4000000 in
theorem walk38 {w0 : World} {p0 : (Option Addr)} {p1 : Int} {H : Hp} {Q : (Option Addr) → Hp → Prop} (h : F38 p0 p1 H Q) :
    Good Try.prog w0 38 #[(.pointer p0), (.int .i64 p1)] H (fun v H => ∃ (r0 : (Option Addr)) , v = (.pointer r0) ∧ Q r0 H) := by
  unfold F38 at h
  refine Good.enter' (fn := Try.f38) Try.func38 rfl rfl rfl ?_
  refine HW.seq ?_
  refine HW.region ?_
  refine HList.vals (v := (.pointer none)) rfl (HVal.assign' rfl) ?_
  refine HList.nil ?_
  refine nt ?_
  refine HW.seq ?_
  refine HW.cut (fun ρ H_1 => ∃ (y5 : Bool), Env.Is ρ [(0, (.pointer p0)), (1, (.int .i64 p1)), (15, (.bool y5))] ∧ F38_1 Q p0 p1 y5 H_1) ?_ ?_
  · refine HW.region ?_
    refine HList.vals (v := (.int .i64 p1)) rfl (HVal.move' rfl) ?_
    refine HList.vals (v := (.bool (decide (p1 < 0)))) rfl (HVal.lss rfl rfl) ?_
    refine HList.vals (v := (.bool (decide (p1 < 0)))) rfl (HVal.move' rfl) ?_
    obtain ⟨hT, hF⟩ := h
    rcases Bool.eq_false_or_eq_true (decide (p1 < 0)) with hb3 | hb4
    · have h := hT hb3
      clear hT hF
      refine HList.gskips rfl rfl rfl rfl (congrArg Value.bool hb3) ?_
      refine HList.gskips rfl rfl rfl rfl (congrArg Value.bool hb3) ?_
      refine HList.gskips rfl rfl rfl rfl (congrArg Value.bool hb3) ?_
      refine HList.gskips rfl rfl rfl rfl (congrArg Value.bool hb3) ?_
      refine HList.gskips rfl rfl rfl rfl (congrArg Value.bool hb3) ?_
      refine HList.gskips rfl rfl rfl rfl (congrArg Value.bool hb3) ?_
      refine HList.gskips rfl rfl rfl rfl (congrArg Value.bool hb3) ?_
      refine HList.vals (v := (.bool true)) rfl (HVal.pickT rfl hb3 rfl) ?_
      refine HList.nil ?_
      refine nt ?_
      exact ⟨true, ⟨rfl, rfl, rfl, trivial⟩, h⟩
    · have h := hF hb4
      clear hT hF
      refine HList.gvals (v := (.int .i64 p1)) rfl rfl rfl rfl (congrArg Value.bool hb4) (HVal.move' rfl) ?_
      refine HList.gvals (v := (.pointer p0)) rfl rfl rfl rfl (congrArg Value.bool hb4) (HVal.move' rfl) ?_
      obtain ⟨a6, e7, h⟩ := h
      refine HList.gvals (v := (.pointer (some a6))) rfl rfl rfl rfl (congrArg Value.bool hb4) (HVal.nilCheck (congrArg Value.pointer e7)) ?_
      refine HList.gvals (v := (.pointer (some (Addr.add a6 3)))) rfl rfl rfl rfl (congrArg Value.bool hb4) (HVal.fieldAddr' Try.runUnderlying71 rfl rfl Try.sizeOf69 rfl) ?_
      obtain ⟨x9, c8, h⟩ := h
      refine HList.gvals (v := (Sl.v x9)) rfl rfl rfl rfl (congrArg Value.bool hb4) (HVal.load1 Try.isAgg69 rfl c8) ?_
      refine HList.gvals (v := (.int .i64 ((x9).n : Int))) rfl rfl rfl rfl (congrArg Value.bool hb4) (HVal.len Try.runUnderlying69 rfl) ?_
      refine HList.gvals (v := (.bool (decide (((x9).n : Int) ≤ p1)))) rfl rfl rfl rfl (congrArg Value.bool hb4) (HVal.geq rfl rfl) ?_
      refine HList.vals (v := (.bool (decide (((x9).n : Int) ≤ p1)))) rfl (HVal.pickF rfl hb4 rfl) ?_
      refine HList.nil ?_
      refine nt ?_
      exact ⟨(decide (((x9).n : Int) ≤ p1)), ⟨rfl, rfl, rfl, trivial⟩, h⟩
  · rintro ρ H_1 ⟨y5, hI, h⟩
    obtain ⟨ρ0, rfl⟩ : ∃ ρ0, ρ = (Env.set (Env.set (Env.set ρ0 15 (.bool y5)) 1 (.int .i64 p1)) 0 (.pointer p0)) := ⟨ρ, hI.eq⟩
    clear hI; unfold F38_1 at h
    obtain ⟨hT, hF⟩ := h
    refine HW.cond y5 rfl (fun hb10 => ?_) (fun hb10 => ?_)
    · have h := hT hb10
      clear hT hF
      refine HW.seq ?_
      refine HW.region ?_
      refine HList.vals (v := (.pointer none)) rfl (HVal.assign' rfl) ?_
      refine HList.nil ?_
      refine nt ?_
      refine HW.ret ?_
      refine tr ?_
      exact ⟨_, resOf1 rfl Res1.t, ⟨none, rfl, h⟩⟩
    · have h := hF hb10
      clear hT hF
      refine HW.skip ?_
      refine nt ?_
      refine HW.seq ?_
      refine HW.region ?_
      refine HList.vals (v := (.pointer p0)) rfl (HVal.move' rfl) ?_
      obtain ⟨a11, e12, h⟩ := h
      refine HList.vals (v := (.pointer (some a11))) rfl (HVal.nilCheck (congrArg Value.pointer e12)) ?_
      refine HList.vals (v := (.pointer (some (Addr.add a11 3)))) rfl (HVal.fieldAddr' Try.runUnderlying71 rfl rfl Try.sizeOf69 rfl) ?_
      obtain ⟨x14, c13, h⟩ := h
      refine HList.vals (v := (Sl.v x14)) rfl (HVal.load1 Try.isAgg69 rfl c13) ?_
      refine HList.vals (v := (.int .i64 p1)) rfl (HVal.move' rfl) ?_
      obtain ⟨a15, e16, b17, b18, h⟩ := h
      refine HList.vals (v := (.pointer (some (Addr.add a15 (p1.toNat * 1))))) rfl (HVal.indexAddr Try.runUnderlying69 Try.sizeOf80 (Sl.v_some rfl e16) rfl b17 b18) ?_
      obtain ⟨x20, c19, h⟩ := h
      refine HList.vals (v := (.pointer x20)) rfl (HVal.load1 Try.isAgg80 rfl c19) ?_
      refine HList.vals (v := (.pointer x20)) rfl (HVal.assign' rfl) ?_
      refine HList.nil ?_
      refine nt ?_
      refine HW.ret ?_
      exact ⟨_, resOf1 rfl Res1.t, ⟨x20, rfl, h⟩⟩

def F39 (p0 : Sl) (H : Hp) (Q : Sl → Hp → Prop) : Prop :=
(((p0).b.isNone) = true → (Q Sl.nil H)) ∧
 (((p0).b.isNone) = false → (∀ H2 : Hp, H2 = Array.push H (.cells #[] 3) → (
 AppendF H2 3 1 8 #[(.int .i64 0)] (Sl.mk (some ⟨H.size, 0, none⟩) 0 0) (p0).b (p0).n (fun (r6 : Sl) (H4 : Hp) => 
 Q r6 H4))))
set_option maxRecDepth 100000 in
set_option maxHeartbeats 4000000 in
theorem walk39 {w0 : World} {p0 : Sl} {H : Hp} {Q : Sl → Hp → Prop} (h : F39 p0 H Q) :
    Good Try.prog w0 39 #[(Sl.v p0)] H (fun v H => ∃ (r0 : Sl) , v = (Sl.v r0) ∧ Q r0 H) := by
  unfold F39 at h
  refine Good.enter' (fn := Try.f39) Try.func39 rfl rfl rfl ?_
  refine HW.seq ?_
  refine HW.region ?_
  refine HList.vals (v := (Sl.v Sl.nil)) rfl (HVal.assign' rfl) ?_
  refine HList.nil ?_
  refine nt ?_
  refine HW.seq ?_
  refine HW.seq ?_
  refine HW.region ?_
  refine HList.vals (v := (Sl.v p0)) rfl (HVal.move' rfl) ?_
  refine HList.vals (v := (.bool ((p0).b.isNone))) rfl (HVal.eqlSN Try.underlying50 rfl rfl) ?_
  refine HList.nil ?_
  refine nt ?_
  obtain ⟨hT, hF⟩ := h
  refine HW.cond ((p0).b.isNone) rfl (fun hb1 => ?_) (fun hb1 => ?_)
  · have h := hT hb1
    clear hT hF
    refine HW.seq ?_
    refine HW.region ?_
    refine HList.vals (v := (Sl.v Sl.nil)) rfl (HVal.assign' rfl) ?_
    refine HList.nil ?_
    refine nt ?_
    refine HW.ret ?_
    refine tr ?_
    exact ⟨_, resOf1 rfl Res1.t, ⟨Sl.nil, rfl, h⟩⟩
  · have h := hF hb1
    clear hT hF
    refine HW.skip ?_
    refine nt ?_
    refine HW.seq ?_
    refine HW.region ?_
    refine HList.ops' rfl (HOp.buildSlice0 (cs := []) Try.runUnderlying50 Try.sizeOf3 (by decide) rfl) ?_
    rintro _ H2 ⟨rfl, e3⟩
    replace h := h H2 e3
    refine HList.vals (v := (Sl.v p0)) rfl (HVal.move' rfl) ?_
    refine HList.ops' rfl (HOp.append (k := 1) (b := 8) Try.runUnderlying50 Try.runUnderlying50 Try.typeInfo3 rfl rfl Try.zeroValue3 rfl rfl h) ?_
    rintro _ H4 ⟨r6, rfl, h⟩
    refine HList.vals (v := (Sl.v r6)) rfl (HVal.assign' rfl) ?_
    refine HList.nil ?_
    refine nt ?_
    refine HW.ret ?_
    exact ⟨_, resOf1 rfl Res1.t, ⟨r6, rfl, h⟩⟩

def F48_1 (Q : Int → Hp → Prop) (y1 : Sl) (y2 : Sl) (H_1 : Hp) : Prop :=
Q (if ((y2).n : Int) < ((y1).n : Int) then ((y2).n : Int) else ((y1).n : Int)) H_1
def F48_L2b (Q : Int → Hp → Prop) (X2 : Int → Hp → Prop) (y4 : Sl) (y5 : Sl) (y6 : Int) (y3 : Int) (H_2 : Hp) : Prop :=
((decide (y3 < y6)) = true → (∃ a8 : Addr, (y4).b = some a8 ∧ (0 : Int) ≤ y3 ∧ y3 < ((y4).n : Int) ∧ (
 ∃ x13 : Int, cell H_2 (Addr.add a8 (y3.toNat * 1)) = some (.int .i64 x13) ∧ (
 ∃ a14 : Addr, (y5).b = some a14 ∧ (0 : Int) ≤ y3 ∧ y3 < ((y5).n : Int) ∧ (
 ∃ x19 : Int, cell H_2 (Addr.add a14 (y3.toNat * 1)) = some (.int .i64 x19) ∧ (
 ((decide (x13 ≠ x19)) = true → (Q y3 H_2)) ∧
 ((decide (x13 ≠ x19)) = false → (X2 (IntKind.i64.wrap (y3 + 1)) H_2)))))))) ∧
 ((decide (y3 < y6)) = false → (F48_1 Q y4 y5 H_2))
def F48_L2 (Q : Int → Hp → Prop) (y4 : Sl) (y5 : Sl) (y6 : Int) (y3 : Int) (H_2 : Hp) : Prop :=
  ∀ X2 : Int → Hp → Prop, (∀ (y3 : Int) (H_2 : Hp), F48_L2b Q X2 y4 y5 y6 y3 H_2 → X2 y3 H_2) → X2 y3 H_2
def F48 (p0 : Sl) (p1 : Sl) (H : Hp) (Q : Int → Hp → Prop) : Prop :=
F48_L2 Q p0 p1 (if ((p1).n : Int) < ((p0).n : Int) then ((p1).n : Int) else ((p0).n : Int)) 0 H
set_option maxRecDepth 100000 in
set_option maxHeartbeats 4000000 in
theorem walk48 {w0 : World} {p0 : Sl} {p1 : Sl} {H : Hp} {Q : Int → Hp → Prop} (h : F48 p0 p1 H Q) :
    Good Try.prog w0 48 #[(Sl.v p0), (Sl.v p1)] H (fun v H => ∃ (r0 : Int) , v = (.int .i64 r0) ∧ Q r0 H) := by
  unfold F48 at h
  refine Good.enter' (fn := Try.f48) Try.func48 rfl rfl rfl ?_
  refine HW.seq ?_
  refine HW.region ?_
  refine HList.vals (v := (.int .i64 0)) rfl (HVal.assign' rfl) ?_
  refine HList.nil ?_
  refine nt ?_
  refine HW.cut (fun ρ H_1 => Env.Is ρ [(0, (Sl.v p0)), (1, (Sl.v p1))] ∧ F48_1 Q p0 p1 H_1) ?_ ?_
  · refine HW.seq ?_
    refine HW.region ?_
    refine HList.vals (v := (Sl.v p0)) rfl (HVal.move' rfl) ?_
    refine HList.vals (v := (.int .i64 ((p0).n : Int))) rfl (HVal.len Try.runUnderlying50 rfl) ?_
    refine HList.vals (v := (Sl.v p1)) rfl (HVal.move' rfl) ?_
    refine HList.vals (v := (.int .i64 ((p1).n : Int))) rfl (HVal.len Try.runUnderlying50 rfl) ?_
    refine HList.vals (v := (.int .i64 (if ((p1).n : Int) < ((p0).n : Int) then ((p1).n : Int) else ((p0).n : Int)))) rfl (HVal.min rfl rfl) ?_
    refine HList.vals (v := (.int .i64 0)) rfl (HVal.move' rfl) ?_
    refine HList.nil ?_
    refine nt ?_
    refine HW.block ?_
    refine HW.loop' (fun L2 hL2 => ?_)
    obtain ⟨X2, hX2⟩ : ∃ X2 : Int → Hp → Prop, ∀ (y3 : Int) (H_2 : Hp), X2 y3 H_2 ↔ ∀ ρ, Env.Is ρ [(0, (Sl.v p0)), (1, (Sl.v p1)), (10, (.int .i64 (if ((p1).n : Int) < ((p0).n : Int) then ((p1).n : Int) else ((p0).n : Int)))), (11, (.int .i64 y3))] → L2 ρ H_2 := ⟨_, fun _ _ => Iff.rfl⟩
    refine (hX2 _ _).1 (h X2 ?_) _ ?_
    rotate_left
    · exact ⟨rfl, rfl, rfl, rfl, trivial⟩
    clear h
    intro y3 H_2 h
    refine (hX2 _ _).2 fun ρ hI => ?_
    obtain ⟨ρ0, rfl⟩ : ∃ ρ0, ρ = (Env.set (Env.set (Env.set (Env.set ρ0 11 (.int .i64 y3)) 10 (.int .i64 (if ((p1).n : Int) < ((p0).n : Int) then ((p1).n : Int) else ((p0).n : Int)))) 1 (Sl.v p1)) 0 (Sl.v p0)) := ⟨ρ, hI.eq⟩
    clear hI; unfold F48_L2b at h; refine hL2 _ _ ?_
    refine HW.seq ?_
    refine HW.region ?_
    refine HList.vals (v := (.bool (decide (y3 < (if ((p1).n : Int) < ((p0).n : Int) then ((p1).n : Int) else ((p0).n : Int)))))) rfl (HVal.lss rfl rfl) ?_
    refine HList.nil ?_
    refine nt ?_
    refine HW.seq ?_
    obtain ⟨hT, hF⟩ := h
    refine HW.cond (decide (y3 < (if ((p1).n : Int) < ((p0).n : Int) then ((p1).n : Int) else ((p0).n : Int)))) rfl (fun hb7 => ?_) (fun hb7 => ?_)
    · have h := hT hb7
      clear hT hF
      refine HW.skip ?_
      refine nt ?_
      refine HW.seq ?_
      refine HW.block ?_
      refine HW.seq ?_
      refine HW.region ?_
      refine HList.vals (v := (.int .i64 y3)) rfl (HVal.move' rfl) ?_
      refine HList.vals (v := (.int .i64 y3)) rfl (HVal.assign' rfl) ?_
      refine HList.nil ?_
      refine nt ?_
      refine HW.seq ?_
      refine HW.draw mixed [(0, some []), (1, some []), (2, some []), (3, some []), (4, some []), (5, some []), (6, some []), (7, some []), (8, some [])] rfl (by kernel_rfl) (by kernel_rfl) ?_
      refine HPlan.takev (v := (Sl.v p0)) rfl rfl (fun _ => HVal.move' rfl) ?_
      refine HPlan.takev (v := (.int .i64 y3)) rfl rfl (fun _ => HVal.move' rfl) ?_
      obtain ⟨a8, e9, b10, b11, h⟩ := h
      refine HPlan.takev (v := (.pointer (some (Addr.add a8 (y3.toNat * 1))))) rfl rfl (fun _ => HVal.indexAddr Try.runUnderlying50 Try.sizeOf3 (Sl.v_some rfl e9) rfl b10 b11) ?_
      obtain ⟨x13, c12, h⟩ := h
      refine HPlan.takel (v := (.int .i64 x13)) (fun X => cell X (Addr.add a8 (y3.toNat * 1)) = some (.int .i64 x13)) rfl rfl (fun _ hX => HVal.load1 Try.isAgg3 rfl hX) c12 ?_
      refine HPlan.takev (v := (Sl.v p1)) rfl rfl (fun _ => HVal.move' rfl) ?_
      refine HPlan.takev (v := (.int .i64 y3)) rfl rfl (fun _ => HVal.move' rfl) ?_
      obtain ⟨a14, e15, b16, b17, h⟩ := h
      refine HPlan.takev (v := (.pointer (some (Addr.add a14 (y3.toNat * 1))))) rfl rfl (fun _ => HVal.indexAddr Try.runUnderlying50 Try.sizeOf3 (Sl.v_some rfl e15) rfl b16 b17) ?_
      obtain ⟨x19, c18, h⟩ := h
      refine HPlan.takel (v := (.int .i64 x19)) (fun X => cell X (Addr.add a14 (y3.toNat * 1)) = some (.int .i64 x19)) rfl rfl (fun _ hX => HVal.load1 Try.isAgg3 rfl hX) c18 ?_
      refine HPlan.takev (v := (.bool (decide (x13 ≠ x19)))) rfl rfl (fun _ => HVal.neqI rfl rfl) ?_
      refine HPlan.done ?_
      refine nt ?_
      obtain ⟨hT, hF⟩ := h
      refine HW.cond (decide (x13 ≠ x19)) rfl (fun hb20 => ?_) (fun hb20 => ?_)
      · have h := hT hb20
        clear hT hF
        refine HW.seq ?_
        refine HW.region ?_
        refine HList.vals (v := (.int .i64 y3)) rfl (HVal.move' rfl) ?_
        refine HList.vals (v := (.int .i64 y3)) rfl (HVal.assign' rfl) ?_
        refine HList.nil ?_
        refine nt ?_
        refine HW.ret ?_
        refine br ?_
        refine tr ?_
        refine tr ?_
        refine br ?_
        refine tr ?_
        exact ⟨_, resOf1 rfl Res1.t, ⟨y3, rfl, h⟩⟩
      · have h := hF hb20
        clear hT hF
        refine HW.skip ?_
        refine nb ?_
        refine nt ?_
        refine HW.region ?_
        refine HList.vals (v := (.int .i64 (IntKind.i64.wrap (y3 + 1)))) rfl (HVal.add rfl rfl) ?_
        refine HList.vals (v := (.int .i64 (IntKind.i64.wrap (y3 + 1)))) rfl (HVal.move' rfl) ?_
        refine HList.nil ?_
        refine nt ?_
        exact (hX2 _ _).1 h _ ⟨rfl, rfl, rfl, rfl, trivial⟩
    · have h := hF hb7
      clear hT hF
      refine HW.exit ?_
      refine te ?_
      refine te ?_
      refine be ?_
      refine nt ?_
      exact ⟨⟨rfl, rfl, trivial⟩, h⟩
  · rintro ρ H_1 ⟨hI, h⟩
    obtain ⟨ρ0, rfl⟩ : ∃ ρ0, ρ = (Env.set (Env.set ρ0 1 (Sl.v p1)) 0 (Sl.v p0)) := ⟨ρ, hI.eq⟩
    clear hI; unfold F48_1 at h
    refine HW.seq ?_
    refine HW.region ?_
    refine HList.vals (v := (Sl.v p0)) rfl (HVal.move' rfl) ?_
    refine HList.vals (v := (.int .i64 ((p0).n : Int))) rfl (HVal.len Try.runUnderlying50 rfl) ?_
    refine HList.vals (v := (Sl.v p1)) rfl (HVal.move' rfl) ?_
    refine HList.vals (v := (.int .i64 ((p1).n : Int))) rfl (HVal.len Try.runUnderlying50 rfl) ?_
    refine HList.vals (v := (.int .i64 (if ((p1).n : Int) < ((p0).n : Int) then ((p1).n : Int) else ((p0).n : Int)))) rfl (HVal.min rfl rfl) ?_
    refine HList.vals (v := (.int .i64 (if ((p1).n : Int) < ((p0).n : Int) then ((p1).n : Int) else ((p0).n : Int)))) rfl (HVal.assign' rfl) ?_
    refine HList.nil ?_
    refine nt ?_
    refine HW.ret ?_
    exact ⟨_, resOf1 rfl Res1.t, ⟨(if ((p1).n : Int) < ((p0).n : Int) then ((p1).n : Int) else ((p0).n : Int)), rfl, h⟩⟩

def F47_1 (Q : Int → Hp → Prop) (y4 : Sl) (y5 : Int) (y24 : Bool) (H_1 : Hp) : Prop :=
(y24 = true → (Q 1 H_1)) ∧
 (y24 = false → (((decide (y5 < ((y4).n : Int))) = true → (Q (-1) H_1)) ∧
 ((decide (y5 < ((y4).n : Int))) = false → (Q 0 H_1))))
def F47 (p0 : Sl) (p1 : Sl) (H : Hp) (Q : Int → Hp → Prop) : Prop :=
F48 p0 p1 H (fun (r3 : Int) (H1 : Hp) => 
 ((decide (r3 < ((p0).n : Int))) = true → (((decide (r3 < ((p1).n : Int))) = true → (∃ a10 : Addr, (p0).b = some a10 ∧ (0 : Int) ≤ r3 ∧ r3 < ((p0).n : Int) ∧ (
 ∃ x15 : Int, cell H1 (Addr.add a10 (r3.toNat * 1)) = some (.int .i64 x15) ∧ (
 ∃ a16 : Addr, (p1).b = some a16 ∧ (0 : Int) ≤ r3 ∧ r3 < ((p1).n : Int) ∧ (
 ∃ x21 : Int, cell H1 (Addr.add a16 (r3.toNat * 1)) = some (.int .i64 x21) ∧ (
 ((decide (x21 < x15)) = true → (F47_1 Q p1 r3 true H1)) ∧
 ((decide (x21 < x15)) = false → (((decide (r3 = ((p1).n : Int))) = true → (F47_1 Q p1 r3 (decide (r3 < ((p0).n : Int))) H1)) ∧
 ((decide (r3 = ((p1).n : Int))) = false → (F47_1 Q p1 r3 false H1)))))))))) ∧
 ((decide (r3 < ((p1).n : Int))) = false → (((decide (r3 = ((p1).n : Int))) = true → (F47_1 Q p1 r3 (decide (r3 < ((p0).n : Int))) H1)) ∧
 ((decide (r3 = ((p1).n : Int))) = false → (F47_1 Q p1 r3 false H1)))))) ∧
 ((decide (r3 < ((p0).n : Int))) = false → (((decide (r3 = ((p1).n : Int))) = true → (F47_1 Q p1 r3 (decide (r3 < ((p0).n : Int))) H1)) ∧
 ((decide (r3 = ((p1).n : Int))) = false → (F47_1 Q p1 r3 false H1)))))
set_option maxRecDepth 100000 in
set_option maxHeartbeats 4000000 in
theorem walk47 {w0 : World} {p0 : Sl} {p1 : Sl} {H : Hp} {Q : Int → Hp → Prop} (h : F47 p0 p1 H Q) :
    Good Try.prog w0 47 #[(Sl.v p0), (Sl.v p1)] H (fun v H => ∃ (r0 : Int) , v = (.int .i64 r0) ∧ Q r0 H) := by
  unfold F47 at h
  refine Good.enter' (fn := Try.f47) Try.func47 rfl rfl rfl ?_
  refine HW.seq ?_
  refine HW.region ?_
  refine HList.vals (v := (.int .i64 0)) rfl (HVal.assign' rfl) ?_
  refine HList.nil ?_
  refine nt ?_
  refine HW.seq ?_
  refine HW.region ?_
  refine HList.vals (v := (Sl.v p0)) rfl (HVal.move' rfl) ?_
  refine HList.vals (v := (Sl.v p1)) rfl (HVal.move' rfl) ?_
  refine HList.ops' rfl (HOp.call' 48 [(Sl.v p0), (Sl.v p1)] (cap := []) rfl rfl Try.call48 (walk48 h)) ?_
  rintro _ H1 ⟨r3, rfl, h⟩
  refine HList.vals (v := (.int .i64 r3)) rfl (HVal.assign' rfl) ?_
  refine HList.nil ?_
  refine nt ?_
  refine HW.seq ?_
  refine HW.block ?_
  refine HW.cut (fun ρ H_1 => ∃ (y24 : Bool), Env.Is ρ [(1, (Sl.v p1)), (5, (.int .i64 r3)), (9, (.bool y24))] ∧ F47_1 Q p1 r3 y24 H_1) ?_ ?_
  · refine HW.draw mixed [(0, some []), (1, some []), (2, some []), (3, some []), (4, some []), (5, some []), (6, some []), (7, some []), (8, some []), (9, some []), (10, some []), (11, some []), (12, some []), (13, some []), (14, some []), (15, some []), (16, some []), (17, some []), (18, some []), (19, some []), (20, some []), (21, some []), (22, some []), (23, some []), (24, some []), (25, some []), (26, some []), (27, some []), (28, some []), (29, some []), (30, some []), (31, some []), (32, some []), (33, some [])] rfl (by kernel_rfl) (by kernel_rfl) ?_
    refine HPlan.takev (v := (.int .i64 r3)) rfl rfl (fun _ => HVal.move' rfl) ?_
    refine HPlan.takev (v := (Sl.v p0)) rfl rfl (fun _ => HVal.move' rfl) ?_
    refine HPlan.takev (v := (.int .i64 ((p0).n : Int))) rfl rfl (fun _ => HVal.len Try.runUnderlying50 rfl) ?_
    refine HPlan.takev (v := (.bool (decide (r3 < ((p0).n : Int))))) rfl rfl (fun _ => HVal.lss rfl rfl) ?_
    refine HPlan.takev (v := (.bool (decide (r3 < ((p0).n : Int))))) rfl rfl (fun _ => HVal.move' rfl) ?_
    obtain ⟨hT, hF⟩ := h
    rcases Bool.eq_false_or_eq_true (decide (r3 < ((p0).n : Int))) with hb6 | hb7
    · have h := hT hb6
      clear hT hF
      refine HPlan.gtakev (v := (.int .i64 r3)) rfl rfl rfl rfl rfl (congrArg Value.bool hb6) (fun _ => HVal.move' rfl) ?_
      refine HPlan.gtakev (v := (Sl.v p1)) rfl rfl rfl rfl rfl (congrArg Value.bool hb6) (fun _ => HVal.move' rfl) ?_
      refine HPlan.gtakev (v := (.int .i64 ((p1).n : Int))) rfl rfl rfl rfl rfl (congrArg Value.bool hb6) (fun _ => HVal.len Try.runUnderlying50 rfl) ?_
      refine HPlan.gtakev (v := (.bool (decide (r3 < ((p1).n : Int))))) rfl rfl rfl rfl rfl (congrArg Value.bool hb6) (fun _ => HVal.lss rfl rfl) ?_
      refine HPlan.takev (v := (.bool (decide (r3 < ((p1).n : Int))))) rfl rfl (fun _ => HVal.pickT rfl hb6 rfl) ?_
      refine HPlan.takev (v := (.bool (decide (r3 < ((p1).n : Int))))) rfl rfl (fun _ => HVal.move' rfl) ?_
      obtain ⟨hT, hF⟩ := h
      rcases Bool.eq_false_or_eq_true (decide (r3 < ((p1).n : Int))) with hb8 | hb9
      · have h := hT hb8
        clear hT hF
        refine HPlan.gtakev (v := (Sl.v p0)) rfl rfl rfl rfl rfl (congrArg Value.bool hb8) (fun _ => HVal.move' rfl) ?_
        refine HPlan.gtakev (v := (.int .i64 r3)) rfl rfl rfl rfl rfl (congrArg Value.bool hb8) (fun _ => HVal.move' rfl) ?_
        obtain ⟨a10, e11, b12, b13, h⟩ := h
        refine HPlan.gtakev (v := (.pointer (some (Addr.add a10 (r3.toNat * 1))))) rfl rfl rfl rfl rfl (congrArg Value.bool hb8) (fun _ => HVal.indexAddr Try.runUnderlying50 Try.sizeOf3 (Sl.v_some rfl e11) rfl b12 b13) ?_
        obtain ⟨x15, c14, h⟩ := h
        refine HPlan.gtakel (v := (.int .i64 x15)) (fun X => cell X (Addr.add a10 (r3.toNat * 1)) = some (.int .i64 x15)) rfl rfl rfl rfl rfl (congrArg Value.bool hb8) (fun _ hX => HVal.load1 Try.isAgg3 rfl hX) c14 ?_
        refine HPlan.gtakev (v := (Sl.v p1)) rfl rfl rfl rfl rfl (congrArg Value.bool hb8) (fun _ => HVal.move' rfl) ?_
        refine HPlan.gtakev (v := (.int .i64 r3)) rfl rfl rfl rfl rfl (congrArg Value.bool hb8) (fun _ => HVal.move' rfl) ?_
        obtain ⟨a16, e17, b18, b19, h⟩ := h
        refine HPlan.gtakev (v := (.pointer (some (Addr.add a16 (r3.toNat * 1))))) rfl rfl rfl rfl rfl (congrArg Value.bool hb8) (fun _ => HVal.indexAddr Try.runUnderlying50 Try.sizeOf3 (Sl.v_some rfl e17) rfl b18 b19) ?_
        obtain ⟨x21, c20, h⟩ := h
        refine HPlan.gtakel (v := (.int .i64 x21)) (fun X => cell X (Addr.add a16 (r3.toNat * 1)) = some (.int .i64 x21)) rfl rfl rfl rfl rfl (congrArg Value.bool hb8) (fun _ hX => HVal.load1 Try.isAgg3 rfl hX) c20 ?_
        refine HPlan.gtakev (v := (.bool (decide (x21 < x15)))) rfl rfl rfl rfl rfl (congrArg Value.bool hb8) (fun _ => HVal.gtr rfl rfl) ?_
        refine HPlan.takev (v := (.bool (decide (x21 < x15)))) rfl rfl (fun _ => HVal.pickT rfl hb8 rfl) ?_
        refine HPlan.takev (v := (.bool (decide (x21 < x15)))) rfl rfl (fun _ => HVal.move' rfl) ?_
        obtain ⟨hT, hF⟩ := h
        rcases Bool.eq_false_or_eq_true (decide (x21 < x15)) with hb22 | hb23
        · have h := hT hb22
          clear hT hF
          refine HPlan.takegskip rfl rfl rfl rfl (congrArg Value.bool hb22) ?_
          refine HPlan.takegskip rfl rfl rfl rfl (congrArg Value.bool hb22) ?_
          refine HPlan.takegskip rfl rfl rfl rfl (congrArg Value.bool hb22) ?_
          refine HPlan.takegskip rfl rfl rfl rfl (congrArg Value.bool hb22) ?_
          refine HPlan.takegskip rfl rfl rfl rfl (congrArg Value.bool hb22) ?_
          refine HPlan.takeuskip rfl rfl rfl rfl rfl ?_
          refine HPlan.takeuskip rfl rfl rfl rfl rfl ?_
          refine HPlan.takeuskip rfl rfl rfl rfl rfl ?_
          refine HPlan.takeuskip rfl rfl rfl rfl rfl ?_
          refine HPlan.takegskip rfl rfl rfl rfl (congrArg Value.bool hb22) ?_
          refine HPlan.takev (v := (.bool true)) rfl rfl (fun _ => HVal.pickT rfl hb22 rfl) ?_
          refine HPlan.takev (v := (.bool true)) rfl rfl (fun _ => HVal.assign' rfl) ?_
          refine HPlan.done ?_
          refine nt ?_
          exact ⟨true, ⟨rfl, rfl, rfl, trivial⟩, h⟩
        · have h := hF hb23
          clear hT hF
          refine HPlan.gtakev (v := (.int .i64 r3)) rfl rfl rfl rfl rfl (congrArg Value.bool hb23) (fun _ => HVal.move' rfl) ?_
          refine HPlan.gtakev (v := (Sl.v p1)) rfl rfl rfl rfl rfl (congrArg Value.bool hb23) (fun _ => HVal.move' rfl) ?_
          refine HPlan.gtakev (v := (.int .i64 ((p1).n : Int))) rfl rfl rfl rfl rfl (congrArg Value.bool hb23) (fun _ => HVal.len Try.runUnderlying50 rfl) ?_
          refine HPlan.gtakev (v := (.bool (decide (r3 = ((p1).n : Int))))) rfl rfl rfl rfl rfl (congrArg Value.bool hb23) (fun _ => HVal.eqlI rfl rfl) ?_
          refine HPlan.gtakev (v := (.bool (decide (r3 = ((p1).n : Int))))) rfl rfl rfl rfl rfl (congrArg Value.bool hb23) (fun _ => HVal.move' rfl) ?_
          obtain ⟨hT, hF⟩ := h
          rcases Bool.eq_false_or_eq_true (decide (r3 = ((p1).n : Int))) with hb25 | hb26
          · have h := hT hb25
            clear hT hF
            refine HPlan.gtakev (v := (.int .i64 r3)) rfl rfl rfl rfl rfl (congrArg Value.bool hb25) (fun _ => HVal.move' rfl) ?_
            refine HPlan.gtakev (v := (Sl.v p0)) rfl rfl rfl rfl rfl (congrArg Value.bool hb25) (fun _ => HVal.move' rfl) ?_
            refine HPlan.gtakev (v := (.int .i64 ((p0).n : Int))) rfl rfl rfl rfl rfl (congrArg Value.bool hb25) (fun _ => HVal.len Try.runUnderlying50 rfl) ?_
            refine HPlan.gtakev (v := (.bool (decide (r3 < ((p0).n : Int))))) rfl rfl rfl rfl rfl (congrArg Value.bool hb25) (fun _ => HVal.lss rfl rfl) ?_
            refine HPlan.gtakev (v := (.bool (decide (r3 < ((p0).n : Int))))) rfl rfl rfl rfl rfl (congrArg Value.bool hb23) (fun _ => HVal.pickT rfl hb25 rfl) ?_
            refine HPlan.takev (v := (.bool (decide (r3 < ((p0).n : Int))))) rfl rfl (fun _ => HVal.pickF rfl hb23 rfl) ?_
            refine HPlan.takev (v := (.bool (decide (r3 < ((p0).n : Int))))) rfl rfl (fun _ => HVal.assign' rfl) ?_
            refine HPlan.done ?_
            refine nt ?_
            exact ⟨(decide (r3 < ((p0).n : Int))), ⟨rfl, rfl, rfl, trivial⟩, h⟩
          · have h := hF hb26
            clear hT hF
            refine HPlan.takegskip rfl rfl rfl rfl (congrArg Value.bool hb26) ?_
            refine HPlan.takegskip rfl rfl rfl rfl (congrArg Value.bool hb26) ?_
            refine HPlan.takegskip rfl rfl rfl rfl (congrArg Value.bool hb26) ?_
            refine HPlan.takegskip rfl rfl rfl rfl (congrArg Value.bool hb26) ?_
            refine HPlan.gtakev (v := (.bool false)) rfl rfl rfl rfl rfl (congrArg Value.bool hb23) (fun _ => HVal.pickF rfl hb26 rfl) ?_
            refine HPlan.takev (v := (.bool false)) rfl rfl (fun _ => HVal.pickF rfl hb23 rfl) ?_
            refine HPlan.takev (v := (.bool false)) rfl rfl (fun _ => HVal.assign' rfl) ?_
            refine HPlan.done ?_
            refine nt ?_
            exact ⟨false, ⟨rfl, rfl, rfl, trivial⟩, h⟩
      · have h := hF hb9
        clear hT hF
        refine HPlan.takegskip rfl rfl rfl rfl (congrArg Value.bool hb9) ?_
        refine HPlan.takegskip rfl rfl rfl rfl (congrArg Value.bool hb9) ?_
        refine HPlan.takegskip rfl rfl rfl rfl (congrArg Value.bool hb9) ?_
        refine HPlan.takegskip rfl rfl rfl rfl (congrArg Value.bool hb9) ?_
        refine HPlan.takegskip rfl rfl rfl rfl (congrArg Value.bool hb9) ?_
        refine HPlan.takegskip rfl rfl rfl rfl (congrArg Value.bool hb9) ?_
        refine HPlan.takegskip rfl rfl rfl rfl (congrArg Value.bool hb9) ?_
        refine HPlan.takegskip rfl rfl rfl rfl (congrArg Value.bool hb9) ?_
        refine HPlan.takegskip rfl rfl rfl rfl (congrArg Value.bool hb9) ?_
        refine HPlan.takev (v := (.bool false)) rfl rfl (fun _ => HVal.pickF rfl hb9 rfl) ?_
        refine HPlan.takev (v := (.bool false)) rfl rfl (fun _ => HVal.move' rfl) ?_
        refine HPlan.gtakev (v := (.int .i64 r3)) rfl rfl rfl rfl rfl rfl (fun _ => HVal.move' rfl) ?_
        refine HPlan.gtakev (v := (Sl.v p1)) rfl rfl rfl rfl rfl rfl (fun _ => HVal.move' rfl) ?_
        refine HPlan.gtakev (v := (.int .i64 ((p1).n : Int))) rfl rfl rfl rfl rfl rfl (fun _ => HVal.len Try.runUnderlying50 rfl) ?_
        refine HPlan.gtakev (v := (.bool (decide (r3 = ((p1).n : Int))))) rfl rfl rfl rfl rfl rfl (fun _ => HVal.eqlI rfl rfl) ?_
        refine HPlan.gtakev (v := (.bool (decide (r3 = ((p1).n : Int))))) rfl rfl rfl rfl rfl rfl (fun _ => HVal.move' rfl) ?_
        obtain ⟨hT, hF⟩ := h
        rcases Bool.eq_false_or_eq_true (decide (r3 = ((p1).n : Int))) with hb27 | hb28
        · have h := hT hb27
          clear hT hF
          refine HPlan.gtakev (v := (.int .i64 r3)) rfl rfl rfl rfl rfl (congrArg Value.bool hb27) (fun _ => HVal.move' rfl) ?_
          refine HPlan.gtakev (v := (Sl.v p0)) rfl rfl rfl rfl rfl (congrArg Value.bool hb27) (fun _ => HVal.move' rfl) ?_
          refine HPlan.gtakev (v := (.int .i64 ((p0).n : Int))) rfl rfl rfl rfl rfl (congrArg Value.bool hb27) (fun _ => HVal.len Try.runUnderlying50 rfl) ?_
          refine HPlan.gtakev (v := (.bool (decide (r3 < ((p0).n : Int))))) rfl rfl rfl rfl rfl (congrArg Value.bool hb27) (fun _ => HVal.lss rfl rfl) ?_
          refine HPlan.gtakev (v := (.bool (decide (r3 < ((p0).n : Int))))) rfl rfl rfl rfl rfl rfl (fun _ => HVal.pickT rfl hb27 rfl) ?_
          refine HPlan.takev (v := (.bool (decide (r3 < ((p0).n : Int))))) rfl rfl (fun _ => HVal.pickF rfl rfl rfl) ?_
          refine HPlan.takev (v := (.bool (decide (r3 < ((p0).n : Int))))) rfl rfl (fun _ => HVal.assign' rfl) ?_
          refine HPlan.done ?_
          refine nt ?_
          exact ⟨(decide (r3 < ((p0).n : Int))), ⟨rfl, rfl, rfl, trivial⟩, h⟩
        · have h := hF hb28
          clear hT hF
          refine HPlan.takegskip rfl rfl rfl rfl (congrArg Value.bool hb28) ?_
          refine HPlan.takegskip rfl rfl rfl rfl (congrArg Value.bool hb28) ?_
          refine HPlan.takegskip rfl rfl rfl rfl (congrArg Value.bool hb28) ?_
          refine HPlan.takegskip rfl rfl rfl rfl (congrArg Value.bool hb28) ?_
          refine HPlan.gtakev (v := (.bool false)) rfl rfl rfl rfl rfl rfl (fun _ => HVal.pickF rfl hb28 rfl) ?_
          refine HPlan.takev (v := (.bool false)) rfl rfl (fun _ => HVal.pickF rfl rfl rfl) ?_
          refine HPlan.takev (v := (.bool false)) rfl rfl (fun _ => HVal.assign' rfl) ?_
          refine HPlan.done ?_
          refine nt ?_
          exact ⟨false, ⟨rfl, rfl, rfl, trivial⟩, h⟩
    · have h := hF hb7
      clear hT hF
      refine HPlan.takegskip rfl rfl rfl rfl (congrArg Value.bool hb7) ?_
      refine HPlan.takegskip rfl rfl rfl rfl (congrArg Value.bool hb7) ?_
      refine HPlan.takegskip rfl rfl rfl rfl (congrArg Value.bool hb7) ?_
      refine HPlan.takegskip rfl rfl rfl rfl (congrArg Value.bool hb7) ?_
      refine HPlan.takev (v := (.bool false)) rfl rfl (fun _ => HVal.pickF rfl hb7 rfl) ?_
      refine HPlan.takev (v := (.bool false)) rfl rfl (fun _ => HVal.move' rfl) ?_
      refine HPlan.takegskip rfl rfl rfl rfl rfl ?_
      refine HPlan.takegskip rfl rfl rfl rfl rfl ?_
      refine HPlan.takegskip rfl rfl rfl rfl rfl ?_
      refine HPlan.takegskip rfl rfl rfl rfl rfl ?_
      refine HPlan.takegskip rfl rfl rfl rfl rfl ?_
      refine HPlan.takegskip rfl rfl rfl rfl rfl ?_
      refine HPlan.takegskip rfl rfl rfl rfl rfl ?_
      refine HPlan.takegskip rfl rfl rfl rfl rfl ?_
      refine HPlan.takegskip rfl rfl rfl rfl rfl ?_
      refine HPlan.takev (v := (.bool false)) rfl rfl (fun _ => HVal.pickF rfl rfl rfl) ?_
      refine HPlan.takev (v := (.bool false)) rfl rfl (fun _ => HVal.move' rfl) ?_
      refine HPlan.gtakev (v := (.int .i64 r3)) rfl rfl rfl rfl rfl rfl (fun _ => HVal.move' rfl) ?_
      refine HPlan.gtakev (v := (Sl.v p1)) rfl rfl rfl rfl rfl rfl (fun _ => HVal.move' rfl) ?_
      refine HPlan.gtakev (v := (.int .i64 ((p1).n : Int))) rfl rfl rfl rfl rfl rfl (fun _ => HVal.len Try.runUnderlying50 rfl) ?_
      refine HPlan.gtakev (v := (.bool (decide (r3 = ((p1).n : Int))))) rfl rfl rfl rfl rfl rfl (fun _ => HVal.eqlI rfl rfl) ?_
      refine HPlan.gtakev (v := (.bool (decide (r3 = ((p1).n : Int))))) rfl rfl rfl rfl rfl rfl (fun _ => HVal.move' rfl) ?_
      obtain ⟨hT, hF⟩ := h
      rcases Bool.eq_false_or_eq_true (decide (r3 = ((p1).n : Int))) with hb29 | hb30
      · have h := hT hb29
        clear hT hF
        refine HPlan.gtakev (v := (.int .i64 r3)) rfl rfl rfl rfl rfl (congrArg Value.bool hb29) (fun _ => HVal.move' rfl) ?_
        refine HPlan.gtakev (v := (Sl.v p0)) rfl rfl rfl rfl rfl (congrArg Value.bool hb29) (fun _ => HVal.move' rfl) ?_
        refine HPlan.gtakev (v := (.int .i64 ((p0).n : Int))) rfl rfl rfl rfl rfl (congrArg Value.bool hb29) (fun _ => HVal.len Try.runUnderlying50 rfl) ?_
        refine HPlan.gtakev (v := (.bool (decide (r3 < ((p0).n : Int))))) rfl rfl rfl rfl rfl (congrArg Value.bool hb29) (fun _ => HVal.lss rfl rfl) ?_
        refine HPlan.gtakev (v := (.bool (decide (r3 < ((p0).n : Int))))) rfl rfl rfl rfl rfl rfl (fun _ => HVal.pickT rfl hb29 rfl) ?_
        refine HPlan.takev (v := (.bool (decide (r3 < ((p0).n : Int))))) rfl rfl (fun _ => HVal.pickF rfl rfl rfl) ?_
        refine HPlan.takev (v := (.bool (decide (r3 < ((p0).n : Int))))) rfl rfl (fun _ => HVal.assign' rfl) ?_
        refine HPlan.done ?_
        refine nt ?_
        exact ⟨(decide (r3 < ((p0).n : Int))), ⟨rfl, rfl, rfl, trivial⟩, h⟩
      · have h := hF hb30
        clear hT hF
        refine HPlan.takegskip rfl rfl rfl rfl (congrArg Value.bool hb30) ?_
        refine HPlan.takegskip rfl rfl rfl rfl (congrArg Value.bool hb30) ?_
        refine HPlan.takegskip rfl rfl rfl rfl (congrArg Value.bool hb30) ?_
        refine HPlan.takegskip rfl rfl rfl rfl (congrArg Value.bool hb30) ?_
        refine HPlan.gtakev (v := (.bool false)) rfl rfl rfl rfl rfl rfl (fun _ => HVal.pickF rfl hb30 rfl) ?_
        refine HPlan.takev (v := (.bool false)) rfl rfl (fun _ => HVal.pickF rfl rfl rfl) ?_
        refine HPlan.takev (v := (.bool false)) rfl rfl (fun _ => HVal.assign' rfl) ?_
        refine HPlan.done ?_
        refine nt ?_
        exact ⟨false, ⟨rfl, rfl, rfl, trivial⟩, h⟩
  · rintro ρ H_1 ⟨y24, hI, h⟩
    obtain ⟨ρ0, rfl⟩ : ∃ ρ0, ρ = (Env.set (Env.set (Env.set ρ0 9 (.bool y24)) 5 (.int .i64 r3)) 1 (Sl.v p1)) := ⟨ρ, hI.eq⟩
    clear hI; unfold F47_1 at h
    obtain ⟨hT, hF⟩ := h
    refine HW.cond y24 rfl (fun hb31 => ?_) (fun hb31 => ?_)
    · have h := hT hb31
      clear hT hF
      refine HW.seq ?_
      refine HW.region ?_
      refine HList.vals (v := (.int .i64 1)) rfl (HVal.assign' rfl) ?_
      refine HList.nil ?_
      refine nt ?_
      refine HW.ret ?_
      refine br ?_
      refine tr ?_
      exact ⟨_, resOf1 rfl Res1.t, ⟨1, rfl, h⟩⟩
    · have h := hF hb31
      clear hT hF
      refine HW.seq ?_
      refine HW.region ?_
      refine HList.vals (v := (.int .i64 r3)) rfl (HVal.move' rfl) ?_
      refine HList.vals (v := (Sl.v p1)) rfl (HVal.move' rfl) ?_
      refine HList.vals (v := (.int .i64 ((p1).n : Int))) rfl (HVal.len Try.runUnderlying50 rfl) ?_
      refine HList.vals (v := (.bool (decide (r3 < ((p1).n : Int))))) rfl (HVal.lss rfl rfl) ?_
      refine HList.vals (v := (.bool (decide (r3 < ((p1).n : Int))))) rfl (HVal.assign' rfl) ?_
      refine HList.nil ?_
      refine nt ?_
      obtain ⟨hT, hF⟩ := h
      refine HW.cond (decide (r3 < ((p1).n : Int))) rfl (fun hb32 => ?_) (fun hb32 => ?_)
      · have h := hT hb32
        clear hT hF
        refine HW.seq ?_
        refine HW.region ?_
        refine HList.vals (v := (.int .i64 (-1))) rfl (HVal.assign' rfl) ?_
        refine HList.nil ?_
        refine nt ?_
        refine HW.ret ?_
        refine br ?_
        refine tr ?_
        exact ⟨_, resOf1 rfl Res1.t, ⟨(-1), rfl, h⟩⟩
      · have h := hF hb32
        clear hT hF
        refine HW.skip ?_
        refine nb ?_
        refine nt ?_
        refine HW.seq ?_
        refine HW.region ?_
        refine HList.vals (v := (.int .i64 0)) rfl (HVal.assign' rfl) ?_
        refine HList.nil ?_
        refine nt ?_
        refine HW.ret ?_
        exact ⟨_, resOf1 rfl Res1.t, ⟨0, rfl, h⟩⟩

def F40_1 (Q : (Option Addr) → Hp → Prop) (y22 : (Option Addr)) (y25 : Bool) (H_1 : Hp) : Prop :=
(y25 = true → (Q none H_1)) ∧
 (y25 = false → (Q y22 H_1))
def F40 (p0 : (Option Addr)) (p1_0 : Int) (p1_1 : Int) (p2 : Sl) (H : Hp) (Q : (Option Addr) → Hp → Prop) : Prop :=
∀ H1 : Hp, H1 = Array.push H (.cells #[(.int .i64 p1_0), (.int .i64 p1_1)] 32) → (
 ∃ a3 : Addr, p0 = some a3 ∧ (
 ∃ x6 : (Option Nat), cell H1 (Addr.add a3 2) = some (.map x6) ∧ (
 ∃ (x8 : Int) (x9 : Int), cells H1 ⟨H.size, 0, none⟩ [(.int .i64 x8), (.int .i64 x9)] 0 ∧ (
 ∃ (L10 : ML (Int × Int) (Option Nat)) (c11 : Nat), MapK mk32 mv94 Always H1 x6 L10 c11 (x8, x9) ∧ (
 F45 p2 H1 (fun (r15 : Int) (H13 : Hp) => 
 MapK mk32 mv94 Always H13 x6 L10 c11 (x8, x9) ∧ cells H13 ⟨H.size, 0, none⟩ [(.int .i64 x8), (.int .i64 x9)] 0 ∧ cell H13 (Addr.add a3 2) = some (.map x6) ∧ (
 ∃ (L19 : ML Int (Option Addr)) (c20 : Nat), MapK mk3 mv76 Always H13 ((mget L10 (x8, x9)).getD none) L19 c20 r15 ∧ (
 ((((mget L19 r15).getD none).isNone) = true → (F40_1 Q ((mget L19 r15).getD none) true H13)) ∧
 ((((mget L19 r15).getD none).isNone) = false → (∃ a26 : Addr, ((mget L19 r15).getD none) = some a26 ∧ (
 ∃ x29 : Sl, cell H13 a26 = some (Sl.v x29) ∧ (
 F47 x29 p2 H13 (fun (r32 : Int) (H30 : Hp) => 
 F40_1 Q ((mget L19 r15).getD none) (decide (r32 ≠ 0)) H30)))))))))))))
set_option maxRecDepth 100000 in
set_option maxHeartbeats 4000000 in
theorem walk40 {w0 : World} {p0 : (Option Addr)} {p1_0 : Int} {p1_1 : Int} {p2 : Sl} {H : Hp} {Q : (Option Addr) → Hp → Prop} (h : F40 p0 p1_0 p1_1 p2 H Q) :
    Good Try.prog w0 40 #[(.pointer p0), (.agg #[(.int .i64 p1_0), (.int .i64 p1_1)]), (Sl.v p2)] H (fun v H => ∃ (r0 : (Option Addr)) , v = (.pointer r0) ∧ Q r0 H) := by
  unfold F40 at h
  refine Good.enter' (fn := Try.f40) Try.func40 rfl rfl rfl ?_
  refine HW.seq ?_
  refine HW.region ?_
  refine HList.ops' rfl (HOp.box (v := (.agg #[(.int .i64 p1_0), (.int .i64 p1_1)])) rfl) ?_
  rintro _ H1 ⟨rfl, e2⟩
  replace h := h H1 e2
  refine HList.vals (v := (.pointer none)) rfl (HVal.assign' rfl) ?_
  refine HList.nil ?_
  refine nt ?_
  refine HW.seq ?_
  refine HW.draw mixed [(0, some []), (1, some []), (2, some []), (3, some []), (4, some []), (5, some []), (6, some []), (7, none), (8, some []), (9, some [])] rfl (by kernel_rfl) (by kernel_rfl) ?_
  refine HPlan.takev (v := (.pointer p0)) rfl rfl (fun _ => HVal.move' rfl) ?_
  obtain ⟨a3, e4, h⟩ := h
  refine HPlan.takev (v := (.pointer (some a3))) rfl rfl (fun _ => HVal.nilCheck (congrArg Value.pointer e4)) ?_
  refine HPlan.takev (v := (.pointer (some (Addr.add a3 2)))) rfl rfl (fun _ => HVal.fieldAddr' Try.runUnderlying71 rfl rfl Try.sizeOf68 rfl) ?_
  obtain ⟨x6, c5, h⟩ := h
  refine HPlan.takel (v := (.map x6)) (fun X => cell X (Addr.add a3 2) = some (.map x6)) rfl rfl (fun _ hX => HVal.load1 Try.isAgg68 rfl hX) c5 ?_
  obtain ⟨x8, x9, c7, h⟩ := h
  refine HPlan.takel (v := (.agg #[(.int .i64 x8), (.int .i64 x9)])) (fun X => cells X ⟨H.size, 0, none⟩ [(.int .i64 x8), (.int .i64 x9)] 0) rfl rfl (fun _ hX => HVal.loadN [(.int .i64 x8), (.int .i64 x9)] Try.isAgg32 Try.sizeOf32 rfl hX) c7 ?_
  obtain ⟨L10, c11, c12, h⟩ := h
  refine HPlan.takel (v := (.map ((mget L10 (x8, x9)).getD none))) (fun X => MapK mk32 mv94 Always X x6 L10 c11 (x8, x9)) rfl rfl (fun _ hX => HVal.lookup (f := mk32) (g := mv94) (k := (x8, x9)) (z := none) Try.runUnderlying68 mkk32 Try.zeroValue94 rfl rfl hX) c12 ?_
  refine HPlan.takev (v := (Sl.v p2)) rfl rfl (fun _ => HVal.move' rfl) ?_
  refine HPlan.ops' rfl rfl (HOp.call' 45 [(Sl.v p2)] (cap := []) rfl rfl Try.call45 (walk45 h)) ?_
  rintro _ H13 ⟨r15, rfl, h⟩
  obtain ⟨s16, s17, s18, h⟩ := h
  refine ⟨SC_of ⟨fun _ => s16, fun _ => s17, fun _ => s18, trivial⟩, ?_⟩
  obtain ⟨L19, c20, c21, h⟩ := h
  refine HPlan.takel (v := (.pointer ((mget L19 r15).getD none))) (fun X => MapK mk3 mv76 Always X ((mget L10 (x8, x9)).getD none) L19 c20 r15) rfl rfl (fun _ hX => HVal.lookup (f := mk3) (g := mv76) (k := r15) (z := none) Try.runUnderlying94 mkk3 Try.zeroValue76 rfl rfl hX) c21 ?_
  refine HPlan.takev (v := (.pointer ((mget L19 r15).getD none))) rfl rfl (fun _ => HVal.assign' rfl) ?_
  refine HPlan.done ?_
  refine nt ?_
  refine HW.seq ?_
  refine HW.cut (fun ρ H_1 => ∃ (y25 : Bool), Env.Is ρ [(7, (.pointer ((mget L19 r15).getD none))), (27, (.bool y25))] ∧ F40_1 Q ((mget L19 r15).getD none) y25 H_1) ?_ ?_
  · refine HW.region ?_
    refine HList.vals (v := (.pointer ((mget L19 r15).getD none))) rfl (HVal.move' rfl) ?_
    refine HList.vals (v := (.bool (((mget L19 r15).getD none).isNone))) rfl (HVal.eqlPN Try.underlying76 rfl rfl) ?_
    refine HList.vals (v := (.bool (((mget L19 r15).getD none).isNone))) rfl (HVal.move' rfl) ?_
    obtain ⟨hT, hF⟩ := h
    rcases Bool.eq_false_or_eq_true (((mget L19 r15).getD none).isNone) with hb23 | hb24
    · have h := hT hb23
      clear hT hF
      refine HList.gskips rfl rfl rfl rfl (congrArg Value.bool hb23) ?_
      refine HList.gskips rfl rfl rfl rfl (congrArg Value.bool hb23) ?_
      refine HList.gskips rfl rfl rfl rfl (congrArg Value.bool hb23) ?_
      refine HList.gskips rfl rfl rfl rfl (congrArg Value.bool hb23) ?_
      refine HList.gskips rfl rfl rfl rfl (congrArg Value.bool hb23) ?_
      refine HList.gskips rfl rfl rfl rfl (congrArg Value.bool hb23) ?_
      refine HList.gskips rfl rfl rfl rfl (congrArg Value.bool hb23) ?_
      refine HList.vals (v := (.bool true)) rfl (HVal.pickT rfl hb23 rfl) ?_
      refine HList.nil ?_
      refine nt ?_
      exact ⟨true, ⟨rfl, rfl, trivial⟩, h⟩
    · have h := hF hb24
      clear hT hF
      refine HList.gvals (v := (.pointer ((mget L19 r15).getD none))) rfl rfl rfl rfl (congrArg Value.bool hb24) (HVal.move' rfl) ?_
      obtain ⟨a26, e27, h⟩ := h
      refine HList.gvals (v := (.pointer (some a26))) rfl rfl rfl rfl (congrArg Value.bool hb24) (HVal.nilCheck (congrArg Value.pointer e27)) ?_
      refine HList.gvals (v := (.pointer (some a26))) rfl rfl rfl rfl (congrArg Value.bool hb24) (HVal.fieldAddr0 Try.runUnderlying79 rfl rfl Try.sizeOf50 rfl) ?_
      obtain ⟨x29, c28, h⟩ := h
      refine HList.gvals (v := (Sl.v x29)) rfl rfl rfl rfl (congrArg Value.bool hb24) (HVal.load1 Try.isAgg50 rfl c28) ?_
      refine HList.gvals (v := (Sl.v p2)) rfl rfl rfl rfl (congrArg Value.bool hb24) (HVal.move' rfl) ?_
      refine HList.gops rfl rfl rfl rfl (congrArg Value.bool hb24) (HOp.call' 47 [(Sl.v x29), (Sl.v p2)] (cap := []) rfl rfl Try.call47 (walk47 h)) ?_
      rintro _ H30 ⟨r32, rfl, h⟩
      refine HList.gvals (v := (.bool (decide (r32 ≠ 0)))) rfl rfl rfl rfl (congrArg Value.bool hb24) (HVal.neqI rfl rfl) ?_
      refine HList.vals (v := (.bool (decide (r32 ≠ 0)))) rfl (HVal.pickF rfl hb24 rfl) ?_
      refine HList.nil ?_
      refine nt ?_
      exact ⟨(decide (r32 ≠ 0)), ⟨rfl, rfl, trivial⟩, h⟩
  · rintro ρ H_1 ⟨y25, hI, h⟩
    obtain ⟨ρ0, rfl⟩ : ∃ ρ0, ρ = (Env.set (Env.set ρ0 27 (.bool y25)) 7 (.pointer ((mget L19 r15).getD none))) := ⟨ρ, hI.eq⟩
    clear hI; unfold F40_1 at h
    obtain ⟨hT, hF⟩ := h
    refine HW.cond y25 rfl (fun hb33 => ?_) (fun hb33 => ?_)
    · have h := hT hb33
      clear hT hF
      refine HW.seq ?_
      refine HW.region ?_
      refine HList.vals (v := (.pointer none)) rfl (HVal.assign' rfl) ?_
      refine HList.nil ?_
      refine nt ?_
      refine HW.ret ?_
      refine tr ?_
      exact ⟨_, resOf1 rfl Res1.t, ⟨none, rfl, h⟩⟩
    · have h := hF hb33
      clear hT hF
      refine HW.skip ?_
      refine nt ?_
      refine HW.seq ?_
      refine HW.region ?_
      refine HList.vals (v := (.pointer ((mget L19 r15).getD none))) rfl (HVal.move' rfl) ?_
      refine HList.vals (v := (.pointer ((mget L19 r15).getD none))) rfl (HVal.assign' rfl) ?_
      refine HList.nil ?_
      refine nt ?_
      refine HW.ret ?_
      exact ⟨_, resOf1 rfl Res1.t, ⟨((mget L19 r15).getD none), rfl, h⟩⟩

def F14_3 (Q : Int → Int → Hp → Prop) (y51 : (Option Addr)) (y52 : Addr) (y53 : (Option Addr)) (y64 : Sl) (H_3 : Hp) : Prop :=
∃ a65 : Addr, y53 = some a65 ∧ (
 ∃ (x68 : Int) (x69 : Int), cells H_3 a65 [(.int .i64 x68), (.int .i64 x69)] 0 ∧ (
 ∃ a70 : Addr, y53 = some a70 ∧ (
 ∃ x73 : Sl, cell H_3 (Addr.add a70 2) = some (Sl.v x73) ∧ (
 F40 y51 x68 x69 x73 H_3 (fun (r76 : (Option Addr)) (H74 : Hp) => 
 ∃ a77 : Addr, r76 = some a77 ∧ (
 ∃ x80 : Int, cell H74 (Addr.add a77 4) = some (.int .i64 x80) ∧ (
 ∃ a81 : Addr, r76 = some a81 ∧ (
 (cell H74 (Addr.add a81 4)).isSome = true ∧ frz H74 (Addr.add a81 4) = false ∧ ∀ H83 : Hp, H83 = setc H74 (Addr.add a81 4) (.int .i64 (IntKind.i64.wrap (x80 + 1))) → (
 ∃ (x88 : Int) (x89 : Int), cells H83 y52 [(.int .i64 x88), (.int .i64 x89)] 0 ∧ (
 ∃ a90 : Addr, y53 = some a90 ∧ (
 ∃ (x93 : Int) (x94 : Int), cells H83 a90 [(.int .i64 x93), (.int .i64 x94)] 0 ∧ (
 ∃ a95 : Addr, y53 = some a95 ∧ (
 ∃ x98 : Sl, cell H83 (Addr.add a95 2) = some (Sl.v x98) ∧ (
 F36 y51 y64 H83 (fun (r101 : Sl) (H99 : Hp) => 
 cell H99 (Addr.add a95 2) = some (Sl.v x98) ∧ cells H99 a90 [(.int .i64 x93), (.int .i64 x94)] 0 ∧ cells H99 y52 [(.int .i64 x88), (.int .i64 x89)] 0 ∧ (
 ∀ H105 : Hp, H105 = Array.push H99 (.cells #[(Sl.v r101), (.int .i64 x93), (.int .i64 x94), (Sl.v x98), (.int .i64 0)] 79) → (
 cell H105 (Addr.add a95 2) = some (Sl.v x98) ∧ cells H105 a90 [(.int .i64 x93), (.int .i64 x94)] 0 ∧ cells H105 y52 [(.int .i64 x88), (.int .i64 x89)] 0 ∧ (
 F35 y51 x88 x89 (some ⟨H99.size, 0, none⟩) H105 (fun (r112 : Int) (H110 : Hp) => 
 cell H110 (Addr.add a95 2) = some (Sl.v x98) ∧ cells H110 a90 [(.int .i64 x93), (.int .i64 x94)] 0 ∧ (
 Q r112 0 H110))))))))))))))))))))
def F14_1 (Q : Int → Int → Hp → Prop) (y7 : (Option Addr)) (y8 : Addr) (y9 : (Option Addr)) (y29 : Bool) (H_1 : Hp) : Prop :=
(y29 = true → (Q 0 131 H_1)) ∧
 (y29 = false → (∃ a44 : Addr, y9 = some a44 ∧ (
 ∃ x47 : Sl, cell H_1 (Addr.add a44 2) = some (Sl.v x47) ∧ (
 F39 x47 H_1 (fun (r50 : Sl) (H48 : Hp) => 
 ∃ x55 : Int, cell H48 y8 = some (.int .i64 x55) ∧ (
 ∃ a56 : Addr, y9 = some a56 ∧ (
 ∃ x59 : Int, cell H48 a56 = some (.int .i64 x59) ∧ (
 ((decide (x59 < x55)) = true → (F37 r50 H48 (fun (r63 : Sl) (H61 : Hp) => 
 F14_3 Q y7 y8 y9 r63 H61))) ∧
 ((decide (x59 < x55)) = false → (F14_3 Q y7 y8 y9 r50 H48))))))))))
def F14_2 (Q : Int → Int → Hp → Prop) (y10 : (Option Addr)) (y11 : Addr) (y12 : (Option Addr)) (y27 : Bool) (H_2 : Hp) : Prop :=
(y27 = true → (F14_1 Q y10 y11 y12 y27 H_2)) ∧
 (y27 = false → (∃ x31 : Int, cell H_2 y11 = some (.int .i64 x31) ∧ (
 ∃ a32 : Addr, y10 = some a32 ∧ (
 ∃ x35 : Int, cell H_2 a32 = some (.int .i64 x35) ∧ (
 ((decide (x35 ≤ x31)) = true → (F14_1 Q y10 y11 y12 (decide (x35 ≤ x31)) H_2)) ∧
 ((decide (x35 ≤ x31)) = false → (∃ x38 : Int, cell H_2 (Addr.add y11 1) = some (.int .i64 x38) ∧ (
 ∃ a39 : Addr, y12 = some a39 ∧ (
 ∃ x42 : Int, cell H_2 (Addr.add a39 1) = some (.int .i64 x42) ∧ (
 F14_1 Q y10 y11 y12 (decide (x38 ≤ x42)) H_2))))))))))
def F14 (p0 : (Option Addr)) (p1 : Int) (p2_0 : Int) (p2_1 : Int) (H : Hp) (Q : Int → Int → Hp → Prop) : Prop :=
∀ H1 : Hp, H1 = Array.push H (.cells #[(.int .i64 p2_0), (.int .i64 p2_1)] 32) → (
 F38 p0 p1 H1 (fun (r5 : (Option Addr)) (H3 : Hp) => 
 ((r5.isNone) = true → (Q 0 130 H3)) ∧
 ((r5.isNone) = false → (∃ x14 : Int, cell H3 ⟨H.size, 0, none⟩ = some (.int .i64 x14) ∧ (
 ∃ a15 : Addr, r5 = some a15 ∧ (
 ∃ x18 : Int, cell H3 a15 = some (.int .i64 x18) ∧ (
 ((decide (x14 ≠ x18)) = true → (∃ x22 : Int, cell H3 ⟨H.size, 0, none⟩ = some (.int .i64 x22) ∧ (
 ∃ a23 : Addr, r5 = some a23 ∧ (
 ∃ x26 : Int, cell H3 a23 = some (.int .i64 x26) ∧ (
 F14_2 Q p0 ⟨H.size, 0, none⟩ r5 (decide (x22 ≠ (IntKind.i64.wrap (x26 + 1)))) H3))))) ∧
 ((decide (x14 ≠ x18)) = false → (F14_2 Q p0 ⟨H.size, 0, none⟩ r5 false H3)))))))))
set_option maxRecDepth 100000 in
set_option maxHeartbeats 4000000 in
theorem walk14 {w0 : World} {p0 : (Option Addr)} {p1 : Int} {p2_0 : Int} {p2_1 : Int} {H : Hp} {Q : Int → Int → Hp → Prop} (h : F14 p0 p1 p2_0 p2_1 H Q) :
    Good Try.prog w0 14 #[(.pointer p0), (.int .i64 p1), (.agg #[(.int .i64 p2_0), (.int .i64 p2_1)])] H (fun v H => ∃ (r0 : Int) (r1 : Int) , v = (.tuple #[(.int .i64 r0), (.int .i64 r1)]) ∧ Q r0 r1 H) := by
  unfold F14 at h
  refine Good.enter' (fn := Try.f14) Try.func14 rfl rfl rfl ?_
  refine HW.seq ?_
  refine HW.region ?_
  refine HList.ops' rfl (HOp.box (v := (.agg #[(.int .i64 p2_0), (.int .i64 p2_1)])) rfl) ?_
  rintro _ H1 ⟨rfl, e2⟩
  replace h := h H1 e2
  refine HList.vals (v := (.int .i64 0)) rfl (HVal.assign' rfl) ?_
  refine HList.vals (v := (.int .i64 0)) rfl (HVal.assign' rfl) ?_
  refine HList.nil ?_
  refine nt ?_
  refine HW.seq ?_
  refine HW.region ?_
  refine HList.vals (v := (.pointer p0)) rfl (HVal.move' rfl) ?_
  refine HList.vals (v := (.int .i64 p1)) rfl (HVal.move' rfl) ?_
  refine HList.ops' rfl (HOp.call' 38 [(.pointer p0), (.int .i64 p1)] (cap := []) rfl rfl Try.call38 (walk38 h)) ?_
  rintro _ H3 ⟨r5, rfl, h⟩
  refine HList.vals (v := (.pointer r5)) rfl (HVal.assign' rfl) ?_
  refine HList.nil ?_
  refine nt ?_
  refine HW.seq ?_
  refine HW.block ?_
  refine HW.seq ?_
  refine HW.region ?_
  refine HList.vals (v := (.pointer r5)) rfl (HVal.move' rfl) ?_
  refine HList.vals (v := (.bool (r5.isNone))) rfl (HVal.eqlPN Try.underlying80 rfl rfl) ?_
  refine HList.vals (v := (.bool (r5.isNone))) rfl (HVal.assign' rfl) ?_
  refine HList.nil ?_
  refine nt ?_
  obtain ⟨hT, hF⟩ := h
  refine HW.cond (r5.isNone) rfl (fun hb6 => ?_) (fun hb6 => ?_)
  · have h := hT hb6
    clear hT hF
    refine HW.seq ?_
    refine HW.region ?_
    refine HList.vals (v := (.int .i64 0)) rfl (HVal.assign' rfl) ?_
    refine HList.vals (v := (.int .i64 130)) rfl (HVal.assign' rfl) ?_
    refine HList.nil ?_
    refine nt ?_
    refine HW.ret ?_
    refine br ?_
    refine tr ?_
    exact ⟨_, resOf2 rfl Res1.t Res1.t, ⟨0, 130, rfl, h⟩⟩
  · have h := hF hb6
    clear hT hF
    refine HW.cut (fun ρ H_1 => ∃ (y29 : Bool), Env.Is ρ [(0, (.pointer p0)), (5, (.pointer (some ⟨H.size, 0, none⟩))), (8, (.pointer r5)), (16, (.bool y29))] ∧ F14_1 Q p0 ⟨H.size, 0, none⟩ r5 y29 H_1) ?_ ?_
    · refine HW.cut (fun ρ H_2 => ∃ (y27 : Bool), Env.Is ρ [(0, (.pointer p0)), (5, (.pointer (some ⟨H.size, 0, none⟩))), (8, (.pointer r5)), (16, (.bool y27))] ∧ F14_2 Q p0 ⟨H.size, 0, none⟩ r5 y27 H_2) ?_ ?_
      · refine HW.draw mixed [(0, some []), (1, some []), (2, some []), (3, some []), (4, some []), (5, some []), (6, some []), (7, some []), (8, some []), (9, some []), (10, some []), (11, some []), (12, some []), (13, some []), (14, some []), (15, some []), (16, some []), (17, some []), (18, some []), (19, some [])] rfl (by kernel_rfl) (by kernel_rfl) ?_
        refine HPlan.takev (v := (.pointer (some ⟨H.size, 0, none⟩))) rfl rfl (fun _ => HVal.fieldAddr0 Try.runUnderlying32 rfl rfl Try.sizeOf3 rfl) ?_
        obtain ⟨x14, c13, h⟩ := h
        refine HPlan.takel (v := (.int .i64 x14)) (fun X => cell X ⟨H.size, 0, none⟩ = some (.int .i64 x14)) rfl rfl (fun _ hX => HVal.load1 Try.isAgg3 rfl hX) c13 ?_
        refine HPlan.takev (v := (.pointer r5)) rfl rfl (fun _ => HVal.move' rfl) ?_
        obtain ⟨a15, e16, h⟩ := h
        refine HPlan.takev (v := (.pointer (some a15))) rfl rfl (fun _ => HVal.nilCheck (congrArg Value.pointer e16)) ?_
        refine HPlan.takev (v := (.pointer (some a15))) rfl rfl (fun _ => HVal.fieldAddr0 Try.runUnderlying83 rfl rfl Try.sizeOf32 rfl) ?_
        refine HPlan.takev (v := (.pointer (some a15))) rfl rfl (fun _ => HVal.fieldAddr0 Try.runUnderlying32 rfl rfl Try.sizeOf3 rfl) ?_
        obtain ⟨x18, c17, h⟩ := h
        refine HPlan.takel (v := (.int .i64 x18)) (fun X => cell X a15 = some (.int .i64 x18)) rfl rfl (fun _ hX => HVal.load1 Try.isAgg3 rfl hX) c17 ?_
        refine HPlan.takev (v := (.bool (decide (x14 ≠ x18)))) rfl rfl (fun _ => HVal.neqI rfl rfl) ?_
        refine HPlan.takev (v := (.bool (decide (x14 ≠ x18)))) rfl rfl (fun _ => HVal.move' rfl) ?_
        obtain ⟨hT, hF⟩ := h
        rcases Bool.eq_false_or_eq_true (decide (x14 ≠ x18)) with hb19 | hb20
        · have h := hT hb19
          clear hT hF
          refine HPlan.gtakev (v := (.pointer (some ⟨H.size, 0, none⟩))) rfl rfl rfl rfl rfl (congrArg Value.bool hb19) (fun _ => HVal.fieldAddr0 Try.runUnderlying32 rfl rfl Try.sizeOf3 rfl) ?_
          obtain ⟨x22, c21, h⟩ := h
          refine HPlan.gtakel (v := (.int .i64 x22)) (fun X => cell X ⟨H.size, 0, none⟩ = some (.int .i64 x22)) rfl rfl rfl rfl rfl (congrArg Value.bool hb19) (fun _ hX => HVal.load1 Try.isAgg3 rfl hX) c21 ?_
          refine HPlan.gtakev (v := (.pointer r5)) rfl rfl rfl rfl rfl (congrArg Value.bool hb19) (fun _ => HVal.move' rfl) ?_
          obtain ⟨a23, e24, h⟩ := h
          refine HPlan.gtakev (v := (.pointer (some a23))) rfl rfl rfl rfl rfl (congrArg Value.bool hb19) (fun _ => HVal.nilCheck (congrArg Value.pointer e24)) ?_
          refine HPlan.gtakev (v := (.pointer (some a23))) rfl rfl rfl rfl rfl (congrArg Value.bool hb19) (fun _ => HVal.fieldAddr0 Try.runUnderlying83 rfl rfl Try.sizeOf32 rfl) ?_
          refine HPlan.gtakev (v := (.pointer (some a23))) rfl rfl rfl rfl rfl (congrArg Value.bool hb19) (fun _ => HVal.fieldAddr0 Try.runUnderlying32 rfl rfl Try.sizeOf3 rfl) ?_
          obtain ⟨x26, c25, h⟩ := h
          refine HPlan.gtakel (v := (.int .i64 x26)) (fun X => cell X a23 = some (.int .i64 x26)) rfl rfl rfl rfl rfl (congrArg Value.bool hb19) (fun _ hX => HVal.load1 Try.isAgg3 rfl hX) c25 ?_
          refine HPlan.gtakev (v := (.int .i64 (IntKind.i64.wrap (x26 + 1)))) rfl rfl rfl rfl rfl (congrArg Value.bool hb19) (fun _ => HVal.add rfl rfl) ?_
          refine HPlan.gtakev (v := (.bool (decide (x22 ≠ (IntKind.i64.wrap (x26 + 1)))))) rfl rfl rfl rfl rfl (congrArg Value.bool hb19) (fun _ => HVal.neqI rfl rfl) ?_
          refine HPlan.takev (v := (.bool (decide (x22 ≠ (IntKind.i64.wrap (x26 + 1)))))) rfl rfl (fun _ => HVal.pickT rfl hb19 rfl) ?_
          refine HPlan.takev (v := (.bool (decide (x22 ≠ (IntKind.i64.wrap (x26 + 1)))))) rfl rfl (fun _ => HVal.assign' rfl) ?_
          refine HPlan.done ?_
          refine nt ?_
          exact ⟨(decide (x22 ≠ (IntKind.i64.wrap (x26 + 1)))), ⟨rfl, rfl, rfl, rfl, trivial⟩, h⟩
        · have h := hF hb20
          clear hT hF
          refine HPlan.takegskip rfl rfl rfl rfl (congrArg Value.bool hb20) ?_
          refine HPlan.takegskip rfl rfl rfl rfl (congrArg Value.bool hb20) ?_
          refine HPlan.takegskip rfl rfl rfl rfl (congrArg Value.bool hb20) ?_
          refine HPlan.takegskip rfl rfl rfl rfl (congrArg Value.bool hb20) ?_
          refine HPlan.takegskip rfl rfl rfl rfl (congrArg Value.bool hb20) ?_
          refine HPlan.takegskip rfl rfl rfl rfl (congrArg Value.bool hb20) ?_
          refine HPlan.takegskip rfl rfl rfl rfl (congrArg Value.bool hb20) ?_
          refine HPlan.takegskip rfl rfl rfl rfl (congrArg Value.bool hb20) ?_
          refine HPlan.takegskip rfl rfl rfl rfl (congrArg Value.bool hb20) ?_
          refine HPlan.takev (v := (.bool false)) rfl rfl (fun _ => HVal.pickF rfl hb20 rfl) ?_
          refine HPlan.takev (v := (.bool false)) rfl rfl (fun _ => HVal.assign' rfl) ?_
          refine HPlan.done ?_
          refine nt ?_
          exact ⟨false, ⟨rfl, rfl, rfl, rfl, trivial⟩, h⟩
      · rintro ρ H_2 ⟨y27, hI, h⟩
        obtain ⟨ρ0, rfl⟩ : ∃ ρ0, ρ = (Env.set (Env.set (Env.set (Env.set ρ0 16 (.bool y27)) 8 (.pointer r5)) 5 (.pointer (some ⟨H.size, 0, none⟩))) 0 (.pointer p0)) := ⟨ρ, hI.eq⟩
        clear hI; unfold F14_2 at h
        obtain ⟨hT, hF⟩ := h
        refine HW.cond y27 rfl (fun hb28 => ?_) (fun hb28 => ?_)
        · have h := hT hb28
          clear hT hF
          refine HW.skip ?_
          refine nt ?_
          exact ⟨y27, ⟨rfl, rfl, rfl, rfl, trivial⟩, h⟩
        · have h := hF hb28
          clear hT hF
          refine HW.seq ?_
          refine HW.draw mixed [(0, some []), (1, some []), (2, some []), (3, some []), (4, some []), (5, some []), (6, some []), (7, some [])] rfl (by kernel_rfl) (by kernel_rfl) ?_
          refine HPlan.takev (v := (.pointer (some ⟨H.size, 0, none⟩))) rfl rfl (fun _ => HVal.fieldAddr0 Try.runUnderlying32 rfl rfl Try.sizeOf3 rfl) ?_
          obtain ⟨x31, c30, h⟩ := h
          refine HPlan.takel (v := (.int .i64 x31)) (fun X => cell X ⟨H.size, 0, none⟩ = some (.int .i64 x31)) rfl rfl (fun _ hX => HVal.load1 Try.isAgg3 rfl hX) c30 ?_
          refine HPlan.takev (v := (.pointer p0)) rfl rfl (fun _ => HVal.move' rfl) ?_
          obtain ⟨a32, e33, h⟩ := h
          refine HPlan.takev (v := (.pointer (some a32))) rfl rfl (fun _ => HVal.nilCheck (congrArg Value.pointer e33)) ?_
          refine HPlan.takev (v := (.pointer (some a32))) rfl rfl (fun _ => HVal.fieldAddr0 Try.runUnderlying71 rfl rfl Try.sizeOf3 rfl) ?_
          obtain ⟨x35, c34, h⟩ := h
          refine HPlan.takel (v := (.int .i64 x35)) (fun X => cell X a32 = some (.int .i64 x35)) rfl rfl (fun _ hX => HVal.load1 Try.isAgg3 rfl hX) c34 ?_
          refine HPlan.takev (v := (.bool (decide (x35 ≤ x31)))) rfl rfl (fun _ => HVal.geq rfl rfl) ?_
          refine HPlan.takev (v := (.bool (decide (x35 ≤ x31)))) rfl rfl (fun _ => HVal.assign' rfl) ?_
          refine HPlan.done ?_
          refine nt ?_
          obtain ⟨hT, hF⟩ := h
          refine HW.cond (decide (x35 ≤ x31)) rfl (fun hb36 => ?_) (fun hb36 => ?_)
          · have h := hT hb36
            clear hT hF
            refine HW.skip ?_
            refine nt ?_
            exact ⟨(decide (x35 ≤ x31)), ⟨rfl, rfl, rfl, rfl, trivial⟩, h⟩
          · have h := hF hb36
            clear hT hF
            refine HW.draw mixed [(0, some []), (1, some []), (2, some []), (3, some []), (4, some []), (5, some []), (6, some []), (7, some []), (8, some [])] rfl (by kernel_rfl) (by kernel_rfl) ?_
            refine HPlan.takev (v := (.pointer (some (Addr.add ⟨H.size, 0, none⟩ 1)))) rfl rfl (fun _ => HVal.fieldAddr' Try.runUnderlying32 rfl rfl Try.sizeOf2 rfl) ?_
            obtain ⟨x38, c37, h⟩ := h
            refine HPlan.takel (v := (.int .i64 x38)) (fun X => cell X (Addr.add ⟨H.size, 0, none⟩ 1) = some (.int .i64 x38)) rfl rfl (fun _ hX => HVal.load1 Try.isAgg2 rfl hX) c37 ?_
            refine HPlan.takev (v := (.pointer r5)) rfl rfl (fun _ => HVal.move' rfl) ?_
            obtain ⟨a39, e40, h⟩ := h
            refine HPlan.takev (v := (.pointer (some a39))) rfl rfl (fun _ => HVal.nilCheck (congrArg Value.pointer e40)) ?_
            refine HPlan.takev (v := (.pointer (some a39))) rfl rfl (fun _ => HVal.fieldAddr0 Try.runUnderlying83 rfl rfl Try.sizeOf32 rfl) ?_
            refine HPlan.takev (v := (.pointer (some (Addr.add a39 1)))) rfl rfl (fun _ => HVal.fieldAddr' Try.runUnderlying32 rfl rfl Try.sizeOf2 rfl) ?_
            obtain ⟨x42, c41, h⟩ := h
            refine HPlan.takel (v := (.int .i64 x42)) (fun X => cell X (Addr.add a39 1) = some (.int .i64 x42)) rfl rfl (fun _ hX => HVal.load1 Try.isAgg2 rfl hX) c41 ?_
            refine HPlan.takev (v := (.bool (decide (x38 ≤ x42)))) rfl rfl (fun _ => HVal.leq rfl rfl) ?_
            refine HPlan.takev (v := (.bool (decide (x38 ≤ x42)))) rfl rfl (fun _ => HVal.assign' rfl) ?_
            refine HPlan.done ?_
            refine nt ?_
            exact ⟨(decide (x38 ≤ x42)), ⟨rfl, rfl, rfl, rfl, trivial⟩, h⟩
    · rintro ρ H_1 ⟨y29, hI, h⟩
      obtain ⟨ρ0, rfl⟩ : ∃ ρ0, ρ = (Env.set (Env.set (Env.set (Env.set ρ0 16 (.bool y29)) 8 (.pointer r5)) 5 (.pointer (some ⟨H.size, 0, none⟩))) 0 (.pointer p0)) := ⟨ρ, hI.eq⟩
      clear hI; unfold F14_1 at h
      obtain ⟨hT, hF⟩ := h
      refine HW.cond y29 rfl (fun hb43 => ?_) (fun hb43 => ?_)
      · have h := hT hb43
        clear hT hF
        refine HW.seq ?_
        refine HW.region ?_
        refine HList.vals (v := (.int .i64 0)) rfl (HVal.assign' rfl) ?_
        refine HList.vals (v := (.int .i64 131)) rfl (HVal.assign' rfl) ?_
        refine HList.nil ?_
        refine nt ?_
        refine HW.ret ?_
        refine br ?_
        refine tr ?_
        exact ⟨_, resOf2 rfl Res1.t Res1.t, ⟨0, 131, rfl, h⟩⟩
      · have h := hF hb43
        clear hT hF
        refine HW.skip ?_
        refine nb ?_
        refine nt ?_
        refine HW.seq ?_
        refine HW.region ?_
        refine HList.vals (v := (.pointer r5)) rfl (HVal.move' rfl) ?_
        obtain ⟨a44, e45, h⟩ := h
        refine HList.vals (v := (.pointer (some a44))) rfl (HVal.nilCheck (congrArg Value.pointer e45)) ?_
        refine HList.vals (v := (.pointer (some (Addr.add a44 2)))) rfl (HVal.fieldAddr' Try.runUnderlying83 rfl rfl Try.sizeOf50 rfl) ?_
        obtain ⟨x47, c46, h⟩ := h
        refine HList.vals (v := (Sl.v x47)) rfl (HVal.load1 Try.isAgg50 rfl c46) ?_
        refine HList.ops' rfl (HOp.call' 39 [(Sl.v x47)] (cap := []) rfl rfl Try.call39 (walk39 h)) ?_
        rintro _ H48 ⟨r50, rfl, h⟩
        refine HList.vals (v := (Sl.v r50)) rfl (HVal.assign' rfl) ?_
        refine HList.nil ?_
        refine nt ?_
        refine HW.cut (fun ρ H_3 => ∃ (y64 : Sl), Env.Is ρ [(0, (.pointer p0)), (5, (.pointer (some ⟨H.size, 0, none⟩))), (8, (.pointer r5)), (9, (Sl.v y64))] ∧ F14_3 Q p0 ⟨H.size, 0, none⟩ r5 y64 H_3) ?_ ?_
        · refine HW.seq ?_
          refine HW.draw mixed [(0, some []), (1, some []), (2, some []), (3, some []), (4, some []), (5, some []), (6, some []), (7, some [])] rfl (by kernel_rfl) (by kernel_rfl) ?_
          refine HPlan.takev (v := (.pointer (some ⟨H.size, 0, none⟩))) rfl rfl (fun _ => HVal.fieldAddr0 Try.runUnderlying32 rfl rfl Try.sizeOf3 rfl) ?_
          obtain ⟨x55, c54, h⟩ := h
          refine HPlan.takel (v := (.int .i64 x55)) (fun X => cell X ⟨H.size, 0, none⟩ = some (.int .i64 x55)) rfl rfl (fun _ hX => HVal.load1 Try.isAgg3 rfl hX) c54 ?_
          refine HPlan.takev (v := (.pointer r5)) rfl rfl (fun _ => HVal.move' rfl) ?_
          obtain ⟨a56, e57, h⟩ := h
          refine HPlan.takev (v := (.pointer (some a56))) rfl rfl (fun _ => HVal.nilCheck (congrArg Value.pointer e57)) ?_
          refine HPlan.takev (v := (.pointer (some a56))) rfl rfl (fun _ => HVal.fieldAddr0 Try.runUnderlying83 rfl rfl Try.sizeOf32 rfl) ?_
          refine HPlan.takev (v := (.pointer (some a56))) rfl rfl (fun _ => HVal.fieldAddr0 Try.runUnderlying32 rfl rfl Try.sizeOf3 rfl) ?_
          obtain ⟨x59, c58, h⟩ := h
          refine HPlan.takel (v := (.int .i64 x59)) (fun X => cell X a56 = some (.int .i64 x59)) rfl rfl (fun _ hX => HVal.load1 Try.isAgg3 rfl hX) c58 ?_
          refine HPlan.takev (v := (.bool (decide (x59 < x55)))) rfl rfl (fun _ => HVal.gtr rfl rfl) ?_
          refine HPlan.done ?_
          refine nt ?_
          obtain ⟨hT, hF⟩ := h
          refine HW.cond (decide (x59 < x55)) rfl (fun hb60 => ?_) (fun hb60 => ?_)
          · have h := hT hb60
            clear hT hF
            refine HW.region ?_
            refine HList.vals (v := (Sl.v r50)) rfl (HVal.move' rfl) ?_
            refine HList.ops' rfl (HOp.call' 37 [(Sl.v r50)] (cap := []) rfl rfl Try.call37 (walk37 h)) ?_
            rintro _ H61 ⟨r63, rfl, h⟩
            refine HList.vals (v := (Sl.v r63)) rfl (HVal.assign' rfl) ?_
            refine HList.nil ?_
            refine nt ?_
            exact ⟨r63, ⟨rfl, rfl, rfl, rfl, trivial⟩, h⟩
          · have h := hF hb60
            clear hT hF
            refine HW.skip ?_
            refine nt ?_
            exact ⟨r50, ⟨rfl, rfl, rfl, rfl, trivial⟩, h⟩
        · rintro ρ H_3 ⟨y64, hI, h⟩
          obtain ⟨ρ0, rfl⟩ : ∃ ρ0, ρ = (Env.set (Env.set (Env.set (Env.set ρ0 9 (Sl.v y64)) 8 (.pointer r5)) 5 (.pointer (some ⟨H.size, 0, none⟩))) 0 (.pointer p0)) := ⟨ρ, hI.eq⟩
          clear hI; unfold F14_3 at h
          refine HW.seq ?_
          refine HW.draw mixed [(0, some []), (1, some []), (2, some []), (3, some []), (4, some [9, 16]), (5, some []), (6, some []), (7, some []), (8, some [9, 16]), (9, none), (10, some []), (11, some []), (12, some [16]), (13, some []), (14, some []), (15, some []), (16, none)] rfl (by kernel_rfl) (by kernel_rfl) ?_
          refine HPlan.takev (v := (.pointer p0)) rfl rfl (fun _ => HVal.move' rfl) ?_
          refine HPlan.takev (v := (.pointer r5)) rfl rfl (fun _ => HVal.move' rfl) ?_
          obtain ⟨a65, e66, h⟩ := h
          refine HPlan.takev (v := (.pointer (some a65))) rfl rfl (fun _ => HVal.nilCheck (congrArg Value.pointer e66)) ?_
          refine HPlan.takev (v := (.pointer (some a65))) rfl rfl (fun _ => HVal.fieldAddr0 Try.runUnderlying83 rfl rfl Try.sizeOf32 rfl) ?_
          obtain ⟨x68, x69, c67, h⟩ := h
          refine HPlan.takel (v := (.agg #[(.int .i64 x68), (.int .i64 x69)])) (fun X => cells X a65 [(.int .i64 x68), (.int .i64 x69)] 0) rfl rfl (fun _ hX => HVal.loadN [(.int .i64 x68), (.int .i64 x69)] Try.isAgg32 Try.sizeOf32 rfl hX) c67 ?_
          refine HPlan.takev (v := (.pointer r5)) rfl rfl (fun _ => HVal.move' rfl) ?_
          obtain ⟨a70, e71, h⟩ := h
          refine HPlan.takev (v := (.pointer (some a70))) rfl rfl (fun _ => HVal.nilCheck (congrArg Value.pointer e71)) ?_
          refine HPlan.takev (v := (.pointer (some (Addr.add a70 2)))) rfl rfl (fun _ => HVal.fieldAddr' Try.runUnderlying83 rfl rfl Try.sizeOf50 rfl) ?_
          obtain ⟨x73, c72, h⟩ := h
          refine HPlan.takel (v := (Sl.v x73)) (fun X => cell X (Addr.add a70 2) = some (Sl.v x73)) rfl rfl (fun _ hX => HVal.load1 Try.isAgg50 rfl hX) c72 ?_
          refine HPlan.ops' rfl rfl (HOp.call' 40 [(.pointer p0), (.agg #[(.int .i64 x68), (.int .i64 x69)]), (Sl.v x73)] (cap := []) rfl rfl Try.call40 (walk40 h)) ?_
          rintro _ H74 ⟨r76, rfl, h⟩
          refine ⟨SC_of ⟨fun e => absurd e (by decide), fun e => absurd e (by decide), trivial⟩, ?_⟩
          obtain ⟨a77, e78, h⟩ := h
          refine HPlan.takev (v := (.pointer (some a77))) rfl rfl (fun _ => HVal.nilCheck (congrArg Value.pointer e78)) ?_
          refine HPlan.takev (v := (.pointer (some (Addr.add a77 4)))) rfl rfl (fun _ => HVal.fieldAddr' Try.runUnderlying79 rfl rfl Try.sizeOf3 rfl) ?_
          obtain ⟨x80, c79, h⟩ := h
          refine HPlan.takel (v := (.int .i64 x80)) (fun X => cell X (Addr.add a77 4) = some (.int .i64 x80)) rfl rfl (fun _ hX => HVal.load1 Try.isAgg3 rfl hX) c79 ?_
          refine HPlan.takev (v := (.int .i64 (IntKind.i64.wrap (x80 + 1)))) rfl rfl (fun _ => HVal.add rfl rfl) ?_
          obtain ⟨a81, e82, h⟩ := h
          refine HPlan.takev (v := (.pointer (some a81))) rfl rfl (fun _ => HVal.nilCheck (congrArg Value.pointer e82)) ?_
          refine HPlan.takev (v := (.pointer (some (Addr.add a81 4)))) rfl rfl (fun _ => HVal.fieldAddr' Try.runUnderlying79 rfl rfl Try.sizeOf3 rfl) ?_
          obtain ⟨z85, z86, h⟩ := h
          refine HPlan.opsn rfl (HOp.store1 Try.sizeOf3 rfl rfl rfl z85 z86) ?_
          rintro _ H83 e84
          replace h := h H83 e84
          refine ⟨SC_of ⟨fun e => absurd e (by decide), fun e => absurd e (by decide), fun e => absurd e (by decide), trivial⟩, ?_⟩
          refine HPlan.done ?_
          refine nt ?_
          refine HW.seq ?_
          refine HW.draw mixed [(0, some []), (1, some [15]), (2, some []), (3, some []), (5, some []), (6, some []), (7, some []), (8, some []), (9, some []), (10, some []), (11, some []), (12, some []), (4, none), (13, some []), (14, none), (15, none), (16, some []), (17, some [])] rfl (by kernel_rfl) (by kernel_rfl) ?_
          refine HPlan.takev (v := (.pointer p0)) rfl rfl (fun _ => HVal.move' rfl) ?_
          obtain ⟨x88, x89, c87, h⟩ := h
          refine HPlan.takel (v := (.agg #[(.int .i64 x88), (.int .i64 x89)])) (fun X => cells X ⟨H.size, 0, none⟩ [(.int .i64 x88), (.int .i64 x89)] 0) rfl rfl (fun _ hX => HVal.loadN [(.int .i64 x88), (.int .i64 x89)] Try.isAgg32 Try.sizeOf32 rfl hX) c87 ?_
          refine HPlan.takev (v := (.pointer p0)) rfl rfl (fun _ => HVal.move' rfl) ?_
          refine HPlan.takev (v := (Sl.v y64)) rfl rfl (fun _ => HVal.move' rfl) ?_
          refine HPlan.takev (v := (.pointer r5)) rfl rfl (fun _ => HVal.move' rfl) ?_
          obtain ⟨a90, e91, h⟩ := h
          refine HPlan.takev (v := (.pointer (some a90))) rfl rfl (fun _ => HVal.nilCheck (congrArg Value.pointer e91)) ?_
          refine HPlan.takev (v := (.pointer (some a90))) rfl rfl (fun _ => HVal.fieldAddr0 Try.runUnderlying83 rfl rfl Try.sizeOf32 rfl) ?_
          obtain ⟨x93, x94, c92, h⟩ := h
          refine HPlan.takel (v := (.agg #[(.int .i64 x93), (.int .i64 x94)])) (fun X => cells X a90 [(.int .i64 x93), (.int .i64 x94)] 0) rfl rfl (fun _ hX => HVal.loadN [(.int .i64 x93), (.int .i64 x94)] Try.isAgg32 Try.sizeOf32 rfl hX) c92 ?_
          refine HPlan.takev (v := (.pointer r5)) rfl rfl (fun _ => HVal.move' rfl) ?_
          obtain ⟨a95, e96, h⟩ := h
          refine HPlan.takev (v := (.pointer (some a95))) rfl rfl (fun _ => HVal.nilCheck (congrArg Value.pointer e96)) ?_
          refine HPlan.takev (v := (.pointer (some (Addr.add a95 2)))) rfl rfl (fun _ => HVal.fieldAddr' Try.runUnderlying83 rfl rfl Try.sizeOf50 rfl) ?_
          obtain ⟨x98, c97, h⟩ := h
          refine HPlan.takel (v := (Sl.v x98)) (fun X => cell X (Addr.add a95 2) = some (Sl.v x98)) rfl rfl (fun _ hX => HVal.load1 Try.isAgg50 rfl hX) c97 ?_
          refine HPlan.ops' rfl rfl (HOp.call' 36 [(.pointer p0), (Sl.v y64)] (cap := []) rfl rfl Try.call36 (walk36 h)) ?_
          rintro _ H99 ⟨r101, rfl, h⟩
          obtain ⟨s102, s103, s104, h⟩ := h
          refine ⟨SC_of ⟨fun _ => s102, fun _ => s103, fun _ => s104, trivial⟩, ?_⟩
          refine HPlan.takev (v := (.agg #[(Sl.v r101), (.int .i64 x93), (.int .i64 x94), (Sl.v x98), (.int .i64 0)])) rfl rfl (fun _ => HVal.build' (cs := [(Sl.v r101), (.int .i64 x93), (.int .i64 x94), (Sl.v x98), (.int .i64 0)]) Try.runUnderlying79 Try.zeroValue79 places79 rfl) ?_
          refine HPlan.ops' rfl rfl (HOp.box (v := (.agg #[(Sl.v r101), (.int .i64 x93), (.int .i64 x94), (Sl.v x98), (.int .i64 0)])) rfl) ?_
          rintro _ H105 ⟨rfl, e106⟩
          replace h := h H105 e106
          obtain ⟨s107, s108, s109, h⟩ := h
          refine ⟨SC_of ⟨fun _ => s107, fun _ => s108, fun _ => s109, trivial⟩, ?_⟩
          refine HPlan.ops' rfl rfl (HOp.call' 35 [(.pointer p0), (.agg #[(.int .i64 x88), (.int .i64 x89)]), (.pointer (some ⟨H99.size, 0, none⟩))] (cap := []) rfl rfl Try.call35 (walk35 h)) ?_
          rintro _ H110 ⟨r112, rfl, h⟩
          obtain ⟨s113, s114, h⟩ := h
          refine ⟨SC_of ⟨fun _ => s113, fun _ => s114, fun e => absurd e (by decide), trivial⟩, ?_⟩
          refine HPlan.takev (v := (.int .i64 r112)) rfl rfl (fun _ => HVal.assign' rfl) ?_
          refine HPlan.takev (v := (.int .i64 0)) rfl rfl (fun _ => HVal.assign' rfl) ?_
          refine HPlan.done ?_
          refine nt ?_
          refine HW.ret ?_
          exact ⟨_, resOf2 rfl Res1.t Res1.t, ⟨r112, 0, rfl, h⟩⟩

def F19 (p0 : (Option Addr)) (H : Hp) (Q : Int → Hp → Prop) : Prop :=
∃ a1 : Addr, p0 = some a1 ∧ (
 ∃ x4 : (Option Nat), cell H (Addr.add a1 2) = some (.map x4) ∧ (
 ∃ (L5 : ML (Int × Int) (Option Nat)) (c6 : Nat), mapAt mk32 mv94 H x4 L5 c6 ∧ (
 Q ((L5).length : Int) H)))
set_option maxRecDepth 100000 in
set_option maxHeartbeats 4000000 in
theorem walk19 {w0 : World} {p0 : (Option Addr)} {H : Hp} {Q : Int → Hp → Prop} (h : F19 p0 H Q) :
    Good Try.prog w0 19 #[(.pointer p0)] H (fun v H => ∃ (r0 : Int) , v = (.int .i64 r0) ∧ Q r0 H) := by
  unfold F19 at h
  refine Good.enter' (fn := Try.f19) Try.func19 rfl rfl rfl ?_
  refine HW.seq ?_
  refine HW.region ?_
  refine HList.vals (v := (.int .i64 0)) rfl (HVal.assign' rfl) ?_
  refine HList.nil ?_
  refine nt ?_
  refine HW.seq ?_
  refine HW.region ?_
  refine HList.vals (v := (.pointer p0)) rfl (HVal.move' rfl) ?_
  obtain ⟨a1, e2, h⟩ := h
  refine HList.vals (v := (.pointer (some a1))) rfl (HVal.nilCheck (congrArg Value.pointer e2)) ?_
  refine HList.vals (v := (.pointer (some (Addr.add a1 2)))) rfl (HVal.fieldAddr' Try.runUnderlying71 rfl rfl Try.sizeOf68 rfl) ?_
  obtain ⟨x4, c3, h⟩ := h
  refine HList.vals (v := (.map x4)) rfl (HVal.load1 Try.isAgg68 rfl c3) ?_
  obtain ⟨L5, c6, c7, h⟩ := h
  refine HList.vals (v := (.int .i64 ((L5).length : Int))) rfl (HVal.lenM (f := mk32) (g := mv94) Try.runUnderlying68 rfl c7) ?_
  refine HList.vals (v := (.int .i64 ((L5).length : Int))) rfl (HVal.assign' rfl) ?_
  refine HList.nil ?_
  refine nt ?_
  refine HW.ret ?_
  exact ⟨_, resOf1 rfl Res1.t, ⟨((L5).length : Int), rfl, h⟩⟩

def F42_L1b (Q : Hp → Prop) (X1 : Int → Int → Hp → Prop) (y3 : Sl) (y1 : Int) (y2 : Int) (H_1 : Hp) : Prop :=
((decide (y1 < y2)) = true → (∃ a5 : Addr, (y3).b = some a5 ∧ (0 : Int) ≤ y2 ∧ y2 < ((y3).n : Int) ∧ (
 ∃ (x10 : Int) (x11 : Int), cells H_1 (Addr.add a5 (y2.toNat * 2)) [(.int .i64 x10), (.int .i64 x11)] 0 ∧ (
 ∃ a12 : Addr, (y3).b = some a12 ∧ (0 : Int) ≤ y1 ∧ y1 < ((y3).n : Int) ∧ (
 ∃ (x17 : Int) (x18 : Int), cells H_1 (Addr.add a12 (y1.toNat * 2)) [(.int .i64 x17), (.int .i64 x18)] 0 ∧ (
 ∃ a19 : Addr, (y3).b = some a19 ∧ (0 : Int) ≤ y1 ∧ y1 < ((y3).n : Int) ∧ (
 mayw H_1 (Addr.add a19 (y1.toNat * 2)) 2 0 ∧ ∀ H23 : Hp, H23 = sets H_1 (Addr.add a19 (y1.toNat * 2)) [(.int .i64 x10), (.int .i64 x11)] 0 → (
 ∃ a26 : Addr, (y3).b = some a26 ∧ (0 : Int) ≤ y2 ∧ y2 < ((y3).n : Int) ∧ (
 mayw H23 (Addr.add a26 (y2.toNat * 2)) 2 0 ∧ ∀ H30 : Hp, H30 = sets H23 (Addr.add a26 (y2.toNat * 2)) [(.int .i64 x17), (.int .i64 x18)] 0 → (
 X1 (IntKind.i64.wrap (y1 + 1)) (IntKind.i64.wrap (y2 - 1)) H30)))))))))) ∧
 ((decide (y1 < y2)) = false → (Q H_1))
def F42_L1 (Q : Hp → Prop) (y3 : Sl) (y1 : Int) (y2 : Int) (H_1 : Hp) : Prop :=
  ∀ X1 : Int → Int → Hp → Prop, (∀ (y1 : Int) (y2 : Int) (H_1 : Hp), F42_L1b Q X1 y3 y1 y2 H_1 → X1 y1 y2 H_1) → X1 y1 y2 H_1
def F42 (p0 : Sl) (H : Hp) (Q : Hp → Prop) : Prop :=
F42_L1 Q p0 0 (IntKind.i64.wrap (((p0).n : Int) - 1)) H
set_option maxRecDepth 100000 in
set_option maxHeartbeats 4000000 in
theorem walk42 {w0 : World} {p0 : Sl} {H : Hp} {Q : Hp → Prop} (h : F42 p0 H Q) :
    Good Try.prog w0 42 #[(Sl.v p0)] H (fun v H => v = (.tuple #[]) ∧ Q H) := by
  unfold F42 at h
  refine Good.enter' (fn := Try.f42) Try.func42 rfl rfl rfl ?_
  refine HW.seq ?_
  refine HW.region ?_
  refine HList.vals (v := (Sl.v p0)) rfl (HVal.move' rfl) ?_
  refine HList.vals (v := (.int .i64 ((p0).n : Int))) rfl (HVal.len Try.runUnderlying41 rfl) ?_
  refine HList.vals (v := (.int .i64 (IntKind.i64.wrap (((p0).n : Int) - 1)))) rfl (HVal.sub rfl rfl) ?_
  refine HList.vals (v := (.int .i64 0)) rfl (HVal.assign' rfl) ?_
  refine HList.vals (v := (.int .i64 (IntKind.i64.wrap (((p0).n : Int) - 1)))) rfl (HVal.assign' rfl) ?_
  refine HList.nil ?_
  refine nt ?_
  refine HW.block ?_
  refine HW.loop' (fun L1 hL1 => ?_)
  obtain ⟨X1, hX1⟩ : ∃ X1 : Int → Int → Hp → Prop, ∀ (y1 : Int) (y2 : Int) (H_1 : Hp), X1 y1 y2 H_1 ↔ ∀ ρ, Env.Is ρ [(0, (Sl.v p0)), (2, (.int .i64 y1)), (3, (.int .i64 y2))] → L1 ρ H_1 := ⟨_, fun _ _ _ => Iff.rfl⟩
  refine (hX1 _ _ _).1 (h X1 ?_) _ ?_
  rotate_left
  · exact ⟨rfl, rfl, rfl, trivial⟩
  clear h
  intro y1 y2 H_1 h
  refine (hX1 _ _ _).2 fun ρ hI => ?_
  obtain ⟨ρ0, rfl⟩ : ∃ ρ0, ρ = (Env.set (Env.set (Env.set ρ0 3 (.int .i64 y2)) 2 (.int .i64 y1)) 0 (Sl.v p0)) := ⟨ρ, hI.eq⟩
  clear hI; unfold F42_L1b at h; refine hL1 _ _ ?_
  refine HW.seq ?_
  refine HW.seq ?_
  refine HW.region ?_
  refine HList.vals (v := (.int .i64 y1)) rfl (HVal.move' rfl) ?_
  refine HList.vals (v := (.int .i64 y2)) rfl (HVal.move' rfl) ?_
  refine HList.vals (v := (.bool (decide (y1 < y2)))) rfl (HVal.lss rfl rfl) ?_
  refine HList.nil ?_
  refine nt ?_
  obtain ⟨hT, hF⟩ := h
  refine HW.cond (decide (y1 < y2)) rfl (fun hb4 => ?_) (fun hb4 => ?_)
  · have h := hT hb4
    clear hT hF
    refine HW.skip ?_
    refine nt ?_
    refine HW.seq ?_
    refine HW.block ?_
    refine HW.draw mixed [(0, some []), (1, some []), (2, some []), (3, some []), (4, some []), (5, some []), (6, some []), (7, some [13, 15]), (8, some []), (9, some []), (10, some []), (11, some [13, 15]), (12, some []), (13, none), (14, some []), (15, none)] rfl (by kernel_rfl) (by kernel_rfl) ?_
    refine HPlan.takev (v := (Sl.v p0)) rfl rfl (fun _ => HVal.move' rfl) ?_
    refine HPlan.takev (v := (.int .i64 y1)) rfl rfl (fun _ => HVal.move' rfl) ?_
    refine HPlan.takev (v := (Sl.v p0)) rfl rfl (fun _ => HVal.move' rfl) ?_
    refine HPlan.takev (v := (.int .i64 y2)) rfl rfl (fun _ => HVal.move' rfl) ?_
    refine HPlan.takev (v := (Sl.v p0)) rfl rfl (fun _ => HVal.move' rfl) ?_
    refine HPlan.takev (v := (.int .i64 y2)) rfl rfl (fun _ => HVal.move' rfl) ?_
    obtain ⟨a5, e6, b7, b8, h⟩ := h
    refine HPlan.takev (v := (.pointer (some (Addr.add a5 (y2.toNat * 2))))) rfl rfl (fun _ => HVal.indexAddr Try.runUnderlying41 Try.sizeOf32 (Sl.v_some rfl e6) rfl b7 b8) ?_
    obtain ⟨x10, x11, c9, h⟩ := h
    refine HPlan.takel (v := (.agg #[(.int .i64 x10), (.int .i64 x11)])) (fun X => cells X (Addr.add a5 (y2.toNat * 2)) [(.int .i64 x10), (.int .i64 x11)] 0) rfl rfl (fun _ hX => HVal.loadN [(.int .i64 x10), (.int .i64 x11)] Try.isAgg32 Try.sizeOf32 rfl hX) c9 ?_
    refine HPlan.takev (v := (Sl.v p0)) rfl rfl (fun _ => HVal.move' rfl) ?_
    refine HPlan.takev (v := (.int .i64 y1)) rfl rfl (fun _ => HVal.move' rfl) ?_
    obtain ⟨a12, e13, b14, b15, h⟩ := h
    refine HPlan.takev (v := (.pointer (some (Addr.add a12 (y1.toNat * 2))))) rfl rfl (fun _ => HVal.indexAddr Try.runUnderlying41 Try.sizeOf32 (Sl.v_some rfl e13) rfl b14 b15) ?_
    obtain ⟨x17, x18, c16, h⟩ := h
    refine HPlan.takel (v := (.agg #[(.int .i64 x17), (.int .i64 x18)])) (fun X => cells X (Addr.add a12 (y1.toNat * 2)) [(.int .i64 x17), (.int .i64 x18)] 0) rfl rfl (fun _ hX => HVal.loadN [(.int .i64 x17), (.int .i64 x18)] Try.isAgg32 Try.sizeOf32 rfl hX) c16 ?_
    obtain ⟨a19, e20, b21, b22, h⟩ := h
    refine HPlan.takev (v := (.pointer (some (Addr.add a19 (y1.toNat * 2))))) rfl rfl (fun _ => HVal.indexAddr Try.runUnderlying41 Try.sizeOf32 (Sl.v_some rfl e20) rfl b21 b22) ?_
    obtain ⟨z25, h⟩ := h
    refine HPlan.opsn rfl (HOp.storeN' (l := [(.int .i64 x10), (.int .i64 x11)]) Try.sizeOf32 rfl rfl rfl z25) ?_
    rintro _ H23 e24
    replace h := h H23 e24
    refine ⟨SC_of ⟨fun e => absurd e (by decide), fun e => absurd e (by decide), trivial⟩, ?_⟩
    obtain ⟨a26, e27, b28, b29, h⟩ := h
    refine HPlan.takev (v := (.pointer (some (Addr.add a26 (y2.toNat * 2))))) rfl rfl (fun _ => HVal.indexAddr Try.runUnderlying41 Try.sizeOf32 (Sl.v_some rfl e27) rfl b28 b29) ?_
    obtain ⟨z32, h⟩ := h
    refine HPlan.opsn rfl (HOp.storeN' (l := [(.int .i64 x17), (.int .i64 x18)]) Try.sizeOf32 rfl rfl rfl z32) ?_
    rintro _ H30 e31
    replace h := h H30 e31
    refine ⟨SC_of ⟨fun e => absurd e (by decide), fun e => absurd e (by decide), trivial⟩, ?_⟩
    refine HPlan.done ?_
    refine nb ?_
    refine nt ?_
    refine HW.region ?_
    refine HList.vals (v := (.int .i64 y1)) rfl (HVal.move' rfl) ?_
    refine HList.vals (v := (.int .i64 (IntKind.i64.wrap (y1 + 1)))) rfl (HVal.add rfl rfl) ?_
    refine HList.vals (v := (.int .i64 y2)) rfl (HVal.move' rfl) ?_
    refine HList.vals (v := (.int .i64 (IntKind.i64.wrap (y2 - 1)))) rfl (HVal.sub rfl rfl) ?_
    refine HList.vals (v := (.int .i64 (IntKind.i64.wrap (y1 + 1)))) rfl (HVal.assign' rfl) ?_
    refine HList.vals (v := (.int .i64 (IntKind.i64.wrap (y2 - 1)))) rfl (HVal.assign' rfl) ?_
    refine HList.nil ?_
    refine nt ?_
    exact (hX1 _ _ _).1 h _ ⟨rfl, rfl, rfl, trivial⟩
  · have h := hF hb4
    clear hT hF
    refine HW.exit ?_
    refine te ?_
    refine te ?_
    refine be ?_
    exact ⟨_, resOf0 rfl , ⟨rfl, h⟩⟩

def F22_1 (Q : Sl → Int → Hp → Prop) (y62 : Sl) (H_1 : Hp) : Prop :=
F42 y62 H_1 (fun (H63 : Hp) => 
 Q y62 0 H63)
def F22_L2b (Q : Sl → Int → Hp → Prop) (X2 : Sl → Addr → Sl → Hp → Prop) (y25 : (Option Addr)) (y22 : Sl) (y23 : Addr) (y24 : Sl) (H_2 : Hp) : Prop :=
((!(y24).b.isNone) = true → (∃ (x28 : Int) (x29 : Int), cells H_2 y23 [(.int .i64 x28), (.int .i64 x29)] 0 ∧ (
 F40 y25 x28 x29 y24 H_2 (fun (r32 : (Option Addr)) (H30 : Hp) => 
 ∃ (x34 : Int) (x35 : Int), cells H30 y23 [(.int .i64 x34), (.int .i64 x35)] 0 ∧ (
 ∀ H36 : Hp, H36 = Array.push H30 (.cells #[(.int .i64 x34), (.int .i64 x35)] 32) → (
 AppendF H36 32 2 16 #[(.int .i64 0), (.int .i64 0)] y22 ((Sl.mk (some ⟨H30.size, 0, none⟩) 1 1)).b ((Sl.mk (some ⟨H30.size, 0, none⟩) 1 1)).n (fun (r40 : Sl) (H38 : Hp) => 
 ∃ a41 : Addr, r32 = some a41 ∧ (
 ∃ (x44 : Int) (x45 : Int), cells H38 (Addr.add a41 1) [(.int .i64 x44), (.int .i64 x45)] 0 ∧ (
 ∃ a46 : Addr, r32 = some a46 ∧ (
 ∃ x49 : Sl, cell H38 (Addr.add a46 3) = some (Sl.v x49) ∧ (
 mayw H38 y23 2 0 ∧ ∀ H50 : Hp, H50 = sets H38 y23 [(.int .i64 x44), (.int .i64 x45)] 0 → (
 cell H50 (Addr.add a46 3) = some (Sl.v x49) ∧ (
 ∃ (x55 : Int) (x56 : Int), cells H50 y23 [(.int .i64 x55), (.int .i64 x56)] 0 ∧ (
 ∀ H57 : Hp, H57 = Array.push H50 (.cells #[(.int .i64 0), (.int .i64 0)] 32) → (
 mayw H57 ⟨H50.size, 0, none⟩ 2 0 ∧ ∀ H59 : Hp, H59 = sets H57 ⟨H50.size, 0, none⟩ [(.int .i64 x55), (.int .i64 x56)] 0 → (
 X2 r40 ⟨H50.size, 0, none⟩ x49 H59)))))))))))))))) ∧
 ((!(y24).b.isNone) = false → (F22_1 Q y22 H_2))
def F22_L2 (Q : Sl → Int → Hp → Prop) (y25 : (Option Addr)) (y22 : Sl) (y23 : Addr) (y24 : Sl) (H_2 : Hp) : Prop :=
  ∀ X2 : Sl → Addr → Sl → Hp → Prop, (∀ (y22 : Sl) (y23 : Addr) (y24 : Sl) (H_2 : Hp), F22_L2b Q X2 y25 y22 y23 y24 H_2 → X2 y22 y23 y24 H_2) → X2 y22 y23 y24 H_2
def F22 (p0 : (Option Addr)) (p1 : Int) (H : Hp) (Q : Sl → Int → Hp → Prop) : Prop :=
F38 p0 p1 H (fun (r3 : (Option Addr)) (H1 : Hp) => 
 ((r3.isNone) = true → (Q Sl.nil 130 H1)) ∧
 ((r3.isNone) = false → (∃ a5 : Addr, r3 = some a5 ∧ (
 ∃ (x8 : Int) (x9 : Int), cells H1 a5 [(.int .i64 x8), (.int .i64 x9)] 0 ∧ (
 ∃ a10 : Addr, r3 = some a10 ∧ (
 ∃ x13 : Sl, cell H1 (Addr.add a10 2) = some (Sl.v x13) ∧ (
 ∀ H14 : Hp, H14 = Array.push H1 (.cells #[(.int .i64 0), (.int .i64 0)] 32) → (
 cell H14 (Addr.add a10 2) = some (Sl.v x13) ∧ cells H14 a5 [(.int .i64 x8), (.int .i64 x9)] 0 ∧ (
 mayw H14 ⟨H1.size, 0, none⟩ 2 0 ∧ ∀ H18 : Hp, H18 = sets H14 ⟨H1.size, 0, none⟩ [(.int .i64 x8), (.int .i64 x9)] 0 → (
 cell H18 (Addr.add a10 2) = some (Sl.v x13) ∧ (
 F22_L2 Q p0 Sl.nil ⟨H1.size, 0, none⟩ x13 H18)))))))))))
set_option maxRecDepth 100000 in
set_option maxHeartbeats 4000000 in
theorem walk22 {w0 : World} {p0 : (Option Addr)} {p1 : Int} {H : Hp} {Q : Sl → Int → Hp → Prop} (h : F22 p0 p1 H Q) :
    Good Try.prog w0 22 #[(.pointer p0), (.int .i64 p1)] H (fun v H => ∃ (r0 : Sl) (r1 : Int) , v = (.tuple #[(Sl.v r0), (.int .i64 r1)]) ∧ Q r0 r1 H) := by
  unfold F22 at h
  refine Good.enter' (fn := Try.f22) Try.func22 rfl rfl rfl ?_
  refine HW.seq ?_
  refine HW.region ?_
  refine HList.vals (v := (Sl.v Sl.nil)) rfl (HVal.assign' rfl) ?_
  refine HList.vals (v := (.int .i64 0)) rfl (HVal.assign' rfl) ?_
  refine HList.nil ?_
  refine nt ?_
  refine HW.seq ?_
  refine HW.region ?_
  refine HList.vals (v := (.pointer p0)) rfl (HVal.move' rfl) ?_
  refine HList.vals (v := (.int .i64 p1)) rfl (HVal.move' rfl) ?_
  refine HList.ops' rfl (HOp.call' 38 [(.pointer p0), (.int .i64 p1)] (cap := []) rfl rfl Try.call38 (walk38 h)) ?_
  rintro _ H1 ⟨r3, rfl, h⟩
  refine HList.vals (v := (.pointer r3)) rfl (HVal.assign' rfl) ?_
  refine HList.nil ?_
  refine nt ?_
  refine HW.seq ?_
  refine HW.seq ?_
  refine HW.region ?_
  refine HList.vals (v := (.pointer r3)) rfl (HVal.move' rfl) ?_
  refine HList.vals (v := (.bool (r3.isNone))) rfl (HVal.eqlPN Try.underlying80 rfl rfl) ?_
  refine HList.nil ?_
  refine nt ?_
  obtain ⟨hT, hF⟩ := h
  refine HW.cond (r3.isNone) rfl (fun hb4 => ?_) (fun hb4 => ?_)
  · have h := hT hb4
    clear hT hF
    refine HW.seq ?_
    refine HW.region ?_
    refine HList.vals (v := (Sl.v Sl.nil)) rfl (HVal.assign' rfl) ?_
    refine HList.vals (v := (.int .i64 130)) rfl (HVal.assign' rfl) ?_
    refine HList.nil ?_
    refine nt ?_
    refine HW.ret ?_
    refine tr ?_
    exact ⟨_, resOf2 rfl Res1.t Res1.t, ⟨Sl.nil, 130, rfl, h⟩⟩
  · have h := hF hb4
    clear hT hF
    refine HW.skip ?_
    refine nt ?_
    refine HW.seq ?_
    refine HW.region ?_
    refine HList.vals (v := (Sl.v Sl.nil)) rfl (HVal.assign' rfl) ?_
    refine HList.nil ?_
    refine nt ?_
    refine HW.cut (fun ρ H_1 => ∃ (y62 : Sl), Env.Is ρ [(7, (Sl.v y62))] ∧ F22_1 Q y62 H_1) ?_ ?_
    · refine HW.seq ?_
      refine HW.draw mixed [(0, some []), (1, some []), (2, some []), (3, some [9]), (4, some []), (5, some []), (6, some []), (7, some []), (8, none), (9, none), (10, some [])] rfl (by kernel_rfl) (by kernel_rfl) ?_
      refine HPlan.takev (v := (.pointer r3)) rfl rfl (fun _ => HVal.move' rfl) ?_
      obtain ⟨a5, e6, h⟩ := h
      refine HPlan.takev (v := (.pointer (some a5))) rfl rfl (fun _ => HVal.nilCheck (congrArg Value.pointer e6)) ?_
      refine HPlan.takev (v := (.pointer (some a5))) rfl rfl (fun _ => HVal.fieldAddr0 Try.runUnderlying83 rfl rfl Try.sizeOf32 rfl) ?_
      obtain ⟨x8, x9, c7, h⟩ := h
      refine HPlan.takel (v := (.agg #[(.int .i64 x8), (.int .i64 x9)])) (fun X => cells X a5 [(.int .i64 x8), (.int .i64 x9)] 0) rfl rfl (fun _ hX => HVal.loadN [(.int .i64 x8), (.int .i64 x9)] Try.isAgg32 Try.sizeOf32 rfl hX) c7 ?_
      refine HPlan.takev (v := (.pointer r3)) rfl rfl (fun _ => HVal.move' rfl) ?_
      obtain ⟨a10, e11, h⟩ := h
      refine HPlan.takev (v := (.pointer (some a10))) rfl rfl (fun _ => HVal.nilCheck (congrArg Value.pointer e11)) ?_
      refine HPlan.takev (v := (.pointer (some (Addr.add a10 2)))) rfl rfl (fun _ => HVal.fieldAddr' Try.runUnderlying83 rfl rfl Try.sizeOf50 rfl) ?_
      obtain ⟨x13, c12, h⟩ := h
      refine HPlan.takel (v := (Sl.v x13)) (fun X => cell X (Addr.add a10 2) = some (Sl.v x13)) rfl rfl (fun _ hX => HVal.load1 Try.isAgg50 rfl hX) c12 ?_
      refine HPlan.ops' rfl rfl (HOp.alloc Try.zeroValue32) ?_
      rintro _ H14 ⟨rfl, e15⟩
      replace h := h H14 e15
      obtain ⟨s16, s17, h⟩ := h
      refine ⟨SC_of ⟨fun _ => s16, fun _ => s17, trivial⟩, ?_⟩
      obtain ⟨z20, h⟩ := h
      refine HPlan.opsn rfl (HOp.storeN' (l := [(.int .i64 x8), (.int .i64 x9)]) Try.sizeOf32 rfl rfl rfl z20) ?_
      rintro _ H18 e19
      replace h := h H18 e19
      obtain ⟨s21, h⟩ := h
      refine ⟨SC_of ⟨fun _ => s21, fun e => absurd e (by decide), trivial⟩, ?_⟩
      refine HPlan.takev (v := (Sl.v x13)) rfl rfl (fun _ => HVal.assign' rfl) ?_
      refine HPlan.done ?_
      refine nt ?_
      refine HW.block ?_
      refine HW.loop' (fun L2 hL2 => ?_)
      obtain ⟨X2, hX2⟩ : ∃ X2 : Sl → Addr → Sl → Hp → Prop, ∀ (y22 : Sl) (y23 : Addr) (y24 : Sl) (H_2 : Hp), X2 y22 y23 y24 H_2 ↔ ∀ ρ, Env.Is ρ [(0, (.pointer p0)), (7, (Sl.v y22)), (8, (.pointer (some y23))), (9, (Sl.v y24))] → L2 ρ H_2 := ⟨_, fun _ _ _ _ => Iff.rfl⟩
      refine (hX2 _ _ _ _).1 (h X2 ?_) _ ?_
      rotate_left
      · exact ⟨rfl, rfl, rfl, rfl, trivial⟩
      clear h
      intro y22 y23 y24 H_2 h
      refine (hX2 _ _ _ _).2 fun ρ hI => ?_
      obtain ⟨ρ0, rfl⟩ : ∃ ρ0, ρ = (Env.set (Env.set (Env.set (Env.set ρ0 9 (Sl.v y24)) 8 (.pointer (some y23))) 7 (Sl.v y22)) 0 (.pointer p0)) := ⟨ρ, hI.eq⟩
      clear hI; unfold F22_L2b at h; refine hL2 _ _ ?_
      refine HW.seq ?_
      refine HW.seq ?_
      refine HW.region ?_
      refine HList.vals (v := (Sl.v y24)) rfl (HVal.move' rfl) ?_
      refine HList.vals (v := (.bool (!(y24).b.isNone))) rfl (HVal.neqSN Try.underlying50 rfl rfl) ?_
      refine HList.nil ?_
      refine nt ?_
      obtain ⟨hT, hF⟩ := h
      refine HW.cond (!(y24).b.isNone) rfl (fun hb26 => ?_) (fun hb26 => ?_)
      · have h := hT hb26
        clear hT hF
        refine HW.skip ?_
        refine nt ?_
        refine HW.seq ?_
        refine HW.block ?_
        refine HW.seq ?_
        refine HW.region ?_
        refine HList.vals (v := (.pointer p0)) rfl (HVal.move' rfl) ?_
        obtain ⟨x28, x29, c27, h⟩ := h
        refine HList.vals (v := (.agg #[(.int .i64 x28), (.int .i64 x29)])) rfl (HVal.loadN [(.int .i64 x28), (.int .i64 x29)] Try.isAgg32 Try.sizeOf32 rfl c27) ?_
        refine HList.vals (v := (Sl.v y24)) rfl (HVal.move' rfl) ?_
        refine HList.ops' rfl (HOp.call' 40 [(.pointer p0), (.agg #[(.int .i64 x28), (.int .i64 x29)]), (Sl.v y24)] (cap := []) rfl rfl Try.call40 (walk40 h)) ?_
        rintro _ H30 ⟨r32, rfl, h⟩
        refine HList.vals (v := (.pointer r32)) rfl (HVal.assign' rfl) ?_
        refine HList.nil ?_
        refine nt ?_
        refine HW.seq ?_
        refine HW.region ?_
        refine HList.vals (v := (Sl.v y22)) rfl (HVal.move' rfl) ?_
        obtain ⟨x34, x35, c33, h⟩ := h
        refine HList.vals (v := (.agg #[(.int .i64 x34), (.int .i64 x35)])) rfl (HVal.loadN [(.int .i64 x34), (.int .i64 x35)] Try.isAgg32 Try.sizeOf32 rfl c33) ?_
        refine HList.ops' rfl (HOp.buildSlice' (zs := [(.int .i64 0), (.int .i64 0)]) (cs := [(.int .i64 x34), (.int .i64 x35)]) Try.runUnderlying41 Try.sizeOf32 Try.zeroValue32 (by decide) (by kernel_rfl) rfl (by decide)) ?_
        rintro _ H36 ⟨rfl, e37⟩
        replace h := h H36 e37
        refine HList.ops' rfl (HOp.append (k := 2) (b := 16) Try.runUnderlying41 Try.runUnderlying41 Try.typeInfo32 rfl rfl Try.zeroValue32 rfl rfl h) ?_
        rintro _ H38 ⟨r40, rfl, h⟩
        refine HList.vals (v := (Sl.v r40)) rfl (HVal.assign' rfl) ?_
        refine HList.nil ?_
        refine nt ?_
        refine HW.draw mixed [(0, some []), (1, some []), (2, some []), (3, some [8]), (4, some []), (5, some []), (6, some []), (7, some []), (8, none), (9, some [])] rfl (by kernel_rfl) (by kernel_rfl) ?_
        refine HPlan.takev (v := (.pointer r32)) rfl rfl (fun _ => HVal.move' rfl) ?_
        obtain ⟨a41, e42, h⟩ := h
        refine HPlan.takev (v := (.pointer (some a41))) rfl rfl (fun _ => HVal.nilCheck (congrArg Value.pointer e42)) ?_
        refine HPlan.takev (v := (.pointer (some (Addr.add a41 1)))) rfl rfl (fun _ => HVal.fieldAddr' Try.runUnderlying79 rfl rfl Try.sizeOf32 rfl) ?_
        obtain ⟨x44, x45, c43, h⟩ := h
        refine HPlan.takel (v := (.agg #[(.int .i64 x44), (.int .i64 x45)])) (fun X => cells X (Addr.add a41 1) [(.int .i64 x44), (.int .i64 x45)] 0) rfl rfl (fun _ hX => HVal.loadN [(.int .i64 x44), (.int .i64 x45)] Try.isAgg32 Try.sizeOf32 rfl hX) c43 ?_
        refine HPlan.takev (v := (.pointer r32)) rfl rfl (fun _ => HVal.move' rfl) ?_
        obtain ⟨a46, e47, h⟩ := h
        refine HPlan.takev (v := (.pointer (some a46))) rfl rfl (fun _ => HVal.nilCheck (congrArg Value.pointer e47)) ?_
        refine HPlan.takev (v := (.pointer (some (Addr.add a46 3)))) rfl rfl (fun _ => HVal.fieldAddr' Try.runUnderlying79 rfl rfl Try.sizeOf50 rfl) ?_
        obtain ⟨x49, c48, h⟩ := h
        refine HPlan.takel (v := (Sl.v x49)) (fun X => cell X (Addr.add a46 3) = some (Sl.v x49)) rfl rfl (fun _ hX => HVal.load1 Try.isAgg50 rfl hX) c48 ?_
        obtain ⟨z52, h⟩ := h
        refine HPlan.opsn rfl (HOp.storeN' (l := [(.int .i64 x44), (.int .i64 x45)]) Try.sizeOf32 rfl rfl rfl z52) ?_
        rintro _ H50 e51
        replace h := h H50 e51
        obtain ⟨s53, h⟩ := h
        refine ⟨SC_of ⟨fun _ => s53, fun e => absurd e (by decide), trivial⟩, ?_⟩
        refine HPlan.takev (v := (Sl.v x49)) rfl rfl (fun _ => HVal.assign' rfl) ?_
        refine HPlan.done ?_
        refine nb ?_
        refine nt ?_
        refine HW.seq ?_
        refine HW.region ?_
        obtain ⟨x55, x56, c54, h⟩ := h
        refine HList.vals (v := (.agg #[(.int .i64 x55), (.int .i64 x56)])) rfl (HVal.loadN [(.int .i64 x55), (.int .i64 x56)] Try.isAgg32 Try.sizeOf32 rfl c54) ?_
        refine HList.nil ?_
        refine nt ?_
        refine HW.region ?_
        refine HList.ops' rfl (HOp.alloc Try.zeroValue32) ?_
        rintro _ H57 ⟨rfl, e58⟩
        replace h := h H57 e58
        obtain ⟨z61, h⟩ := h
        refine HList.opsn (HOp.storeN' (l := [(.int .i64 x55), (.int .i64 x56)]) Try.sizeOf32 rfl rfl rfl z61) ?_
        rintro _ H59 e60
        replace h := h H59 e60
        refine HList.nil ?_
        refine nt ?_
        exact (hX2 _ _ _ _).1 h _ ⟨rfl, rfl, rfl, rfl, trivial⟩
      · have h := hF hb26
        clear hT hF
        refine HW.exit ?_
        refine te ?_
        refine te ?_
        refine be ?_
        refine nt ?_
        exact ⟨y22, ⟨rfl, trivial⟩, h⟩
    · rintro ρ H_1 ⟨y62, hI, h⟩
      obtain ⟨ρ0, rfl⟩ : ∃ ρ0, ρ = (Env.set ρ0 7 (Sl.v y62)) := ⟨ρ, hI.eq⟩
      clear hI; unfold F22_1 at h
      refine HW.seq ?_
      refine HW.region ?_
      refine HList.vals (v := (Sl.v y62)) rfl (HVal.move' rfl) ?_
      refine HList.ops' rfl (HOp.call' 42 [(Sl.v y62)] (cap := []) rfl rfl Try.call42 (walk42 h)) ?_
      rintro _ H63 ⟨rfl, h⟩
      refine HList.nil ?_
      refine nt ?_
      refine HW.seq ?_
      refine HW.region ?_
      refine HList.vals (v := (Sl.v y62)) rfl (HVal.move' rfl) ?_
      refine HList.vals (v := (Sl.v y62)) rfl (HVal.assign' rfl) ?_
      refine HList.vals (v := (.int .i64 0)) rfl (HVal.assign' rfl) ?_
      refine HList.nil ?_
      refine nt ?_
      refine HW.ret ?_
      exact ⟨_, resOf2 rfl Res1.t Res1.t, ⟨y62, 0, rfl, h⟩⟩

def F8_1 (Q : Bool → Hp → Prop) (y5 : (Option Addr)) (y8 : Bool) (H_1 : Hp) : Prop :=
(y8 = true → (Q false H_1)) ∧
 (y8 = false → (F13 y5 0 5 H_1 (fun (r12 : Int) (r13 : Int) (H10 : Hp) => 
 F14 y5 r12 1 7 H10 (fun (r16 : Int) (r17 : Int) (H14 : Hp) => 
 F22 y5 r16 H14 (fun (r20 : Sl) (r21 : Int) (H18 : Hp) => 
 F19 y5 H18 (fun (r24 : Int) (H22 : Hp) => 
 ((decide (r13 = 0)) = true → (((decide (r17 = 0)) = true → (((decide (r21 = 0)) = true → (((decide (r12 = 0)) = true → (((decide (r16 = 1)) = true → (((decide (r24 = 2)) = true → (((decide (((r20).n : Int) = 2)) = true → (∃ a39 : Addr, (r20).b = some a39 ∧ (0 : Int) ≤ 0 ∧ (0 : Int) < ((r20).n : Int) ∧ (
 ∃ (x44 : Int) (x45 : Int), cells H22 (Addr.add a39 ((0 : Int).toNat * 2)) [(.int .i64 x44), (.int .i64 x45)] 0 ∧ (
 ((decide (x44 = 0) && decide (x45 = 5)) = true → (∃ a48 : Addr, (r20).b = some a48 ∧ (0 : Int) ≤ 1 ∧ (1 : Int) < ((r20).n : Int) ∧ (
 ∃ (x53 : Int) (x54 : Int), cells H22 (Addr.add a48 ((1 : Int).toNat * 2)) [(.int .i64 x53), (.int .i64 x54)] 0 ∧ (
 Q (decide (x53 = 1) && decide (x54 = 7)) H22)))) ∧
 ((decide (x44 = 0) && decide (x45 = 5)) = false → (Q false H22)))))) ∧
 ((decide (((r20).n : Int) = 2)) = false → (Q false H22)))) ∧
 ((decide (r24 = 2)) = false → (Q false H22)))) ∧
 ((decide (r16 = 1)) = false → (Q false H22)))) ∧
 ((decide (r12 = 0)) = false → (Q false H22)))) ∧
 ((decide (r21 = 0)) = false → (Q false H22)))) ∧
 ((decide (r17 = 0)) = false → (Q false H22)))) ∧
 ((decide (r13 = 0)) = false → (Q false H22))))))))
def F8 (H : Hp) (Q : Bool → Hp → Prop) : Prop :=
F9 3 H (fun (r3 : (Option Addr)) (r4 : Int) (H1 : Hp) => 
 ((r3.isNone) = true → (F8_1 Q r3 true H1)) ∧
 ((r3.isNone) = false → (F8_1 Q r3 (decide (r4 ≠ 0)) H1)))
set_option maxRecDepth 100000 in
set_option maxHeartbeats 4000000 in
theorem walk8 {w0 : World} {H : Hp} {Q : Bool → Hp → Prop} (h : F8 H Q) :
    Good Try.prog w0 8 #[] H (fun v H => ∃ (r0 : Bool) , v = (.bool r0) ∧ Q r0 H) := by
  unfold F8 at h
  refine Good.enter' (fn := Try.f8) Try.func8 rfl rfl rfl ?_
  refine HW.seq ?_
  refine HW.region ?_
  refine HList.vals (v := (.bool false)) rfl (HVal.assign' rfl) ?_
  refine HList.nil ?_
  refine nt ?_
  refine HW.seq ?_
  refine HW.region ?_
  refine HList.ops' rfl (HOp.call' 9 [(.int .i64 3)] (cap := []) rfl rfl Try.call9 (walk9 h)) ?_
  rintro _ H1 ⟨r3, r4, rfl, h⟩
  refine HList.vals (v := (.tuple #[(.pointer r3), (.int .i64 r4)])) rfl (HVal.move' rfl) ?_
  refine HList.vals (v := (.pointer r3)) rfl (HVal.extract rfl rfl) ?_
  refine HList.vals (v := (.int .i64 r4)) rfl (HVal.extract rfl rfl) ?_
  refine HList.vals (v := (.pointer r3)) rfl (HVal.assign' rfl) ?_
  refine HList.vals (v := (.int .i64 r4)) rfl (HVal.assign' rfl) ?_
  refine HList.nil ?_
  refine nt ?_
  refine HW.seq ?_
  refine HW.cut (fun ρ H_1 => ∃ (y8 : Bool), Env.Is ρ [(1, (.pointer r3)), (19, (.bool y8))] ∧ F8_1 Q r3 y8 H_1) ?_ ?_
  · refine HW.region ?_
    refine HList.vals (v := (.pointer r3)) rfl (HVal.move' rfl) ?_
    refine HList.vals (v := (.bool (r3.isNone))) rfl (HVal.eqlPN Try.underlying24 rfl rfl) ?_
    refine HList.vals (v := (.bool (r3.isNone))) rfl (HVal.move' rfl) ?_
    obtain ⟨hT, hF⟩ := h
    rcases Bool.eq_false_or_eq_true (r3.isNone) with hb6 | hb7
    · have h := hT hb6
      clear hT hF
      refine HList.gskips rfl rfl rfl rfl (congrArg Value.bool hb6) ?_
      refine HList.gskips rfl rfl rfl rfl (congrArg Value.bool hb6) ?_
      refine HList.vals (v := (.bool true)) rfl (HVal.pickT rfl hb6 rfl) ?_
      refine HList.nil ?_
      refine nt ?_
      exact ⟨true, ⟨rfl, rfl, trivial⟩, h⟩
    · have h := hF hb7
      clear hT hF
      refine HList.gvals (v := (.int .i64 r4)) rfl rfl rfl rfl (congrArg Value.bool hb7) (HVal.move' rfl) ?_
      refine HList.gvals (v := (.bool (decide (r4 ≠ 0)))) rfl rfl rfl rfl (congrArg Value.bool hb7) (HVal.neqI rfl rfl) ?_
      refine HList.vals (v := (.bool (decide (r4 ≠ 0)))) rfl (HVal.pickF rfl hb7 rfl) ?_
      refine HList.nil ?_
      refine nt ?_
      exact ⟨(decide (r4 ≠ 0)), ⟨rfl, rfl, trivial⟩, h⟩
  · rintro ρ H_1 ⟨y8, hI, h⟩
    obtain ⟨ρ0, rfl⟩ : ∃ ρ0, ρ = (Env.set (Env.set ρ0 19 (.bool y8)) 1 (.pointer r3)) := ⟨ρ, hI.eq⟩
    clear hI; unfold F8_1 at h
    obtain ⟨hT, hF⟩ := h
    refine HW.cond y8 rfl (fun hb9 => ?_) (fun hb9 => ?_)
    · have h := hT hb9
      clear hT hF
      refine HW.seq ?_
      refine HW.region ?_
      refine HList.vals (v := (.bool false)) rfl (HVal.assign' rfl) ?_
      refine HList.nil ?_
      refine nt ?_
      refine HW.ret ?_
      refine tr ?_
      exact ⟨_, resOf1 rfl Res1.t, ⟨false, rfl, h⟩⟩
    · have h := hF hb9
      clear hT hF
      refine HW.skip ?_
      refine nt ?_
      refine HW.seq ?_
      refine HW.region ?_
      refine HList.vals (v := (.pointer r3)) rfl (HVal.move' rfl) ?_
      refine HList.vals (v := (.agg #[(.int .i64 0), (.int .i64 5)])) rfl (HVal.build' (cs := [(.int .i64 0), (.int .i64 5)]) Try.runUnderlying32 Try.zeroValue32 places32 rfl) ?_
      refine HList.ops' rfl (HOp.call' 13 [(.pointer r3), (.agg #[(.int .i64 0), (.int .i64 5)])] (cap := []) rfl rfl Try.call13 (walk13 h)) ?_
      rintro _ H10 ⟨r12, r13, rfl, h⟩
      refine HList.vals (v := (.tuple #[(.int .i64 r12), (.int .i64 r13)])) rfl (HVal.move' rfl) ?_
      refine HList.vals (v := (.int .i64 r12)) rfl (HVal.extract rfl rfl) ?_
      refine HList.vals (v := (.int .i64 r13)) rfl (HVal.extract rfl rfl) ?_
      refine HList.vals (v := (.int .i64 r12)) rfl (HVal.assign' rfl) ?_
      refine HList.vals (v := (.int .i64 r13)) rfl (HVal.assign' rfl) ?_
      refine HList.nil ?_
      refine nt ?_
      refine HW.seq ?_
      refine HW.region ?_
      refine HList.vals (v := (.pointer r3)) rfl (HVal.move' rfl) ?_
      refine HList.vals (v := (.int .i64 r12)) rfl (HVal.move' rfl) ?_
      refine HList.vals (v := (.agg #[(.int .i64 1), (.int .i64 7)])) rfl (HVal.build' (cs := [(.int .i64 1), (.int .i64 7)]) Try.runUnderlying32 Try.zeroValue32 places32 rfl) ?_
      refine HList.ops' rfl (HOp.call' 14 [(.pointer r3), (.int .i64 r12), (.agg #[(.int .i64 1), (.int .i64 7)])] (cap := []) rfl rfl Try.call14 (walk14 h)) ?_
      rintro _ H14 ⟨r16, r17, rfl, h⟩
      refine HList.vals (v := (.tuple #[(.int .i64 r16), (.int .i64 r17)])) rfl (HVal.move' rfl) ?_
      refine HList.vals (v := (.int .i64 r16)) rfl (HVal.extract rfl rfl) ?_
      refine HList.vals (v := (.int .i64 r17)) rfl (HVal.extract rfl rfl) ?_
      refine HList.vals (v := (.int .i64 r16)) rfl (HVal.assign' rfl) ?_
      refine HList.vals (v := (.int .i64 r17)) rfl (HVal.assign' rfl) ?_
      refine HList.nil ?_
      refine nt ?_
      refine HW.seq ?_
      refine HW.region ?_
      refine HList.vals (v := (.pointer r3)) rfl (HVal.move' rfl) ?_
      refine HList.vals (v := (.int .i64 r16)) rfl (HVal.move' rfl) ?_
      refine HList.ops' rfl (HOp.call' 22 [(.pointer r3), (.int .i64 r16)] (cap := []) rfl rfl Try.call22 (walk22 h)) ?_
      rintro _ H18 ⟨r20, r21, rfl, h⟩
      refine HList.vals (v := (.tuple #[(Sl.v r20), (.int .i64 r21)])) rfl (HVal.move' rfl) ?_
      refine HList.vals (v := (Sl.v r20)) rfl (HVal.extract rfl rfl) ?_
      refine HList.vals (v := (.int .i64 r21)) rfl (HVal.extract rfl rfl) ?_
      refine HList.vals (v := (Sl.v r20)) rfl (HVal.assign' rfl) ?_
      refine HList.vals (v := (.int .i64 r21)) rfl (HVal.assign' rfl) ?_
      refine HList.nil ?_
      refine nt ?_
      refine HW.seq ?_
      refine HW.region ?_
      refine HList.vals (v := (.pointer r3)) rfl (HVal.move' rfl) ?_
      refine HList.ops' rfl (HOp.call' 19 [(.pointer r3)] (cap := []) rfl rfl Try.call19 (walk19 h)) ?_
      rintro _ H22 ⟨r24, rfl, h⟩
      refine HList.vals (v := (.int .i64 r24)) rfl (HVal.assign' rfl) ?_
      refine HList.nil ?_
      refine nt ?_
      refine HW.seq ?_
      refine HW.region ?_
      refine HList.vals (v := (.int .i64 r13)) rfl (HVal.move' rfl) ?_
      refine HList.vals (v := (.bool (decide (r13 = 0)))) rfl (HVal.eqlI rfl rfl) ?_
      refine HList.vals (v := (.bool (decide (r13 = 0)))) rfl (HVal.move' rfl) ?_
      obtain ⟨hT, hF⟩ := h
      rcases Bool.eq_false_or_eq_true (decide (r13 = 0)) with hb25 | hb26
      · have h := hT hb25
        clear hT hF
        refine HList.gvals (v := (.int .i64 r17)) rfl rfl rfl rfl (congrArg Value.bool hb25) (HVal.move' rfl) ?_
        refine HList.gvals (v := (.bool (decide (r17 = 0)))) rfl rfl rfl rfl (congrArg Value.bool hb25) (HVal.eqlI rfl rfl) ?_
        refine HList.vals (v := (.bool (decide (r17 = 0)))) rfl (HVal.pickT rfl hb25 rfl) ?_
        refine HList.vals (v := (.bool (decide (r17 = 0)))) rfl (HVal.move' rfl) ?_
        obtain ⟨hT, hF⟩ := h
        rcases Bool.eq_false_or_eq_true (decide (r17 = 0)) with hb27 | hb28
        · have h := hT hb27
          clear hT hF
          refine HList.gvals (v := (.int .i64 r21)) rfl rfl rfl rfl (congrArg Value.bool hb27) (HVal.move' rfl) ?_
          refine HList.gvals (v := (.bool (decide (r21 = 0)))) rfl rfl rfl rfl (congrArg Value.bool hb27) (HVal.eqlI rfl rfl) ?_
          refine HList.vals (v := (.bool (decide (r21 = 0)))) rfl (HVal.pickT rfl hb27 rfl) ?_
          refine HList.vals (v := (.bool (decide (r21 = 0)))) rfl (HVal.move' rfl) ?_
          obtain ⟨hT, hF⟩ := h
          rcases Bool.eq_false_or_eq_true (decide (r21 = 0)) with hb29 | hb30
          · have h := hT hb29
            clear hT hF
            refine HList.gvals (v := (.int .i64 r12)) rfl rfl rfl rfl (congrArg Value.bool hb29) (HVal.move' rfl) ?_
            refine HList.gvals (v := (.bool (decide (r12 = 0)))) rfl rfl rfl rfl (congrArg Value.bool hb29) (HVal.eqlI rfl rfl) ?_
            refine HList.vals (v := (.bool (decide (r12 = 0)))) rfl (HVal.pickT rfl hb29 rfl) ?_
            refine HList.vals (v := (.bool (decide (r12 = 0)))) rfl (HVal.move' rfl) ?_
            obtain ⟨hT, hF⟩ := h
            rcases Bool.eq_false_or_eq_true (decide (r12 = 0)) with hb31 | hb32
            · have h := hT hb31
              clear hT hF
              refine HList.gvals (v := (.int .i64 r16)) rfl rfl rfl rfl (congrArg Value.bool hb31) (HVal.move' rfl) ?_
              refine HList.gvals (v := (.bool (decide (r16 = 1)))) rfl rfl rfl rfl (congrArg Value.bool hb31) (HVal.eqlI rfl rfl) ?_
              refine HList.vals (v := (.bool (decide (r16 = 1)))) rfl (HVal.pickT rfl hb31 rfl) ?_
              refine HList.vals (v := (.bool (decide (r16 = 1)))) rfl (HVal.move' rfl) ?_
              obtain ⟨hT, hF⟩ := h
              rcases Bool.eq_false_or_eq_true (decide (r16 = 1)) with hb33 | hb34
              · have h := hT hb33
                clear hT hF
                refine HList.gvals (v := (.int .i64 r24)) rfl rfl rfl rfl (congrArg Value.bool hb33) (HVal.move' rfl) ?_
                refine HList.gvals (v := (.bool (decide (r24 = 2)))) rfl rfl rfl rfl (congrArg Value.bool hb33) (HVal.eqlI rfl rfl) ?_
                refine HList.vals (v := (.bool (decide (r24 = 2)))) rfl (HVal.pickT rfl hb33 rfl) ?_
                refine HList.vals (v := (.bool (decide (r24 = 2)))) rfl (HVal.move' rfl) ?_
                obtain ⟨hT, hF⟩ := h
                rcases Bool.eq_false_or_eq_true (decide (r24 = 2)) with hb35 | hb36
                · have h := hT hb35
                  clear hT hF
                  refine HList.gvals (v := (Sl.v r20)) rfl rfl rfl rfl (congrArg Value.bool hb35) (HVal.move' rfl) ?_
                  refine HList.gvals (v := (.int .i64 ((r20).n : Int))) rfl rfl rfl rfl (congrArg Value.bool hb35) (HVal.len Try.runUnderlying41 rfl) ?_
                  refine HList.gvals (v := (.bool (decide (((r20).n : Int) = 2)))) rfl rfl rfl rfl (congrArg Value.bool hb35) (HVal.eqlI rfl rfl) ?_
                  refine HList.vals (v := (.bool (decide (((r20).n : Int) = 2)))) rfl (HVal.pickT rfl hb35 rfl) ?_
                  refine HList.vals (v := (.bool (decide (((r20).n : Int) = 2)))) rfl (HVal.move' rfl) ?_
                  obtain ⟨hT, hF⟩ := h
                  rcases Bool.eq_false_or_eq_true (decide (((r20).n : Int) = 2)) with hb37 | hb38
                  · have h := hT hb37
                    clear hT hF
                    refine HList.gvals (v := (Sl.v r20)) rfl rfl rfl rfl (congrArg Value.bool hb37) (HVal.move' rfl) ?_
                    obtain ⟨a39, e40, b41, b42, h⟩ := h
                    refine HList.gvals (v := (.pointer (some (Addr.add a39 ((0 : Int).toNat * 2))))) rfl rfl rfl rfl (congrArg Value.bool hb37) (HVal.indexAddr Try.runUnderlying41 Try.sizeOf32 (Sl.v_some rfl e40) rfl b41 b42) ?_
                    obtain ⟨x44, x45, c43, h⟩ := h
                    refine HList.gvals (v := (.agg #[(.int .i64 x44), (.int .i64 x45)])) rfl rfl rfl rfl (congrArg Value.bool hb37) (HVal.loadN [(.int .i64 x44), (.int .i64 x45)] Try.isAgg32 Try.sizeOf32 rfl c43) ?_
                    refine HList.gvals (v := (.agg #[(.int .i64 0), (.int .i64 5)])) rfl rfl rfl rfl (congrArg Value.bool hb37) (HVal.build' (cs := [(.int .i64 0), (.int .i64 5)]) Try.runUnderlying32 Try.zeroValue32 places32 rfl) ?_
                    refine HList.gvals (v := (.bool (decide (x44 = 0) && decide (x45 = 5)))) rfl rfl rfl rfl (congrArg Value.bool hb37) (eqs32_eql rfl rfl) ?_
                    refine HList.vals (v := (.bool (decide (x44 = 0) && decide (x45 = 5)))) rfl (HVal.pickT rfl hb37 rfl) ?_
                    refine HList.vals (v := (.bool (decide (x44 = 0) && decide (x45 = 5)))) rfl (HVal.move' rfl) ?_
                    obtain ⟨hT, hF⟩ := h
                    rcases Bool.eq_false_or_eq_true (decide (x44 = 0) && decide (x45 = 5)) with hb46 | hb47
                    · have h := hT hb46
                      clear hT hF
                      refine HList.gvals (v := (Sl.v r20)) rfl rfl rfl rfl (congrArg Value.bool hb46) (HVal.move' rfl) ?_
                      obtain ⟨a48, e49, b50, b51, h⟩ := h
                      refine HList.gvals (v := (.pointer (some (Addr.add a48 ((1 : Int).toNat * 2))))) rfl rfl rfl rfl (congrArg Value.bool hb46) (HVal.indexAddr Try.runUnderlying41 Try.sizeOf32 (Sl.v_some rfl e49) rfl b50 b51) ?_
                      obtain ⟨x53, x54, c52, h⟩ := h
                      refine HList.gvals (v := (.agg #[(.int .i64 x53), (.int .i64 x54)])) rfl rfl rfl rfl (congrArg Value.bool hb46) (HVal.loadN [(.int .i64 x53), (.int .i64 x54)] Try.isAgg32 Try.sizeOf32 rfl c52) ?_
                      refine HList.gvals (v := (.agg #[(.int .i64 1), (.int .i64 7)])) rfl rfl rfl rfl (congrArg Value.bool hb46) (HVal.build' (cs := [(.int .i64 1), (.int .i64 7)]) Try.runUnderlying32 Try.zeroValue32 places32 rfl) ?_
                      refine HList.gvals (v := (.bool (decide (x53 = 1) && decide (x54 = 7)))) rfl rfl rfl rfl (congrArg Value.bool hb46) (eqs32_eql rfl rfl) ?_
                      refine HList.vals (v := (.bool (decide (x53 = 1) && decide (x54 = 7)))) rfl (HVal.pickT rfl hb46 rfl) ?_
                      refine HList.vals (v := (.bool (decide (x53 = 1) && decide (x54 = 7)))) rfl (HVal.assign' rfl) ?_
                      refine HList.nil ?_
                      refine nt ?_
                      refine HW.ret ?_
                      exact ⟨_, resOf1 rfl Res1.t, ⟨(decide (x53 = 1) && decide (x54 = 7)), rfl, h⟩⟩
                    · have h := hF hb47
                      clear hT hF
                      refine HList.gskips rfl rfl rfl rfl (congrArg Value.bool hb47) ?_
                      refine HList.gskips rfl rfl rfl rfl (congrArg Value.bool hb47) ?_
                      refine HList.gskips rfl rfl rfl rfl (congrArg Value.bool hb47) ?_
                      refine HList.gskips rfl rfl rfl rfl (congrArg Value.bool hb47) ?_
                      refine HList.gskips rfl rfl rfl rfl (congrArg Value.bool hb47) ?_
                      refine HList.vals (v := (.bool false)) rfl (HVal.pickF rfl hb47 rfl) ?_
                      refine HList.vals (v := (.bool false)) rfl (HVal.assign' rfl) ?_
                      refine HList.nil ?_
                      refine nt ?_
                      refine HW.ret ?_
                      exact ⟨_, resOf1 rfl Res1.t, ⟨false, rfl, h⟩⟩
                  · have h := hF hb38
                    clear hT hF
                    refine HList.gskips rfl rfl rfl rfl (congrArg Value.bool hb38) ?_
                    refine HList.gskips rfl rfl rfl rfl (congrArg Value.bool hb38) ?_
                    refine HList.gskips rfl rfl rfl rfl (congrArg Value.bool hb38) ?_
                    refine HList.gskips rfl rfl rfl rfl (congrArg Value.bool hb38) ?_
                    refine HList.gskips rfl rfl rfl rfl (congrArg Value.bool hb38) ?_
                    refine HList.vals (v := (.bool false)) rfl (HVal.pickF rfl hb38 rfl) ?_
                    refine HList.vals (v := (.bool false)) rfl (HVal.move' rfl) ?_
                    refine HList.gskips rfl rfl rfl rfl rfl ?_
                    refine HList.gskips rfl rfl rfl rfl rfl ?_
                    refine HList.gskips rfl rfl rfl rfl rfl ?_
                    refine HList.gskips rfl rfl rfl rfl rfl ?_
                    refine HList.gskips rfl rfl rfl rfl rfl ?_
                    refine HList.vals (v := (.bool false)) rfl (HVal.pickF rfl rfl rfl) ?_
                    refine HList.vals (v := (.bool false)) rfl (HVal.assign' rfl) ?_
                    refine HList.nil ?_
                    refine nt ?_
                    refine HW.ret ?_
                    exact ⟨_, resOf1 rfl Res1.t, ⟨false, rfl, h⟩⟩
                · have h := hF hb36
                  clear hT hF
                  refine HList.gskips rfl rfl rfl rfl (congrArg Value.bool hb36) ?_
                  refine HList.gskips rfl rfl rfl rfl (congrArg Value.bool hb36) ?_
                  refine HList.gskips rfl rfl rfl rfl (congrArg Value.bool hb36) ?_
                  refine HList.vals (v := (.bool false)) rfl (HVal.pickF rfl hb36 rfl) ?_
                  refine HList.vals (v := (.bool false)) rfl (HVal.move' rfl) ?_
                  refine HList.gskips rfl rfl rfl rfl rfl ?_
                  refine HList.gskips rfl rfl rfl rfl rfl ?_
                  refine HList.gskips rfl rfl rfl rfl rfl ?_
                  refine HList.gskips rfl rfl rfl rfl rfl ?_
                  refine HList.gskips rfl rfl rfl rfl rfl ?_
                  refine HList.vals (v := (.bool false)) rfl (HVal.pickF rfl rfl rfl) ?_
                  refine HList.vals (v := (.bool false)) rfl (HVal.move' rfl) ?_
                  refine HList.gskips rfl rfl rfl rfl rfl ?_
                  refine HList.gskips rfl rfl rfl rfl rfl ?_
                  refine HList.gskips rfl rfl rfl rfl rfl ?_
                  refine HList.gskips rfl rfl rfl rfl rfl ?_
                  refine HList.gskips rfl rfl rfl rfl rfl ?_
                  refine HList.vals (v := (.bool false)) rfl (HVal.pickF rfl rfl rfl) ?_
                  refine HList.vals (v := (.bool false)) rfl (HVal.assign' rfl) ?_
                  refine HList.nil ?_
                  refine nt ?_
                  refine HW.ret ?_
                  exact ⟨_, resOf1 rfl Res1.t, ⟨false, rfl, h⟩⟩
              · have h := hF hb34
                clear hT hF
                refine HList.gskips rfl rfl rfl rfl (congrArg Value.bool hb34) ?_
                refine HList.gskips rfl rfl rfl rfl (congrArg Value.bool hb34) ?_
                refine HList.vals (v := (.bool false)) rfl (HVal.pickF rfl hb34 rfl) ?_
                refine HList.vals (v := (.bool false)) rfl (HVal.move' rfl) ?_
                refine HList.gskips rfl rfl rfl rfl rfl ?_
                refine HList.gskips rfl rfl rfl rfl rfl ?_
                refine HList.gskips rfl rfl rfl rfl rfl ?_
                refine HList.vals (v := (.bool false)) rfl (HVal.pickF rfl rfl rfl) ?_
                refine HList.vals (v := (.bool false)) rfl (HVal.move' rfl) ?_
                refine HList.gskips rfl rfl rfl rfl rfl ?_
                refine HList.gskips rfl rfl rfl rfl rfl ?_
                refine HList.gskips rfl rfl rfl rfl rfl ?_
                refine HList.gskips rfl rfl rfl rfl rfl ?_
                refine HList.gskips rfl rfl rfl rfl rfl ?_
                refine HList.vals (v := (.bool false)) rfl (HVal.pickF rfl rfl rfl) ?_
                refine HList.vals (v := (.bool false)) rfl (HVal.move' rfl) ?_
                refine HList.gskips rfl rfl rfl rfl rfl ?_
                refine HList.gskips rfl rfl rfl rfl rfl ?_
                refine HList.gskips rfl rfl rfl rfl rfl ?_
                refine HList.gskips rfl rfl rfl rfl rfl ?_
                refine HList.gskips rfl rfl rfl rfl rfl ?_
                refine HList.vals (v := (.bool false)) rfl (HVal.pickF rfl rfl rfl) ?_
                refine HList.vals (v := (.bool false)) rfl (HVal.assign' rfl) ?_
                refine HList.nil ?_
                refine nt ?_
                refine HW.ret ?_
                exact ⟨_, resOf1 rfl Res1.t, ⟨false, rfl, h⟩⟩
            · have h := hF hb32
              clear hT hF
              refine HList.gskips rfl rfl rfl rfl (congrArg Value.bool hb32) ?_
              refine HList.gskips rfl rfl rfl rfl (congrArg Value.bool hb32) ?_
              refine HList.vals (v := (.bool false)) rfl (HVal.pickF rfl hb32 rfl) ?_
              refine HList.vals (v := (.bool false)) rfl (HVal.move' rfl) ?_
              refine HList.gskips rfl rfl rfl rfl rfl ?_
              refine HList.gskips rfl rfl rfl rfl rfl ?_
              refine HList.vals (v := (.bool false)) rfl (HVal.pickF rfl rfl rfl) ?_
              refine HList.vals (v := (.bool false)) rfl (HVal.move' rfl) ?_
              refine HList.gskips rfl rfl rfl rfl rfl ?_
              refine HList.gskips rfl rfl rfl rfl rfl ?_
              refine HList.gskips rfl rfl rfl rfl rfl ?_
              refine HList.vals (v := (.bool false)) rfl (HVal.pickF rfl rfl rfl) ?_
              refine HList.vals (v := (.bool false)) rfl (HVal.move' rfl) ?_
              refine HList.gskips rfl rfl rfl rfl rfl ?_
              refine HList.gskips rfl rfl rfl rfl rfl ?_
              refine HList.gskips rfl rfl rfl rfl rfl ?_
              refine HList.gskips rfl rfl rfl rfl rfl ?_
              refine HList.gskips rfl rfl rfl rfl rfl ?_
              refine HList.vals (v := (.bool false)) rfl (HVal.pickF rfl rfl rfl) ?_
              refine HList.vals (v := (.bool false)) rfl (HVal.move' rfl) ?_
              refine HList.gskips rfl rfl rfl rfl rfl ?_
              refine HList.gskips rfl rfl rfl rfl rfl ?_
              refine HList.gskips rfl rfl rfl rfl rfl ?_
              refine HList.gskips rfl rfl rfl rfl rfl ?_
              refine HList.gskips rfl rfl rfl rfl rfl ?_
              refine HList.vals (v := (.bool false)) rfl (HVal.pickF rfl rfl rfl) ?_
              refine HList.vals (v := (.bool false)) rfl (HVal.assign' rfl) ?_
              refine HList.nil ?_
              refine nt ?_
              refine HW.ret ?_
              exact ⟨_, resOf1 rfl Res1.t, ⟨false, rfl, h⟩⟩
          · have h := hF hb30
            clear hT hF
            refine HList.gskips rfl rfl rfl rfl (congrArg Value.bool hb30) ?_
            refine HList.gskips rfl rfl rfl rfl (congrArg Value.bool hb30) ?_
            refine HList.vals (v := (.bool false)) rfl (HVal.pickF rfl hb30 rfl) ?_
            refine HList.vals (v := (.bool false)) rfl (HVal.move' rfl) ?_
            refine HList.gskips rfl rfl rfl rfl rfl ?_
            refine HList.gskips rfl rfl rfl rfl rfl ?_
            refine HList.vals (v := (.bool false)) rfl (HVal.pickF rfl rfl rfl) ?_
            refine HList.vals (v := (.bool false)) rfl (HVal.move' rfl) ?_
            refine HList.gskips rfl rfl rfl rfl rfl ?_
            refine HList.gskips rfl rfl rfl rfl rfl ?_
            refine HList.vals (v := (.bool false)) rfl (HVal.pickF rfl rfl rfl) ?_
            refine HList.vals (v := (.bool false)) rfl (HVal.move' rfl) ?_
            refine HList.gskips rfl rfl rfl rfl rfl ?_
            refine HList.gskips rfl rfl rfl rfl rfl ?_
            refine HList.gskips rfl rfl rfl rfl rfl ?_
            refine HList.vals (v := (.bool false)) rfl (HVal.pickF rfl rfl rfl) ?_
            refine HList.vals (v := (.bool false)) rfl (HVal.move' rfl) ?_
            refine HList.gskips rfl rfl rfl rfl rfl ?_
            refine HList.gskips rfl rfl rfl rfl rfl ?_
            refine HList.gskips rfl rfl rfl rfl rfl ?_
            refine HList.gskips rfl rfl rfl rfl rfl ?_
            refine HList.gskips rfl rfl rfl rfl rfl ?_
            refine HList.vals (v := (.bool false)) rfl (HVal.pickF rfl rfl rfl) ?_
            refine HList.vals (v := (.bool false)) rfl (HVal.move' rfl) ?_
            refine HList.gskips rfl rfl rfl rfl rfl ?_
            refine HList.gskips rfl rfl rfl rfl rfl ?_
            refine HList.gskips rfl rfl rfl rfl rfl ?_
            refine HList.gskips rfl rfl rfl rfl rfl ?_
            refine HList.gskips rfl rfl rfl rfl rfl ?_
            refine HList.vals (v := (.bool false)) rfl (HVal.pickF rfl rfl rfl) ?_
            refine HList.vals (v := (.bool false)) rfl (HVal.assign' rfl) ?_
            refine HList.nil ?_
            refine nt ?_
            refine HW.ret ?_
            exact ⟨_, resOf1 rfl Res1.t, ⟨false, rfl, h⟩⟩
        · have h := hF hb28
          clear hT hF
          refine HList.gskips rfl rfl rfl rfl (congrArg Value.bool hb28) ?_
          refine HList.gskips rfl rfl rfl rfl (congrArg Value.bool hb28) ?_
          refine HList.vals (v := (.bool false)) rfl (HVal.pickF rfl hb28 rfl) ?_
          refine HList.vals (v := (.bool false)) rfl (HVal.move' rfl) ?_
          refine HList.gskips rfl rfl rfl rfl rfl ?_
          refine HList.gskips rfl rfl rfl rfl rfl ?_
          refine HList.vals (v := (.bool false)) rfl (HVal.pickF rfl rfl rfl) ?_
          refine HList.vals (v := (.bool false)) rfl (HVal.move' rfl) ?_
          refine HList.gskips rfl rfl rfl rfl rfl ?_
          refine HList.gskips rfl rfl rfl rfl rfl ?_
          refine HList.vals (v := (.bool false)) rfl (HVal.pickF rfl rfl rfl) ?_
          refine HList.vals (v := (.bool false)) rfl (HVal.move' rfl) ?_
          refine HList.gskips rfl rfl rfl rfl rfl ?_
          refine HList.gskips rfl rfl rfl rfl rfl ?_
          refine HList.vals (v := (.bool false)) rfl (HVal.pickF rfl rfl rfl) ?_
          refine HList.vals (v := (.bool false)) rfl (HVal.move' rfl) ?_
          refine HList.gskips rfl rfl rfl rfl rfl ?_
          refine HList.gskips rfl rfl rfl rfl rfl ?_
          refine HList.gskips rfl rfl rfl rfl rfl ?_
          refine HList.vals (v := (.bool false)) rfl (HVal.pickF rfl rfl rfl) ?_
          refine HList.vals (v := (.bool false)) rfl (HVal.move' rfl) ?_
          refine HList.gskips rfl rfl rfl rfl rfl ?_
          refine HList.gskips rfl rfl rfl rfl rfl ?_
          refine HList.gskips rfl rfl rfl rfl rfl ?_
          refine HList.gskips rfl rfl rfl rfl rfl ?_
          refine HList.gskips rfl rfl rfl rfl rfl ?_
          refine HList.vals (v := (.bool false)) rfl (HVal.pickF rfl rfl rfl) ?_
          refine HList.vals (v := (.bool false)) rfl (HVal.move' rfl) ?_
          refine HList.gskips rfl rfl rfl rfl rfl ?_
          refine HList.gskips rfl rfl rfl rfl rfl ?_
          refine HList.gskips rfl rfl rfl rfl rfl ?_
          refine HList.gskips rfl rfl rfl rfl rfl ?_
          refine HList.gskips rfl rfl rfl rfl rfl ?_
          refine HList.vals (v := (.bool false)) rfl (HVal.pickF rfl rfl rfl) ?_
          refine HList.vals (v := (.bool false)) rfl (HVal.assign' rfl) ?_
          refine HList.nil ?_
          refine nt ?_
          refine HW.ret ?_
          exact ⟨_, resOf1 rfl Res1.t, ⟨false, rfl, h⟩⟩
      · have h := hF hb26
        clear hT hF
        refine HList.gskips rfl rfl rfl rfl (congrArg Value.bool hb26) ?_
        refine HList.gskips rfl rfl rfl rfl (congrArg Value.bool hb26) ?_
        refine HList.vals (v := (.bool false)) rfl (HVal.pickF rfl hb26 rfl) ?_
        refine HList.vals (v := (.bool false)) rfl (HVal.move' rfl) ?_
        refine HList.gskips rfl rfl rfl rfl rfl ?_
        refine HList.gskips rfl rfl rfl rfl rfl ?_
        refine HList.vals (v := (.bool false)) rfl (HVal.pickF rfl rfl rfl) ?_
        refine HList.vals (v := (.bool false)) rfl (HVal.move' rfl) ?_
        refine HList.gskips rfl rfl rfl rfl rfl ?_
        refine HList.gskips rfl rfl rfl rfl rfl ?_
        refine HList.vals (v := (.bool false)) rfl (HVal.pickF rfl rfl rfl) ?_
        refine HList.vals (v := (.bool false)) rfl (HVal.move' rfl) ?_
        refine HList.gskips rfl rfl rfl rfl rfl ?_
        refine HList.gskips rfl rfl rfl rfl rfl ?_
        refine HList.vals (v := (.bool false)) rfl (HVal.pickF rfl rfl rfl) ?_
        refine HList.vals (v := (.bool false)) rfl (HVal.move' rfl) ?_
        refine HList.gskips rfl rfl rfl rfl rfl ?_
        refine HList.gskips rfl rfl rfl rfl rfl ?_
        refine HList.vals (v := (.bool false)) rfl (HVal.pickF rfl rfl rfl) ?_
        refine HList.vals (v := (.bool false)) rfl (HVal.move' rfl) ?_
        refine HList.gskips rfl rfl rfl rfl rfl ?_
        refine HList.gskips rfl rfl rfl rfl rfl ?_
        refine HList.gskips rfl rfl rfl rfl rfl ?_
        refine HList.vals (v := (.bool false)) rfl (HVal.pickF rfl rfl rfl) ?_
        refine HList.vals (v := (.bool false)) rfl (HVal.move' rfl) ?_
        refine HList.gskips rfl rfl rfl rfl rfl ?_
        refine HList.gskips rfl rfl rfl rfl rfl ?_
        refine HList.gskips rfl rfl rfl rfl rfl ?_
        refine HList.gskips rfl rfl rfl rfl rfl ?_
        refine HList.gskips rfl rfl rfl rfl rfl ?_
        refine HList.vals (v := (.bool false)) rfl (HVal.pickF rfl rfl rfl) ?_
        refine HList.vals (v := (.bool false)) rfl (HVal.move' rfl) ?_
        refine HList.gskips rfl rfl rfl rfl rfl ?_
        refine HList.gskips rfl rfl rfl rfl rfl ?_
        refine HList.gskips rfl rfl rfl rfl rfl ?_
        refine HList.gskips rfl rfl rfl rfl rfl ?_
        refine HList.gskips rfl rfl rfl rfl rfl ?_
        refine HList.vals (v := (.bool false)) rfl (HVal.pickF rfl rfl rfl) ?_
        refine HList.vals (v := (.bool false)) rfl (HVal.assign' rfl) ?_
        refine HList.nil ?_
        refine nt ?_
        refine HW.ret ?_
        exact ⟨_, resOf1 rfl Res1.t, ⟨false, rfl, h⟩⟩

def F10_1 (Q : (Option Addr) → Int → Hp → Prop) (y1 : Int) (y4 : Bool) (H_1 : Hp) : Prop :=
(y4 = true → (Q none 1 H_1)) ∧
 (y4 = false → (∀ H6 : Hp, H6 = Array.push H_1 (.cells #[(.int .i64 y1), (Sl.v Sl.nil)] 74) → (
 Q (some ⟨H_1.size, 0, none⟩) 0 H6)))
def F10 (p0 : Int) (H : Hp) (Q : (Option Addr) → Int → Hp → Prop) : Prop :=
((decide (p0 < 1)) = true → (F10_1 Q p0 true H)) ∧
 ((decide (p0 < 1)) = false → (F10_1 Q p0 (decide ((8 : Int) < p0)) H))
set_option maxRecDepth 100000 in
set_option maxHeartbeats 4000000 in
theorem walk10 {w0 : World} {p0 : Int} {H : Hp} {Q : (Option Addr) → Int → Hp → Prop} (h : F10 p0 H Q) :
    Good Try.prog w0 10 #[(.int .i64 p0)] H (fun v H => ∃ (r0 : (Option Addr)) (r1 : Int) , v = (.tuple #[(.pointer r0), (.int .i64 r1)]) ∧ Q r0 r1 H) := by
  unfold F10 at h
  refine Good.enter' (fn := Try.f10) Try.func10 rfl rfl rfl ?_
  refine HW.seq ?_
  refine HW.region ?_
  refine HList.vals (v := (.pointer none)) rfl (HVal.assign' rfl) ?_
  refine HList.vals (v := (.int .i64 0)) rfl (HVal.assign' rfl) ?_
  refine HList.nil ?_
  refine nt ?_
  refine HW.seq ?_
  refine HW.cut (fun ρ H_1 => ∃ (y4 : Bool), Env.Is ρ [(0, (.int .i64 p0)), (9, (.bool y4))] ∧ F10_1 Q p0 y4 H_1) ?_ ?_
  · refine HW.region ?_
    refine HList.vals (v := (.int .i64 p0)) rfl (HVal.move' rfl) ?_
    refine HList.vals (v := (.bool (decide (p0 < 1)))) rfl (HVal.lss rfl rfl) ?_
    refine HList.vals (v := (.bool (decide (p0 < 1)))) rfl (HVal.move' rfl) ?_
    obtain ⟨hT, hF⟩ := h
    rcases Bool.eq_false_or_eq_true (decide (p0 < 1)) with hb2 | hb3
    · have h := hT hb2
      clear hT hF
      refine HList.gskips rfl rfl rfl rfl (congrArg Value.bool hb2) ?_
      refine HList.gskips rfl rfl rfl rfl (congrArg Value.bool hb2) ?_
      refine HList.vals (v := (.bool true)) rfl (HVal.pickT rfl hb2 rfl) ?_
      refine HList.nil ?_
      refine nt ?_
      exact ⟨true, ⟨rfl, rfl, trivial⟩, h⟩
    · have h := hF hb3
      clear hT hF
      refine HList.gvals (v := (.int .i64 p0)) rfl rfl rfl rfl (congrArg Value.bool hb3) (HVal.move' rfl) ?_
      refine HList.gvals (v := (.bool (decide ((8 : Int) < p0)))) rfl rfl rfl rfl (congrArg Value.bool hb3) (HVal.gtr rfl rfl) ?_
      refine HList.vals (v := (.bool (decide ((8 : Int) < p0)))) rfl (HVal.pickF rfl hb3 rfl) ?_
      refine HList.nil ?_
      refine nt ?_
      exact ⟨(decide ((8 : Int) < p0)), ⟨rfl, rfl, trivial⟩, h⟩
  · rintro ρ H_1 ⟨y4, hI, h⟩
    obtain ⟨ρ0, rfl⟩ : ∃ ρ0, ρ = (Env.set (Env.set ρ0 9 (.bool y4)) 0 (.int .i64 p0)) := ⟨ρ, hI.eq⟩
    clear hI; unfold F10_1 at h
    obtain ⟨hT, hF⟩ := h
    refine HW.cond y4 rfl (fun hb5 => ?_) (fun hb5 => ?_)
    · have h := hT hb5
      clear hT hF
      refine HW.seq ?_
      refine HW.region ?_
      refine HList.vals (v := (.pointer none)) rfl (HVal.assign' rfl) ?_
      refine HList.vals (v := (.int .i64 1)) rfl (HVal.assign' rfl) ?_
      refine HList.nil ?_
      refine nt ?_
      refine HW.ret ?_
      refine tr ?_
      exact ⟨_, resOf2 rfl Res1.t Res1.t, ⟨none, 1, rfl, h⟩⟩
    · have h := hF hb5
      clear hT hF
      refine HW.skip ?_
      refine nt ?_
      refine HW.seq ?_
      refine HW.region ?_
      refine HList.vals (v := (.int .i64 p0)) rfl (HVal.move' rfl) ?_
      refine HList.vals (v := (.agg #[(.int .i64 p0), (Sl.v Sl.nil)])) rfl (HVal.build' (cs := [(.int .i64 p0), (Sl.v Sl.nil)]) Try.runUnderlying74 Try.zeroValue74 places74 rfl) ?_
      refine HList.ops' rfl (HOp.box (v := (.agg #[(.int .i64 p0), (Sl.v Sl.nil)])) rfl) ?_
      rintro _ H6 ⟨rfl, e7⟩
      replace h := h H6 e7
      refine HList.vals (v := (.pointer (some ⟨H_1.size, 0, none⟩))) rfl (HVal.assign' rfl) ?_
      refine HList.vals (v := (.int .i64 0)) rfl (HVal.assign' rfl) ?_
      refine HList.nil ?_
      refine nt ?_
      refine HW.ret ?_
      exact ⟨_, resOf2 rfl Res1.t Res1.t, ⟨(some ⟨H_1.size, 0, none⟩), 0, rfl, h⟩⟩

def F41_2 (Q : Hp → Prop) (X1 : Sl → Hp → Prop) (y48 : (Option Addr)) (y49 : Addr) (y50 : (Option Addr)) (H_2 : Hp) : Prop :=
∃ a69 : Addr, y50 = some a69 ∧ (
 ∃ (x72 : Int) (x73 : Int), cells H_2 (Addr.add a69 1) [(.int .i64 x72), (.int .i64 x73)] 0 ∧ (
 ∃ a74 : Addr, y50 = some a74 ∧ (
 ∃ x77 : Sl, cell H_2 (Addr.add a74 3) = some (Sl.v x77) ∧ (
 mayw H_2 y49 2 0 ∧ ∀ H78 : Hp, H78 = sets H_2 y49 [(.int .i64 x72), (.int .i64 x73)] 0 → (
 cell H78 (Addr.add a74 3) = some (Sl.v x77) ∧ (
 X1 x77 H78))))))
def F41_L1b (Q : Hp → Prop) (X1 : Sl → Hp → Prop) (y4 : (Option Addr)) (y5 : Addr) (y3 : Sl) (H_1 : Hp) : Prop :=
((!(y3).b.isNone) = true → (∃ (x8 : Int) (x9 : Int), cells H_1 y5 [(.int .i64 x8), (.int .i64 x9)] 0 ∧ (
 F40 y4 x8 x9 y3 H_1 (fun (r12 : (Option Addr)) (H10 : Hp) => 
 ∃ a13 : Addr, r12 = some a13 ∧ (
 ∃ x16 : Int, cell H10 (Addr.add a13 4) = some (.int .i64 x16) ∧ (
 ∃ a17 : Addr, r12 = some a17 ∧ (
 (cell H10 (Addr.add a17 4)).isSome = true ∧ frz H10 (Addr.add a17 4) = false ∧ ∀ H19 : Hp, H19 = setc H10 (Addr.add a17 4) (.int .i64 (IntKind.i64.wrap (x16 - 1))) → (
 ∃ a23 : Addr, r12 = some a23 ∧ (
 ∃ x26 : Int, cell H19 (Addr.add a23 4) = some (.int .i64 x26) ∧ (
 ((decide ((0 : Int) < x26)) = true → (Q H19)) ∧
 ((decide ((0 : Int) < x26)) = false → (∃ a28 : Addr, y4 = some a28 ∧ (
 ∃ x31 : (Option Nat), cell H19 (Addr.add a28 2) = some (.map x31) ∧ (
 ∃ (x33 : Int) (x34 : Int), cells H19 y5 [(.int .i64 x33), (.int .i64 x34)] 0 ∧ (
 ∃ (L35 : ML (Int × Int) (Option Nat)) (c36 : Nat), MapK mk32 mv94 Always H19 x31 L35 c36 (x33, x34) ∧ (
 F45 y3 H19 (fun (r40 : Int) (H38 : Hp) => 
 ∃ (r43 : Nat) (L44 : ML Int (Option Addr)) (c45 : Nat), ((mget L35 (x33, x34)).getD none) = some r43 ∧ MapK mk3 mv76 Always H38 (some r43) L44 c45 r40 ∧ ∀ H41 : Hp, H41 = seto H38 r43 (mapo mk3 mv76 (mdel L44 r40) c45) → (
 ∃ (L51 : ML Int (Option Addr)) (c52 : Nat), mapAt mk3 mv76 H41 ((mget L35 (x33, x34)).getD none) L51 c52 ∧ (
 ((decide (((L51).length : Int) = 0)) = true → (∃ a55 : Addr, y4 = some a55 ∧ (
 ∃ x58 : (Option Nat), cell H41 (Addr.add a55 2) = some (.map x58) ∧ (
 ∃ (x60 : Int) (x61 : Int), cells H41 y5 [(.int .i64 x60), (.int .i64 x61)] 0 ∧ (
 ∃ (r64 : Nat) (L65 : ML (Int × Int) (Option Nat)) (c66 : Nat), x58 = some r64 ∧ MapK mk32 mv94 Always H41 (some r64) L65 c66 (x60, x61) ∧ ∀ H62 : Hp, H62 = seto H41 r64 (mapo mk32 mv94 (mdel L65 (x60, x61)) c66) → (
 F41_2 Q X1 y4 y5 r12 H62)))))) ∧
 ((decide (((L51).length : Int) = 0)) = false → (F41_2 Q X1 y4 y5 r12 H41))))))))))))))))))))) ∧
 ((!(y3).b.isNone) = false → (Q H_1))
def F41_L1 (Q : Hp → Prop) (y4 : (Option Addr)) (y5 : Addr) (y3 : Sl) (H_1 : Hp) : Prop :=
  ∀ X1 : Sl → Hp → Prop, (∀ (y3 : Sl) (H_1 : Hp), F41_L1b Q X1 y4 y5 y3 H_1 → X1 y3 H_1) → X1 y3 H_1
def F41 (p0 : (Option Addr)) (p1_0 : Int) (p1_1 : Int) (p2 : Sl) (H : Hp) (Q : Hp → Prop) : Prop :=
∀ H1 : Hp, H1 = Array.push H (.cells #[(.int .i64 p1_0), (.int .i64 p1_1)] 32) → (
 F41_L1 Q p0 ⟨H.size, 0, none⟩ p2 H1)
set_option maxRecDepth 100000 in
set_option maxHeartbeats 4000000 in
theorem walk41 {w0 : World} {p0 : (Option Addr)} {p1_0 : Int} {p1_1 : Int} {p2 : Sl} {H : Hp} {Q : Hp → Prop} (h : F41 p0 p1_0 p1_1 p2 H Q) :
    Good Try.prog w0 41 #[(.pointer p0), (.agg #[(.int .i64 p1_0), (.int .i64 p1_1)]), (Sl.v p2)] H (fun v H => v = (.tuple #[]) ∧ Q H) := by
  unfold F41 at h
  refine Good.enter' (fn := Try.f41) Try.func41 rfl rfl rfl ?_
  refine HW.seq ?_
  refine HW.region ?_
  refine HList.ops' rfl (HOp.box (v := (.agg #[(.int .i64 p1_0), (.int .i64 p1_1)])) rfl) ?_
  rintro _ H1 ⟨rfl, e2⟩
  replace h := h H1 e2
  refine HList.nil ?_
  refine nt ?_
  refine HW.block ?_
  refine HW.loop' (fun L1 hL1 => ?_)
  obtain ⟨X1, hX1⟩ : ∃ X1 : Sl → Hp → Prop, ∀ (y3 : Sl) (H_1 : Hp), X1 y3 H_1 ↔ ∀ ρ, Env.Is ρ [(0, (.pointer p0)), (4, (.pointer (some ⟨H.size, 0, none⟩))), (2, (Sl.v y3))] → L1 ρ H_1 := ⟨_, fun _ _ => Iff.rfl⟩
  refine (hX1 _ _).1 (h X1 ?_) _ ?_
  rotate_left
  · exact ⟨rfl, rfl, rfl, trivial⟩
  clear h
  intro y3 H_1 h
  refine (hX1 _ _).2 fun ρ hI => ?_
  obtain ⟨ρ0, rfl⟩ : ∃ ρ0, ρ = (Env.set (Env.set (Env.set ρ0 2 (Sl.v y3)) 4 (.pointer (some ⟨H.size, 0, none⟩))) 0 (.pointer p0)) := ⟨ρ, hI.eq⟩
  clear hI; unfold F41_L1b at h; refine hL1 _ _ ?_
  refine HW.seq ?_
  refine HW.seq ?_
  refine HW.region ?_
  refine HList.vals (v := (Sl.v y3)) rfl (HVal.move' rfl) ?_
  refine HList.vals (v := (.bool (!(y3).b.isNone))) rfl (HVal.neqSN Try.underlying50 rfl rfl) ?_
  refine HList.nil ?_
  refine nt ?_
  obtain ⟨hT, hF⟩ := h
  refine HW.cond (!(y3).b.isNone) rfl (fun hb6 => ?_) (fun hb6 => ?_)
  · have h := hT hb6
    clear hT hF
    refine HW.skip ?_
    refine nt ?_
    refine HW.block ?_
    refine HW.seq ?_
    refine HW.region ?_
    refine HList.vals (v := (.pointer p0)) rfl (HVal.move' rfl) ?_
    obtain ⟨x8, x9, c7, h⟩ := h
    refine HList.vals (v := (.agg #[(.int .i64 x8), (.int .i64 x9)])) rfl (HVal.loadN [(.int .i64 x8), (.int .i64 x9)] Try.isAgg32 Try.sizeOf32 rfl c7) ?_
    refine HList.vals (v := (Sl.v y3)) rfl (HVal.move' rfl) ?_
    refine HList.ops' rfl (HOp.call' 40 [(.pointer p0), (.agg #[(.int .i64 x8), (.int .i64 x9)]), (Sl.v y3)] (cap := []) rfl rfl Try.call40 (walk40 h)) ?_
    rintro _ H10 ⟨r12, rfl, h⟩
    refine HList.vals (v := (.pointer r12)) rfl (HVal.assign' rfl) ?_
    refine HList.nil ?_
    refine nt ?_
    refine HW.seq ?_
    refine HW.region ?_
    refine HList.vals (v := (.pointer r12)) rfl (HVal.move' rfl) ?_
    obtain ⟨a13, e14, h⟩ := h
    refine HList.vals (v := (.pointer (some a13))) rfl (HVal.nilCheck (congrArg Value.pointer e14)) ?_
    refine HList.vals (v := (.pointer (some (Addr.add a13 4)))) rfl (HVal.fieldAddr' Try.runUnderlying79 rfl rfl Try.sizeOf3 rfl) ?_
    obtain ⟨x16, c15, h⟩ := h
    refine HList.vals (v := (.int .i64 x16)) rfl (HVal.load1 Try.isAgg3 rfl c15) ?_
    refine HList.vals (v := (.int .i64 (IntKind.i64.wrap (x16 - 1)))) rfl (HVal.sub rfl rfl) ?_
    obtain ⟨a17, e18, h⟩ := h
    refine HList.vals (v := (.pointer (some a17))) rfl (HVal.nilCheck (congrArg Value.pointer e18)) ?_
    refine HList.vals (v := (.pointer (some (Addr.add a17 4)))) rfl (HVal.fieldAddr' Try.runUnderlying79 rfl rfl Try.sizeOf3 rfl) ?_
    obtain ⟨z21, z22, h⟩ := h
    refine HList.opsn (HOp.store1 Try.sizeOf3 rfl rfl rfl z21 z22) ?_
    rintro _ H19 e20
    replace h := h H19 e20
    refine HList.nil ?_
    refine nt ?_
    refine HW.seq ?_
    refine HW.seq ?_
    refine HW.region ?_
    refine HList.vals (v := (.pointer r12)) rfl (HVal.move' rfl) ?_
    obtain ⟨a23, e24, h⟩ := h
    refine HList.vals (v := (.pointer (some a23))) rfl (HVal.nilCheck (congrArg Value.pointer e24)) ?_
    refine HList.vals (v := (.pointer (some (Addr.add a23 4)))) rfl (HVal.fieldAddr' Try.runUnderlying79 rfl rfl Try.sizeOf3 rfl) ?_
    obtain ⟨x26, c25, h⟩ := h
    refine HList.vals (v := (.int .i64 x26)) rfl (HVal.load1 Try.isAgg3 rfl c25) ?_
    refine HList.vals (v := (.bool (decide ((0 : Int) < x26)))) rfl (HVal.gtr rfl rfl) ?_
    refine HList.nil ?_
    refine nt ?_
    obtain ⟨hT, hF⟩ := h
    refine HW.cond (decide ((0 : Int) < x26)) rfl (fun hb27 => ?_) (fun hb27 => ?_)
    · have h := hT hb27
      clear hT hF
      refine HW.ret ?_
      refine tr ?_
      refine br ?_
      refine tr ?_
      refine br ?_
      exact ⟨_, resOf0 rfl , ⟨rfl, h⟩⟩
    · have h := hF hb27
      clear hT hF
      refine HW.skip ?_
      refine nt ?_
      refine HW.seq ?_
      refine HW.draw mixed [(0, some []), (1, some []), (2, some []), (3, some []), (4, some []), (5, some []), (6, some [])] rfl (by kernel_rfl) (by kernel_rfl) ?_
      refine HPlan.takev (v := (.pointer p0)) rfl rfl (fun _ => HVal.move' rfl) ?_
      obtain ⟨a28, e29, h⟩ := h
      refine HPlan.takev (v := (.pointer (some a28))) rfl rfl (fun _ => HVal.nilCheck (congrArg Value.pointer e29)) ?_
      refine HPlan.takev (v := (.pointer (some (Addr.add a28 2)))) rfl rfl (fun _ => HVal.fieldAddr' Try.runUnderlying71 rfl rfl Try.sizeOf68 rfl) ?_
      obtain ⟨x31, c30, h⟩ := h
      refine HPlan.takel (v := (.map x31)) (fun X => cell X (Addr.add a28 2) = some (.map x31)) rfl rfl (fun _ hX => HVal.load1 Try.isAgg68 rfl hX) c30 ?_
      obtain ⟨x33, x34, c32, h⟩ := h
      refine HPlan.takel (v := (.agg #[(.int .i64 x33), (.int .i64 x34)])) (fun X => cells X ⟨H.size, 0, none⟩ [(.int .i64 x33), (.int .i64 x34)] 0) rfl rfl (fun _ hX => HVal.loadN [(.int .i64 x33), (.int .i64 x34)] Try.isAgg32 Try.sizeOf32 rfl hX) c32 ?_
      obtain ⟨L35, c36, c37, h⟩ := h
      refine HPlan.takel (v := (.map ((mget L35 (x33, x34)).getD none))) (fun X => MapK mk32 mv94 Always X x31 L35 c36 (x33, x34)) rfl rfl (fun _ hX => HVal.lookup (f := mk32) (g := mv94) (k := (x33, x34)) (z := none) Try.runUnderlying68 mkk32 Try.zeroValue94 rfl rfl hX) c37 ?_
      refine HPlan.takev (v := (.map ((mget L35 (x33, x34)).getD none))) rfl rfl (fun _ => HVal.assign' rfl) ?_
      refine HPlan.done ?_
      refine nt ?_
      refine HW.seq ?_
      refine HW.region ?_
      refine HList.vals (v := (.map ((mget L35 (x33, x34)).getD none))) rfl (HVal.move' rfl) ?_
      refine HList.vals (v := (Sl.v y3)) rfl (HVal.move' rfl) ?_
      refine HList.ops' rfl (HOp.call' 45 [(Sl.v y3)] (cap := []) rfl rfl Try.call45 (walk45 h)) ?_
      rintro _ H38 ⟨r40, rfl, h⟩
      obtain ⟨r43, L44, c45, e47, c46, h⟩ := h
      refine HList.opsn (HOp.deleteM (f := mk3) (g := mv76) (k := r40) Try.runUnderlying94 mkk3 (congrArg Value.map e47) rfl c46) ?_
      rintro _ H41 ⟨rfl, e42⟩
      replace h := h H41 e42
      refine HList.nil ?_
      refine nt ?_
      refine HW.cut (fun ρ H_2 => Env.Is ρ [(0, (.pointer p0)), (4, (.pointer (some ⟨H.size, 0, none⟩))), (6, (.pointer r12))] ∧ F41_2 Q X1 p0 ⟨H.size, 0, none⟩ r12 H_2) ?_ ?_
      · refine HW.seq ?_
        refine HW.region ?_
        refine HList.vals (v := (.map ((mget L35 (x33, x34)).getD none))) rfl (HVal.move' rfl) ?_
        obtain ⟨L51, c52, c53, h⟩ := h
        refine HList.vals (v := (.int .i64 ((L51).length : Int))) rfl (HVal.lenM (f := mk3) (g := mv76) Try.runUnderlying94 rfl c53) ?_
        refine HList.vals (v := (.bool (decide (((L51).length : Int) = 0)))) rfl (HVal.eqlI rfl rfl) ?_
        refine HList.nil ?_
        refine nt ?_
        obtain ⟨hT, hF⟩ := h
        refine HW.cond (decide (((L51).length : Int) = 0)) rfl (fun hb54 => ?_) (fun hb54 => ?_)
        · have h := hT hb54
          clear hT hF
          refine HW.draw mixed [(0, some []), (1, some []), (2, some []), (3, some [5]), (4, some [5]), (5, none)] rfl (by kernel_rfl) (by kernel_rfl) ?_
          refine HPlan.takev (v := (.pointer p0)) rfl rfl (fun _ => HVal.move' rfl) ?_
          obtain ⟨a55, e56, h⟩ := h
          refine HPlan.takev (v := (.pointer (some a55))) rfl rfl (fun _ => HVal.nilCheck (congrArg Value.pointer e56)) ?_
          refine HPlan.takev (v := (.pointer (some (Addr.add a55 2)))) rfl rfl (fun _ => HVal.fieldAddr' Try.runUnderlying71 rfl rfl Try.sizeOf68 rfl) ?_
          obtain ⟨x58, c57, h⟩ := h
          refine HPlan.takel (v := (.map x58)) (fun X => cell X (Addr.add a55 2) = some (.map x58)) rfl rfl (fun _ hX => HVal.load1 Try.isAgg68 rfl hX) c57 ?_
          obtain ⟨x60, x61, c59, h⟩ := h
          refine HPlan.takel (v := (.agg #[(.int .i64 x60), (.int .i64 x61)])) (fun X => cells X ⟨H.size, 0, none⟩ [(.int .i64 x60), (.int .i64 x61)] 0) rfl rfl (fun _ hX => HVal.loadN [(.int .i64 x60), (.int .i64 x61)] Try.isAgg32 Try.sizeOf32 rfl hX) c59 ?_
          obtain ⟨r64, L65, c66, e68, c67, h⟩ := h
          refine HPlan.opsn rfl (HOp.deleteM (f := mk32) (g := mv94) (k := (x60, x61)) Try.runUnderlying68 mkk32 (congrArg Value.map e68) rfl c67) ?_
          rintro _ H62 ⟨rfl, e63⟩
          replace h := h H62 e63
          refine ⟨SC_of ⟨fun e => absurd e (by decide), fun e => absurd e (by decide), trivial⟩, ?_⟩
          refine HPlan.done ?_
          refine nt ?_
          exact ⟨⟨rfl, rfl, rfl, trivial⟩, h⟩
        · have h := hF hb54
          clear hT hF
          refine HW.skip ?_
          refine nt ?_
          exact ⟨⟨rfl, rfl, rfl, trivial⟩, h⟩
      · rintro ρ H_2 ⟨hI, h⟩
        obtain ⟨ρ0, rfl⟩ : ∃ ρ0, ρ = (Env.set (Env.set (Env.set ρ0 6 (.pointer r12)) 4 (.pointer (some ⟨H.size, 0, none⟩))) 0 (.pointer p0)) := ⟨ρ, hI.eq⟩
        clear hI; unfold F41_2 at h
        refine HW.draw mixed [(0, some []), (1, some []), (2, some []), (3, some [8]), (4, some []), (5, some []), (6, some []), (7, some []), (8, none), (9, some [])] rfl (by kernel_rfl) (by kernel_rfl) ?_
        refine HPlan.takev (v := (.pointer r12)) rfl rfl (fun _ => HVal.move' rfl) ?_
        obtain ⟨a69, e70, h⟩ := h
        refine HPlan.takev (v := (.pointer (some a69))) rfl rfl (fun _ => HVal.nilCheck (congrArg Value.pointer e70)) ?_
        refine HPlan.takev (v := (.pointer (some (Addr.add a69 1)))) rfl rfl (fun _ => HVal.fieldAddr' Try.runUnderlying79 rfl rfl Try.sizeOf32 rfl) ?_
        obtain ⟨x72, x73, c71, h⟩ := h
        refine HPlan.takel (v := (.agg #[(.int .i64 x72), (.int .i64 x73)])) (fun X => cells X (Addr.add a69 1) [(.int .i64 x72), (.int .i64 x73)] 0) rfl rfl (fun _ hX => HVal.loadN [(.int .i64 x72), (.int .i64 x73)] Try.isAgg32 Try.sizeOf32 rfl hX) c71 ?_
        refine HPlan.takev (v := (.pointer r12)) rfl rfl (fun _ => HVal.move' rfl) ?_
        obtain ⟨a74, e75, h⟩ := h
        refine HPlan.takev (v := (.pointer (some a74))) rfl rfl (fun _ => HVal.nilCheck (congrArg Value.pointer e75)) ?_
        refine HPlan.takev (v := (.pointer (some (Addr.add a74 3)))) rfl rfl (fun _ => HVal.fieldAddr' Try.runUnderlying79 rfl rfl Try.sizeOf50 rfl) ?_
        obtain ⟨x77, c76, h⟩ := h
        refine HPlan.takel (v := (Sl.v x77)) (fun X => cell X (Addr.add a74 3) = some (Sl.v x77)) rfl rfl (fun _ hX => HVal.load1 Try.isAgg50 rfl hX) c76 ?_
        obtain ⟨z80, h⟩ := h
        refine HPlan.opsn rfl (HOp.storeN' (l := [(.int .i64 x72), (.int .i64 x73)]) Try.sizeOf32 rfl rfl rfl z80) ?_
        rintro _ H78 e79
        replace h := h H78 e79
        obtain ⟨s81, h⟩ := h
        refine ⟨SC_of ⟨fun _ => s81, fun e => absurd e (by decide), trivial⟩, ?_⟩
        refine HPlan.takev (v := (Sl.v x77)) rfl rfl (fun _ => HVal.assign' rfl) ?_
        refine HPlan.done ?_
        refine nb ?_
        refine nt ?_
        exact (hX1 _ _).1 h _ ⟨rfl, rfl, rfl, trivial⟩
  · have h := hF hb6
    clear hT hF
    refine HW.exit ?_
    refine te ?_
    refine te ?_
    refine be ?_
    exact ⟨_, resOf0 rfl , ⟨rfl, h⟩⟩

def F16_L1b (Q : Int → Hp → Prop) (X1 : Int → Hp → Prop) (y33 : (Option Addr)) (y32 : Int) (H_1 : Hp) : Prop :=
((decide ((0 : Int) < y32)) = true → (∃ a36 : Addr, y33 = some a36 ∧ (
 ∃ x39 : Sl, cell H_1 (Addr.add a36 3) = some (Sl.v x39) ∧ (
 ∃ a40 : Addr, (x39).b = some a40 ∧ (0 : Int) ≤ (IntKind.i64.wrap (y32 - 1)) ∧ (IntKind.i64.wrap (y32 - 1)) < ((x39).n : Int) ∧ (
 ∃ x45 : (Option Addr), cell H_1 (Addr.add a40 ((IntKind.i64.wrap (y32 - 1)).toNat * 1)) = some (.pointer x45) ∧ (
 ((x45.isNone) = true → (∃ a47 : Addr, y33 = some a47 ∧ (
 ∃ x50 : Sl, cell H_1 (Addr.add a47 3) = some (Sl.v x50) ∧ (
 (0 : Int) ≤ (IntKind.i64.wrap (y32 - 1)) ∧ 0 ≤ (IntKind.i64.wrap (y32 - 1)).toNat ∧ (IntKind.i64.wrap (y32 - 1)).toNat ≤ (x50).c ∧ (x50).c ≤ (x50).c ∧ (
 ∃ a55 : Addr, y33 = some a55 ∧ (
 (cell H_1 (Addr.add a55 3)).isSome = true ∧ frz H_1 (Addr.add a55 3) = false ∧ ∀ H57 : Hp, H57 = setc H_1 (Addr.add a55 3) (Sl.v (Sl.cut x50 1 0 ((IntKind.i64.wrap (y32 - 1)).toNat) ((x50).c))) → (
 X1 (IntKind.i64.wrap (y32 - 1)) H57))))))) ∧
 ((x45.isNone) = false → (Q 0 H_1)))))))) ∧
 ((decide ((0 : Int) < y32)) = false → (Q 0 H_1))
def F16_L1 (Q : Int → Hp → Prop) (y33 : (Option Addr)) (y32 : Int) (H_1 : Hp) : Prop :=
  ∀ X1 : Int → Hp → Prop, (∀ (y32 : Int) (H_1 : Hp), F16_L1b Q X1 y33 y32 H_1 → X1 y32 H_1) → X1 y32 H_1
def F16 (p0 : (Option Addr)) (p1 : Int) (H : Hp) (Q : Int → Hp → Prop) : Prop :=
F38 p0 p1 H (fun (r3 : (Option Addr)) (H1 : Hp) => 
 ((r3.isNone) = true → (Q 130 H1)) ∧
 ((r3.isNone) = false → (∃ a5 : Addr, r3 = some a5 ∧ (
 ∃ (x8 : Int) (x9 : Int), cells H1 a5 [(.int .i64 x8), (.int .i64 x9)] 0 ∧ (
 ∃ a10 : Addr, r3 = some a10 ∧ (
 ∃ x13 : Sl, cell H1 (Addr.add a10 2) = some (Sl.v x13) ∧ (
 F41 p0 x8 x9 x13 H1 (fun (H14 : Hp) => 
 ∃ a16 : Addr, p0 = some a16 ∧ (
 ∃ x19 : Sl, cell H14 (Addr.add a16 3) = some (Sl.v x19) ∧ (
 ∃ a20 : Addr, (x19).b = some a20 ∧ (0 : Int) ≤ p1 ∧ p1 < ((x19).n : Int) ∧ (
 (cell H14 (Addr.add a20 (p1.toNat * 1))).isSome = true ∧ frz H14 (Addr.add a20 (p1.toNat * 1)) = false ∧ ∀ H24 : Hp, H24 = setc H14 (Addr.add a20 (p1.toNat * 1)) (.pointer none) → (
 ∃ a28 : Addr, p0 = some a28 ∧ (
 ∃ x31 : Sl, cell H24 (Addr.add a28 3) = some (Sl.v x31) ∧ (
 F16_L1 Q p0 ((x31).n : Int) H24))))))))))))))
set_option maxRecDepth 100000 in
set_option maxHeartbeats 4000000 in
theorem walk16 {w0 : World} {p0 : (Option Addr)} {p1 : Int} {H : Hp} {Q : Int → Hp → Prop} (h : F16 p0 p1 H Q) :
    Good Try.prog w0 16 #[(.pointer p0), (.int .i64 p1)] H (fun v H => ∃ (r0 : Int) , v = (.int .i64 r0) ∧ Q r0 H) := by
  unfold F16 at h
  refine Good.enter' (fn := Try.f16) Try.func16 rfl rfl rfl ?_
  refine HW.seq ?_
  refine HW.region ?_
  refine HList.vals (v := (.int .i64 0)) rfl (HVal.assign' rfl) ?_
  refine HList.nil ?_
  refine nt ?_
  refine HW.seq ?_
  refine HW.region ?_
  refine HList.vals (v := (.pointer p0)) rfl (HVal.move' rfl) ?_
  refine HList.vals (v := (.int .i64 p1)) rfl (HVal.move' rfl) ?_
  refine HList.ops' rfl (HOp.call' 38 [(.pointer p0), (.int .i64 p1)] (cap := []) rfl rfl Try.call38 (walk38 h)) ?_
  rintro _ H1 ⟨r3, rfl, h⟩
  refine HList.vals (v := (.pointer r3)) rfl (HVal.assign' rfl) ?_
  refine HList.nil ?_
  refine nt ?_
  refine HW.seq ?_
  refine HW.seq ?_
  refine HW.region ?_
  refine HList.vals (v := (.pointer r3)) rfl (HVal.move' rfl) ?_
  refine HList.vals (v := (.bool (r3.isNone))) rfl (HVal.eqlPN Try.underlying80 rfl rfl) ?_
  refine HList.nil ?_
  refine nt ?_
  obtain ⟨hT, hF⟩ := h
  refine HW.cond (r3.isNone) rfl (fun hb4 => ?_) (fun hb4 => ?_)
  · have h := hT hb4
    clear hT hF
    refine HW.seq ?_
    refine HW.region ?_
    refine HList.vals (v := (.int .i64 130)) rfl (HVal.assign' rfl) ?_
    refine HList.nil ?_
    refine nt ?_
    refine HW.ret ?_
    refine tr ?_
    exact ⟨_, resOf1 rfl Res1.t, ⟨130, rfl, h⟩⟩
  · have h := hF hb4
    clear hT hF
    refine HW.skip ?_
    refine nt ?_
    refine HW.seq ?_
    refine HW.draw mixed [(0, some []), (1, some []), (2, some []), (3, some []), (4, some [9]), (5, some []), (6, some []), (7, some []), (8, some [9]), (9, none)] rfl (by kernel_rfl) (by kernel_rfl) ?_
    refine HPlan.takev (v := (.pointer p0)) rfl rfl (fun _ => HVal.move' rfl) ?_
    refine HPlan.takev (v := (.pointer r3)) rfl rfl (fun _ => HVal.move' rfl) ?_
    obtain ⟨a5, e6, h⟩ := h
    refine HPlan.takev (v := (.pointer (some a5))) rfl rfl (fun _ => HVal.nilCheck (congrArg Value.pointer e6)) ?_
    refine HPlan.takev (v := (.pointer (some a5))) rfl rfl (fun _ => HVal.fieldAddr0 Try.runUnderlying83 rfl rfl Try.sizeOf32 rfl) ?_
    obtain ⟨x8, x9, c7, h⟩ := h
    refine HPlan.takel (v := (.agg #[(.int .i64 x8), (.int .i64 x9)])) (fun X => cells X a5 [(.int .i64 x8), (.int .i64 x9)] 0) rfl rfl (fun _ hX => HVal.loadN [(.int .i64 x8), (.int .i64 x9)] Try.isAgg32 Try.sizeOf32 rfl hX) c7 ?_
    refine HPlan.takev (v := (.pointer r3)) rfl rfl (fun _ => HVal.move' rfl) ?_
    obtain ⟨a10, e11, h⟩ := h
    refine HPlan.takev (v := (.pointer (some a10))) rfl rfl (fun _ => HVal.nilCheck (congrArg Value.pointer e11)) ?_
    refine HPlan.takev (v := (.pointer (some (Addr.add a10 2)))) rfl rfl (fun _ => HVal.fieldAddr' Try.runUnderlying83 rfl rfl Try.sizeOf50 rfl) ?_
    obtain ⟨x13, c12, h⟩ := h
    refine HPlan.takel (v := (Sl.v x13)) (fun X => cell X (Addr.add a10 2) = some (Sl.v x13)) rfl rfl (fun _ hX => HVal.load1 Try.isAgg50 rfl hX) c12 ?_
    refine HPlan.ops' rfl rfl (HOp.call' 41 [(.pointer p0), (.agg #[(.int .i64 x8), (.int .i64 x9)]), (Sl.v x13)] (cap := []) rfl rfl Try.call41 (walk41 h)) ?_
    rintro _ H14 ⟨rfl, h⟩
    refine ⟨SC_of ⟨fun e => absurd e (by decide), fun e => absurd e (by decide), trivial⟩, ?_⟩
    refine HPlan.done ?_
    refine nt ?_
    refine HW.seq ?_
    refine HW.region ?_
    refine HList.vals (v := (.pointer p0)) rfl (HVal.move' rfl) ?_
    obtain ⟨a16, e17, h⟩ := h
    refine HList.vals (v := (.pointer (some a16))) rfl (HVal.nilCheck (congrArg Value.pointer e17)) ?_
    refine HList.vals (v := (.pointer (some (Addr.add a16 3)))) rfl (HVal.fieldAddr' Try.runUnderlying71 rfl rfl Try.sizeOf69 rfl) ?_
    obtain ⟨x19, c18, h⟩ := h
    refine HList.vals (v := (Sl.v x19)) rfl (HVal.load1 Try.isAgg69 rfl c18) ?_
    refine HList.vals (v := (.int .i64 p1)) rfl (HVal.move' rfl) ?_
    obtain ⟨a20, e21, b22, b23, h⟩ := h
    refine HList.vals (v := (.pointer (some (Addr.add a20 (p1.toNat * 1))))) rfl (HVal.indexAddr Try.runUnderlying69 Try.sizeOf80 (Sl.v_some rfl e21) rfl b22 b23) ?_
    obtain ⟨z26, z27, h⟩ := h
    refine HList.opsn (HOp.store1 Try.sizeOf80 rfl rfl rfl z26 z27) ?_
    rintro _ H24 e25
    replace h := h H24 e25
    refine HList.nil ?_
    refine nt ?_
    refine HW.seq ?_
    refine HW.seq ?_
    refine HW.region ?_
    refine HList.vals (v := (.pointer p0)) rfl (HVal.move' rfl) ?_
    obtain ⟨a28, e29, h⟩ := h
    refine HList.vals (v := (.pointer (some a28))) rfl (HVal.nilCheck (congrArg Value.pointer e29)) ?_
    refine HList.vals (v := (.pointer (some (Addr.add a28 3)))) rfl (HVal.fieldAddr' Try.runUnderlying71 rfl rfl Try.sizeOf69 rfl) ?_
    obtain ⟨x31, c30, h⟩ := h
    refine HList.vals (v := (Sl.v x31)) rfl (HVal.load1 Try.isAgg69 rfl c30) ?_
    refine HList.vals (v := (.int .i64 ((x31).n : Int))) rfl (HVal.len Try.runUnderlying69 rfl) ?_
    refine HList.vals (v := (.int .i64 ((x31).n : Int))) rfl (HVal.assign' rfl) ?_
    refine HList.nil ?_
    refine nt ?_
    refine HW.block ?_
    refine HW.loop' (fun L1 hL1 => ?_)
    obtain ⟨X1, hX1⟩ : ∃ X1 : Int → Hp → Prop, ∀ (y32 : Int) (H_1 : Hp), X1 y32 H_1 ↔ ∀ ρ, Env.Is ρ [(0, (.pointer p0)), (6, (.int .i64 y32))] → L1 ρ H_1 := ⟨_, fun _ _ => Iff.rfl⟩
    refine (hX1 _ _).1 (h X1 ?_) _ ?_
    rotate_left
    · exact ⟨rfl, rfl, trivial⟩
    clear h
    intro y32 H_1 h
    refine (hX1 _ _).2 fun ρ hI => ?_
    obtain ⟨ρ0, rfl⟩ : ∃ ρ0, ρ = (Env.set (Env.set ρ0 6 (.int .i64 y32)) 0 (.pointer p0)) := ⟨ρ, hI.eq⟩
    clear hI; unfold F16_L1b at h; refine hL1 _ _ ?_
    refine HW.seq ?_
    refine HW.seq ?_
    refine HW.region ?_
    refine HList.vals (v := (.int .i64 y32)) rfl (HVal.move' rfl) ?_
    refine HList.vals (v := (.bool (decide ((0 : Int) < y32)))) rfl (HVal.gtr rfl rfl) ?_
    refine HList.vals (v := (.bool (decide ((0 : Int) < y32)))) rfl (HVal.move' rfl) ?_
    obtain ⟨hT, hF⟩ := h
    rcases Bool.eq_false_or_eq_true (decide ((0 : Int) < y32)) with hb34 | hb35
    · have h := hT hb34
      clear hT hF
      refine HList.gvals (v := (.pointer p0)) rfl rfl rfl rfl (congrArg Value.bool hb34) (HVal.move' rfl) ?_
      obtain ⟨a36, e37, h⟩ := h
      refine HList.gvals (v := (.pointer (some a36))) rfl rfl rfl rfl (congrArg Value.bool hb34) (HVal.nilCheck (congrArg Value.pointer e37)) ?_
      refine HList.gvals (v := (.pointer (some (Addr.add a36 3)))) rfl rfl rfl rfl (congrArg Value.bool hb34) (HVal.fieldAddr' Try.runUnderlying71 rfl rfl Try.sizeOf69 rfl) ?_
      obtain ⟨x39, c38, h⟩ := h
      refine HList.gvals (v := (Sl.v x39)) rfl rfl rfl rfl (congrArg Value.bool hb34) (HVal.load1 Try.isAgg69 rfl c38) ?_
      refine HList.gvals (v := (.int .i64 y32)) rfl rfl rfl rfl (congrArg Value.bool hb34) (HVal.move' rfl) ?_
      refine HList.gvals (v := (.int .i64 (IntKind.i64.wrap (y32 - 1)))) rfl rfl rfl rfl (congrArg Value.bool hb34) (HVal.sub rfl rfl) ?_
      obtain ⟨a40, e41, b42, b43, h⟩ := h
      refine HList.gvals (v := (.pointer (some (Addr.add a40 ((IntKind.i64.wrap (y32 - 1)).toNat * 1))))) rfl rfl rfl rfl (congrArg Value.bool hb34) (HVal.indexAddr Try.runUnderlying69 Try.sizeOf80 (Sl.v_some rfl e41) rfl b42 b43) ?_
      obtain ⟨x45, c44, h⟩ := h
      refine HList.gvals (v := (.pointer x45)) rfl rfl rfl rfl (congrArg Value.bool hb34) (HVal.load1 Try.isAgg80 rfl c44) ?_
      refine HList.gvals (v := (.bool (x45.isNone))) rfl rfl rfl rfl (congrArg Value.bool hb34) (HVal.eqlPN Try.underlying80 rfl rfl) ?_
      refine HList.vals (v := (.bool (x45.isNone))) rfl (HVal.pickT rfl hb34 rfl) ?_
      refine HList.nil ?_
      refine nt ?_
      obtain ⟨hT, hF⟩ := h
      refine HW.cond (x45.isNone) rfl (fun hb46 => ?_) (fun hb46 => ?_)
      · have h := hT hb46
        clear hT hF
        refine HW.skip ?_
        refine nt ?_
        refine HW.seq ?_
        refine HW.block ?_
        refine HW.region ?_
        refine HList.vals (v := (.pointer p0)) rfl (HVal.move' rfl) ?_
        refine HList.vals (v := (.pointer p0)) rfl (HVal.move' rfl) ?_
        obtain ⟨a47, e48, h⟩ := h
        refine HList.vals (v := (.pointer (some a47))) rfl (HVal.nilCheck (congrArg Value.pointer e48)) ?_
        refine HList.vals (v := (.pointer (some (Addr.add a47 3)))) rfl (HVal.fieldAddr' Try.runUnderlying71 rfl rfl Try.sizeOf69 rfl) ?_
        obtain ⟨x50, c49, h⟩ := h
        refine HList.vals (v := (Sl.v x50)) rfl (HVal.load1 Try.isAgg69 rfl c49) ?_
        refine HList.vals (v := (.int .i64 y32)) rfl (HVal.move' rfl) ?_
        refine HList.vals (v := (.int .i64 (IntKind.i64.wrap (y32 - 1)))) rfl (HVal.sub rfl rfl) ?_
        obtain ⟨z51, z52, z53, z54, h⟩ := h
        refine HList.vals (v := (Sl.v (Sl.cut x50 1 0 ((IntKind.i64.wrap (y32 - 1)).toNat) ((x50).c)))) rfl (HVal.slice _ _ _ Try.runUnderlying69 Try.sizeOf80 rfl rfl ⟨_, _, rfl, z51, rfl⟩ rfl (by decide) z52 z53 z54) ?_
        obtain ⟨a55, e56, h⟩ := h
        refine HList.vals (v := (.pointer (some a55))) rfl (HVal.nilCheck (congrArg Value.pointer e56)) ?_
        refine HList.vals (v := (.pointer (some (Addr.add a55 3)))) rfl (HVal.fieldAddr' Try.runUnderlying71 rfl rfl Try.sizeOf69 rfl) ?_
        obtain ⟨z59, z60, h⟩ := h
        refine HList.opsn (HOp.store1 Try.sizeOf69 rfl rfl rfl z59 z60) ?_
        rintro _ H57 e58
        replace h := h H57 e58
        refine HList.nil ?_
        refine nb ?_
        refine nt ?_
        refine HW.region ?_
        refine HList.vals (v := (.int .i64 y32)) rfl (HVal.move' rfl) ?_
        refine HList.vals (v := (.int .i64 (IntKind.i64.wrap (y32 - 1)))) rfl (HVal.sub rfl rfl) ?_
        refine HList.vals (v := (.int .i64 (IntKind.i64.wrap (y32 - 1)))) rfl (HVal.assign' rfl) ?_
        refine HList.nil ?_
        refine nt ?_
        exact (hX1 _ _).1 h _ ⟨rfl, rfl, trivial⟩
      · have h := hF hb46
        clear hT hF
        refine HW.exit ?_
        refine te ?_
        refine te ?_
        refine be ?_
        refine nt ?_
        refine HW.seq ?_
        refine HW.region ?_
        refine HList.vals (v := (.int .i64 0)) rfl (HVal.assign' rfl) ?_
        refine HList.nil ?_
        refine nt ?_
        refine HW.ret ?_
        exact ⟨_, resOf1 rfl Res1.t, ⟨0, rfl, h⟩⟩
    · have h := hF hb35
      clear hT hF
      refine HList.gskips rfl rfl rfl rfl (congrArg Value.bool hb35) ?_
      refine HList.gskips rfl rfl rfl rfl (congrArg Value.bool hb35) ?_
      refine HList.gskips rfl rfl rfl rfl (congrArg Value.bool hb35) ?_
      refine HList.gskips rfl rfl rfl rfl (congrArg Value.bool hb35) ?_
      refine HList.gskips rfl rfl rfl rfl (congrArg Value.bool hb35) ?_
      refine HList.gskips rfl rfl rfl rfl (congrArg Value.bool hb35) ?_
      refine HList.gskips rfl rfl rfl rfl (congrArg Value.bool hb35) ?_
      refine HList.gskips rfl rfl rfl rfl (congrArg Value.bool hb35) ?_
      refine HList.gskips rfl rfl rfl rfl (congrArg Value.bool hb35) ?_
      refine HList.vals (v := (.bool false)) rfl (HVal.pickF rfl hb35 rfl) ?_
      refine HList.nil ?_
      refine nt ?_
      refine HW.condF false rfl rfl ?_
      refine HW.exit ?_
      refine te ?_
      refine te ?_
      refine be ?_
      refine nt ?_
      refine HW.seq ?_
      refine HW.region ?_
      refine HList.vals (v := (.int .i64 0)) rfl (HVal.assign' rfl) ?_
      refine HList.nil ?_
      refine nt ?_
      refine HW.ret ?_
      exact ⟨_, resOf1 rfl Res1.t, ⟨0, rfl, h⟩⟩

def F21_1 (Q : Sl → Hp → Prop) (y26 : Sl) (H_1 : Hp) : Prop :=
Q y26 H_1
def F21_3 (Q : Sl → Hp → Prop) (X2 : Sl → Int → Hp → Prop) (y10 : Sl) (y11 : Int) (y12 : Int) (y25 : Sl) (H_3 : Hp) : Prop :=
X2 y25 (IntKind.i64.wrap (y12 + 1)) H_3
def F21_L2b (Q : Sl → Hp → Prop) (X2 : Sl → Int → Hp → Prop) (y7 : Sl) (y8 : Int) (y5 : Sl) (y6 : Int) (H_2 : Hp) : Prop :=
((decide (y6 < y8)) = true → (∃ a13 : Addr, (y7).b = some a13 ∧ (0 : Int) ≤ y6 ∧ y6 < ((y7).n : Int) ∧ (
 ∃ x18 : (Option Addr), cell H_2 (Addr.add a13 (y6.toNat * 1)) = some (.pointer x18) ∧ (
 ((!x18.isNone) = true → (∀ H20 : Hp, H20 = Array.push H_2 (.cells #[(.int .i64 y6)] 3) → (
 AppendF H20 3 1 8 #[(.int .i64 0)] y5 ((Sl.mk (some ⟨H_2.size, 0, none⟩) 1 1)).b ((Sl.mk (some ⟨H_2.size, 0, none⟩) 1 1)).n (fun (r24 : Sl) (H22 : Hp) => 
 F21_3 Q X2 y7 y8 y6 r24 H22)))) ∧
 ((!x18.isNone) = false → (F21_3 Q X2 y7 y8 y6 y5 H_2)))))) ∧
 ((decide (y6 < y8)) = false → (F21_1 Q y5 H_2))
def F21_L2 (Q : Sl → Hp → Prop) (y7 : Sl) (y8 : Int) (y5 : Sl) (y6 : Int) (H_2 : Hp) : Prop :=
  ∀ X2 : Sl → Int → Hp → Prop, (∀ (y5 : Sl) (y6 : Int) (H_2 : Hp), F21_L2b Q X2 y7 y8 y5 y6 H_2 → X2 y5 y6 H_2) → X2 y5 y6 H_2
def F21 (p0 : (Option Addr)) (H : Hp) (Q : Sl → Hp → Prop) : Prop :=
∃ a1 : Addr, p0 = some a1 ∧ (
 ∃ x4 : Sl, cell H (Addr.add a1 3) = some (Sl.v x4) ∧ (
 F21_L2 Q x4 ((x4).n : Int) Sl.nil 0 H))
set_option maxRecDepth 100000 in
set_option maxHeartbeats 4000000 in
theorem walk21 {w0 : World} {p0 : (Option Addr)} {H : Hp} {Q : Sl → Hp → Prop} (h : F21 p0 H Q) :
    Good Try.prog w0 21 #[(.pointer p0)] H (fun v H => ∃ (r0 : Sl) , v = (Sl.v r0) ∧ Q r0 H) := by
  unfold F21 at h
  refine Good.enter' (fn := Try.f21) Try.func21 rfl rfl rfl ?_
  refine HW.seq ?_
  refine HW.region ?_
  refine HList.vals (v := (Sl.v Sl.nil)) rfl (HVal.assign' rfl) ?_
  refine HList.nil ?_
  refine nt ?_
  refine HW.seq ?_
  refine HW.region ?_
  refine HList.vals (v := (Sl.v Sl.nil)) rfl (HVal.assign' rfl) ?_
  refine HList.nil ?_
  refine nt ?_
  refine HW.cut (fun ρ H_1 => ∃ (y26 : Sl), Env.Is ρ [(3, (Sl.v y26))] ∧ F21_1 Q y26 H_1) ?_ ?_
  · refine HW.seq ?_
    refine HW.region ?_
    refine HList.vals (v := (.pointer p0)) rfl (HVal.move' rfl) ?_
    obtain ⟨a1, e2, h⟩ := h
    refine HList.vals (v := (.pointer (some a1))) rfl (HVal.nilCheck (congrArg Value.pointer e2)) ?_
    refine HList.vals (v := (.pointer (some (Addr.add a1 3)))) rfl (HVal.fieldAddr' Try.runUnderlying71 rfl rfl Try.sizeOf69 rfl) ?_
    obtain ⟨x4, c3, h⟩ := h
    refine HList.vals (v := (Sl.v x4)) rfl (HVal.load1 Try.isAgg69 rfl c3) ?_
    refine HList.vals (v := (.int .i64 ((x4).n : Int))) rfl (HVal.len Try.runUnderlying69 rfl) ?_
    refine HList.vals (v := (.int .i64 0)) rfl (HVal.move' rfl) ?_
    refine HList.nil ?_
    refine nt ?_
    refine HW.block ?_
    refine HW.loop' (fun L2 hL2 => ?_)
    obtain ⟨X2, hX2⟩ : ∃ X2 : Sl → Int → Hp → Prop, ∀ (y5 : Sl) (y6 : Int) (H_2 : Hp), X2 y5 y6 H_2 ↔ ∀ ρ, Env.Is ρ [(9, (Sl.v x4)), (10, (.int .i64 ((x4).n : Int))), (3, (Sl.v y5)), (11, (.int .i64 y6))] → L2 ρ H_2 := ⟨_, fun _ _ _ => Iff.rfl⟩
    refine (hX2 _ _ _).1 (h X2 ?_) _ ?_
    rotate_left
    · exact ⟨rfl, rfl, rfl, rfl, trivial⟩
    clear h
    intro y5 y6 H_2 h
    refine (hX2 _ _ _).2 fun ρ hI => ?_
    obtain ⟨ρ0, rfl⟩ : ∃ ρ0, ρ = (Env.set (Env.set (Env.set (Env.set ρ0 11 (.int .i64 y6)) 3 (Sl.v y5)) 10 (.int .i64 ((x4).n : Int))) 9 (Sl.v x4)) := ⟨ρ, hI.eq⟩
    clear hI; unfold F21_L2b at h; refine hL2 _ _ ?_
    refine HW.seq ?_
    refine HW.region ?_
    refine HList.vals (v := (.bool (decide (y6 < ((x4).n : Int))))) rfl (HVal.lss rfl rfl) ?_
    refine HList.nil ?_
    refine nt ?_
    refine HW.seq ?_
    obtain ⟨hT, hF⟩ := h
    refine HW.cond (decide (y6 < ((x4).n : Int))) rfl (fun hb9 => ?_) (fun hb9 => ?_)
    · have h := hT hb9
      clear hT hF
      refine HW.skip ?_
      refine nt ?_
      refine HW.cut (fun ρ H_3 => ∃ (y25 : Sl), Env.Is ρ [(9, (Sl.v x4)), (10, (.int .i64 ((x4).n : Int))), (11, (.int .i64 y6)), (3, (Sl.v y25))] ∧ F21_3 Q X2 x4 ((x4).n : Int) y6 y25 H_3) ?_ ?_
      · refine HW.block ?_
        refine HW.seq ?_
        refine HW.region ?_
        refine HList.vals (v := (.int .i64 y6)) rfl (HVal.move' rfl) ?_
        obtain ⟨a13, e14, b15, b16, h⟩ := h
        refine HList.vals (v := (.pointer (some (Addr.add a13 (y6.toNat * 1))))) rfl (HVal.indexAddr Try.runUnderlying69 Try.sizeOf80 (Sl.v_some rfl e14) rfl b15 b16) ?_
        obtain ⟨x18, c17, h⟩ := h
        refine HList.vals (v := (.pointer x18)) rfl (HVal.load1 Try.isAgg80 rfl c17) ?_
        refine HList.vals (v := (.int .i64 y6)) rfl (HVal.assign' rfl) ?_
        refine HList.vals (v := (.pointer x18)) rfl (HVal.assign' rfl) ?_
        refine HList.nil ?_
        refine nt ?_
        refine HW.seq ?_
        refine HW.region ?_
        refine HList.vals (v := (.pointer x18)) rfl (HVal.move' rfl) ?_
        refine HList.vals (v := (.bool (!x18.isNone))) rfl (HVal.neqPN Try.underlying80 rfl rfl) ?_
        refine HList.nil ?_
        refine nt ?_
        obtain ⟨hT, hF⟩ := h
        refine HW.cond (!x18.isNone) rfl (fun hb19 => ?_) (fun hb19 => ?_)
        · have h := hT hb19
          clear hT hF
          refine HW.region ?_
          refine HList.vals (v := (Sl.v y5)) rfl (HVal.move' rfl) ?_
          refine HList.vals (v := (.int .i64 y6)) rfl (HVal.move' rfl) ?_
          refine HList.ops' rfl (HOp.buildSlice' (zs := [(.int .i64 0)]) (cs := [(.int .i64 y6)]) Try.runUnderlying50 Try.sizeOf3 Try.zeroValue3 (by decide) (by kernel_rfl) rfl (by decide)) ?_
          rintro _ H20 ⟨rfl, e21⟩
          replace h := h H20 e21
          refine HList.ops' rfl (HOp.append (k := 1) (b := 8) Try.runUnderlying50 Try.runUnderlying50 Try.typeInfo3 rfl rfl Try.zeroValue3 rfl rfl h) ?_
          rintro _ H22 ⟨r24, rfl, h⟩
          refine HList.vals (v := (Sl.v r24)) rfl (HVal.assign' rfl) ?_
          refine HList.nil ?_
          refine nb ?_
          refine nt ?_
          exact ⟨r24, ⟨rfl, rfl, rfl, rfl, trivial⟩, h⟩
        · have h := hF hb19
          clear hT hF
          refine HW.skip ?_
          refine nb ?_
          refine nt ?_
          exact ⟨y5, ⟨rfl, rfl, rfl, rfl, trivial⟩, h⟩
      · rintro ρ H_3 ⟨y25, hI, h⟩
        obtain ⟨ρ0, rfl⟩ : ∃ ρ0, ρ = (Env.set (Env.set (Env.set (Env.set ρ0 3 (Sl.v y25)) 11 (.int .i64 y6)) 10 (.int .i64 ((x4).n : Int))) 9 (Sl.v x4)) := ⟨ρ, hI.eq⟩
        clear hI; unfold F21_3 at h
        refine HW.region ?_
        refine HList.vals (v := (.int .i64 (IntKind.i64.wrap (y6 + 1)))) rfl (HVal.add rfl rfl) ?_
        refine HList.vals (v := (.int .i64 (IntKind.i64.wrap (y6 + 1)))) rfl (HVal.move' rfl) ?_
        refine HList.nil ?_
        refine nt ?_
        exact (hX2 _ _ _).1 h _ ⟨rfl, rfl, rfl, rfl, trivial⟩
    · have h := hF hb9
      clear hT hF
      refine HW.exit ?_
      refine te ?_
      refine te ?_
      refine be ?_
      refine nt ?_
      exact ⟨y5, ⟨rfl, trivial⟩, h⟩
  · rintro ρ H_1 ⟨y26, hI, h⟩
    obtain ⟨ρ0, rfl⟩ : ∃ ρ0, ρ = (Env.set ρ0 3 (Sl.v y26)) := ⟨ρ, hI.eq⟩
    clear hI; unfold F21_1 at h
    refine HW.seq ?_
    refine HW.region ?_
    refine HList.vals (v := (Sl.v y26)) rfl (HVal.move' rfl) ?_
    refine HList.vals (v := (Sl.v y26)) rfl (HVal.assign' rfl) ?_
    refine HList.nil ?_
    refine nt ?_
    refine HW.ret ?_
    exact ⟨_, resOf1 rfl Res1.t, ⟨y26, rfl, h⟩⟩

def F23_L1b (Q : Bool → Hp → Prop) (X1 : Int → Hp → Prop) (y3 : Sl) (y4 : Sl) (y2 : Int) (H_1 : Hp) : Prop :=
((decide (y2 < ((y3).n : Int))) = true → (∃ a6 : Addr, (y3).b = some a6 ∧ (0 : Int) ≤ y2 ∧ y2 < ((y3).n : Int) ∧ (
 ∃ (x11 : Int) (x12 : Int), cells H_1 (Addr.add a6 (y2.toNat * 2)) [(.int .i64 x11), (.int .i64 x12)] 0 ∧ (
 ∃ a13 : Addr, (y4).b = some a13 ∧ (0 : Int) ≤ y2 ∧ y2 < ((y4).n : Int) ∧ (
 ∃ (x18 : Int) (x19 : Int), cells H_1 (Addr.add a13 (y2.toNat * 2)) [(.int .i64 x18), (.int .i64 x19)] 0 ∧ (
 ((!(decide (x11 = x18) && decide (x12 = x19))) = true → (Q false H_1)) ∧
 ((!(decide (x11 = x18) && decide (x12 = x19))) = false → (X1 (IntKind.i64.wrap (y2 + 1)) H_1)))))))) ∧
 ((decide (y2 < ((y3).n : Int))) = false → (Q true H_1))
def F23_L1 (Q : Bool → Hp → Prop) (y3 : Sl) (y4 : Sl) (y2 : Int) (H_1 : Hp) : Prop :=
  ∀ X1 : Int → Hp → Prop, (∀ (y2 : Int) (H_1 : Hp), F23_L1b Q X1 y3 y4 y2 H_1 → X1 y2 H_1) → X1 y2 H_1
def F23 (p0 : Sl) (p1 : Sl) (H : Hp) (Q : Bool → Hp → Prop) : Prop :=
((decide (((p0).n : Int) ≠ ((p1).n : Int))) = true → (Q false H)) ∧
 ((decide (((p0).n : Int) ≠ ((p1).n : Int))) = false → (F23_L1 Q p0 p1 0 H))
set_option maxRecDepth 100000 in
set_option maxHeartbeats 4000000 in
theorem walk23 {w0 : World} {p0 : Sl} {p1 : Sl} {H : Hp} {Q : Bool → Hp → Prop} (h : F23 p0 p1 H Q) :
    Good Try.prog w0 23 #[(Sl.v p0), (Sl.v p1)] H (fun v H => ∃ (r0 : Bool) , v = (.bool r0) ∧ Q r0 H) := by
  unfold F23 at h
  refine Good.enter' (fn := Try.f23) Try.func23 rfl rfl rfl ?_
  refine HW.seq ?_
  refine HW.region ?_
  refine HList.vals (v := (.bool false)) rfl (HVal.assign' rfl) ?_
  refine HList.nil ?_
  refine nt ?_
  refine HW.seq ?_
  refine HW.seq ?_
  refine HW.region ?_
  refine HList.vals (v := (Sl.v p0)) rfl (HVal.move' rfl) ?_
  refine HList.vals (v := (.int .i64 ((p0).n : Int))) rfl (HVal.len Try.runUnderlying41 rfl) ?_
  refine HList.vals (v := (Sl.v p1)) rfl (HVal.move' rfl) ?_
  refine HList.vals (v := (.int .i64 ((p1).n : Int))) rfl (HVal.len Try.runUnderlying41 rfl) ?_
  refine HList.vals (v := (.bool (decide (((p0).n : Int) ≠ ((p1).n : Int))))) rfl (HVal.neqI rfl rfl) ?_
  refine HList.nil ?_
  refine nt ?_
  obtain ⟨hT, hF⟩ := h
  refine HW.cond (decide (((p0).n : Int) ≠ ((p1).n : Int))) rfl (fun hb1 => ?_) (fun hb1 => ?_)
  · have h := hT hb1
    clear hT hF
    refine HW.seq ?_
    refine HW.region ?_
    refine HList.vals (v := (.bool false)) rfl (HVal.assign' rfl) ?_
    refine HList.nil ?_
    refine nt ?_
    refine HW.ret ?_
    refine tr ?_
    exact ⟨_, resOf1 rfl Res1.t, ⟨false, rfl, h⟩⟩
  · have h := hF hb1
    clear hT hF
    refine HW.skip ?_
    refine nt ?_
    refine HW.seq ?_
    refine HW.seq ?_
    refine HW.region ?_
    refine HList.vals (v := (.int .i64 0)) rfl (HVal.assign' rfl) ?_
    refine HList.nil ?_
    refine nt ?_
    refine HW.block ?_
    refine HW.loop' (fun L1 hL1 => ?_)
    obtain ⟨X1, hX1⟩ : ∃ X1 : Int → Hp → Prop, ∀ (y2 : Int) (H_1 : Hp), X1 y2 H_1 ↔ ∀ ρ, Env.Is ρ [(0, (Sl.v p0)), (1, (Sl.v p1)), (5, (.int .i64 y2))] → L1 ρ H_1 := ⟨_, fun _ _ => Iff.rfl⟩
    refine (hX1 _ _).1 (h X1 ?_) _ ?_
    rotate_left
    · exact ⟨rfl, rfl, rfl, trivial⟩
    clear h
    intro y2 H_1 h
    refine (hX1 _ _).2 fun ρ hI => ?_
    obtain ⟨ρ0, rfl⟩ : ∃ ρ0, ρ = (Env.set (Env.set (Env.set ρ0 5 (.int .i64 y2)) 1 (Sl.v p1)) 0 (Sl.v p0)) := ⟨ρ, hI.eq⟩
    clear hI; unfold F23_L1b at h; refine hL1 _ _ ?_
    refine HW.seq ?_
    refine HW.seq ?_
    refine HW.region ?_
    refine HList.vals (v := (.int .i64 y2)) rfl (HVal.move' rfl) ?_
    refine HList.vals (v := (Sl.v p0)) rfl (HVal.move' rfl) ?_
    refine HList.vals (v := (.int .i64 ((p0).n : Int))) rfl (HVal.len Try.runUnderlying41 rfl) ?_
    refine HList.vals (v := (.bool (decide (y2 < ((p0).n : Int))))) rfl (HVal.lss rfl rfl) ?_
    refine HList.nil ?_
    refine nt ?_
    obtain ⟨hT, hF⟩ := h
    refine HW.cond (decide (y2 < ((p0).n : Int))) rfl (fun hb5 => ?_) (fun hb5 => ?_)
    · have h := hT hb5
      clear hT hF
      refine HW.skip ?_
      refine nt ?_
      refine HW.seq ?_
      refine HW.block ?_
      refine HW.seq ?_
      refine HW.draw mixed [(0, some []), (1, some []), (2, some []), (3, some []), (4, some []), (5, some []), (6, some []), (7, some []), (8, some [])] rfl (by kernel_rfl) (by kernel_rfl) ?_
      refine HPlan.takev (v := (Sl.v p0)) rfl rfl (fun _ => HVal.move' rfl) ?_
      refine HPlan.takev (v := (.int .i64 y2)) rfl rfl (fun _ => HVal.move' rfl) ?_
      obtain ⟨a6, e7, b8, b9, h⟩ := h
      refine HPlan.takev (v := (.pointer (some (Addr.add a6 (y2.toNat * 2))))) rfl rfl (fun _ => HVal.indexAddr Try.runUnderlying41 Try.sizeOf32 (Sl.v_some rfl e7) rfl b8 b9) ?_
      obtain ⟨x11, x12, c10, h⟩ := h
      refine HPlan.takel (v := (.agg #[(.int .i64 x11), (.int .i64 x12)])) (fun X => cells X (Addr.add a6 (y2.toNat * 2)) [(.int .i64 x11), (.int .i64 x12)] 0) rfl rfl (fun _ hX => HVal.loadN [(.int .i64 x11), (.int .i64 x12)] Try.isAgg32 Try.sizeOf32 rfl hX) c10 ?_
      refine HPlan.takev (v := (Sl.v p1)) rfl rfl (fun _ => HVal.move' rfl) ?_
      refine HPlan.takev (v := (.int .i64 y2)) rfl rfl (fun _ => HVal.move' rfl) ?_
      obtain ⟨a13, e14, b15, b16, h⟩ := h
      refine HPlan.takev (v := (.pointer (some (Addr.add a13 (y2.toNat * 2))))) rfl rfl (fun _ => HVal.indexAddr Try.runUnderlying41 Try.sizeOf32 (Sl.v_some rfl e14) rfl b15 b16) ?_
      obtain ⟨x18, x19, c17, h⟩ := h
      refine HPlan.takel (v := (.agg #[(.int .i64 x18), (.int .i64 x19)])) (fun X => cells X (Addr.add a13 (y2.toNat * 2)) [(.int .i64 x18), (.int .i64 x19)] 0) rfl rfl (fun _ hX => HVal.loadN [(.int .i64 x18), (.int .i64 x19)] Try.isAgg32 Try.sizeOf32 rfl hX) c17 ?_
      refine HPlan.takev (v := (.bool (!(decide (x11 = x18) && decide (x12 = x19))))) rfl rfl (fun _ => eqs32_neq rfl rfl) ?_
      refine HPlan.done ?_
      refine nt ?_
      obtain ⟨hT, hF⟩ := h
      refine HW.cond (!(decide (x11 = x18) && decide (x12 = x19))) rfl (fun hb20 => ?_) (fun hb20 => ?_)
      · have h := hT hb20
        clear hT hF
        refine HW.seq ?_
        refine HW.region ?_
        refine HList.vals (v := (.bool false)) rfl (HVal.assign' rfl) ?_
        refine HList.nil ?_
        refine nt ?_
        refine HW.ret ?_
        refine br ?_
        refine tr ?_
        refine tr ?_
        refine br ?_
        refine tr ?_
        exact ⟨_, resOf1 rfl Res1.t, ⟨false, rfl, h⟩⟩
      · have h := hF hb20
        clear hT hF
        refine HW.skip ?_
        refine nb ?_
        refine nt ?_
        refine HW.region ?_
        refine HList.vals (v := (.int .i64 y2)) rfl (HVal.move' rfl) ?_
        refine HList.vals (v := (.int .i64 (IntKind.i64.wrap (y2 + 1)))) rfl (HVal.add rfl rfl) ?_
        refine HList.vals (v := (.int .i64 (IntKind.i64.wrap (y2 + 1)))) rfl (HVal.assign' rfl) ?_
        refine HList.nil ?_
        refine nt ?_
        exact (hX1 _ _).1 h _ ⟨rfl, rfl, rfl, trivial⟩
    · have h := hF hb5
      clear hT hF
      refine HW.exit ?_
      refine te ?_
      refine te ?_
      refine be ?_
      refine nt ?_
      refine HW.seq ?_
      refine HW.region ?_
      refine HList.vals (v := (.bool true)) rfl (HVal.assign' rfl) ?_
      refine HList.nil ?_
      refine nt ?_
      refine HW.ret ?_
      exact ⟨_, resOf1 rfl Res1.t, ⟨true, rfl, h⟩⟩

def F26_L1b (Q : Bool → Hp → Prop) (X1 : Int → Hp → Prop) (y3 : Sl) (y4 : Sl) (y2 : Int) (H_1 : Hp) : Prop :=
((decide (y2 < ((y3).n : Int))) = true → (∃ a6 : Addr, (y3).b = some a6 ∧ (0 : Int) ≤ y2 ∧ y2 < ((y3).n : Int) ∧ (
 ∃ x11 : Int, cell H_1 (Addr.add a6 (y2.toNat * 1)) = some (.int .i64 x11) ∧ (
 ∃ a12 : Addr, (y4).b = some a12 ∧ (0 : Int) ≤ y2 ∧ y2 < ((y4).n : Int) ∧ (
 ∃ x17 : Int, cell H_1 (Addr.add a12 (y2.toNat * 1)) = some (.int .i64 x17) ∧ (
 ((decide (x11 ≠ x17)) = true → (Q false H_1)) ∧
 ((decide (x11 ≠ x17)) = false → (X1 (IntKind.i64.wrap (y2 + 1)) H_1)))))))) ∧
 ((decide (y2 < ((y3).n : Int))) = false → (Q true H_1))
def F26_L1 (Q : Bool → Hp → Prop) (y3 : Sl) (y4 : Sl) (y2 : Int) (H_1 : Hp) : Prop :=
  ∀ X1 : Int → Hp → Prop, (∀ (y2 : Int) (H_1 : Hp), F26_L1b Q X1 y3 y4 y2 H_1 → X1 y2 H_1) → X1 y2 H_1
def F26 (p0 : Sl) (p1 : Sl) (H : Hp) (Q : Bool → Hp → Prop) : Prop :=
((decide (((p0).n : Int) ≠ ((p1).n : Int))) = true → (Q false H)) ∧
 ((decide (((p0).n : Int) ≠ ((p1).n : Int))) = false → (F26_L1 Q p0 p1 0 H))
set_option maxRecDepth 100000 in
set_option maxHeartbeats 4000000 in
theorem walk26 {w0 : World} {p0 : Sl} {p1 : Sl} {H : Hp} {Q : Bool → Hp → Prop} (h : F26 p0 p1 H Q) :
    Good Try.prog w0 26 #[(Sl.v p0), (Sl.v p1)] H (fun v H => ∃ (r0 : Bool) , v = (.bool r0) ∧ Q r0 H) := by
  unfold F26 at h
  refine Good.enter' (fn := Try.f26) Try.func26 rfl rfl rfl ?_
  refine HW.seq ?_
  refine HW.region ?_
  refine HList.vals (v := (.bool false)) rfl (HVal.assign' rfl) ?_
  refine HList.nil ?_
  refine nt ?_
  refine HW.seq ?_
  refine HW.seq ?_
  refine HW.region ?_
  refine HList.vals (v := (Sl.v p0)) rfl (HVal.move' rfl) ?_
  refine HList.vals (v := (.int .i64 ((p0).n : Int))) rfl (HVal.len Try.runUnderlying50 rfl) ?_
  refine HList.vals (v := (Sl.v p1)) rfl (HVal.move' rfl) ?_
  refine HList.vals (v := (.int .i64 ((p1).n : Int))) rfl (HVal.len Try.runUnderlying50 rfl) ?_
  refine HList.vals (v := (.bool (decide (((p0).n : Int) ≠ ((p1).n : Int))))) rfl (HVal.neqI rfl rfl) ?_
  refine HList.nil ?_
  refine nt ?_
  obtain ⟨hT, hF⟩ := h
  refine HW.cond (decide (((p0).n : Int) ≠ ((p1).n : Int))) rfl (fun hb1 => ?_) (fun hb1 => ?_)
  · have h := hT hb1
    clear hT hF
    refine HW.seq ?_
    refine HW.region ?_
    refine HList.vals (v := (.bool false)) rfl (HVal.assign' rfl) ?_
    refine HList.nil ?_
    refine nt ?_
    refine HW.ret ?_
    refine tr ?_
    exact ⟨_, resOf1 rfl Res1.t, ⟨false, rfl, h⟩⟩
  · have h := hF hb1
    clear hT hF
    refine HW.skip ?_
    refine nt ?_
    refine HW.seq ?_
    refine HW.seq ?_
    refine HW.region ?_
    refine HList.vals (v := (.int .i64 0)) rfl (HVal.assign' rfl) ?_
    refine HList.nil ?_
    refine nt ?_
    refine HW.block ?_
    refine HW.loop' (fun L1 hL1 => ?_)
    obtain ⟨X1, hX1⟩ : ∃ X1 : Int → Hp → Prop, ∀ (y2 : Int) (H_1 : Hp), X1 y2 H_1 ↔ ∀ ρ, Env.Is ρ [(0, (Sl.v p0)), (1, (Sl.v p1)), (5, (.int .i64 y2))] → L1 ρ H_1 := ⟨_, fun _ _ => Iff.rfl⟩
    refine (hX1 _ _).1 (h X1 ?_) _ ?_
    rotate_left
    · exact ⟨rfl, rfl, rfl, trivial⟩
    clear h
    intro y2 H_1 h
    refine (hX1 _ _).2 fun ρ hI => ?_
    obtain ⟨ρ0, rfl⟩ : ∃ ρ0, ρ = (Env.set (Env.set (Env.set ρ0 5 (.int .i64 y2)) 1 (Sl.v p1)) 0 (Sl.v p0)) := ⟨ρ, hI.eq⟩
    clear hI; unfold F26_L1b at h; refine hL1 _ _ ?_
    refine HW.seq ?_
    refine HW.seq ?_
    refine HW.region ?_
    refine HList.vals (v := (.int .i64 y2)) rfl (HVal.move' rfl) ?_
    refine HList.vals (v := (Sl.v p0)) rfl (HVal.move' rfl) ?_
    refine HList.vals (v := (.int .i64 ((p0).n : Int))) rfl (HVal.len Try.runUnderlying50 rfl) ?_
    refine HList.vals (v := (.bool (decide (y2 < ((p0).n : Int))))) rfl (HVal.lss rfl rfl) ?_
    refine HList.nil ?_
    refine nt ?_
    obtain ⟨hT, hF⟩ := h
    refine HW.cond (decide (y2 < ((p0).n : Int))) rfl (fun hb5 => ?_) (fun hb5 => ?_)
    · have h := hT hb5
      clear hT hF
      refine HW.skip ?_
      refine nt ?_
      refine HW.seq ?_
      refine HW.block ?_
      refine HW.seq ?_
      refine HW.draw mixed [(0, some []), (1, some []), (2, some []), (3, some []), (4, some []), (5, some []), (6, some []), (7, some []), (8, some [])] rfl (by kernel_rfl) (by kernel_rfl) ?_
      refine HPlan.takev (v := (Sl.v p0)) rfl rfl (fun _ => HVal.move' rfl) ?_
      refine HPlan.takev (v := (.int .i64 y2)) rfl rfl (fun _ => HVal.move' rfl) ?_
      obtain ⟨a6, e7, b8, b9, h⟩ := h
      refine HPlan.takev (v := (.pointer (some (Addr.add a6 (y2.toNat * 1))))) rfl rfl (fun _ => HVal.indexAddr Try.runUnderlying50 Try.sizeOf3 (Sl.v_some rfl e7) rfl b8 b9) ?_
      obtain ⟨x11, c10, h⟩ := h
      refine HPlan.takel (v := (.int .i64 x11)) (fun X => cell X (Addr.add a6 (y2.toNat * 1)) = some (.int .i64 x11)) rfl rfl (fun _ hX => HVal.load1 Try.isAgg3 rfl hX) c10 ?_
      refine HPlan.takev (v := (Sl.v p1)) rfl rfl (fun _ => HVal.move' rfl) ?_
      refine HPlan.takev (v := (.int .i64 y2)) rfl rfl (fun _ => HVal.move' rfl) ?_
      obtain ⟨a12, e13, b14, b15, h⟩ := h
      refine HPlan.takev (v := (.pointer (some (Addr.add a12 (y2.toNat * 1))))) rfl rfl (fun _ => HVal.indexAddr Try.runUnderlying50 Try.sizeOf3 (Sl.v_some rfl e13) rfl b14 b15) ?_
      obtain ⟨x17, c16, h⟩ := h
      refine HPlan.takel (v := (.int .i64 x17)) (fun X => cell X (Addr.add a12 (y2.toNat * 1)) = some (.int .i64 x17)) rfl rfl (fun _ hX => HVal.load1 Try.isAgg3 rfl hX) c16 ?_
      refine HPlan.takev (v := (.bool (decide (x11 ≠ x17)))) rfl rfl (fun _ => HVal.neqI rfl rfl) ?_
      refine HPlan.done ?_
      refine nt ?_
      obtain ⟨hT, hF⟩ := h
      refine HW.cond (decide (x11 ≠ x17)) rfl (fun hb18 => ?_) (fun hb18 => ?_)
      · have h := hT hb18
        clear hT hF
        refine HW.seq ?_
        refine HW.region ?_
        refine HList.vals (v := (.bool false)) rfl (HVal.assign' rfl) ?_
        refine HList.nil ?_
        refine nt ?_
        refine HW.ret ?_
        refine br ?_
        refine tr ?_
        refine tr ?_
        refine br ?_
        refine tr ?_
        exact ⟨_, resOf1 rfl Res1.t, ⟨false, rfl, h⟩⟩
      · have h := hF hb18
        clear hT hF
        refine HW.skip ?_
        refine nb ?_
        refine nt ?_
        refine HW.region ?_
        refine HList.vals (v := (.int .i64 y2)) rfl (HVal.move' rfl) ?_
        refine HList.vals (v := (.int .i64 (IntKind.i64.wrap (y2 + 1)))) rfl (HVal.add rfl rfl) ?_
        refine HList.vals (v := (.int .i64 (IntKind.i64.wrap (y2 + 1)))) rfl (HVal.assign' rfl) ?_
        refine HList.nil ?_
        refine nt ?_
        exact (hX1 _ _).1 h _ ⟨rfl, rfl, rfl, trivial⟩
    · have h := hF hb5
      clear hT hF
      refine HW.exit ?_
      refine te ?_
      refine te ?_
      refine be ?_
      refine nt ?_
      refine HW.seq ?_
      refine HW.region ?_
      refine HList.vals (v := (.bool true)) rfl (HVal.assign' rfl) ?_
      refine HList.nil ?_
      refine nt ?_
      refine HW.ret ?_
      exact ⟨_, resOf1 rfl Res1.t, ⟨true, rfl, h⟩⟩

def F43_1 (Q : Int → Hp → Prop) (y1 : (Option Addr)) (y2 : (Option Addr)) (H_1 : Hp) : Prop :=
∃ a34 : Addr, y1 = some a34 ∧ (
 ∃ x37 : Sl, cell H_1 (Addr.add a34 1) = some (Sl.v x37) ∧ (
 ∀ H38 : Hp, H38 = Array.push H_1 (.cells #[(.pointer y2)] 87) → (
 AppendF H38 87 1 8 #[(.pointer none)] x37 ((Sl.mk (some ⟨H_1.size, 0, none⟩) 1 1)).b ((Sl.mk (some ⟨H_1.size, 0, none⟩) 1 1)).n (fun (r42 : Sl) (H40 : Hp) => 
 ∃ a43 : Addr, y1 = some a43 ∧ (
 (cell H40 (Addr.add a43 1)).isSome = true ∧ frz H40 (Addr.add a43 1) = false ∧ ∀ H45 : Hp, H45 = setc H40 (Addr.add a43 1) (Sl.v r42) → (
 ∃ a49 : Addr, y1 = some a49 ∧ (
 ∃ x52 : Sl, cell H45 (Addr.add a49 1) = some (Sl.v x52) ∧ (
 Q (IntKind.i64.wrap (((x52).n : Int) - 1)) H45))))))))
def F43_L2b (Q : Int → Hp → Prop) (X2 : Int → Hp → Prop) (y4 : (Option Addr)) (y5 : (Option Addr)) (y3 : Int) (H_2 : Hp) : Prop :=
∃ a6 : Addr, y4 = some a6 ∧ (
 ∃ x9 : Sl, cell H_2 (Addr.add a6 1) = some (Sl.v x9) ∧ (
 ((decide (y3 < ((x9).n : Int))) = true → (∃ a11 : Addr, y4 = some a11 ∧ (
 ∃ x14 : Sl, cell H_2 (Addr.add a11 1) = some (Sl.v x14) ∧ (
 ∃ a15 : Addr, (x14).b = some a15 ∧ (0 : Int) ≤ y3 ∧ y3 < ((x14).n : Int) ∧ (
 ∃ x20 : (Option Addr), cell H_2 (Addr.add a15 (y3.toNat * 1)) = some (.pointer x20) ∧ (
 ((x20.isNone) = true → (∃ a22 : Addr, y4 = some a22 ∧ (
 ∃ x25 : Sl, cell H_2 (Addr.add a22 1) = some (Sl.v x25) ∧ (
 ∃ a26 : Addr, (x25).b = some a26 ∧ (0 : Int) ≤ y3 ∧ y3 < ((x25).n : Int) ∧ (
 (cell H_2 (Addr.add a26 (y3.toNat * 1))).isSome = true ∧ frz H_2 (Addr.add a26 (y3.toNat * 1)) = false ∧ ∀ H30 : Hp, H30 = setc H_2 (Addr.add a26 (y3.toNat * 1)) (.pointer y5) → (
 Q y3 H30)))))) ∧
 ((x20.isNone) = false → (X2 (IntKind.i64.wrap (y3 + 1)) H_2)))))))) ∧
 ((decide (y3 < ((x9).n : Int))) = false → (F43_1 Q y4 y5 H_2))))
def F43_L2 (Q : Int → Hp → Prop) (y4 : (Option Addr)) (y5 : (Option Addr)) (y3 : Int) (H_2 : Hp) : Prop :=
  ∀ X2 : Int → Hp → Prop, (∀ (y3 : Int) (H_2 : Hp), F43_L2b Q X2 y4 y5 y3 H_2 → X2 y3 H_2) → X2 y3 H_2
def F43 (p0 : (Option Addr)) (p1 : (Option Addr)) (H : Hp) (Q : Int → Hp → Prop) : Prop :=
F43_L2 Q p0 p1 0 H
set_option maxRecDepth 100000 in
set_option maxHeartbeats 4000000 in
theorem walk43 {w0 : World} {p0 : (Option Addr)} {p1 : (Option Addr)} {H : Hp} {Q : Int → Hp → Prop} (h : F43 p0 p1 H Q) :
    Good Try.prog w0 43 #[(.pointer p0), (.pointer p1)] H (fun v H => ∃ (r0 : Int) , v = (.int .i64 r0) ∧ Q r0 H) := by
  unfold F43 at h
  refine Good.enter' (fn := Try.f43) Try.func43 rfl rfl rfl ?_
  refine HW.seq ?_
  refine HW.region ?_
  refine HList.vals (v := (.int .i64 0)) rfl (HVal.assign' rfl) ?_
  refine HList.nil ?_
  refine nt ?_
  refine HW.cut (fun ρ H_1 => Env.Is ρ [(0, (.pointer p0)), (1, (.pointer p1))] ∧ F43_1 Q p0 p1 H_1) ?_ ?_
  · refine HW.seq ?_
    refine HW.region ?_
    refine HList.vals (v := (.int .i64 0)) rfl (HVal.assign' rfl) ?_
    refine HList.nil ?_
    refine nt ?_
    refine HW.block ?_
    refine HW.loop' (fun L2 hL2 => ?_)
    obtain ⟨X2, hX2⟩ : ∃ X2 : Int → Hp → Prop, ∀ (y3 : Int) (H_2 : Hp), X2 y3 H_2 ↔ ∀ ρ, Env.Is ρ [(0, (.pointer p0)), (1, (.pointer p1)), (5, (.int .i64 y3))] → L2 ρ H_2 := ⟨_, fun _ _ => Iff.rfl⟩
    refine (hX2 _ _).1 (h X2 ?_) _ ?_
    rotate_left
    · exact ⟨rfl, rfl, rfl, trivial⟩
    clear h
    intro y3 H_2 h
    refine (hX2 _ _).2 fun ρ hI => ?_
    obtain ⟨ρ0, rfl⟩ : ∃ ρ0, ρ = (Env.set (Env.set (Env.set ρ0 5 (.int .i64 y3)) 1 (.pointer p1)) 0 (.pointer p0)) := ⟨ρ, hI.eq⟩
    clear hI; unfold F43_L2b at h; refine hL2 _ _ ?_
    refine HW.seq ?_
    refine HW.seq ?_
    refine HW.region ?_
    refine HList.vals (v := (.int .i64 y3)) rfl (HVal.move' rfl) ?_
    refine HList.vals (v := (.pointer p0)) rfl (HVal.move' rfl) ?_
    obtain ⟨a6, e7, h⟩ := h
    refine HList.vals (v := (.pointer (some a6))) rfl (HVal.nilCheck (congrArg Value.pointer e7)) ?_
    refine HList.vals (v := (.pointer (some (Addr.add a6 1)))) rfl (HVal.fieldAddr' Try.runUnderlying74 rfl rfl Try.sizeOf72 rfl) ?_
    obtain ⟨x9, c8, h⟩ := h
    refine HList.vals (v := (Sl.v x9)) rfl (HVal.load1 Try.isAgg72 rfl c8) ?_
    refine HList.vals (v := (.int .i64 ((x9).n : Int))) rfl (HVal.len Try.runUnderlying72 rfl) ?_
    refine HList.vals (v := (.bool (decide (y3 < ((x9).n : Int))))) rfl (HVal.lss rfl rfl) ?_
    refine HList.nil ?_
    refine nt ?_
    obtain ⟨hT, hF⟩ := h
    refine HW.cond (decide (y3 < ((x9).n : Int))) rfl (fun hb10 => ?_) (fun hb10 => ?_)
    · have h := hT hb10
      clear hT hF
      refine HW.skip ?_
      refine nt ?_
      refine HW.seq ?_
      refine HW.block ?_
      refine HW.seq ?_
      refine HW.region ?_
      refine HList.vals (v := (.pointer p0)) rfl (HVal.move' rfl) ?_
      obtain ⟨a11, e12, h⟩ := h
      refine HList.vals (v := (.pointer (some a11))) rfl (HVal.nilCheck (congrArg Value.pointer e12)) ?_
      refine HList.vals (v := (.pointer (some (Addr.add a11 1)))) rfl (HVal.fieldAddr' Try.runUnderlying74 rfl rfl Try.sizeOf72 rfl) ?_
      obtain ⟨x14, c13, h⟩ := h
      refine HList.vals (v := (Sl.v x14)) rfl (HVal.load1 Try.isAgg72 rfl c13) ?_
      refine HList.vals (v := (.int .i64 y3)) rfl (HVal.move' rfl) ?_
      obtain ⟨a15, e16, b17, b18, h⟩ := h
      refine HList.vals (v := (.pointer (some (Addr.add a15 (y3.toNat * 1))))) rfl (HVal.indexAddr Try.runUnderlying72 Try.sizeOf87 (Sl.v_some rfl e16) rfl b17 b18) ?_
      obtain ⟨x20, c19, h⟩ := h
      refine HList.vals (v := (.pointer x20)) rfl (HVal.load1 Try.isAgg87 rfl c19) ?_
      refine HList.vals (v := (.bool (x20.isNone))) rfl (HVal.eqlPN Try.underlying87 rfl rfl) ?_
      refine HList.nil ?_
      refine nt ?_
      obtain ⟨hT, hF⟩ := h
      refine HW.cond (x20.isNone) rfl (fun hb21 => ?_) (fun hb21 => ?_)
      · have h := hT hb21
        clear hT hF
        refine HW.seq ?_
        refine HW.region ?_
        refine HList.vals (v := (.pointer p0)) rfl (HVal.move' rfl) ?_
        obtain ⟨a22, e23, h⟩ := h
        refine HList.vals (v := (.pointer (some a22))) rfl (HVal.nilCheck (congrArg Value.pointer e23)) ?_
        refine HList.vals (v := (.pointer (some (Addr.add a22 1)))) rfl (HVal.fieldAddr' Try.runUnderlying74 rfl rfl Try.sizeOf72 rfl) ?_
        obtain ⟨x25, c24, h⟩ := h
        refine HList.vals (v := (Sl.v x25)) rfl (HVal.load1 Try.isAgg72 rfl c24) ?_
        refine HList.vals (v := (.int .i64 y3)) rfl (HVal.move' rfl) ?_
        refine HList.vals (v := (.pointer p1)) rfl (HVal.move' rfl) ?_
        obtain ⟨a26, e27, b28, b29, h⟩ := h
        refine HList.vals (v := (.pointer (some (Addr.add a26 (y3.toNat * 1))))) rfl (HVal.indexAddr Try.runUnderlying72 Try.sizeOf87 (Sl.v_some rfl e27) rfl b28 b29) ?_
        obtain ⟨z32, z33, h⟩ := h
        refine HList.opsn (HOp.store1 Try.sizeOf87 rfl rfl rfl z32 z33) ?_
        rintro _ H30 e31
        replace h := h H30 e31
        refine HList.nil ?_
        refine nt ?_
        refine HW.seq ?_
        refine HW.region ?_
        refine HList.vals (v := (.int .i64 y3)) rfl (HVal.move' rfl) ?_
        refine HList.vals (v := (.int .i64 y3)) rfl (HVal.assign' rfl) ?_
        refine HList.nil ?_
        refine nt ?_
        refine HW.ret ?_
        refine br ?_
        refine tr ?_
        refine tr ?_
        refine br ?_
        refine tr ?_
        exact ⟨_, resOf1 rfl Res1.t, ⟨y3, rfl, h⟩⟩
      · have h := hF hb21
        clear hT hF
        refine HW.skip ?_
        refine nb ?_
        refine nt ?_
        refine HW.region ?_
        refine HList.vals (v := (.int .i64 y3)) rfl (HVal.move' rfl) ?_
        refine HList.vals (v := (.int .i64 (IntKind.i64.wrap (y3 + 1)))) rfl (HVal.add rfl rfl) ?_
        refine HList.vals (v := (.int .i64 (IntKind.i64.wrap (y3 + 1)))) rfl (HVal.assign' rfl) ?_
        refine HList.nil ?_
        refine nt ?_
        exact (hX2 _ _).1 h _ ⟨rfl, rfl, rfl, trivial⟩
    · have h := hF hb10
      clear hT hF
      refine HW.exit ?_
      refine te ?_
      refine te ?_
      refine be ?_
      refine nt ?_
      exact ⟨⟨rfl, rfl, trivial⟩, h⟩
  · rintro ρ H_1 ⟨hI, h⟩
    obtain ⟨ρ0, rfl⟩ : ∃ ρ0, ρ = (Env.set (Env.set ρ0 1 (.pointer p1)) 0 (.pointer p0)) := ⟨ρ, hI.eq⟩
    clear hI; unfold F43_1 at h
    refine HW.seq ?_
    refine HW.region ?_
    refine HList.vals (v := (.pointer p0)) rfl (HVal.move' rfl) ?_
    refine HList.vals (v := (.pointer p0)) rfl (HVal.move' rfl) ?_
    obtain ⟨a34, e35, h⟩ := h
    refine HList.vals (v := (.pointer (some a34))) rfl (HVal.nilCheck (congrArg Value.pointer e35)) ?_
    refine HList.vals (v := (.pointer (some (Addr.add a34 1)))) rfl (HVal.fieldAddr' Try.runUnderlying74 rfl rfl Try.sizeOf72 rfl) ?_
    obtain ⟨x37, c36, h⟩ := h
    refine HList.vals (v := (Sl.v x37)) rfl (HVal.load1 Try.isAgg72 rfl c36) ?_
    refine HList.vals (v := (.pointer p1)) rfl (HVal.move' rfl) ?_
    refine HList.ops' rfl (HOp.buildSlice' (zs := [(.pointer none)]) (cs := [(.pointer p1)]) Try.runUnderlying72 Try.sizeOf87 Try.zeroValue87 (by decide) (by kernel_rfl) rfl (by decide)) ?_
    rintro _ H38 ⟨rfl, e39⟩
    replace h := h H38 e39
    refine HList.ops' rfl (HOp.append (k := 1) (b := 8) Try.runUnderlying72 Try.runUnderlying72 Try.typeInfo87 rfl rfl Try.zeroValue87 rfl rfl h) ?_
    rintro _ H40 ⟨r42, rfl, h⟩
    obtain ⟨a43, e44, h⟩ := h
    refine HList.vals (v := (.pointer (some a43))) rfl (HVal.nilCheck (congrArg Value.pointer e44)) ?_
    refine HList.vals (v := (.pointer (some (Addr.add a43 1)))) rfl (HVal.fieldAddr' Try.runUnderlying74 rfl rfl Try.sizeOf72 rfl) ?_
    obtain ⟨z47, z48, h⟩ := h
    refine HList.opsn (HOp.store1 Try.sizeOf72 rfl rfl rfl z47 z48) ?_
    rintro _ H45 e46
    replace h := h H45 e46
    refine HList.nil ?_
    refine nt ?_
    refine HW.seq ?_
    refine HW.region ?_
    refine HList.vals (v := (.pointer p0)) rfl (HVal.move' rfl) ?_
    obtain ⟨a49, e50, h⟩ := h
    refine HList.vals (v := (.pointer (some a49))) rfl (HVal.nilCheck (congrArg Value.pointer e50)) ?_
    refine HList.vals (v := (.pointer (some (Addr.add a49 1)))) rfl (HVal.fieldAddr' Try.runUnderlying74 rfl rfl Try.sizeOf72 rfl) ?_
    obtain ⟨x52, c51, h⟩ := h
    refine HList.vals (v := (Sl.v x52)) rfl (HVal.load1 Try.isAgg72 rfl c51) ?_
    refine HList.vals (v := (.int .i64 ((x52).n : Int))) rfl (HVal.len Try.runUnderlying72 rfl) ?_
    refine HList.vals (v := (.int .i64 (IntKind.i64.wrap (((x52).n : Int) - 1)))) rfl (HVal.sub rfl rfl) ?_
    refine HList.vals (v := (.int .i64 (IntKind.i64.wrap (((x52).n : Int) - 1)))) rfl (HVal.assign' rfl) ?_
    refine HList.nil ?_
    refine nt ?_
    refine HW.ret ?_
    exact ⟨_, resOf1 rfl Res1.t, ⟨(IntKind.i64.wrap (((x52).n : Int) - 1)), rfl, h⟩⟩

end Go.Hw
