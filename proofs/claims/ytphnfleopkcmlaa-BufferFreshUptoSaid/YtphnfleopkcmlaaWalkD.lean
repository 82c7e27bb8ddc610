/- The walks of this seat, printed by a program of this session (wip/tools/gen.py): of each function what it does to the heap, and that it does so. -/
import Derived.Test.YtphnfleopkcmlaaHwM
import Derived.Test.YtphnfleopkcmlaaProg
import Derived.Test.YtphnfleopkcmlaaWAux
import Derived.Test.YtphnfleopkcmlaaWalkC
set_option linter.unusedVariables false
set_option linter.unusedSimpArgs false
namespace Go.Hw
open Go Go.Proofs
def F24_9 (Q : Bool → Hp → Prop) (y187 : Addr) (H_9 : Hp) : Prop :=
F28 (some y187) H_9 (fun (r219 : Bool) (H217 : Hp) => 
 Q r219 H217)
def F24_L10b (Q : Bool → Hp → Prop) (X10 : Int → Hp → Prop) (y189 : Sl) (y190 : Sl) (y191 : Addr) (y188 : Int) (H_10 : Hp) : Prop :=
((decide (y188 < ((y189).n : Int))) = true → (∃ a193 : Addr, (y189).b = some a193 ∧ (0 : Int) ≤ y188 ∧ y188 < ((y189).n : Int) ∧ (
 ∃ x198 : Sl, cell H_10 (Addr.add a193 (y188.toNat * 1)) = some (Sl.v x198) ∧ (
 ∃ a199 : Addr, (y190).b = some a199 ∧ (0 : Int) ≤ y188 ∧ y188 < ((y190).n : Int) ∧ (
 ∃ x204 : Sl, cell H_10 (Addr.add a199 (y188.toNat * 1)) = some (Sl.v x204) ∧ (
 F23 x198 x204 H_10 (fun (r207 : Bool) (H205 : Hp) => 
 ((!r207) = true → (Q false H205)) ∧
 ((!r207) = false → (∃ a209 : Addr, (y189).b = some a209 ∧ (0 : Int) ≤ y188 ∧ y188 < ((y189).n : Int) ∧ (
 ∃ x214 : Sl, cell H205 (Addr.add a209 (y188.toNat * 1)) = some (Sl.v x214) ∧ (
 F25 (some y191) x214 H205 (fun (H215 : Hp) => 
 X10 (IntKind.i64.wrap (y188 + 1)) H215)))))))))))) ∧
 ((decide (y188 < ((y189).n : Int))) = false → (F24_9 Q y191 H_10))
def F24_L10 (Q : Bool → Hp → Prop) (y189 : Sl) (y190 : Sl) (y191 : Addr) (y188 : Int) (H_10 : Hp) : Prop :=
  ∀ X10 : Int → Hp → Prop, (∀ (y188 : Int) (H_10 : Hp), F24_L10b Q X10 y189 y190 y191 y188 H_10 → X10 y188 H_10) → X10 y188 H_10
def F24_7 (Q : Bool → Hp → Prop) (y153 : Sl) (y154 : Sl) (y155 : Addr) (H_7 : Hp) : Prop :=
F24_L10 Q y153 y154 y155 0 H_7
def F24_L8b (Q : Bool → Hp → Prop) (X8 : Int → Hp → Prop) (y157 : Sl) (y158 : Sl) (y159 : Sl) (y160 : Sl) (y161 : Addr) (y156 : Int) (H_8 : Hp) : Prop :=
((decide (y156 < ((y159).n : Int))) = true → (∃ a163 : Addr, (y159).b = some a163 ∧ (0 : Int) ≤ y156 ∧ y156 < ((y159).n : Int) ∧ (
 ∃ x168 : Sl, cell H_8 (Addr.add a163 (y156.toNat * 1)) = some (Sl.v x168) ∧ (
 ∃ a169 : Addr, (y160).b = some a169 ∧ (0 : Int) ≤ y156 ∧ y156 < ((y160).n : Int) ∧ (
 ∃ x174 : Sl, cell H_8 (Addr.add a169 (y156.toNat * 1)) = some (Sl.v x174) ∧ (
 F26 x168 x174 H_8 (fun (r177 : Bool) (H175 : Hp) => 
 ((!r177) = true → (Q false H175)) ∧
 ((!r177) = false → (∃ a179 : Addr, (y159).b = some a179 ∧ (0 : Int) ≤ y156 ∧ y156 < ((y159).n : Int) ∧ (
 ∃ x184 : Sl, cell H175 (Addr.add a179 (y156.toNat * 1)) = some (Sl.v x184) ∧ (
 F27 (some y161) x184 H175 (fun (H185 : Hp) => 
 X8 (IntKind.i64.wrap (y156 + 1)) H185)))))))))))) ∧
 ((decide (y156 < ((y159).n : Int))) = false → (F24_7 Q y157 y158 y161 H_8))
def F24_L8 (Q : Bool → Hp → Prop) (y157 : Sl) (y158 : Sl) (y159 : Sl) (y160 : Sl) (y161 : Addr) (y156 : Int) (H_8 : Hp) : Prop :=
  ∀ X8 : Int → Hp → Prop, (∀ (y156 : Int) (H_8 : Hp), F24_L8b Q X8 y157 y158 y159 y160 y161 y156 H_8 → X8 y156 H_8) → X8 y156 H_8
def F24_1 (Q : Bool → Hp → Prop) (y147 : Sl) (y148 : Sl) (y149 : Sl) (y150 : Sl) (H_1 : Hp) : Prop :=
∀ H151 : Hp, H151 = Array.push H_1 (.cells #[(Sl.v Sl.nil), (Sl.v Sl.nil), (.int .i64 0)] 64) → (
 F24_L8 Q y147 y148 y149 y150 ⟨H_1.size, 0, none⟩ 0 H151)
def F24_3 (Q : Bool → Hp → Prop) (X2 : Sl → Sl → Sl → Sl → Int → Int → Hp → Prop) (y16 : Sl) (y17 : (Option Addr)) (y18 : Int) (y142 : Sl) (y143 : Sl) (y144 : Sl) (y145 : Sl) (y146 : Int) (H_3 : Hp) : Prop :=
X2 y142 y143 y144 y145 y146 (IntKind.i64.wrap (y18 + 1)) H_3
def F24_6 (Q : Bool → Hp → Prop) (X2 : Sl → Sl → Sl → Sl → Int → Int → Hp → Prop) (X5 : Sl → Sl → Sl → Sl → Int → Int → Hp → Prop) (y98 : Sl) (y99 : (Option Addr)) (y100 : Sl) (y101 : Sl) (y102 : Sl) (y103 : Sl) (y104 : Int) (y105 : Int) (y106 : Addr) (y107 : Int) (y115 : Int) (H_6 : Hp) : Prop :=
F22 y99 y115 H_6 (fun (r118 : Sl) (r119 : Int) (H116 : Hp) => 
 ∃ x121 : Int, cell H116 (Addr.add y106 2) = some (.int .i64 x121) ∧ (
 F22 y99 x121 H116 (fun (r124 : Sl) (r125 : Int) (H122 : Hp) => 
 ∀ H126 : Hp, H126 = Array.push H122 (.cells #[(Sl.v r118), (Sl.v r124)] 41) → (
 AppendF H126 41 1 24 #[(Sl.v Sl.nil)] y100 ((Sl.mk (some ⟨H122.size, 0, none⟩) 2 2)).b ((Sl.mk (some ⟨H122.size, 0, none⟩) 2 2)).n (fun (r130 : Sl) (H128 : Hp) => 
 AppendF H128 32 2 16 #[(.int .i64 0), (.int .i64 0)] Sl.nil (r118).b (r118).n (fun (r133 : Sl) (H131 : Hp) => 
 AppendF H131 32 2 16 #[(.int .i64 0), (.int .i64 0)] Sl.nil (r124).b (r124).n (fun (r136 : Sl) (H134 : Hp) => 
 ∀ H137 : Hp, H137 = Array.push H134 (.cells #[(Sl.v r133), (Sl.v r136)] 41) → (
 AppendF H137 41 1 24 #[(Sl.v Sl.nil)] y101 ((Sl.mk (some ⟨H134.size, 0, none⟩) 2 2)).b ((Sl.mk (some ⟨H134.size, 0, none⟩) 2 2)).n (fun (r141 : Sl) (H139 : Hp) => 
 X5 r130 r141 y102 y103 (IntKind.i64.wrap ((IntKind.i64.wrap (y104 + ((r118).n : Int))) + ((r124).n : Int))) (IntKind.i64.wrap (y107 + 1)) H139)))))))))
def F24_L5b (Q : Bool → Hp → Prop) (X2 : Sl → Sl → Sl → Sl → Int → Int → Hp → Prop) (X5 : Sl → Sl → Sl → Sl → Int → Int → Hp → Prop) (y75 : Sl) (y76 : (Option Addr)) (y77 : Int) (y78 : Addr) (y69 : Sl) (y70 : Sl) (y71 : Sl) (y72 : Sl) (y73 : Int) (y74 : Int) (H_5 : Hp) : Prop :=
((decide (y74 < 2)) = true → (F21 y76 H_5 (fun (r82 : Sl) (H80 : Hp) => 
 ∀ H83 : Hp, H83 = Array.push H80 (.cells #[(Sl.v r82)] 50) → (
 AppendF H83 50 1 24 #[(Sl.v Sl.nil)] y71 ((Sl.mk (some ⟨H80.size, 0, none⟩) 1 1)).b ((Sl.mk (some ⟨H80.size, 0, none⟩) 1 1)).n (fun (r87 : Sl) (H85 : Hp) => 
 AppendF H85 3 1 8 #[(.int .i64 0)] Sl.nil (r82).b (r82).n (fun (r90 : Sl) (H88 : Hp) => 
 ∀ H91 : Hp, H91 = Array.push H88 (.cells #[(Sl.v r90)] 50) → (
 AppendF H91 50 1 24 #[(Sl.v Sl.nil)] y72 ((Sl.mk (some ⟨H88.size, 0, none⟩) 1 1)).b ((Sl.mk (some ⟨H88.size, 0, none⟩) 1 1)).n (fun (r95 : Sl) (H93 : Hp) => 
 ∃ x97 : Int, cell H93 (Addr.add y78 2) = some (.int .i64 x97) ∧ (
 ((decide ((0 : Int) < ((r82).n : Int))) = true → (∃ a109 : Addr, (r82).b = some a109 ∧ (0 : Int) ≤ (IntKind.i64.wrap (((r82).n : Int) - 1)) ∧ (IntKind.i64.wrap (((r82).n : Int) - 1)) < ((r82).n : Int) ∧ (
 ∃ x114 : Int, cell H93 (Addr.add a109 ((IntKind.i64.wrap (((r82).n : Int) - 1)).toNat * 1)) = some (.int .i64 x114) ∧ (
 F24_6 Q X2 X5 y75 y76 y69 y70 r87 r95 (IntKind.i64.wrap ((IntKind.i64.wrap (y73 + ((r82).n : Int))) + 30)) y77 y78 y74 x114 H93)))) ∧
 ((decide ((0 : Int) < ((r82).n : Int))) = false → (F24_6 Q X2 X5 y75 y76 y69 y70 r87 r95 (IntKind.i64.wrap ((IntKind.i64.wrap (y73 + ((r82).n : Int))) + 30)) y77 y78 y74 x97 H93))))))))))) ∧
 ((decide (y74 < 2)) = false → (F24_3 Q X2 y75 y76 y77 y69 y70 y71 y72 y73 H_5))
def F24_L5 (Q : Bool → Hp → Prop) (X2 : Sl → Sl → Sl → Sl → Int → Int → Hp → Prop) (y75 : Sl) (y76 : (Option Addr)) (y77 : Int) (y78 : Addr) (y69 : Sl) (y70 : Sl) (y71 : Sl) (y72 : Sl) (y73 : Int) (y74 : Int) (H_5 : Hp) : Prop :=
  ∀ X5 : Sl → Sl → Sl → Sl → Int → Int → Hp → Prop, (∀ (y69 : Sl) (y70 : Sl) (y71 : Sl) (y72 : Sl) (y73 : Int) (y74 : Int) (H_5 : Hp), F24_L5b Q X2 X5 y75 y76 y77 y78 y69 y70 y71 y72 y73 y74 H_5 → X5 y69 y70 y71 y72 y73 y74 H_5) → X5 y69 y70 y71 y72 y73 y74 H_5
def F24_4 (Q : Bool → Hp → Prop) (X2 : Sl → Sl → Sl → Sl → Int → Int → Hp → Prop) (y34 : Sl) (y35 : (Option Addr)) (y36 : Sl) (y37 : Sl) (y38 : Sl) (y39 : Sl) (y40 : Int) (y41 : Int) (y42 : Addr) (H_4 : Hp) : Prop :=
F24_L5 Q X2 y34 y35 y41 y42 y36 y37 y38 y39 y40 0 H_4
def F24_L2b (Q : Bool → Hp → Prop) (X2 : Sl → Sl → Sl → Sl → Int → Int → Hp → Prop) (y11 : Sl) (y12 : (Option Addr)) (y5 : Sl) (y6 : Sl) (y7 : Sl) (y8 : Sl) (y9 : Int) (y10 : Int) (H_2 : Hp) : Prop :=
((decide (y10 < ((y11).n : Int))) = true → (((decide (y9 < 524288)) = true → (∃ a19 : Addr, (y11).b = some a19 ∧ (0 : Int) ≤ y10 ∧ y10 < ((y11).n : Int) ∧ (
 ∃ (x24 : Int) (x25 : Int) (x26 : Int) (x27 : Int) (x28 : Int), cells H_2 (Addr.add a19 (y10.toNat * 5)) [(.int .i64 x24), (.int .i64 x25), (.int .i64 x26), (.int .i64 x27), (.int .i64 x28)] 0 ∧ (
 ∀ H29 : Hp, H29 = Array.push H_2 (.cells #[(.int .i64 0), (.int .i64 0), (.int .i64 0), (.int .i64 0), (.int .i64 0)] 34) → (
 mayw H29 ⟨H_2.size, 0, none⟩ 5 0 ∧ ∀ H31 : Hp, H31 = sets H29 ⟨H_2.size, 0, none⟩ [(.int .i64 x24), (.int .i64 x25), (.int .i64 x26), (.int .i64 x27), (.int .i64 x28)] 0 → (
 ∃ x44 : Int, cell H31 ⟨H_2.size, 0, none⟩ = some (.int .i64 x44) ∧ (
 ((decide (x44 = 1)) = true → (∃ (x47 : Int) (x48 : Int), cells H31 (Addr.add ⟨H_2.size, 0, none⟩ 3) [(.int .i64 x47), (.int .i64 x48)] 0 ∧ (
 F13 y12 x47 x48 H31 (fun (r51 : Int) (r52 : Int) (H49 : Hp) => 
 F24_4 Q X2 y11 y12 y5 y6 y7 y8 y9 y10 ⟨H_2.size, 0, none⟩ H49)))) ∧
 ((decide (x44 = 1)) = false → (((decide (x44 = 2)) = true → (∃ x55 : Int, cell H31 (Addr.add ⟨H_2.size, 0, none⟩ 2) = some (.int .i64 x55) ∧ (
 ∃ (x57 : Int) (x58 : Int), cells H31 (Addr.add ⟨H_2.size, 0, none⟩ 3) [(.int .i64 x57), (.int .i64 x58)] 0 ∧ (
 F14 y12 x55 x57 x58 H31 (fun (r61 : Int) (r62 : Int) (H59 : Hp) => 
 F24_4 Q X2 y11 y12 y5 y6 y7 y8 y9 y10 ⟨H_2.size, 0, none⟩ H59))))) ∧
 ((decide (x44 = 2)) = false → (((decide (x44 = 3)) = true → (∃ x65 : Int, cell H31 (Addr.add ⟨H_2.size, 0, none⟩ 2) = some (.int .i64 x65) ∧ (
 F16 y12 x65 H31 (fun (r68 : Int) (H66 : Hp) => 
 F24_4 Q X2 y11 y12 y5 y6 y7 y8 y9 y10 ⟨H_2.size, 0, none⟩ H66)))) ∧
 ((decide (x44 = 3)) = false → (F24_4 Q X2 y11 y12 y5 y6 y7 y8 y9 y10 ⟨H_2.size, 0, none⟩ H31))))))))))))) ∧
 ((decide (y9 < 524288)) = false → (F24_1 Q y5 y6 y7 y8 H_2)))) ∧
 ((decide (y10 < ((y11).n : Int))) = false → (F24_1 Q y5 y6 y7 y8 H_2))
def F24_L2 (Q : Bool → Hp → Prop) (y11 : Sl) (y12 : (Option Addr)) (y5 : Sl) (y6 : Sl) (y7 : Sl) (y8 : Sl) (y9 : Int) (y10 : Int) (H_2 : Hp) : Prop :=
  ∀ X2 : Sl → Sl → Sl → Sl → Int → Int → Hp → Prop, (∀ (y5 : Sl) (y6 : Sl) (y7 : Sl) (y8 : Sl) (y9 : Int) (y10 : Int) (H_2 : Hp), F24_L2b Q X2 y11 y12 y5 y6 y7 y8 y9 y10 H_2 → X2 y5 y6 y7 y8 y9 y10 H_2) → X2 y5 y6 y7 y8 y9 y10 H_2
def F24 (p0 : Int) (p1 : Sl) (H : Hp) (Q : Bool → Hp → Prop) : Prop :=
F12 p0 H (fun (r3 : (Option Addr)) (H1 : Hp) => 
 ((r3.isNone) = true → (Q false H1)) ∧
 ((r3.isNone) = false → (F24_L2 Q p1 r3 Sl.nil Sl.nil Sl.nil Sl.nil 0 0 H1)))
set_option maxRecDepth 100000 in
set_option maxHeartbeats 4000000 in
theorem walk24 {w0 : World} {p0 : Int} {p1 : Sl} {H : Hp} {Q : Bool → Hp → Prop} (h : F24 p0 p1 H Q) :
    Good Try.prog w0 24 #[(.int .i64 p0), (Sl.v p1)] H (fun v H => ∃ (r0 : Bool) , v = (.bool r0) ∧ Q r0 H) := by
  unfold F24 at h
  refine Good.enter' (fn := Try.f24) Try.func24 rfl rfl rfl ?_
  refine HW.seq ?_
  refine HW.region ?_
  refine HList.vals (v := (.bool false)) rfl (HVal.assign' rfl) ?_
  refine HList.nil ?_
  refine nt ?_
  refine HW.seq ?_
  refine HW.region ?_
  refine HList.vals (v := (.int .i64 p0)) rfl (HVal.move' rfl) ?_
  refine HList.ops' rfl (HOp.call' 12 [(.int .i64 p0)] (cap := []) rfl rfl Try.call12 (walk12 h)) ?_
  rintro _ H1 ⟨r3, rfl, h⟩
  refine HList.vals (v := (.pointer r3)) rfl (HVal.assign' rfl) ?_
  refine HList.nil ?_
  refine nt ?_
  refine HW.seq ?_
  refine HW.seq ?_
  refine HW.region ?_
  refine HList.vals (v := (.pointer r3)) rfl (HVal.move' rfl) ?_
  refine HList.vals (v := (.bool (r3.isNone))) rfl (HVal.eqlPN Try.underlying24 rfl rfl) ?_
  refine HList.nil ?_
  refine nt ?_
  obtain ⟨hT, hF⟩ := h
  refine HW.cond (r3.isNone) rfl (fun hb4 => ?_) (fun hb4 => ?_)
  · have h := hT hb4
    clear hT hF
    refine HW.seq ?_
    refine HW.region ?_
    refine HList.vals (v := (.bool false)) rfl (HVal.assign' rfl) ?_
    refine HList.nil ?_
    refine nt ?_
    refine HW.ret ?_
    refine tr ?_
    exact ⟨_, resOf1 rfl Res1.t, ⟨false, rfl, h⟩⟩
  · have h := hF hb4
    clear hT hF
    refine HW.skip ?_
    refine nt ?_
    refine HW.seq ?_
    refine HW.region ?_
    refine HList.vals (v := (Sl.v Sl.nil)) rfl (HVal.assign' rfl) ?_
    refine HList.vals (v := (Sl.v Sl.nil)) rfl (HVal.assign' rfl) ?_
    refine HList.nil ?_
    refine nt ?_
    refine HW.seq ?_
    refine HW.region ?_
    refine HList.vals (v := (Sl.v Sl.nil)) rfl (HVal.assign' rfl) ?_
    refine HList.vals (v := (Sl.v Sl.nil)) rfl (HVal.assign' rfl) ?_
    refine HList.nil ?_
    refine nt ?_
    refine HW.seq ?_
    refine HW.region ?_
    refine HList.vals (v := (.int .i64 0)) rfl (HVal.assign' rfl) ?_
    refine HList.nil ?_
    refine nt ?_
    refine HW.cut (fun ρ H_1 => ∃ (y147 : Sl) (y148 : Sl) (y149 : Sl) (y150 : Sl), Env.Is ρ [(6, (Sl.v y147)), (7, (Sl.v y148)), (8, (Sl.v y149)), (9, (Sl.v y150))] ∧ F24_1 Q y147 y148 y149 y150 H_1) ?_ ?_
    · refine HW.seq ?_
      refine HW.region ?_
      refine HList.vals (v := (.int .i64 0)) rfl (HVal.assign' rfl) ?_
      refine HList.nil ?_
      refine nt ?_
      refine HW.block ?_
      refine HW.loop' (fun L2 hL2 => ?_)
      obtain ⟨X2, hX2⟩ : ∃ X2 : Sl → Sl → Sl → Sl → Int → Int → Hp → Prop, ∀ (y5 : Sl) (y6 : Sl) (y7 : Sl) (y8 : Sl) (y9 : Int) (y10 : Int) (H_2 : Hp), X2 y5 y6 y7 y8 y9 y10 H_2 ↔ ∀ ρ, Env.Is ρ [(1, (Sl.v p1)), (5, (.pointer r3)), (6, (Sl.v y5)), (7, (Sl.v y6)), (8, (Sl.v y7)), (9, (Sl.v y8)), (10, (.int .i64 y9)), (11, (.int .i64 y10))] → L2 ρ H_2 := ⟨_, fun _ _ _ _ _ _ _ => Iff.rfl⟩
      refine (hX2 _ _ _ _ _ _ _).1 (h X2 ?_) _ ?_
      rotate_left
      · exact ⟨rfl, rfl, rfl, rfl, rfl, rfl, rfl, rfl, trivial⟩
      clear h
      intro y5 y6 y7 y8 y9 y10 H_2 h
      refine (hX2 _ _ _ _ _ _ _).2 fun ρ hI => ?_
      obtain ⟨ρ0, rfl⟩ : ∃ ρ0, ρ = (Env.set (Env.set (Env.set (Env.set (Env.set (Env.set (Env.set (Env.set ρ0 11 (.int .i64 y10)) 10 (.int .i64 y9)) 9 (Sl.v y8)) 8 (Sl.v y7)) 7 (Sl.v y6)) 6 (Sl.v y5)) 5 (.pointer r3)) 1 (Sl.v p1)) := ⟨ρ, hI.eq⟩
      clear hI; unfold F24_L2b at h; refine hL2 _ _ ?_
      refine HW.seq ?_
      refine HW.seq ?_
      refine HW.region ?_
      refine HList.vals (v := (.int .i64 y10)) rfl (HVal.move' rfl) ?_
      refine HList.vals (v := (Sl.v p1)) rfl (HVal.move' rfl) ?_
      refine HList.vals (v := (.int .i64 ((p1).n : Int))) rfl (HVal.len Try.runUnderlying22 rfl) ?_
      refine HList.vals (v := (.bool (decide (y10 < ((p1).n : Int))))) rfl (HVal.lss rfl rfl) ?_
      refine HList.vals (v := (.bool (decide (y10 < ((p1).n : Int))))) rfl (HVal.move' rfl) ?_
      obtain ⟨hT, hF⟩ := h
      rcases Bool.eq_false_or_eq_true (decide (y10 < ((p1).n : Int))) with hb13 | hb14
      · have h := hT hb13
        clear hT hF
        refine HList.gvals (v := (.int .i64 y9)) rfl rfl rfl rfl (congrArg Value.bool hb13) (HVal.move' rfl) ?_
        refine HList.gvals (v := (.bool (decide (y9 < 524288)))) rfl rfl rfl rfl (congrArg Value.bool hb13) (HVal.lss rfl rfl) ?_
        refine HList.vals (v := (.bool (decide (y9 < 524288)))) rfl (HVal.pickT rfl hb13 rfl) ?_
        refine HList.nil ?_
        refine nt ?_
        obtain ⟨hT, hF⟩ := h
        refine HW.cond (decide (y9 < 524288)) rfl (fun hb15 => ?_) (fun hb15 => ?_)
        · have h := hT hb15
          clear hT hF
          refine HW.skip ?_
          refine nt ?_
          refine HW.cut (fun ρ H_3 => ∃ (y142 : Sl) (y143 : Sl) (y144 : Sl) (y145 : Sl) (y146 : Int), Env.Is ρ [(1, (Sl.v p1)), (5, (.pointer r3)), (11, (.int .i64 y10)), (6, (Sl.v y142)), (7, (Sl.v y143)), (8, (Sl.v y144)), (9, (Sl.v y145)), (10, (.int .i64 y146))] ∧ F24_3 Q X2 p1 r3 y10 y142 y143 y144 y145 y146 H_3) ?_ ?_
          · refine HW.block ?_
            refine HW.seq ?_
            refine HW.region ?_
            refine HList.vals (v := (Sl.v p1)) rfl (HVal.move' rfl) ?_
            refine HList.vals (v := (.int .i64 y10)) rfl (HVal.move' rfl) ?_
            obtain ⟨a19, e20, b21, b22, h⟩ := h
            refine HList.vals (v := (.pointer (some (Addr.add a19 (y10.toNat * 5))))) rfl (HVal.indexAddr Try.runUnderlying22 Try.sizeOf34 (Sl.v_some rfl e20) rfl b21 b22) ?_
            obtain ⟨x24, x25, x26, x27, x28, c23, h⟩ := h
            refine HList.vals (v := (.agg #[(.int .i64 x24), (.int .i64 x25), (.int .i64 x26), (.int .i64 x27), (.int .i64 x28)])) rfl (HVal.loadN [(.int .i64 x24), (.int .i64 x25), (.int .i64 x26), (.int .i64 x27), (.int .i64 x28)] Try.isAgg34 Try.sizeOf34 rfl c23) ?_
            refine HList.ops' rfl (HOp.alloc Try.zeroValue34) ?_
            rintro _ H29 ⟨rfl, e30⟩
            replace h := h H29 e30
            obtain ⟨z33, h⟩ := h
            refine HList.opsn (HOp.storeN' (l := [(.int .i64 x24), (.int .i64 x25), (.int .i64 x26), (.int .i64 x27), (.int .i64 x28)]) Try.sizeOf34 rfl rfl rfl z33) ?_
            rintro _ H31 e32
            replace h := h H31 e32
            refine HList.nil ?_
            refine nt ?_
            refine HW.cut (fun ρ H_4 => Env.Is ρ [(1, (Sl.v p1)), (5, (.pointer r3)), (6, (Sl.v y5)), (7, (Sl.v y6)), (8, (Sl.v y7)), (9, (Sl.v y8)), (10, (.int .i64 y9)), (11, (.int .i64 y10)), (12, (.pointer (some ⟨H_2.size, 0, none⟩)))] ∧ F24_4 Q X2 p1 r3 y5 y6 y7 y8 y9 y10 ⟨H_2.size, 0, none⟩ H_4) ?_ ?_
            · refine HW.seq ?_
              refine HW.region ?_
              refine HList.vals (v := (.pointer (some ⟨H_2.size, 0, none⟩))) rfl (HVal.fieldAddr0 Try.runUnderlying34 rfl rfl Try.sizeOf3 rfl) ?_
              obtain ⟨x44, c43, h⟩ := h
              refine HList.vals (v := (.int .i64 x44)) rfl (HVal.load1 Try.isAgg3 rfl c43) ?_
              refine HList.nil ?_
              refine nt ?_
              refine HW.block ?_
              refine HW.seq ?_
              refine HW.region ?_
              refine HList.vals (v := (.bool (decide (x44 = 1)))) rfl (HVal.eqlI rfl rfl) ?_
              refine HList.vals (v := (.bool (decide (x44 = 1)))) rfl (HVal.assign' rfl) ?_
              refine HList.nil ?_
              refine nt ?_
              obtain ⟨hT, hF⟩ := h
              refine HW.cond (decide (x44 = 1)) rfl (fun hb45 => ?_) (fun hb45 => ?_)
              · have h := hT hb45
                clear hT hF
                refine HW.region ?_
                refine HList.vals (v := (.pointer r3)) rfl (HVal.move' rfl) ?_
                refine HList.vals (v := (.pointer (some (Addr.add ⟨H_2.size, 0, none⟩ 3)))) rfl (HVal.fieldAddr' Try.runUnderlying34 rfl rfl Try.sizeOf32 rfl) ?_
                obtain ⟨x47, x48, c46, h⟩ := h
                refine HList.vals (v := (.agg #[(.int .i64 x47), (.int .i64 x48)])) rfl (HVal.loadN [(.int .i64 x47), (.int .i64 x48)] Try.isAgg32 Try.sizeOf32 rfl c46) ?_
                refine HList.ops' rfl (HOp.call' 13 [(.pointer r3), (.agg #[(.int .i64 x47), (.int .i64 x48)])] (cap := []) rfl rfl Try.call13 (walk13 h)) ?_
                rintro _ H49 ⟨r51, r52, rfl, h⟩
                refine HList.nil ?_
                refine nb ?_
                refine nt ?_
                exact ⟨⟨rfl, rfl, rfl, rfl, rfl, rfl, rfl, rfl, rfl, trivial⟩, h⟩
              · have h := hF hb45
                clear hT hF
                refine HW.seq ?_
                refine HW.region ?_
                refine HList.vals (v := (.bool (decide (x44 = 2)))) rfl (HVal.eqlI rfl rfl) ?_
                refine HList.vals (v := (.bool (decide (x44 = 2)))) rfl (HVal.assign' rfl) ?_
                refine HList.nil ?_
                refine nt ?_
                obtain ⟨hT, hF⟩ := h
                refine HW.cond (decide (x44 = 2)) rfl (fun hb53 => ?_) (fun hb53 => ?_)
                · have h := hT hb53
                  clear hT hF
                  refine HW.region ?_
                  refine HList.vals (v := (.pointer r3)) rfl (HVal.move' rfl) ?_
                  refine HList.vals (v := (.pointer (some (Addr.add ⟨H_2.size, 0, none⟩ 2)))) rfl (HVal.fieldAddr' Try.runUnderlying34 rfl rfl Try.sizeOf3 rfl) ?_
                  obtain ⟨x55, c54, h⟩ := h
                  refine HList.vals (v := (.int .i64 x55)) rfl (HVal.load1 Try.isAgg3 rfl c54) ?_
                  refine HList.vals (v := (.pointer (some (Addr.add ⟨H_2.size, 0, none⟩ 3)))) rfl (HVal.fieldAddr' Try.runUnderlying34 rfl rfl Try.sizeOf32 rfl) ?_
                  obtain ⟨x57, x58, c56, h⟩ := h
                  refine HList.vals (v := (.agg #[(.int .i64 x57), (.int .i64 x58)])) rfl (HVal.loadN [(.int .i64 x57), (.int .i64 x58)] Try.isAgg32 Try.sizeOf32 rfl c56) ?_
                  refine HList.ops' rfl (HOp.call' 14 [(.pointer r3), (.int .i64 x55), (.agg #[(.int .i64 x57), (.int .i64 x58)])] (cap := []) rfl rfl Try.call14 (walk14 h)) ?_
                  rintro _ H59 ⟨r61, r62, rfl, h⟩
                  refine HList.nil ?_
                  refine nb ?_
                  refine nt ?_
                  exact ⟨⟨rfl, rfl, rfl, rfl, rfl, rfl, rfl, rfl, rfl, trivial⟩, h⟩
                · have h := hF hb53
                  clear hT hF
                  refine HW.seq ?_
                  refine HW.region ?_
                  refine HList.vals (v := (.bool (decide (x44 = 3)))) rfl (HVal.eqlI rfl rfl) ?_
                  refine HList.vals (v := (.bool (decide (x44 = 3)))) rfl (HVal.assign' rfl) ?_
                  refine HList.nil ?_
                  refine nt ?_
                  obtain ⟨hT, hF⟩ := h
                  refine HW.cond (decide (x44 = 3)) rfl (fun hb63 => ?_) (fun hb63 => ?_)
                  · have h := hT hb63
                    clear hT hF
                    refine HW.region ?_
                    refine HList.vals (v := (.pointer r3)) rfl (HVal.move' rfl) ?_
                    refine HList.vals (v := (.pointer (some (Addr.add ⟨H_2.size, 0, none⟩ 2)))) rfl (HVal.fieldAddr' Try.runUnderlying34 rfl rfl Try.sizeOf3 rfl) ?_
                    obtain ⟨x65, c64, h⟩ := h
                    refine HList.vals (v := (.int .i64 x65)) rfl (HVal.load1 Try.isAgg3 rfl c64) ?_
                    refine HList.ops' rfl (HOp.call' 16 [(.pointer r3), (.int .i64 x65)] (cap := []) rfl rfl Try.call16 (walk16 h)) ?_
                    rintro _ H66 ⟨r68, rfl, h⟩
                    refine HList.nil ?_
                    refine nb ?_
                    refine nt ?_
                    exact ⟨⟨rfl, rfl, rfl, rfl, rfl, rfl, rfl, rfl, rfl, trivial⟩, h⟩
                  · have h := hF hb63
                    clear hT hF
                    refine HW.skip ?_
                    refine nb ?_
                    refine nt ?_
                    exact ⟨⟨rfl, rfl, rfl, rfl, rfl, rfl, rfl, rfl, rfl, trivial⟩, h⟩
            · rintro ρ H_4 ⟨hI, h⟩
              obtain ⟨ρ0, rfl⟩ : ∃ ρ0, ρ = (Env.set (Env.set (Env.set (Env.set (Env.set (Env.set (Env.set (Env.set (Env.set ρ0 12 (.pointer (some ⟨H_2.size, 0, none⟩))) 11 (.int .i64 y10)) 10 (.int .i64 y9)) 9 (Sl.v y8)) 8 (Sl.v y7)) 7 (Sl.v y6)) 6 (Sl.v y5)) 5 (.pointer r3)) 1 (Sl.v p1)) := ⟨ρ, hI.eq⟩
              clear hI; unfold F24_4 at h
              refine HW.seq ?_
              refine HW.region ?_
              refine HList.vals (v := (.int .i64 0)) rfl (HVal.assign' rfl) ?_
              refine HList.nil ?_
              refine nt ?_
              refine HW.block ?_
              refine HW.loop' (fun L5 hL5 => ?_)
              obtain ⟨X5, hX5⟩ : ∃ X5 : Sl → Sl → Sl → Sl → Int → Int → Hp → Prop, ∀ (y69 : Sl) (y70 : Sl) (y71 : Sl) (y72 : Sl) (y73 : Int) (y74 : Int) (H_5 : Hp), X5 y69 y70 y71 y72 y73 y74 H_5 ↔ ∀ ρ, Env.Is ρ [(1, (Sl.v p1)), (5, (.pointer r3)), (11, (.int .i64 y10)), (12, (.pointer (some ⟨H_2.size, 0, none⟩))), (6, (Sl.v y69)), (7, (Sl.v y70)), (8, (Sl.v y71)), (9, (Sl.v y72)), (10, (.int .i64 y73)), (13, (.int .i64 y74))] → L5 ρ H_5 := ⟨_, fun _ _ _ _ _ _ _ => Iff.rfl⟩
              refine (hX5 _ _ _ _ _ _ _).1 (h X5 ?_) _ ?_
              rotate_left
              · exact ⟨rfl, rfl, rfl, rfl, rfl, rfl, rfl, rfl, rfl, rfl, trivial⟩
              clear h
              intro y69 y70 y71 y72 y73 y74 H_5 h
              refine (hX5 _ _ _ _ _ _ _).2 fun ρ hI => ?_
              obtain ⟨ρ0, rfl⟩ : ∃ ρ0, ρ = (Env.set (Env.set (Env.set (Env.set (Env.set (Env.set (Env.set (Env.set (Env.set (Env.set ρ0 13 (.int .i64 y74)) 10 (.int .i64 y73)) 9 (Sl.v y72)) 8 (Sl.v y71)) 7 (Sl.v y70)) 6 (Sl.v y69)) 12 (.pointer (some ⟨H_2.size, 0, none⟩))) 11 (.int .i64 y10)) 5 (.pointer r3)) 1 (Sl.v p1)) := ⟨ρ, hI.eq⟩
              clear hI; unfold F24_L5b at h; refine hL5 _ _ ?_
              refine HW.seq ?_
              refine HW.seq ?_
              refine HW.region ?_
              refine HList.vals (v := (.int .i64 y74)) rfl (HVal.move' rfl) ?_
              refine HList.vals (v := (.bool (decide (y74 < 2)))) rfl (HVal.lss rfl rfl) ?_
              refine HList.nil ?_
              refine nt ?_
              obtain ⟨hT, hF⟩ := h
              refine HW.cond (decide (y74 < 2)) rfl (fun hb79 => ?_) (fun hb79 => ?_)
              · have h := hT hb79
                clear hT hF
                refine HW.skip ?_
                refine nt ?_
                refine HW.seq ?_
                refine HW.block ?_
                refine HW.seq ?_
                refine HW.region ?_
                refine HList.vals (v := (.pointer r3)) rfl (HVal.move' rfl) ?_
                refine HList.ops' rfl (HOp.call' 21 [(.pointer r3)] (cap := []) rfl rfl Try.call21 (walk21 h)) ?_
                rintro _ H80 ⟨r82, rfl, h⟩
                refine HList.vals (v := (Sl.v r82)) rfl (HVal.assign' rfl) ?_
                refine HList.nil ?_
                refine nt ?_
                refine HW.seq ?_
                refine HW.region ?_
                refine HList.vals (v := (.int .i64 y73)) rfl (HVal.move' rfl) ?_
                refine HList.vals (v := (Sl.v r82)) rfl (HVal.move' rfl) ?_
                refine HList.vals (v := (.int .i64 ((r82).n : Int))) rfl (HVal.len Try.runUnderlying50 rfl) ?_
                refine HList.vals (v := (.int .i64 (IntKind.i64.wrap (y73 + ((r82).n : Int))))) rfl (HVal.add rfl rfl) ?_
                refine HList.vals (v := (.int .i64 (IntKind.i64.wrap ((IntKind.i64.wrap (y73 + ((r82).n : Int))) + 30)))) rfl (HVal.add rfl rfl) ?_
                refine HList.vals (v := (.int .i64 (IntKind.i64.wrap ((IntKind.i64.wrap (y73 + ((r82).n : Int))) + 30)))) rfl (HVal.assign' rfl) ?_
                refine HList.nil ?_
                refine nt ?_
                refine HW.seq ?_
                refine HW.region ?_
                refine HList.vals (v := (Sl.v y71)) rfl (HVal.move' rfl) ?_
                refine HList.vals (v := (Sl.v r82)) rfl (HVal.move' rfl) ?_
                refine HList.ops' rfl (HOp.buildSlice' (zs := [(Sl.v Sl.nil)]) (cs := [(Sl.v r82)]) Try.runUnderlying62 Try.sizeOf50 Try.zeroValue50 (by decide) (by kernel_rfl) rfl (by decide)) ?_
                rintro _ H83 ⟨rfl, e84⟩
                replace h := h H83 e84
                refine HList.ops' rfl (HOp.append (k := 1) (b := 24) Try.runUnderlying62 Try.runUnderlying62 Try.typeInfo50 rfl rfl Try.zeroValue50 rfl rfl h) ?_
                rintro _ H85 ⟨r87, rfl, h⟩
                refine HList.vals (v := (Sl.v r87)) rfl (HVal.assign' rfl) ?_
                refine HList.nil ?_
                refine nt ?_
                refine HW.seq ?_
                refine HW.region ?_
                refine HList.vals (v := (Sl.v y72)) rfl (HVal.move' rfl) ?_
                refine HList.vals (v := (Sl.v r82)) rfl (HVal.move' rfl) ?_
                refine HList.ops' rfl (HOp.append (k := 1) (b := 8) Try.runUnderlying50 Try.runUnderlying50 Try.typeInfo3 rfl rfl Try.zeroValue3 rfl rfl h) ?_
                rintro _ H88 ⟨r90, rfl, h⟩
                refine HList.ops' rfl (HOp.buildSlice' (zs := [(Sl.v Sl.nil)]) (cs := [(Sl.v r90)]) Try.runUnderlying62 Try.sizeOf50 Try.zeroValue50 (by decide) (by kernel_rfl) rfl (by decide)) ?_
                rintro _ H91 ⟨rfl, e92⟩
                replace h := h H91 e92
                refine HList.ops' rfl (HOp.append (k := 1) (b := 24) Try.runUnderlying62 Try.runUnderlying62 Try.typeInfo50 rfl rfl Try.zeroValue50 rfl rfl h) ?_
                rintro _ H93 ⟨r95, rfl, h⟩
                refine HList.vals (v := (Sl.v r95)) rfl (HVal.assign' rfl) ?_
                refine HList.nil ?_
                refine nt ?_
                refine HW.seq ?_
                refine HW.region ?_
                refine HList.vals (v := (.pointer (some (Addr.add ⟨H_2.size, 0, none⟩ 2)))) rfl (HVal.fieldAddr' Try.runUnderlying34 rfl rfl Try.sizeOf3 rfl) ?_
                obtain ⟨x97, c96, h⟩ := h
                refine HList.vals (v := (.int .i64 x97)) rfl (HVal.load1 Try.isAgg3 rfl c96) ?_
                refine HList.vals (v := (.int .i64 x97)) rfl (HVal.assign' rfl) ?_
                refine HList.nil ?_
                refine nt ?_
                refine HW.cut (fun ρ H_6 => ∃ (y115 : Int), Env.Is ρ [(1, (Sl.v p1)), (5, (.pointer r3)), (6, (Sl.v y69)), (7, (Sl.v y70)), (8, (Sl.v r87)), (9, (Sl.v r95)), (10, (.int .i64 (IntKind.i64.wrap ((IntKind.i64.wrap (y73 + ((r82).n : Int))) + 30)))), (11, (.int .i64 y10)), (12, (.pointer (some ⟨H_2.size, 0, none⟩))), (13, (.int .i64 y74)), (15, (.int .i64 y115))] ∧ F24_6 Q X2 X5 p1 r3 y69 y70 r87 r95 (IntKind.i64.wrap ((IntKind.i64.wrap (y73 + ((r82).n : Int))) + 30)) y10 ⟨H_2.size, 0, none⟩ y74 y115 H_6) ?_ ?_
                · refine HW.seq ?_
                  refine HW.region ?_
                  refine HList.vals (v := (Sl.v r82)) rfl (HVal.move' rfl) ?_
                  refine HList.vals (v := (.int .i64 ((r82).n : Int))) rfl (HVal.len Try.runUnderlying50 rfl) ?_
                  refine HList.vals (v := (.bool (decide ((0 : Int) < ((r82).n : Int))))) rfl (HVal.gtr rfl rfl) ?_
                  refine HList.nil ?_
                  refine nt ?_
                  obtain ⟨hT, hF⟩ := h
                  refine HW.cond (decide ((0 : Int) < ((r82).n : Int))) rfl (fun hb108 => ?_) (fun hb108 => ?_)
                  · have h := hT hb108
                    clear hT hF
                    refine HW.region ?_
                    refine HList.vals (v := (Sl.v r82)) rfl (HVal.move' rfl) ?_
                    refine HList.vals (v := (Sl.v r82)) rfl (HVal.move' rfl) ?_
                    refine HList.vals (v := (.int .i64 ((r82).n : Int))) rfl (HVal.len Try.runUnderlying50 rfl) ?_
                    refine HList.vals (v := (.int .i64 (IntKind.i64.wrap (((r82).n : Int) - 1)))) rfl (HVal.sub rfl rfl) ?_
                    obtain ⟨a109, e110, b111, b112, h⟩ := h
                    refine HList.vals (v := (.pointer (some (Addr.add a109 ((IntKind.i64.wrap (((r82).n : Int) - 1)).toNat * 1))))) rfl (HVal.indexAddr Try.runUnderlying50 Try.sizeOf3 (Sl.v_some rfl e110) rfl b111 b112) ?_
                    obtain ⟨x114, c113, h⟩ := h
                    refine HList.vals (v := (.int .i64 x114)) rfl (HVal.load1 Try.isAgg3 rfl c113) ?_
                    refine HList.vals (v := (.int .i64 x114)) rfl (HVal.assign' rfl) ?_
                    refine HList.nil ?_
                    refine nt ?_
                    exact ⟨x114, ⟨rfl, rfl, rfl, rfl, rfl, rfl, rfl, rfl, rfl, rfl, rfl, trivial⟩, h⟩
                  · have h := hF hb108
                    clear hT hF
                    refine HW.skip ?_
                    refine nt ?_
                    exact ⟨x97, ⟨rfl, rfl, rfl, rfl, rfl, rfl, rfl, rfl, rfl, rfl, rfl, trivial⟩, h⟩
                · rintro ρ H_6 ⟨y115, hI, h⟩
                  obtain ⟨ρ0, rfl⟩ : ∃ ρ0, ρ = (Env.set (Env.set (Env.set (Env.set (Env.set (Env.set (Env.set (Env.set (Env.set (Env.set (Env.set ρ0 15 (.int .i64 y115)) 13 (.int .i64 y74)) 12 (.pointer (some ⟨H_2.size, 0, none⟩))) 11 (.int .i64 y10)) 10 (.int .i64 (IntKind.i64.wrap ((IntKind.i64.wrap (y73 + ((r82).n : Int))) + 30)))) 9 (Sl.v r95)) 8 (Sl.v r87)) 7 (Sl.v y70)) 6 (Sl.v y69)) 5 (.pointer r3)) 1 (Sl.v p1)) := ⟨ρ, hI.eq⟩
                  clear hI; unfold F24_6 at h
                  refine HW.seq ?_
                  refine HW.region ?_
                  refine HList.vals (v := (.pointer r3)) rfl (HVal.move' rfl) ?_
                  refine HList.vals (v := (.int .i64 y115)) rfl (HVal.move' rfl) ?_
                  refine HList.ops' rfl (HOp.call' 22 [(.pointer r3), (.int .i64 y115)] (cap := []) rfl rfl Try.call22 (walk22 h)) ?_
                  rintro _ H116 ⟨r118, r119, rfl, h⟩
                  refine HList.vals (v := (.tuple #[(Sl.v r118), (.int .i64 r119)])) rfl (HVal.move' rfl) ?_
                  refine HList.vals (v := (Sl.v r118)) rfl (HVal.extract rfl rfl) ?_
                  refine HList.vals (v := (.int .i64 r119)) rfl (HVal.extract rfl rfl) ?_
                  refine HList.vals (v := (Sl.v r118)) rfl (HVal.assign' rfl) ?_
                  refine HList.vals (v := (.int .i64 r119)) rfl (HVal.assign' rfl) ?_
                  refine HList.nil ?_
                  refine nt ?_
                  refine HW.seq ?_
                  refine HW.region ?_
                  refine HList.vals (v := (.pointer r3)) rfl (HVal.move' rfl) ?_
                  refine HList.vals (v := (.pointer (some (Addr.add ⟨H_2.size, 0, none⟩ 2)))) rfl (HVal.fieldAddr' Try.runUnderlying34 rfl rfl Try.sizeOf3 rfl) ?_
                  obtain ⟨x121, c120, h⟩ := h
                  refine HList.vals (v := (.int .i64 x121)) rfl (HVal.load1 Try.isAgg3 rfl c120) ?_
                  refine HList.ops' rfl (HOp.call' 22 [(.pointer r3), (.int .i64 x121)] (cap := []) rfl rfl Try.call22 (walk22 h)) ?_
                  rintro _ H122 ⟨r124, r125, rfl, h⟩
                  refine HList.vals (v := (.tuple #[(Sl.v r124), (.int .i64 r125)])) rfl (HVal.move' rfl) ?_
                  refine HList.vals (v := (Sl.v r124)) rfl (HVal.extract rfl rfl) ?_
                  refine HList.vals (v := (.int .i64 r125)) rfl (HVal.extract rfl rfl) ?_
                  refine HList.vals (v := (Sl.v r124)) rfl (HVal.assign' rfl) ?_
                  refine HList.vals (v := (.int .i64 r125)) rfl (HVal.assign' rfl) ?_
                  refine HList.nil ?_
                  refine nt ?_
                  refine HW.seq ?_
                  refine HW.region ?_
                  refine HList.vals (v := (.int .i64 (IntKind.i64.wrap ((IntKind.i64.wrap (y73 + ((r82).n : Int))) + 30)))) rfl (HVal.move' rfl) ?_
                  refine HList.vals (v := (Sl.v r118)) rfl (HVal.move' rfl) ?_
                  refine HList.vals (v := (.int .i64 ((r118).n : Int))) rfl (HVal.len Try.runUnderlying41 rfl) ?_
                  refine HList.vals (v := (.int .i64 (IntKind.i64.wrap ((IntKind.i64.wrap ((IntKind.i64.wrap (y73 + ((r82).n : Int))) + 30)) + ((r118).n : Int))))) rfl (HVal.add rfl rfl) ?_
                  refine HList.vals (v := (Sl.v r124)) rfl (HVal.move' rfl) ?_
                  refine HList.vals (v := (.int .i64 ((r124).n : Int))) rfl (HVal.len Try.runUnderlying41 rfl) ?_
                  refine HList.vals (v := (.int .i64 (IntKind.i64.wrap ((IntKind.i64.wrap ((IntKind.i64.wrap ((IntKind.i64.wrap (y73 + ((r82).n : Int))) + 30)) + ((r118).n : Int))) + ((r124).n : Int))))) rfl (HVal.add rfl rfl) ?_
                  refine HList.vals (v := (.int .i64 (IntKind.i64.wrap ((IntKind.i64.wrap ((IntKind.i64.wrap ((IntKind.i64.wrap (y73 + ((r82).n : Int))) + 30)) + ((r118).n : Int))) + ((r124).n : Int))))) rfl (HVal.assign' rfl) ?_
                  refine HList.nil ?_
                  refine nt ?_
                  refine HW.seq ?_
                  refine HW.region ?_
                  refine HList.vals (v := (Sl.v y69)) rfl (HVal.move' rfl) ?_
                  refine HList.vals (v := (Sl.v r118)) rfl (HVal.move' rfl) ?_
                  refine HList.vals (v := (Sl.v r124)) rfl (HVal.move' rfl) ?_
                  refine HList.ops' rfl (HOp.buildSlice' (zs := [(Sl.v Sl.nil), (Sl.v Sl.nil)]) (cs := [(Sl.v r118), (Sl.v r124)]) Try.runUnderlying61 Try.sizeOf41 Try.zeroValue41 (by decide) (by kernel_rfl) rfl (by decide)) ?_
                  rintro _ H126 ⟨rfl, e127⟩
                  replace h := h H126 e127
                  refine HList.ops' rfl (HOp.append (k := 1) (b := 24) Try.runUnderlying61 Try.runUnderlying61 Try.typeInfo41 rfl rfl Try.zeroValue41 rfl rfl h) ?_
                  rintro _ H128 ⟨r130, rfl, h⟩
                  refine HList.vals (v := (Sl.v r130)) rfl (HVal.assign' rfl) ?_
                  refine HList.nil ?_
                  refine nt ?_
                  refine HW.region ?_
                  refine HList.vals (v := (Sl.v y70)) rfl (HVal.move' rfl) ?_
                  refine HList.vals (v := (Sl.v r118)) rfl (HVal.move' rfl) ?_
                  refine HList.ops' rfl (HOp.append (k := 2) (b := 16) Try.runUnderlying41 Try.runUnderlying41 Try.typeInfo32 rfl rfl Try.zeroValue32 rfl rfl h) ?_
                  rintro _ H131 ⟨r133, rfl, h⟩
                  refine HList.vals (v := (Sl.v r124)) rfl (HVal.move' rfl) ?_
                  refine HList.ops' rfl (HOp.append (k := 2) (b := 16) Try.runUnderlying41 Try.runUnderlying41 Try.typeInfo32 rfl rfl Try.zeroValue32 rfl rfl h) ?_
                  rintro _ H134 ⟨r136, rfl, h⟩
                  refine HList.ops' rfl (HOp.buildSlice' (zs := [(Sl.v Sl.nil), (Sl.v Sl.nil)]) (cs := [(Sl.v r133), (Sl.v r136)]) Try.runUnderlying61 Try.sizeOf41 Try.zeroValue41 (by decide) (by kernel_rfl) rfl (by decide)) ?_
                  rintro _ H137 ⟨rfl, e138⟩
                  replace h := h H137 e138
                  refine HList.ops' rfl (HOp.append (k := 1) (b := 24) Try.runUnderlying61 Try.runUnderlying61 Try.typeInfo41 rfl rfl Try.zeroValue41 rfl rfl h) ?_
                  rintro _ H139 ⟨r141, rfl, h⟩
                  refine HList.vals (v := (Sl.v r141)) rfl (HVal.assign' rfl) ?_
                  refine HList.nil ?_
                  refine nb ?_
                  refine nt ?_
                  refine HW.region ?_
                  refine HList.vals (v := (.int .i64 y74)) rfl (HVal.move' rfl) ?_
                  refine HList.vals (v := (.int .i64 (IntKind.i64.wrap (y74 + 1)))) rfl (HVal.add rfl rfl) ?_
                  refine HList.vals (v := (.int .i64 (IntKind.i64.wrap (y74 + 1)))) rfl (HVal.assign' rfl) ?_
                  refine HList.nil ?_
                  refine nt ?_
                  exact (hX5 _ _ _ _ _ _ _).1 h _ ⟨rfl, rfl, rfl, rfl, rfl, rfl, rfl, rfl, rfl, rfl, trivial⟩
              · have h := hF hb79
                clear hT hF
                refine HW.exit ?_
                refine te ?_
                refine te ?_
                refine be ?_
                refine nb ?_
                refine nt ?_
                exact ⟨y69, y70, y71, y72, y73, ⟨rfl, rfl, rfl, rfl, rfl, rfl, rfl, rfl, trivial⟩, h⟩
          · rintro ρ H_3 ⟨y142, y143, y144, y145, y146, hI, h⟩
            obtain ⟨ρ0, rfl⟩ : ∃ ρ0, ρ = (Env.set (Env.set (Env.set (Env.set (Env.set (Env.set (Env.set (Env.set ρ0 10 (.int .i64 y146)) 9 (Sl.v y145)) 8 (Sl.v y144)) 7 (Sl.v y143)) 6 (Sl.v y142)) 11 (.int .i64 y10)) 5 (.pointer r3)) 1 (Sl.v p1)) := ⟨ρ, hI.eq⟩
            clear hI; unfold F24_3 at h
            refine HW.region ?_
            refine HList.vals (v := (.int .i64 y10)) rfl (HVal.move' rfl) ?_
            refine HList.vals (v := (.int .i64 (IntKind.i64.wrap (y10 + 1)))) rfl (HVal.add rfl rfl) ?_
            refine HList.vals (v := (.int .i64 (IntKind.i64.wrap (y10 + 1)))) rfl (HVal.assign' rfl) ?_
            refine HList.nil ?_
            refine nt ?_
            exact (hX2 _ _ _ _ _ _ _).1 h _ ⟨rfl, rfl, rfl, rfl, rfl, rfl, rfl, rfl, trivial⟩
        · have h := hF hb15
          clear hT hF
          refine HW.exit ?_
          refine te ?_
          refine te ?_
          refine be ?_
          refine nt ?_
          exact ⟨y5, y6, y7, y8, ⟨rfl, rfl, rfl, rfl, trivial⟩, h⟩
      · have h := hF hb14
        clear hT hF
        refine HList.gskips rfl rfl rfl rfl (congrArg Value.bool hb14) ?_
        refine HList.gskips rfl rfl rfl rfl (congrArg Value.bool hb14) ?_
        refine HList.vals (v := (.bool false)) rfl (HVal.pickF rfl hb14 rfl) ?_
        refine HList.nil ?_
        refine nt ?_
        refine HW.condF false rfl rfl ?_
        refine HW.exit ?_
        refine te ?_
        refine te ?_
        refine be ?_
        refine nt ?_
        exact ⟨y5, y6, y7, y8, ⟨rfl, rfl, rfl, rfl, trivial⟩, h⟩
    · rintro ρ H_1 ⟨y147, y148, y149, y150, hI, h⟩
      obtain ⟨ρ0, rfl⟩ : ∃ ρ0, ρ = (Env.set (Env.set (Env.set (Env.set ρ0 9 (Sl.v y150)) 8 (Sl.v y149)) 7 (Sl.v y148)) 6 (Sl.v y147)) := ⟨ρ, hI.eq⟩
      clear hI; unfold F24_1 at h
      refine HW.seq ?_
      refine HW.region ?_
      refine HList.vals (v := (.agg #[(Sl.v Sl.nil), (Sl.v Sl.nil), (.int .i64 0)])) rfl (HVal.build' (cs := [(Sl.v Sl.nil), (Sl.v Sl.nil), (.int .i64 0)]) Try.runUnderlying64 Try.zeroValue64 places64 rfl) ?_
      refine HList.ops' rfl (HOp.box (v := (.agg #[(Sl.v Sl.nil), (Sl.v Sl.nil), (.int .i64 0)])) rfl) ?_
      rintro _ H151 ⟨rfl, e152⟩
      replace h := h H151 e152
      refine HList.vals (v := (.pointer (some ⟨H_1.size, 0, none⟩))) rfl (HVal.assign' rfl) ?_
      refine HList.nil ?_
      refine nt ?_
      refine HW.cut (fun ρ H_7 => Env.Is ρ [(6, (Sl.v y147)), (7, (Sl.v y148)), (20, (.pointer (some ⟨H_1.size, 0, none⟩)))] ∧ F24_7 Q y147 y148 ⟨H_1.size, 0, none⟩ H_7) ?_ ?_
      · refine HW.seq ?_
        refine HW.region ?_
        refine HList.vals (v := (.int .i64 0)) rfl (HVal.assign' rfl) ?_
        refine HList.nil ?_
        refine nt ?_
        refine HW.block ?_
        refine HW.loop' (fun L8 hL8 => ?_)
        obtain ⟨X8, hX8⟩ : ∃ X8 : Int → Hp → Prop, ∀ (y156 : Int) (H_8 : Hp), X8 y156 H_8 ↔ ∀ ρ, Env.Is ρ [(6, (Sl.v y147)), (7, (Sl.v y148)), (8, (Sl.v y149)), (9, (Sl.v y150)), (20, (.pointer (some ⟨H_1.size, 0, none⟩))), (21, (.int .i64 y156))] → L8 ρ H_8 := ⟨_, fun _ _ => Iff.rfl⟩
        refine (hX8 _ _).1 (h X8 ?_) _ ?_
        rotate_left
        · exact ⟨rfl, rfl, rfl, rfl, rfl, rfl, trivial⟩
        clear h
        intro y156 H_8 h
        refine (hX8 _ _).2 fun ρ hI => ?_
        obtain ⟨ρ0, rfl⟩ : ∃ ρ0, ρ = (Env.set (Env.set (Env.set (Env.set (Env.set (Env.set ρ0 21 (.int .i64 y156)) 20 (.pointer (some ⟨H_1.size, 0, none⟩))) 9 (Sl.v y150)) 8 (Sl.v y149)) 7 (Sl.v y148)) 6 (Sl.v y147)) := ⟨ρ, hI.eq⟩
        clear hI; unfold F24_L8b at h; refine hL8 _ _ ?_
        refine HW.seq ?_
        refine HW.seq ?_
        refine HW.region ?_
        refine HList.vals (v := (.int .i64 y156)) rfl (HVal.move' rfl) ?_
        refine HList.vals (v := (Sl.v y149)) rfl (HVal.move' rfl) ?_
        refine HList.vals (v := (.int .i64 ((y149).n : Int))) rfl (HVal.len Try.runUnderlying62 rfl) ?_
        refine HList.vals (v := (.bool (decide (y156 < ((y149).n : Int))))) rfl (HVal.lss rfl rfl) ?_
        refine HList.nil ?_
        refine nt ?_
        obtain ⟨hT, hF⟩ := h
        refine HW.cond (decide (y156 < ((y149).n : Int))) rfl (fun hb162 => ?_) (fun hb162 => ?_)
        · have h := hT hb162
          clear hT hF
          refine HW.skip ?_
          refine nt ?_
          refine HW.seq ?_
          refine HW.block ?_
          refine HW.seq ?_
          refine HW.seq ?_
          refine HW.draw mixed [(0, some []), (1, some []), (2, some []), (3, some [8]), (4, some []), (5, some []), (6, some []), (7, some [8]), (8, none), (9, some [])] rfl (by kernel_rfl) (by kernel_rfl) ?_
          refine HPlan.takev (v := (Sl.v y149)) rfl rfl (fun _ => HVal.move' rfl) ?_
          refine HPlan.takev (v := (.int .i64 y156)) rfl rfl (fun _ => HVal.move' rfl) ?_
          obtain ⟨a163, e164, b165, b166, h⟩ := h
          refine HPlan.takev (v := (.pointer (some (Addr.add a163 (y156.toNat * 1))))) rfl rfl (fun _ => HVal.indexAddr Try.runUnderlying62 Try.sizeOf50 (Sl.v_some rfl e164) rfl b165 b166) ?_
          obtain ⟨x168, c167, h⟩ := h
          refine HPlan.takel (v := (Sl.v x168)) (fun X => cell X (Addr.add a163 (y156.toNat * 1)) = some (Sl.v x168)) rfl rfl (fun _ hX => HVal.load1 Try.isAgg50 rfl hX) c167 ?_
          refine HPlan.takev (v := (Sl.v y150)) rfl rfl (fun _ => HVal.move' rfl) ?_
          refine HPlan.takev (v := (.int .i64 y156)) rfl rfl (fun _ => HVal.move' rfl) ?_
          obtain ⟨a169, e170, b171, b172, h⟩ := h
          refine HPlan.takev (v := (.pointer (some (Addr.add a169 (y156.toNat * 1))))) rfl rfl (fun _ => HVal.indexAddr Try.runUnderlying62 Try.sizeOf50 (Sl.v_some rfl e170) rfl b171 b172) ?_
          obtain ⟨x174, c173, h⟩ := h
          refine HPlan.takel (v := (Sl.v x174)) (fun X => cell X (Addr.add a169 (y156.toNat * 1)) = some (Sl.v x174)) rfl rfl (fun _ hX => HVal.load1 Try.isAgg50 rfl hX) c173 ?_
          refine HPlan.ops' rfl rfl (HOp.call' 26 [(Sl.v x168), (Sl.v x174)] (cap := []) rfl rfl Try.call26 (walk26 h)) ?_
          rintro _ H175 ⟨r177, rfl, h⟩
          refine ⟨SC_of ⟨fun e => absurd e (by decide), fun e => absurd e (by decide), trivial⟩, ?_⟩
          refine HPlan.takev (v := (.bool (!r177))) rfl rfl (fun _ => HVal.not rfl) ?_
          refine HPlan.done ?_
          refine nt ?_
          obtain ⟨hT, hF⟩ := h
          refine HW.cond (!r177) rfl (fun hb178 => ?_) (fun hb178 => ?_)
          · have h := hT hb178
            clear hT hF
            refine HW.seq ?_
            refine HW.region ?_
            refine HList.vals (v := (.bool false)) rfl (HVal.assign' rfl) ?_
            refine HList.nil ?_
            refine nt ?_
            refine HW.ret ?_
            refine tr ?_
            refine br ?_
            refine tr ?_
            refine tr ?_
            refine br ?_
            refine tr ?_
            exact ⟨_, resOf1 rfl Res1.t, ⟨false, rfl, h⟩⟩
          · have h := hF hb178
            clear hT hF
            refine HW.skip ?_
            refine nt ?_
            refine HW.region ?_
            refine HList.vals (v := (.pointer (some ⟨H_1.size, 0, none⟩))) rfl (HVal.move' rfl) ?_
            refine HList.vals (v := (Sl.v y149)) rfl (HVal.move' rfl) ?_
            refine HList.vals (v := (.int .i64 y156)) rfl (HVal.move' rfl) ?_
            obtain ⟨a179, e180, b181, b182, h⟩ := h
            refine HList.vals (v := (.pointer (some (Addr.add a179 (y156.toNat * 1))))) rfl (HVal.indexAddr Try.runUnderlying62 Try.sizeOf50 (Sl.v_some rfl e180) rfl b181 b182) ?_
            obtain ⟨x184, c183, h⟩ := h
            refine HList.vals (v := (Sl.v x184)) rfl (HVal.load1 Try.isAgg50 rfl c183) ?_
            refine HList.ops' rfl (HOp.call' 27 [(.pointer (some ⟨H_1.size, 0, none⟩)), (Sl.v x184)] (cap := []) rfl rfl Try.call27 (walk27 h)) ?_
            rintro _ H185 ⟨rfl, h⟩
            refine HList.nil ?_
            refine nb ?_
            refine nt ?_
            refine HW.region ?_
            refine HList.vals (v := (.int .i64 y156)) rfl (HVal.move' rfl) ?_
            refine HList.vals (v := (.int .i64 (IntKind.i64.wrap (y156 + 1)))) rfl (HVal.add rfl rfl) ?_
            refine HList.vals (v := (.int .i64 (IntKind.i64.wrap (y156 + 1)))) rfl (HVal.assign' rfl) ?_
            refine HList.nil ?_
            refine nt ?_
            exact (hX8 _ _).1 h _ ⟨rfl, rfl, rfl, rfl, rfl, rfl, trivial⟩
        · have h := hF hb162
          clear hT hF
          refine HW.exit ?_
          refine te ?_
          refine te ?_
          refine be ?_
          refine nt ?_
          exact ⟨⟨rfl, rfl, rfl, trivial⟩, h⟩
      · rintro ρ H_7 ⟨hI, h⟩
        obtain ⟨ρ0, rfl⟩ : ∃ ρ0, ρ = (Env.set (Env.set (Env.set ρ0 20 (.pointer (some ⟨H_1.size, 0, none⟩))) 7 (Sl.v y148)) 6 (Sl.v y147)) := ⟨ρ, hI.eq⟩
        clear hI; unfold F24_7 at h
        refine HW.cut (fun ρ H_9 => Env.Is ρ [(20, (.pointer (some ⟨H_1.size, 0, none⟩)))] ∧ F24_9 Q ⟨H_1.size, 0, none⟩ H_9) ?_ ?_
        · refine HW.seq ?_
          refine HW.region ?_
          refine HList.vals (v := (.int .i64 0)) rfl (HVal.assign' rfl) ?_
          refine HList.nil ?_
          refine nt ?_
          refine HW.block ?_
          refine HW.loop' (fun L10 hL10 => ?_)
          obtain ⟨X10, hX10⟩ : ∃ X10 : Int → Hp → Prop, ∀ (y188 : Int) (H_10 : Hp), X10 y188 H_10 ↔ ∀ ρ, Env.Is ρ [(6, (Sl.v y147)), (7, (Sl.v y148)), (20, (.pointer (some ⟨H_1.size, 0, none⟩))), (22, (.int .i64 y188))] → L10 ρ H_10 := ⟨_, fun _ _ => Iff.rfl⟩
          refine (hX10 _ _).1 (h X10 ?_) _ ?_
          rotate_left
          · exact ⟨rfl, rfl, rfl, rfl, trivial⟩
          clear h
          intro y188 H_10 h
          refine (hX10 _ _).2 fun ρ hI => ?_
          obtain ⟨ρ0, rfl⟩ : ∃ ρ0, ρ = (Env.set (Env.set (Env.set (Env.set ρ0 22 (.int .i64 y188)) 20 (.pointer (some ⟨H_1.size, 0, none⟩))) 7 (Sl.v y148)) 6 (Sl.v y147)) := ⟨ρ, hI.eq⟩
          clear hI; unfold F24_L10b at h; refine hL10 _ _ ?_
          refine HW.seq ?_
          refine HW.seq ?_
          refine HW.region ?_
          refine HList.vals (v := (.int .i64 y188)) rfl (HVal.move' rfl) ?_
          refine HList.vals (v := (Sl.v y147)) rfl (HVal.move' rfl) ?_
          refine HList.vals (v := (.int .i64 ((y147).n : Int))) rfl (HVal.len Try.runUnderlying61 rfl) ?_
          refine HList.vals (v := (.bool (decide (y188 < ((y147).n : Int))))) rfl (HVal.lss rfl rfl) ?_
          refine HList.nil ?_
          refine nt ?_
          obtain ⟨hT, hF⟩ := h
          refine HW.cond (decide (y188 < ((y147).n : Int))) rfl (fun hb192 => ?_) (fun hb192 => ?_)
          · have h := hT hb192
            clear hT hF
            refine HW.skip ?_
            refine nt ?_
            refine HW.seq ?_
            refine HW.block ?_
            refine HW.seq ?_
            refine HW.seq ?_
            refine HW.draw mixed [(0, some []), (1, some []), (2, some []), (3, some [8]), (4, some []), (5, some []), (6, some []), (7, some [8]), (8, none), (9, some [])] rfl (by kernel_rfl) (by kernel_rfl) ?_
            refine HPlan.takev (v := (Sl.v y147)) rfl rfl (fun _ => HVal.move' rfl) ?_
            refine HPlan.takev (v := (.int .i64 y188)) rfl rfl (fun _ => HVal.move' rfl) ?_
            obtain ⟨a193, e194, b195, b196, h⟩ := h
            refine HPlan.takev (v := (.pointer (some (Addr.add a193 (y188.toNat * 1))))) rfl rfl (fun _ => HVal.indexAddr Try.runUnderlying61 Try.sizeOf41 (Sl.v_some rfl e194) rfl b195 b196) ?_
            obtain ⟨x198, c197, h⟩ := h
            refine HPlan.takel (v := (Sl.v x198)) (fun X => cell X (Addr.add a193 (y188.toNat * 1)) = some (Sl.v x198)) rfl rfl (fun _ hX => HVal.load1 Try.isAgg41 rfl hX) c197 ?_
            refine HPlan.takev (v := (Sl.v y148)) rfl rfl (fun _ => HVal.move' rfl) ?_
            refine HPlan.takev (v := (.int .i64 y188)) rfl rfl (fun _ => HVal.move' rfl) ?_
            obtain ⟨a199, e200, b201, b202, h⟩ := h
            refine HPlan.takev (v := (.pointer (some (Addr.add a199 (y188.toNat * 1))))) rfl rfl (fun _ => HVal.indexAddr Try.runUnderlying61 Try.sizeOf41 (Sl.v_some rfl e200) rfl b201 b202) ?_
            obtain ⟨x204, c203, h⟩ := h
            refine HPlan.takel (v := (Sl.v x204)) (fun X => cell X (Addr.add a199 (y188.toNat * 1)) = some (Sl.v x204)) rfl rfl (fun _ hX => HVal.load1 Try.isAgg41 rfl hX) c203 ?_
            refine HPlan.ops' rfl rfl (HOp.call' 23 [(Sl.v x198), (Sl.v x204)] (cap := []) rfl rfl Try.call23 (walk23 h)) ?_
            rintro _ H205 ⟨r207, rfl, h⟩
            refine ⟨SC_of ⟨fun e => absurd e (by decide), fun e => absurd e (by decide), trivial⟩, ?_⟩
            refine HPlan.takev (v := (.bool (!r207))) rfl rfl (fun _ => HVal.not rfl) ?_
            refine HPlan.done ?_
            refine nt ?_
            obtain ⟨hT, hF⟩ := h
            refine HW.cond (!r207) rfl (fun hb208 => ?_) (fun hb208 => ?_)
            · have h := hT hb208
              clear hT hF
              refine HW.seq ?_
              refine HW.region ?_
              refine HList.vals (v := (.bool false)) rfl (HVal.assign' rfl) ?_
              refine HList.nil ?_
              refine nt ?_
              refine HW.ret ?_
              refine tr ?_
              refine br ?_
              refine tr ?_
              refine tr ?_
              refine br ?_
              refine tr ?_
              exact ⟨_, resOf1 rfl Res1.t, ⟨false, rfl, h⟩⟩
            · have h := hF hb208
              clear hT hF
              refine HW.skip ?_
              refine nt ?_
              refine HW.region ?_
              refine HList.vals (v := (.pointer (some ⟨H_1.size, 0, none⟩))) rfl (HVal.move' rfl) ?_
              refine HList.vals (v := (Sl.v y147)) rfl (HVal.move' rfl) ?_
              refine HList.vals (v := (.int .i64 y188)) rfl (HVal.move' rfl) ?_
              obtain ⟨a209, e210, b211, b212, h⟩ := h
              refine HList.vals (v := (.pointer (some (Addr.add a209 (y188.toNat * 1))))) rfl (HVal.indexAddr Try.runUnderlying61 Try.sizeOf41 (Sl.v_some rfl e210) rfl b211 b212) ?_
              obtain ⟨x214, c213, h⟩ := h
              refine HList.vals (v := (Sl.v x214)) rfl (HVal.load1 Try.isAgg41 rfl c213) ?_
              refine HList.ops' rfl (HOp.call' 25 [(.pointer (some ⟨H_1.size, 0, none⟩)), (Sl.v x214)] (cap := []) rfl rfl Try.call25 (walk25 h)) ?_
              rintro _ H215 ⟨rfl, h⟩
              refine HList.nil ?_
              refine nb ?_
              refine nt ?_
              refine HW.region ?_
              refine HList.vals (v := (.int .i64 y188)) rfl (HVal.move' rfl) ?_
              refine HList.vals (v := (.int .i64 (IntKind.i64.wrap (y188 + 1)))) rfl (HVal.add rfl rfl) ?_
              refine HList.vals (v := (.int .i64 (IntKind.i64.wrap (y188 + 1)))) rfl (HVal.assign' rfl) ?_
              refine HList.nil ?_
              refine nt ?_
              exact (hX10 _ _).1 h _ ⟨rfl, rfl, rfl, rfl, trivial⟩
          · have h := hF hb192
            clear hT hF
            refine HW.exit ?_
            refine te ?_
            refine te ?_
            refine be ?_
            refine nt ?_
            exact ⟨⟨rfl, trivial⟩, h⟩
        · rintro ρ H_9 ⟨hI, h⟩
          obtain ⟨ρ0, rfl⟩ : ∃ ρ0, ρ = (Env.set ρ0 20 (.pointer (some ⟨H_1.size, 0, none⟩))) := ⟨ρ, hI.eq⟩
          clear hI; unfold F24_9 at h
          refine HW.seq ?_
          refine HW.region ?_
          refine HList.vals (v := (.pointer (some ⟨H_1.size, 0, none⟩))) rfl (HVal.move' rfl) ?_
          refine HList.ops' rfl (HOp.call' 28 [(.pointer (some ⟨H_1.size, 0, none⟩))] (cap := []) rfl rfl Try.call28 (walk28 h)) ?_
          rintro _ H217 ⟨r219, rfl, h⟩
          refine HList.vals (v := (.bool r219)) rfl (HVal.assign' rfl) ?_
          refine HList.nil ?_
          refine nt ?_
          refine HW.ret ?_
          exact ⟨_, resOf1 rfl Res1.t, ⟨r219, rfl, h⟩⟩

def F7_2 (Q : Bool → Hp → Prop) (y25 : Addr) (H_2 : Hp) : Prop :=
F28 (some y25) H_2 (fun (r272 : Bool) (H270 : Hp) => 
 Q r272 H270)
def F7_10 (Q : Bool → Hp → Prop) (X3 : Int → Hp → Prop) (y231 : Sl) (y232 : (Option Addr)) (y233 : (Option Addr)) (y234 : Addr) (y235 : Int) (y243 : Bool) (H_10 : Hp) : Prop :=
(y243 = true → (Q false H_10)) ∧
 (y243 = false → (X3 (IntKind.i64.wrap (y235 + 1)) H_10))
def F7_6 (Q : Bool → Hp → Prop) (X3 : Int → Hp → Prop) (y146 : Sl) (y147 : (Option Addr)) (y148 : (Option Addr)) (y149 : Addr) (y150 : Int) (H_6 : Hp) : Prop :=
((decide (y150 < 120)) = true → (F28 (some y149) H_6 (fun (r240 : Bool) (H238 : Hp) => 
 ((!r240) = true → (F7_10 Q X3 y146 y147 y148 y149 y150 true H238)) ∧
 ((!r240) = false → (F19 y147 H238 (fun (r246 : Int) (H244 : Hp) => 
 F19 y148 H244 (fun (r249 : Int) (H247 : Hp) => 
 F7_10 Q X3 y146 y147 y148 y149 y150 (decide (r246 ≠ r249)) H247))))))) ∧
 ((decide (y150 < 120)) = false → (((decide ((Int.tmod y150 (64 : Int)) = 0)) = true → (F28 (some y149) H_6 (fun (r254 : Bool) (H252 : Hp) => 
 ((!r254) = true → (F7_10 Q X3 y146 y147 y148 y149 y150 true H252)) ∧
 ((!r254) = false → (F19 y147 H252 (fun (r259 : Int) (H257 : Hp) => 
 F19 y148 H257 (fun (r262 : Int) (H260 : Hp) => 
 F7_10 Q X3 y146 y147 y148 y149 y150 (decide (r259 ≠ r262)) H260))))))) ∧
 ((decide ((Int.tmod y150 (64 : Int)) = 0)) = false → (F19 y147 H_6 (fun (r265 : Int) (H263 : Hp) => 
 F19 y148 H263 (fun (r268 : Int) (H266 : Hp) => 
 F7_10 Q X3 y146 y147 y148 y149 y150 (decide (r265 ≠ r268)) H266))))))
def F7_8 (Q : Bool → Hp → Prop) (X3 : Int → Hp → Prop) (X7 : Int → Hp → Prop) (y182 : Sl) (y183 : (Option Addr)) (y184 : (Option Addr)) (y185 : Addr) (y186 : Int) (y187 : Sl) (y188 : Int) (y191 : Bool) (H_8 : Hp) : Prop :=
(y191 = true → (Q false H_8)) ∧
 (y191 = false → (X7 (IntKind.i64.wrap (y188 + 1)) H_8))
def F7_9 (Q : Bool → Hp → Prop) (X3 : Int → Hp → Prop) (X7 : Int → Hp → Prop) (y217 : Sl) (y218 : (Option Addr)) (y219 : (Option Addr)) (y220 : Addr) (y221 : Int) (y222 : Sl) (y223 : Int) (y226 : Bool) (H_9 : Hp) : Prop :=
(y226 = true → (Q false H_9)) ∧
 (y226 = false → (X7 (IntKind.i64.wrap (y223 + 1)) H_9))
def F7_L7b (Q : Bool → Hp → Prop) (X3 : Int → Hp → Prop) (X7 : Int → Hp → Prop) (y152 : Sl) (y153 : (Option Addr)) (y154 : (Option Addr)) (y155 : Addr) (y156 : Int) (y157 : Sl) (y151 : Int) (H_7 : Hp) : Prop :=
((decide (y151 < ((y157).n : Int))) = true → (((decide (y156 < 120)) = true → (∃ a162 : Addr, (y157).b = some a162 ∧ (0 : Int) ≤ y151 ∧ y151 < ((y157).n : Int) ∧ (
 ∃ x167 : Int, cell H_7 (Addr.add a162 (y151.toNat * 1)) = some (.int .i64 x167) ∧ (
 F22 y153 x167 H_7 (fun (r170 : Sl) (r171 : Int) (H168 : Hp) => 
 ∃ a172 : Addr, (y157).b = some a172 ∧ (0 : Int) ≤ y151 ∧ y151 < ((y157).n : Int) ∧ (
 ∃ x177 : Int, cell H168 (Addr.add a172 (y151.toNat * 1)) = some (.int .i64 x177) ∧ (
 F22 y154 x177 H168 (fun (r180 : Sl) (r181 : Int) (H178 : Hp) => 
 ((decide (r171 ≠ r181)) = true → (F7_8 Q X3 X7 y152 y153 y154 y155 y156 y157 y151 true H178)) ∧
 ((decide (r171 ≠ r181)) = false → (F23 r170 r180 H178 (fun (r194 : Bool) (H192 : Hp) => 
 F7_8 Q X3 X7 y152 y153 y154 y155 y156 y157 y151 (!r194) H192))))))))))) ∧
 ((decide (y156 < 120)) = false → (((decide ((Int.tmod y156 (64 : Int)) = 0)) = true → (∃ a197 : Addr, (y157).b = some a197 ∧ (0 : Int) ≤ y151 ∧ y151 < ((y157).n : Int) ∧ (
 ∃ x202 : Int, cell H_7 (Addr.add a197 (y151.toNat * 1)) = some (.int .i64 x202) ∧ (
 F22 y153 x202 H_7 (fun (r205 : Sl) (r206 : Int) (H203 : Hp) => 
 ∃ a207 : Addr, (y157).b = some a207 ∧ (0 : Int) ≤ y151 ∧ y151 < ((y157).n : Int) ∧ (
 ∃ x212 : Int, cell H203 (Addr.add a207 (y151.toNat * 1)) = some (.int .i64 x212) ∧ (
 F22 y154 x212 H203 (fun (r215 : Sl) (r216 : Int) (H213 : Hp) => 
 ((decide (r206 ≠ r216)) = true → (F7_9 Q X3 X7 y152 y153 y154 y155 y156 y157 y151 true H213)) ∧
 ((decide (r206 ≠ r216)) = false → (F23 r205 r215 H213 (fun (r229 : Bool) (H227 : Hp) => 
 F7_9 Q X3 X7 y152 y153 y154 y155 y156 y157 y151 (!r229) H227))))))))))) ∧
 ((decide ((Int.tmod y156 (64 : Int)) = 0)) = false → (F7_6 Q X3 y152 y153 y154 y155 y156 H_7)))))) ∧
 ((decide (y151 < ((y157).n : Int))) = false → (F7_6 Q X3 y152 y153 y154 y155 y156 H_7))
def F7_L7 (Q : Bool → Hp → Prop) (X3 : Int → Hp → Prop) (y152 : Sl) (y153 : (Option Addr)) (y154 : (Option Addr)) (y155 : Addr) (y156 : Int) (y157 : Sl) (y151 : Int) (H_7 : Hp) : Prop :=
  ∀ X7 : Int → Hp → Prop, (∀ (y151 : Int) (H_7 : Hp), F7_L7b Q X3 X7 y152 y153 y154 y155 y156 y157 y151 H_7 → X7 y151 H_7) → X7 y151 H_7
def F7_4 (Q : Bool → Hp → Prop) (X3 : Int → Hp → Prop) (y51 : Sl) (y52 : (Option Addr)) (y53 : (Option Addr)) (y54 : Addr) (y55 : Int) (H_4 : Hp) : Prop :=
F21 y53 H_4 (fun (r145 : Sl) (H143 : Hp) => 
 F7_L7 Q X3 y51 y52 y53 y54 y55 r145 0 H143)
def F7_5 (Q : Bool → Hp → Prop) (X3 : Int → Hp → Prop) (y116 : Sl) (y117 : (Option Addr)) (y118 : (Option Addr)) (y119 : Addr) (y120 : Int) (y121 : Sl) (y124 : Bool) (H_5 : Hp) : Prop :=
(y124 = true → (Q false H_5)) ∧
 (y124 = false → (F25 (some y119) y121 H_5 (fun (H129 : Hp) => 
 F7_4 Q X3 y116 y117 y118 y119 y120 H129)))
def F7_L3b (Q : Bool → Hp → Prop) (X3 : Int → Hp → Prop) (y27 : Sl) (y28 : (Option Addr)) (y29 : (Option Addr)) (y30 : Addr) (y26 : Int) (H_3 : Hp) : Prop :=
((decide (y26 < ((y27).n : Int))) = true → (∃ x34 : Int, cell H_3 (Addr.add y30 2) = some (.int .i64 x34) ∧ (
 ((decide (x34 < 1048576)) = true → (∃ a36 : Addr, (y27).b = some a36 ∧ (0 : Int) ≤ y26 ∧ y26 < ((y27).n : Int) ∧ (
 ∃ (x41 : Int) (x42 : Int) (x43 : Int) (x44 : Int) (x45 : Int), cells H_3 (Addr.add a36 (y26.toNat * 5)) [(.int .i64 x41), (.int .i64 x42), (.int .i64 x43), (.int .i64 x44), (.int .i64 x45)] 0 ∧ (
 ∀ H46 : Hp, H46 = Array.push H_3 (.cells #[(.int .i64 0), (.int .i64 0), (.int .i64 0), (.int .i64 0), (.int .i64 0)] 34) → (
 mayw H46 ⟨H_3.size, 0, none⟩ 5 0 ∧ ∀ H48 : Hp, H48 = sets H46 ⟨H_3.size, 0, none⟩ [(.int .i64 x41), (.int .i64 x42), (.int .i64 x43), (.int .i64 x44), (.int .i64 x45)] 0 → (
 ∃ x57 : Int, cell H48 ⟨H_3.size, 0, none⟩ = some (.int .i64 x57) ∧ (
 ((decide (x57 = 1)) = true → (∃ (x60 : Int) (x61 : Int), cells H48 (Addr.add ⟨H_3.size, 0, none⟩ 3) [(.int .i64 x60), (.int .i64 x61)] 0 ∧ (
 F13 y28 x60 x61 H48 (fun (r64 : Int) (r65 : Int) (H62 : Hp) => 
 ∃ (x67 : Int) (x68 : Int), cells H62 (Addr.add ⟨H_3.size, 0, none⟩ 3) [(.int .i64 x67), (.int .i64 x68)] 0 ∧ (
 F13 y29 x67 x68 H62 (fun (r71 : Int) (r72 : Int) (H69 : Hp) => 
 F7_4 Q X3 y27 y28 y29 y30 y26 H69)))))) ∧
 ((decide (x57 = 1)) = false → (((decide (x57 = 2)) = true → (∃ x75 : Int, cell H48 (Addr.add ⟨H_3.size, 0, none⟩ 2) = some (.int .i64 x75) ∧ (
 ∃ (x77 : Int) (x78 : Int), cells H48 (Addr.add ⟨H_3.size, 0, none⟩ 3) [(.int .i64 x77), (.int .i64 x78)] 0 ∧ (
 F14 y28 x75 x77 x78 H48 (fun (r81 : Int) (r82 : Int) (H79 : Hp) => 
 ∃ x84 : Int, cell H79 (Addr.add ⟨H_3.size, 0, none⟩ 2) = some (.int .i64 x84) ∧ (
 ∃ (x86 : Int) (x87 : Int), cells H79 (Addr.add ⟨H_3.size, 0, none⟩ 3) [(.int .i64 x86), (.int .i64 x87)] 0 ∧ (
 F14 y29 x84 x86 x87 H79 (fun (r90 : Int) (r91 : Int) (H88 : Hp) => 
 F7_4 Q X3 y27 y28 y29 y30 y26 H88)))))))) ∧
 ((decide (x57 = 2)) = false → (((decide (x57 = 3)) = true → (∃ x94 : Int, cell H48 (Addr.add ⟨H_3.size, 0, none⟩ 2) = some (.int .i64 x94) ∧ (
 F16 y28 x94 H48 (fun (r97 : Int) (H95 : Hp) => 
 ∃ x99 : Int, cell H95 (Addr.add ⟨H_3.size, 0, none⟩ 2) = some (.int .i64 x99) ∧ (
 F16 y29 x99 H95 (fun (r102 : Int) (H100 : Hp) => 
 F7_4 Q X3 y27 y28 y29 y30 y26 H100)))))) ∧
 ((decide (x57 = 3)) = false → (((decide (x57 = 4)) = true → (∃ x105 : Int, cell H48 (Addr.add ⟨H_3.size, 0, none⟩ 2) = some (.int .i64 x105) ∧ (
 F22 y28 x105 H48 (fun (r108 : Sl) (r109 : Int) (H106 : Hp) => 
 ∃ x111 : Int, cell H106 (Addr.add ⟨H_3.size, 0, none⟩ 2) = some (.int .i64 x111) ∧ (
 F22 y29 x111 H106 (fun (r114 : Sl) (r115 : Int) (H112 : Hp) => 
 ((decide (r109 ≠ r115)) = true → (F7_5 Q X3 y27 y28 y29 y30 y26 r108 true H112)) ∧
 ((decide (r109 ≠ r115)) = false → (F23 r108 r114 H112 (fun (r127 : Bool) (H125 : Hp) => 
 F7_5 Q X3 y27 y28 y29 y30 y26 r108 (!r127) H125))))))))) ∧
 ((decide (x57 = 4)) = false → (F21 y28 H48 (fun (r133 : Sl) (H131 : Hp) => 
 F21 y29 H131 (fun (r136 : Sl) (H134 : Hp) => 
 F26 r133 r136 H134 (fun (r139 : Bool) (H137 : Hp) => 
 ((!r139) = true → (Q false H137)) ∧
 ((!r139) = false → (F27 (some y30) r133 H137 (fun (H141 : Hp) => 
 F7_4 Q X3 y27 y28 y29 y30 y26 H141))))))))))))))))))))) ∧
 ((decide (x34 < 1048576)) = false → (F7_2 Q y30 H_3))))) ∧
 ((decide (y26 < ((y27).n : Int))) = false → (F7_2 Q y30 H_3))
def F7_L3 (Q : Bool → Hp → Prop) (y27 : Sl) (y28 : (Option Addr)) (y29 : (Option Addr)) (y30 : Addr) (y26 : Int) (H_3 : Hp) : Prop :=
  ∀ X3 : Int → Hp → Prop, (∀ (y26 : Int) (H_3 : Hp), F7_L3b Q X3 y27 y28 y29 y30 y26 H_3 → X3 y26 H_3) → X3 y26 H_3
def F7_1 (Q : Bool → Hp → Prop) (y11 : Int) (y12 : Sl) (y13 : (Option Addr)) (y14 : (Option Addr)) (y17 : Bool) (H_1 : Hp) : Prop :=
(y17 = true → (Q false H_1)) ∧
 (y17 = false → (F24 y11 y12 H_1 (fun (r21 : Bool) (H19 : Hp) => 
 ((!r21) = true → (Q false H19)) ∧
 ((!r21) = false → (∀ H23 : Hp, H23 = Array.push H19 (.cells #[(Sl.v Sl.nil), (Sl.v Sl.nil), (.int .i64 0)] 64) → (
 F7_L3 Q y12 y13 y14 ⟨H19.size, 0, none⟩ 0 H23))))))
def F7 (p0 : Int) (p1 : Sl) (H : Hp) (Q : Bool → Hp → Prop) : Prop :=
F8 H (fun (r3 : Bool) (H1 : Hp) => 
 ((!r3) = true → (Q false H1)) ∧
 ((!r3) = false → (F12 p0 H1 (fun (r7 : (Option Addr)) (H5 : Hp) => 
 F12 p0 H5 (fun (r10 : (Option Addr)) (H8 : Hp) => 
 ((r7.isNone) = true → (F7_1 Q p0 p1 r7 r10 true H8)) ∧
 ((r7.isNone) = false → (F7_1 Q p0 p1 r7 r10 (r10.isNone) H8)))))))
set_option maxRecDepth 100000 in
set_option maxHeartbeats 4000000 in
theorem walk7 {w0 : World} {p0 : Int} {p1 : Sl} {H : Hp} {Q : Bool → Hp → Prop} (h : F7 p0 p1 H Q) :
    Good Try.prog w0 7 #[(.int .i64 p0), (Sl.v p1)] H (fun v H => ∃ (r0 : Bool) , v = (.bool r0) ∧ Q r0 H) := by
  unfold F7 at h
  refine Good.enter' (fn := Try.f7) Try.func7 rfl rfl rfl ?_
  refine HW.seq ?_
  refine HW.region ?_
  refine HList.vals (v := (.bool false)) rfl (HVal.assign' rfl) ?_
  refine HList.nil ?_
  refine nt ?_
  refine HW.seq ?_
  refine HW.region ?_
  refine HList.ops' rfl (HOp.call' 8 [] (cap := []) rfl rfl Try.call8 (walk8 h)) ?_
  rintro _ H1 ⟨r3, rfl, h⟩
  refine HList.vals (v := (.bool r3)) rfl (HVal.assign' rfl) ?_
  refine HList.nil ?_
  refine nt ?_
  refine HW.seq ?_
  refine HW.seq ?_
  refine HW.region ?_
  refine HList.vals (v := (.bool r3)) rfl (HVal.move' rfl) ?_
  refine HList.vals (v := (.bool (!r3))) rfl (HVal.not rfl) ?_
  refine HList.nil ?_
  refine nt ?_
  obtain ⟨hT, hF⟩ := h
  refine HW.cond (!r3) rfl (fun hb4 => ?_) (fun hb4 => ?_)
  · have h := hT hb4
    clear hT hF
    refine HW.seq ?_
    refine HW.region ?_
    refine HList.vals (v := (.bool false)) rfl (HVal.assign' rfl) ?_
    refine HList.nil ?_
    refine nt ?_
    refine HW.ret ?_
    refine tr ?_
    exact ⟨_, resOf1 rfl Res1.t, ⟨false, rfl, h⟩⟩
  · have h := hF hb4
    clear hT hF
    refine HW.skip ?_
    refine nt ?_
    refine HW.seq ?_
    refine HW.region ?_
    refine HList.vals (v := (.int .i64 p0)) rfl (HVal.move' rfl) ?_
    refine HList.ops' rfl (HOp.call' 12 [(.int .i64 p0)] (cap := []) rfl rfl Try.call12 (walk12 h)) ?_
    rintro _ H5 ⟨r7, rfl, h⟩
    refine HList.vals (v := (.pointer r7)) rfl (HVal.assign' rfl) ?_
    refine HList.nil ?_
    refine nt ?_
    refine HW.seq ?_
    refine HW.region ?_
    refine HList.vals (v := (.int .i64 p0)) rfl (HVal.move' rfl) ?_
    refine HList.ops' rfl (HOp.call' 12 [(.int .i64 p0)] (cap := []) rfl rfl Try.call12 (walk12 h)) ?_
    rintro _ H8 ⟨r10, rfl, h⟩
    refine HList.vals (v := (.pointer r10)) rfl (HVal.assign' rfl) ?_
    refine HList.nil ?_
    refine nt ?_
    refine HW.seq ?_
    refine HW.cut (fun ρ H_1 => ∃ (y17 : Bool), Env.Is ρ [(0, (.int .i64 p0)), (1, (Sl.v p1)), (6, (.pointer r7)), (7, (.pointer r10)), (35, (.bool y17))] ∧ F7_1 Q p0 p1 r7 r10 y17 H_1) ?_ ?_
    · refine HW.region ?_
      refine HList.vals (v := (.pointer r7)) rfl (HVal.move' rfl) ?_
      refine HList.vals (v := (.bool (r7.isNone))) rfl (HVal.eqlPN Try.underlying24 rfl rfl) ?_
      refine HList.vals (v := (.bool (r7.isNone))) rfl (HVal.move' rfl) ?_
      obtain ⟨hT, hF⟩ := h
      rcases Bool.eq_false_or_eq_true (r7.isNone) with hb15 | hb16
      · have h := hT hb15
        clear hT hF
        refine HList.gskips rfl rfl rfl rfl (congrArg Value.bool hb15) ?_
        refine HList.gskips rfl rfl rfl rfl (congrArg Value.bool hb15) ?_
        refine HList.vals (v := (.bool true)) rfl (HVal.pickT rfl hb15 rfl) ?_
        refine HList.nil ?_
        refine nt ?_
        exact ⟨true, ⟨rfl, rfl, rfl, rfl, rfl, trivial⟩, h⟩
      · have h := hF hb16
        clear hT hF
        refine HList.gvals (v := (.pointer r10)) rfl rfl rfl rfl (congrArg Value.bool hb16) (HVal.move' rfl) ?_
        refine HList.gvals (v := (.bool (r10.isNone))) rfl rfl rfl rfl (congrArg Value.bool hb16) (HVal.eqlPN Try.underlying24 rfl rfl) ?_
        refine HList.vals (v := (.bool (r10.isNone))) rfl (HVal.pickF rfl hb16 rfl) ?_
        refine HList.nil ?_
        refine nt ?_
        exact ⟨(r10.isNone), ⟨rfl, rfl, rfl, rfl, rfl, trivial⟩, h⟩
    · rintro ρ H_1 ⟨y17, hI, h⟩
      obtain ⟨ρ0, rfl⟩ : ∃ ρ0, ρ = (Env.set (Env.set (Env.set (Env.set (Env.set ρ0 35 (.bool y17)) 7 (.pointer r10)) 6 (.pointer r7)) 1 (Sl.v p1)) 0 (.int .i64 p0)) := ⟨ρ, hI.eq⟩
      clear hI; unfold F7_1 at h
      obtain ⟨hT, hF⟩ := h
      refine HW.cond y17 rfl (fun hb18 => ?_) (fun hb18 => ?_)
      · have h := hT hb18
        clear hT hF
        refine HW.seq ?_
        refine HW.region ?_
        refine HList.vals (v := (.bool false)) rfl (HVal.assign' rfl) ?_
        refine HList.nil ?_
        refine nt ?_
        refine HW.ret ?_
        refine tr ?_
        exact ⟨_, resOf1 rfl Res1.t, ⟨false, rfl, h⟩⟩
      · have h := hF hb18
        clear hT hF
        refine HW.skip ?_
        refine nt ?_
        refine HW.seq ?_
        refine HW.region ?_
        refine HList.vals (v := (.int .i64 p0)) rfl (HVal.move' rfl) ?_
        refine HList.vals (v := (Sl.v p1)) rfl (HVal.move' rfl) ?_
        refine HList.ops' rfl (HOp.call' 24 [(.int .i64 p0), (Sl.v p1)] (cap := []) rfl rfl Try.call24 (walk24 h)) ?_
        rintro _ H19 ⟨r21, rfl, h⟩
        refine HList.vals (v := (.bool r21)) rfl (HVal.assign' rfl) ?_
        refine HList.nil ?_
        refine nt ?_
        refine HW.seq ?_
        refine HW.seq ?_
        refine HW.region ?_
        refine HList.vals (v := (.bool r21)) rfl (HVal.move' rfl) ?_
        refine HList.vals (v := (.bool (!r21))) rfl (HVal.not rfl) ?_
        refine HList.nil ?_
        refine nt ?_
        obtain ⟨hT, hF⟩ := h
        refine HW.cond (!r21) rfl (fun hb22 => ?_) (fun hb22 => ?_)
        · have h := hT hb22
          clear hT hF
          refine HW.seq ?_
          refine HW.region ?_
          refine HList.vals (v := (.bool false)) rfl (HVal.assign' rfl) ?_
          refine HList.nil ?_
          refine nt ?_
          refine HW.ret ?_
          refine tr ?_
          exact ⟨_, resOf1 rfl Res1.t, ⟨false, rfl, h⟩⟩
        · have h := hF hb22
          clear hT hF
          refine HW.skip ?_
          refine nt ?_
          refine HW.seq ?_
          refine HW.region ?_
          refine HList.vals (v := (.agg #[(Sl.v Sl.nil), (Sl.v Sl.nil), (.int .i64 0)])) rfl (HVal.build' (cs := [(Sl.v Sl.nil), (Sl.v Sl.nil), (.int .i64 0)]) Try.runUnderlying64 Try.zeroValue64 places64 rfl) ?_
          refine HList.ops' rfl (HOp.box (v := (.agg #[(Sl.v Sl.nil), (Sl.v Sl.nil), (.int .i64 0)])) rfl) ?_
          rintro _ H23 ⟨rfl, e24⟩
          replace h := h H23 e24
          refine HList.vals (v := (.pointer (some ⟨H19.size, 0, none⟩))) rfl (HVal.assign' rfl) ?_
          refine HList.nil ?_
          refine nt ?_
          refine HW.cut (fun ρ H_2 => Env.Is ρ [(8, (.pointer (some ⟨H19.size, 0, none⟩)))] ∧ F7_2 Q ⟨H19.size, 0, none⟩ H_2) ?_ ?_
          · refine HW.seq ?_
            refine HW.region ?_
            refine HList.vals (v := (.int .i64 0)) rfl (HVal.assign' rfl) ?_
            refine HList.nil ?_
            refine nt ?_
            refine HW.block ?_
            refine HW.loop' (fun L3 hL3 => ?_)
            obtain ⟨X3, hX3⟩ : ∃ X3 : Int → Hp → Prop, ∀ (y26 : Int) (H_3 : Hp), X3 y26 H_3 ↔ ∀ ρ, Env.Is ρ [(1, (Sl.v p1)), (6, (.pointer r7)), (7, (.pointer r10)), (8, (.pointer (some ⟨H19.size, 0, none⟩))), (9, (.int .i64 y26))] → L3 ρ H_3 := ⟨_, fun _ _ => Iff.rfl⟩
            refine (hX3 _ _).1 (h X3 ?_) _ ?_
            rotate_left
            · exact ⟨rfl, rfl, rfl, rfl, rfl, trivial⟩
            clear h
            intro y26 H_3 h
            refine (hX3 _ _).2 fun ρ hI => ?_
            obtain ⟨ρ0, rfl⟩ : ∃ ρ0, ρ = (Env.set (Env.set (Env.set (Env.set (Env.set ρ0 9 (.int .i64 y26)) 8 (.pointer (some ⟨H19.size, 0, none⟩))) 7 (.pointer r10)) 6 (.pointer r7)) 1 (Sl.v p1)) := ⟨ρ, hI.eq⟩
            clear hI; unfold F7_L3b at h; refine hL3 _ _ ?_
            refine HW.seq ?_
            refine HW.seq ?_
            refine HW.region ?_
            refine HList.vals (v := (.int .i64 y26)) rfl (HVal.move' rfl) ?_
            refine HList.vals (v := (Sl.v p1)) rfl (HVal.move' rfl) ?_
            refine HList.vals (v := (.int .i64 ((p1).n : Int))) rfl (HVal.len Try.runUnderlying22 rfl) ?_
            refine HList.vals (v := (.bool (decide (y26 < ((p1).n : Int))))) rfl (HVal.lss rfl rfl) ?_
            refine HList.vals (v := (.bool (decide (y26 < ((p1).n : Int))))) rfl (HVal.move' rfl) ?_
            obtain ⟨hT, hF⟩ := h
            rcases Bool.eq_false_or_eq_true (decide (y26 < ((p1).n : Int))) with hb31 | hb32
            · have h := hT hb31
              clear hT hF
              refine HList.gvals (v := (.pointer (some ⟨H19.size, 0, none⟩))) rfl rfl rfl rfl (congrArg Value.bool hb31) (HVal.move' rfl) ?_
              refine HList.gvals (v := (.pointer (some ⟨H19.size, 0, none⟩))) rfl rfl rfl rfl (congrArg Value.bool hb31) (HVal.nilCheck rfl) ?_
              refine HList.gvals (v := (.pointer (some (Addr.add ⟨H19.size, 0, none⟩ 2)))) rfl rfl rfl rfl (congrArg Value.bool hb31) (HVal.fieldAddr' Try.runUnderlying64 rfl rfl Try.sizeOf3 rfl) ?_
              obtain ⟨x34, c33, h⟩ := h
              refine HList.gvals (v := (.int .i64 x34)) rfl rfl rfl rfl (congrArg Value.bool hb31) (HVal.load1 Try.isAgg3 rfl c33) ?_
              refine HList.gvals (v := (.bool (decide (x34 < 1048576)))) rfl rfl rfl rfl (congrArg Value.bool hb31) (HVal.lss rfl rfl) ?_
              refine HList.vals (v := (.bool (decide (x34 < 1048576)))) rfl (HVal.pickT rfl hb31 rfl) ?_
              refine HList.nil ?_
              refine nt ?_
              obtain ⟨hT, hF⟩ := h
              refine HW.cond (decide (x34 < 1048576)) rfl (fun hb35 => ?_) (fun hb35 => ?_)
              · have h := hT hb35
                clear hT hF
                refine HW.skip ?_
                refine nt ?_
                refine HW.seq ?_
                refine HW.block ?_
                refine HW.seq ?_
                refine HW.region ?_
                refine HList.vals (v := (Sl.v p1)) rfl (HVal.move' rfl) ?_
                refine HList.vals (v := (.int .i64 y26)) rfl (HVal.move' rfl) ?_
                obtain ⟨a36, e37, b38, b39, h⟩ := h
                refine HList.vals (v := (.pointer (some (Addr.add a36 (y26.toNat * 5))))) rfl (HVal.indexAddr Try.runUnderlying22 Try.sizeOf34 (Sl.v_some rfl e37) rfl b38 b39) ?_
                obtain ⟨x41, x42, x43, x44, x45, c40, h⟩ := h
                refine HList.vals (v := (.agg #[(.int .i64 x41), (.int .i64 x42), (.int .i64 x43), (.int .i64 x44), (.int .i64 x45)])) rfl (HVal.loadN [(.int .i64 x41), (.int .i64 x42), (.int .i64 x43), (.int .i64 x44), (.int .i64 x45)] Try.isAgg34 Try.sizeOf34 rfl c40) ?_
                refine HList.ops' rfl (HOp.alloc Try.zeroValue34) ?_
                rintro _ H46 ⟨rfl, e47⟩
                replace h := h H46 e47
                obtain ⟨z50, h⟩ := h
                refine HList.opsn (HOp.storeN' (l := [(.int .i64 x41), (.int .i64 x42), (.int .i64 x43), (.int .i64 x44), (.int .i64 x45)]) Try.sizeOf34 rfl rfl rfl z50) ?_
                rintro _ H48 e49
                replace h := h H48 e49
                refine HList.nil ?_
                refine nt ?_
                refine HW.cut (fun ρ H_4 => Env.Is ρ [(1, (Sl.v p1)), (6, (.pointer r7)), (7, (.pointer r10)), (8, (.pointer (some ⟨H19.size, 0, none⟩))), (9, (.int .i64 y26))] ∧ F7_4 Q X3 p1 r7 r10 ⟨H19.size, 0, none⟩ y26 H_4) ?_ ?_
                · refine HW.seq ?_
                  refine HW.region ?_
                  refine HList.vals (v := (.pointer (some ⟨H_3.size, 0, none⟩))) rfl (HVal.fieldAddr0 Try.runUnderlying34 rfl rfl Try.sizeOf3 rfl) ?_
                  obtain ⟨x57, c56, h⟩ := h
                  refine HList.vals (v := (.int .i64 x57)) rfl (HVal.load1 Try.isAgg3 rfl c56) ?_
                  refine HList.nil ?_
                  refine nt ?_
                  refine HW.block ?_
                  refine HW.seq ?_
                  refine HW.region ?_
                  refine HList.vals (v := (.bool (decide (x57 = 1)))) rfl (HVal.eqlI rfl rfl) ?_
                  refine HList.vals (v := (.bool (decide (x57 = 1)))) rfl (HVal.assign' rfl) ?_
                  refine HList.nil ?_
                  refine nt ?_
                  obtain ⟨hT, hF⟩ := h
                  refine HW.cond (decide (x57 = 1)) rfl (fun hb58 => ?_) (fun hb58 => ?_)
                  · have h := hT hb58
                    clear hT hF
                    refine HW.seq ?_
                    refine HW.region ?_
                    refine HList.vals (v := (.pointer r7)) rfl (HVal.move' rfl) ?_
                    refine HList.vals (v := (.pointer (some (Addr.add ⟨H_3.size, 0, none⟩ 3)))) rfl (HVal.fieldAddr' Try.runUnderlying34 rfl rfl Try.sizeOf32 rfl) ?_
                    obtain ⟨x60, x61, c59, h⟩ := h
                    refine HList.vals (v := (.agg #[(.int .i64 x60), (.int .i64 x61)])) rfl (HVal.loadN [(.int .i64 x60), (.int .i64 x61)] Try.isAgg32 Try.sizeOf32 rfl c59) ?_
                    refine HList.ops' rfl (HOp.call' 13 [(.pointer r7), (.agg #[(.int .i64 x60), (.int .i64 x61)])] (cap := []) rfl rfl Try.call13 (walk13 h)) ?_
                    rintro _ H62 ⟨r64, r65, rfl, h⟩
                    refine HList.nil ?_
                    refine nt ?_
                    refine HW.region ?_
                    refine HList.vals (v := (.pointer r10)) rfl (HVal.move' rfl) ?_
                    refine HList.vals (v := (.pointer (some (Addr.add ⟨H_3.size, 0, none⟩ 3)))) rfl (HVal.fieldAddr' Try.runUnderlying34 rfl rfl Try.sizeOf32 rfl) ?_
                    obtain ⟨x67, x68, c66, h⟩ := h
                    refine HList.vals (v := (.agg #[(.int .i64 x67), (.int .i64 x68)])) rfl (HVal.loadN [(.int .i64 x67), (.int .i64 x68)] Try.isAgg32 Try.sizeOf32 rfl c66) ?_
                    refine HList.ops' rfl (HOp.call' 13 [(.pointer r10), (.agg #[(.int .i64 x67), (.int .i64 x68)])] (cap := []) rfl rfl Try.call13 (walk13 h)) ?_
                    rintro _ H69 ⟨r71, r72, rfl, h⟩
                    refine HList.nil ?_
                    refine nb ?_
                    refine nt ?_
                    exact ⟨⟨rfl, rfl, rfl, rfl, rfl, trivial⟩, h⟩
                  · have h := hF hb58
                    clear hT hF
                    refine HW.seq ?_
                    refine HW.region ?_
                    refine HList.vals (v := (.bool (decide (x57 = 2)))) rfl (HVal.eqlI rfl rfl) ?_
                    refine HList.vals (v := (.bool (decide (x57 = 2)))) rfl (HVal.assign' rfl) ?_
                    refine HList.nil ?_
                    refine nt ?_
                    obtain ⟨hT, hF⟩ := h
                    refine HW.cond (decide (x57 = 2)) rfl (fun hb73 => ?_) (fun hb73 => ?_)
                    · have h := hT hb73
                      clear hT hF
                      refine HW.seq ?_
                      refine HW.region ?_
                      refine HList.vals (v := (.pointer r7)) rfl (HVal.move' rfl) ?_
                      refine HList.vals (v := (.pointer (some (Addr.add ⟨H_3.size, 0, none⟩ 2)))) rfl (HVal.fieldAddr' Try.runUnderlying34 rfl rfl Try.sizeOf3 rfl) ?_
                      obtain ⟨x75, c74, h⟩ := h
                      refine HList.vals (v := (.int .i64 x75)) rfl (HVal.load1 Try.isAgg3 rfl c74) ?_
                      refine HList.vals (v := (.pointer (some (Addr.add ⟨H_3.size, 0, none⟩ 3)))) rfl (HVal.fieldAddr' Try.runUnderlying34 rfl rfl Try.sizeOf32 rfl) ?_
                      obtain ⟨x77, x78, c76, h⟩ := h
                      refine HList.vals (v := (.agg #[(.int .i64 x77), (.int .i64 x78)])) rfl (HVal.loadN [(.int .i64 x77), (.int .i64 x78)] Try.isAgg32 Try.sizeOf32 rfl c76) ?_
                      refine HList.ops' rfl (HOp.call' 14 [(.pointer r7), (.int .i64 x75), (.agg #[(.int .i64 x77), (.int .i64 x78)])] (cap := []) rfl rfl Try.call14 (walk14 h)) ?_
                      rintro _ H79 ⟨r81, r82, rfl, h⟩
                      refine HList.nil ?_
                      refine nt ?_
                      refine HW.region ?_
                      refine HList.vals (v := (.pointer r10)) rfl (HVal.move' rfl) ?_
                      refine HList.vals (v := (.pointer (some (Addr.add ⟨H_3.size, 0, none⟩ 2)))) rfl (HVal.fieldAddr' Try.runUnderlying34 rfl rfl Try.sizeOf3 rfl) ?_
                      obtain ⟨x84, c83, h⟩ := h
                      refine HList.vals (v := (.int .i64 x84)) rfl (HVal.load1 Try.isAgg3 rfl c83) ?_
                      refine HList.vals (v := (.pointer (some (Addr.add ⟨H_3.size, 0, none⟩ 3)))) rfl (HVal.fieldAddr' Try.runUnderlying34 rfl rfl Try.sizeOf32 rfl) ?_
                      obtain ⟨x86, x87, c85, h⟩ := h
                      refine HList.vals (v := (.agg #[(.int .i64 x86), (.int .i64 x87)])) rfl (HVal.loadN [(.int .i64 x86), (.int .i64 x87)] Try.isAgg32 Try.sizeOf32 rfl c85) ?_
                      refine HList.ops' rfl (HOp.call' 14 [(.pointer r10), (.int .i64 x84), (.agg #[(.int .i64 x86), (.int .i64 x87)])] (cap := []) rfl rfl Try.call14 (walk14 h)) ?_
                      rintro _ H88 ⟨r90, r91, rfl, h⟩
                      refine HList.nil ?_
                      refine nb ?_
                      refine nt ?_
                      exact ⟨⟨rfl, rfl, rfl, rfl, rfl, trivial⟩, h⟩
                    · have h := hF hb73
                      clear hT hF
                      refine HW.seq ?_
                      refine HW.region ?_
                      refine HList.vals (v := (.bool (decide (x57 = 3)))) rfl (HVal.eqlI rfl rfl) ?_
                      refine HList.vals (v := (.bool (decide (x57 = 3)))) rfl (HVal.assign' rfl) ?_
                      refine HList.nil ?_
                      refine nt ?_
                      obtain ⟨hT, hF⟩ := h
                      refine HW.cond (decide (x57 = 3)) rfl (fun hb92 => ?_) (fun hb92 => ?_)
                      · have h := hT hb92
                        clear hT hF
                        refine HW.seq ?_
                        refine HW.region ?_
                        refine HList.vals (v := (.pointer r7)) rfl (HVal.move' rfl) ?_
                        refine HList.vals (v := (.pointer (some (Addr.add ⟨H_3.size, 0, none⟩ 2)))) rfl (HVal.fieldAddr' Try.runUnderlying34 rfl rfl Try.sizeOf3 rfl) ?_
                        obtain ⟨x94, c93, h⟩ := h
                        refine HList.vals (v := (.int .i64 x94)) rfl (HVal.load1 Try.isAgg3 rfl c93) ?_
                        refine HList.ops' rfl (HOp.call' 16 [(.pointer r7), (.int .i64 x94)] (cap := []) rfl rfl Try.call16 (walk16 h)) ?_
                        rintro _ H95 ⟨r97, rfl, h⟩
                        refine HList.nil ?_
                        refine nt ?_
                        refine HW.region ?_
                        refine HList.vals (v := (.pointer r10)) rfl (HVal.move' rfl) ?_
                        refine HList.vals (v := (.pointer (some (Addr.add ⟨H_3.size, 0, none⟩ 2)))) rfl (HVal.fieldAddr' Try.runUnderlying34 rfl rfl Try.sizeOf3 rfl) ?_
                        obtain ⟨x99, c98, h⟩ := h
                        refine HList.vals (v := (.int .i64 x99)) rfl (HVal.load1 Try.isAgg3 rfl c98) ?_
                        refine HList.ops' rfl (HOp.call' 16 [(.pointer r10), (.int .i64 x99)] (cap := []) rfl rfl Try.call16 (walk16 h)) ?_
                        rintro _ H100 ⟨r102, rfl, h⟩
                        refine HList.nil ?_
                        refine nb ?_
                        refine nt ?_
                        exact ⟨⟨rfl, rfl, rfl, rfl, rfl, trivial⟩, h⟩
                      · have h := hF hb92
                        clear hT hF
                        refine HW.seq ?_
                        refine HW.region ?_
                        refine HList.vals (v := (.bool (decide (x57 = 4)))) rfl (HVal.eqlI rfl rfl) ?_
                        refine HList.vals (v := (.bool (decide (x57 = 4)))) rfl (HVal.assign' rfl) ?_
                        refine HList.nil ?_
                        refine nt ?_
                        obtain ⟨hT, hF⟩ := h
                        refine HW.cond (decide (x57 = 4)) rfl (fun hb103 => ?_) (fun hb103 => ?_)
                        · have h := hT hb103
                          clear hT hF
                          refine HW.seq ?_
                          refine HW.region ?_
                          refine HList.vals (v := (.pointer r7)) rfl (HVal.move' rfl) ?_
                          refine HList.vals (v := (.pointer (some (Addr.add ⟨H_3.size, 0, none⟩ 2)))) rfl (HVal.fieldAddr' Try.runUnderlying34 rfl rfl Try.sizeOf3 rfl) ?_
                          obtain ⟨x105, c104, h⟩ := h
                          refine HList.vals (v := (.int .i64 x105)) rfl (HVal.load1 Try.isAgg3 rfl c104) ?_
                          refine HList.ops' rfl (HOp.call' 22 [(.pointer r7), (.int .i64 x105)] (cap := []) rfl rfl Try.call22 (walk22 h)) ?_
                          rintro _ H106 ⟨r108, r109, rfl, h⟩
                          refine HList.vals (v := (.tuple #[(Sl.v r108), (.int .i64 r109)])) rfl (HVal.move' rfl) ?_
                          refine HList.vals (v := (Sl.v r108)) rfl (HVal.extract rfl rfl) ?_
                          refine HList.vals (v := (.int .i64 r109)) rfl (HVal.extract rfl rfl) ?_
                          refine HList.vals (v := (Sl.v r108)) rfl (HVal.assign' rfl) ?_
                          refine HList.vals (v := (.int .i64 r109)) rfl (HVal.assign' rfl) ?_
                          refine HList.nil ?_
                          refine nt ?_
                          refine HW.seq ?_
                          refine HW.region ?_
                          refine HList.vals (v := (.pointer r10)) rfl (HVal.move' rfl) ?_
                          refine HList.vals (v := (.pointer (some (Addr.add ⟨H_3.size, 0, none⟩ 2)))) rfl (HVal.fieldAddr' Try.runUnderlying34 rfl rfl Try.sizeOf3 rfl) ?_
                          obtain ⟨x111, c110, h⟩ := h
                          refine HList.vals (v := (.int .i64 x111)) rfl (HVal.load1 Try.isAgg3 rfl c110) ?_
                          refine HList.ops' rfl (HOp.call' 22 [(.pointer r10), (.int .i64 x111)] (cap := []) rfl rfl Try.call22 (walk22 h)) ?_
                          rintro _ H112 ⟨r114, r115, rfl, h⟩
                          refine HList.vals (v := (.tuple #[(Sl.v r114), (.int .i64 r115)])) rfl (HVal.move' rfl) ?_
                          refine HList.vals (v := (Sl.v r114)) rfl (HVal.extract rfl rfl) ?_
                          refine HList.vals (v := (.int .i64 r115)) rfl (HVal.extract rfl rfl) ?_
                          refine HList.vals (v := (Sl.v r114)) rfl (HVal.assign' rfl) ?_
                          refine HList.vals (v := (.int .i64 r115)) rfl (HVal.assign' rfl) ?_
                          refine HList.nil ?_
                          refine nt ?_
                          refine HW.seq ?_
                          refine HW.cut (fun ρ H_5 => ∃ (y124 : Bool), Env.Is ρ [(1, (Sl.v p1)), (6, (.pointer r7)), (7, (.pointer r10)), (8, (.pointer (some ⟨H19.size, 0, none⟩))), (9, (.int .i64 y26)), (11, (Sl.v r108)), (131, (.bool y124))] ∧ F7_5 Q X3 p1 r7 r10 ⟨H19.size, 0, none⟩ y26 r108 y124 H_5) ?_ ?_
                          · refine HW.region ?_
                            refine HList.vals (v := (.int .i64 r109)) rfl (HVal.move' rfl) ?_
                            refine HList.vals (v := (.int .i64 r115)) rfl (HVal.move' rfl) ?_
                            refine HList.vals (v := (.bool (decide (r109 ≠ r115)))) rfl (HVal.neqI rfl rfl) ?_
                            refine HList.vals (v := (.bool (decide (r109 ≠ r115)))) rfl (HVal.move' rfl) ?_
                            obtain ⟨hT, hF⟩ := h
                            rcases Bool.eq_false_or_eq_true (decide (r109 ≠ r115)) with hb122 | hb123
                            · have h := hT hb122
                              clear hT hF
                              refine HList.gskips rfl rfl rfl rfl (congrArg Value.bool hb122) ?_
                              refine HList.gskips rfl rfl rfl rfl (congrArg Value.bool hb122) ?_
                              refine HList.gskips rfl rfl rfl rfl (congrArg Value.bool hb122) ?_
                              refine HList.gskips rfl rfl rfl rfl (congrArg Value.bool hb122) ?_
                              refine HList.vals (v := (.bool true)) rfl (HVal.pickT rfl hb122 rfl) ?_
                              refine HList.nil ?_
                              refine nt ?_
                              exact ⟨true, ⟨rfl, rfl, rfl, rfl, rfl, rfl, rfl, trivial⟩, h⟩
                            · have h := hF hb123
                              clear hT hF
                              refine HList.gvals (v := (Sl.v r108)) rfl rfl rfl rfl (congrArg Value.bool hb123) (HVal.move' rfl) ?_
                              refine HList.gvals (v := (Sl.v r114)) rfl rfl rfl rfl (congrArg Value.bool hb123) (HVal.move' rfl) ?_
                              refine HList.gops rfl rfl rfl rfl (congrArg Value.bool hb123) (HOp.call' 23 [(Sl.v r108), (Sl.v r114)] (cap := []) rfl rfl Try.call23 (walk23 h)) ?_
                              rintro _ H125 ⟨r127, rfl, h⟩
                              refine HList.gvals (v := (.bool (!r127))) rfl rfl rfl rfl (congrArg Value.bool hb123) (HVal.not rfl) ?_
                              refine HList.vals (v := (.bool (!r127))) rfl (HVal.pickF rfl hb123 rfl) ?_
                              refine HList.nil ?_
                              refine nt ?_
                              exact ⟨(!r127), ⟨rfl, rfl, rfl, rfl, rfl, rfl, rfl, trivial⟩, h⟩
                          · rintro ρ H_5 ⟨y124, hI, h⟩
                            obtain ⟨ρ0, rfl⟩ : ∃ ρ0, ρ = (Env.set (Env.set (Env.set (Env.set (Env.set (Env.set (Env.set ρ0 131 (.bool y124)) 11 (Sl.v r108)) 9 (.int .i64 y26)) 8 (.pointer (some ⟨H19.size, 0, none⟩))) 7 (.pointer r10)) 6 (.pointer r7)) 1 (Sl.v p1)) := ⟨ρ, hI.eq⟩
                            clear hI; unfold F7_5 at h
                            obtain ⟨hT, hF⟩ := h
                            refine HW.cond y124 rfl (fun hb128 => ?_) (fun hb128 => ?_)
                            · have h := hT hb128
                              clear hT hF
                              refine HW.seq ?_
                              refine HW.region ?_
                              refine HList.vals (v := (.bool false)) rfl (HVal.assign' rfl) ?_
                              refine HList.nil ?_
                              refine nt ?_
                              refine HW.ret ?_
                              refine tr ?_
                              refine br ?_
                              refine tr ?_
                              refine br ?_
                              refine tr ?_
                              refine tr ?_
                              refine br ?_
                              refine tr ?_
                              exact ⟨_, resOf1 rfl Res1.t, ⟨false, rfl, h⟩⟩
                            · have h := hF hb128
                              clear hT hF
                              refine HW.skip ?_
                              refine nt ?_
                              refine HW.region ?_
                              refine HList.vals (v := (.pointer (some ⟨H19.size, 0, none⟩))) rfl (HVal.move' rfl) ?_
                              refine HList.vals (v := (Sl.v r108)) rfl (HVal.move' rfl) ?_
                              refine HList.ops' rfl (HOp.call' 25 [(.pointer (some ⟨H19.size, 0, none⟩)), (Sl.v r108)] (cap := []) rfl rfl Try.call25 (walk25 h)) ?_
                              rintro _ H129 ⟨rfl, h⟩
                              refine HList.nil ?_
                              refine nb ?_
                              refine nt ?_
                              exact ⟨⟨rfl, rfl, rfl, rfl, rfl, trivial⟩, h⟩
                        · have h := hF hb103
                          clear hT hF
                          refine HW.seq ?_
                          refine HW.region ?_
                          refine HList.vals (v := (.pointer r7)) rfl (HVal.move' rfl) ?_
                          refine HList.ops' rfl (HOp.call' 21 [(.pointer r7)] (cap := []) rfl rfl Try.call21 (walk21 h)) ?_
                          rintro _ H131 ⟨r133, rfl, h⟩
                          refine HList.vals (v := (Sl.v r133)) rfl (HVal.assign' rfl) ?_
                          refine HList.nil ?_
                          refine nt ?_
                          refine HW.seq ?_
                          refine HW.region ?_
                          refine HList.vals (v := (.pointer r10)) rfl (HVal.move' rfl) ?_
                          refine HList.ops' rfl (HOp.call' 21 [(.pointer r10)] (cap := []) rfl rfl Try.call21 (walk21 h)) ?_
                          rintro _ H134 ⟨r136, rfl, h⟩
                          refine HList.vals (v := (Sl.v r136)) rfl (HVal.assign' rfl) ?_
                          refine HList.nil ?_
                          refine nt ?_
                          refine HW.seq ?_
                          refine HW.seq ?_
                          refine HW.region ?_
                          refine HList.vals (v := (Sl.v r133)) rfl (HVal.move' rfl) ?_
                          refine HList.vals (v := (Sl.v r136)) rfl (HVal.move' rfl) ?_
                          refine HList.ops' rfl (HOp.call' 26 [(Sl.v r133), (Sl.v r136)] (cap := []) rfl rfl Try.call26 (walk26 h)) ?_
                          rintro _ H137 ⟨r139, rfl, h⟩
                          refine HList.vals (v := (.bool (!r139))) rfl (HVal.not rfl) ?_
                          refine HList.nil ?_
                          refine nt ?_
                          obtain ⟨hT, hF⟩ := h
                          refine HW.cond (!r139) rfl (fun hb140 => ?_) (fun hb140 => ?_)
                          · have h := hT hb140
                            clear hT hF
                            refine HW.seq ?_
                            refine HW.region ?_
                            refine HList.vals (v := (.bool false)) rfl (HVal.assign' rfl) ?_
                            refine HList.nil ?_
                            refine nt ?_
                            refine HW.ret ?_
                            refine tr ?_
                            refine br ?_
                            refine tr ?_
                            refine br ?_
                            refine tr ?_
                            refine tr ?_
                            refine br ?_
                            refine tr ?_
                            exact ⟨_, resOf1 rfl Res1.t, ⟨false, rfl, h⟩⟩
                          · have h := hF hb140
                            clear hT hF
                            refine HW.skip ?_
                            refine nt ?_
                            refine HW.region ?_
                            refine HList.vals (v := (.pointer (some ⟨H19.size, 0, none⟩))) rfl (HVal.move' rfl) ?_
                            refine HList.vals (v := (Sl.v r133)) rfl (HVal.move' rfl) ?_
                            refine HList.ops' rfl (HOp.call' 27 [(.pointer (some ⟨H19.size, 0, none⟩)), (Sl.v r133)] (cap := []) rfl rfl Try.call27 (walk27 h)) ?_
                            rintro _ H141 ⟨rfl, h⟩
                            refine HList.nil ?_
                            refine nb ?_
                            refine nt ?_
                            exact ⟨⟨rfl, rfl, rfl, rfl, rfl, trivial⟩, h⟩
                · rintro ρ H_4 ⟨hI, h⟩
                  obtain ⟨ρ0, rfl⟩ : ∃ ρ0, ρ = (Env.set (Env.set (Env.set (Env.set (Env.set ρ0 9 (.int .i64 y26)) 8 (.pointer (some ⟨H19.size, 0, none⟩))) 7 (.pointer r10)) 6 (.pointer r7)) 1 (Sl.v p1)) := ⟨ρ, hI.eq⟩
                  clear hI; unfold F7_4 at h
                  refine HW.seq ?_
                  refine HW.region ?_
                  refine HList.vals (v := (.pointer r10)) rfl (HVal.move' rfl) ?_
                  refine HList.ops' rfl (HOp.call' 21 [(.pointer r10)] (cap := []) rfl rfl Try.call21 (walk21 h)) ?_
                  rintro _ H143 ⟨r145, rfl, h⟩
                  refine HList.vals (v := (Sl.v r145)) rfl (HVal.assign' rfl) ?_
                  refine HList.nil ?_
                  refine nt ?_
                  refine HW.cut (fun ρ H_6 => Env.Is ρ [(1, (Sl.v p1)), (6, (.pointer r7)), (7, (.pointer r10)), (8, (.pointer (some ⟨H19.size, 0, none⟩))), (9, (.int .i64 y26))] ∧ F7_6 Q X3 p1 r7 r10 ⟨H19.size, 0, none⟩ y26 H_6) ?_ ?_
                  · refine HW.seq ?_
                    refine HW.region ?_
                    refine HList.vals (v := (.int .i64 0)) rfl (HVal.assign' rfl) ?_
                    refine HList.nil ?_
                    refine nt ?_
                    refine HW.block ?_
                    refine HW.loop' (fun L7 hL7 => ?_)
                    obtain ⟨X7, hX7⟩ : ∃ X7 : Int → Hp → Prop, ∀ (y151 : Int) (H_7 : Hp), X7 y151 H_7 ↔ ∀ ρ, Env.Is ρ [(1, (Sl.v p1)), (6, (.pointer r7)), (7, (.pointer r10)), (8, (.pointer (some ⟨H19.size, 0, none⟩))), (9, (.int .i64 y26)), (17, (Sl.v r145)), (18, (.int .i64 y151))] → L7 ρ H_7 := ⟨_, fun _ _ => Iff.rfl⟩
                    refine (hX7 _ _).1 (h X7 ?_) _ ?_
                    rotate_left
                    · exact ⟨rfl, rfl, rfl, rfl, rfl, rfl, rfl, trivial⟩
                    clear h
                    intro y151 H_7 h
                    refine (hX7 _ _).2 fun ρ hI => ?_
                    obtain ⟨ρ0, rfl⟩ : ∃ ρ0, ρ = (Env.set (Env.set (Env.set (Env.set (Env.set (Env.set (Env.set ρ0 18 (.int .i64 y151)) 17 (Sl.v r145)) 9 (.int .i64 y26)) 8 (.pointer (some ⟨H19.size, 0, none⟩))) 7 (.pointer r10)) 6 (.pointer r7)) 1 (Sl.v p1)) := ⟨ρ, hI.eq⟩
                    clear hI; unfold F7_L7b at h; refine hL7 _ _ ?_
                    refine HW.seq ?_
                    refine HW.seq ?_
                    refine HW.region ?_
                    refine HList.vals (v := (.int .i64 y151)) rfl (HVal.move' rfl) ?_
                    refine HList.vals (v := (Sl.v r145)) rfl (HVal.move' rfl) ?_
                    refine HList.vals (v := (.int .i64 ((r145).n : Int))) rfl (HVal.len Try.runUnderlying50 rfl) ?_
                    refine HList.vals (v := (.bool (decide (y151 < ((r145).n : Int))))) rfl (HVal.lss rfl rfl) ?_
                    refine HList.vals (v := (.bool (decide (y151 < ((r145).n : Int))))) rfl (HVal.move' rfl) ?_
                    obtain ⟨hT, hF⟩ := h
                    rcases Bool.eq_false_or_eq_true (decide (y151 < ((r145).n : Int))) with hb158 | hb159
                    · have h := hT hb158
                      clear hT hF
                      refine HList.gvals (v := (.int .i64 y26)) rfl rfl rfl rfl (congrArg Value.bool hb158) (HVal.move' rfl) ?_
                      refine HList.gvals (v := (.bool (decide (y26 < 120)))) rfl rfl rfl rfl (congrArg Value.bool hb158) (HVal.lss rfl rfl) ?_
                      refine HList.gvals (v := (.bool (decide (y26 < 120)))) rfl rfl rfl rfl (congrArg Value.bool hb158) (HVal.move' rfl) ?_
                      obtain ⟨hT, hF⟩ := h
                      rcases Bool.eq_false_or_eq_true (decide (y26 < 120)) with hb160 | hb161
                      · have h := hT hb160
                        clear hT hF
                        refine HList.gskips rfl rfl rfl rfl (congrArg Value.bool hb160) ?_
                        refine HList.gskips rfl rfl rfl rfl (congrArg Value.bool hb160) ?_
                        refine HList.gskips rfl rfl rfl rfl (congrArg Value.bool hb160) ?_
                        refine HList.gvals (v := (.bool true)) rfl rfl rfl rfl (congrArg Value.bool hb158) (HVal.pickT rfl hb160 rfl) ?_
                        refine HList.vals (v := (.bool true)) rfl (HVal.pickT rfl hb158 rfl) ?_
                        refine HList.nil ?_
                        refine nt ?_
                        refine HW.condT true rfl rfl ?_
                        refine HW.skip ?_
                        refine nt ?_
                        refine HW.seq ?_
                        refine HW.block ?_
                        refine HW.seq ?_
                        refine HW.region ?_
                        refine HList.vals (v := (.pointer r7)) rfl (HVal.move' rfl) ?_
                        refine HList.vals (v := (Sl.v r145)) rfl (HVal.move' rfl) ?_
                        refine HList.vals (v := (.int .i64 y151)) rfl (HVal.move' rfl) ?_
                        obtain ⟨a162, e163, b164, b165, h⟩ := h
                        refine HList.vals (v := (.pointer (some (Addr.add a162 (y151.toNat * 1))))) rfl (HVal.indexAddr Try.runUnderlying50 Try.sizeOf3 (Sl.v_some rfl e163) rfl b164 b165) ?_
                        obtain ⟨x167, c166, h⟩ := h
                        refine HList.vals (v := (.int .i64 x167)) rfl (HVal.load1 Try.isAgg3 rfl c166) ?_
                        refine HList.ops' rfl (HOp.call' 22 [(.pointer r7), (.int .i64 x167)] (cap := []) rfl rfl Try.call22 (walk22 h)) ?_
                        rintro _ H168 ⟨r170, r171, rfl, h⟩
                        refine HList.vals (v := (.tuple #[(Sl.v r170), (.int .i64 r171)])) rfl (HVal.move' rfl) ?_
                        refine HList.vals (v := (Sl.v r170)) rfl (HVal.extract rfl rfl) ?_
                        refine HList.vals (v := (.int .i64 r171)) rfl (HVal.extract rfl rfl) ?_
                        refine HList.vals (v := (Sl.v r170)) rfl (HVal.assign' rfl) ?_
                        refine HList.vals (v := (.int .i64 r171)) rfl (HVal.assign' rfl) ?_
                        refine HList.nil ?_
                        refine nt ?_
                        refine HW.seq ?_
                        refine HW.region ?_
                        refine HList.vals (v := (.pointer r10)) rfl (HVal.move' rfl) ?_
                        refine HList.vals (v := (Sl.v r145)) rfl (HVal.move' rfl) ?_
                        refine HList.vals (v := (.int .i64 y151)) rfl (HVal.move' rfl) ?_
                        obtain ⟨a172, e173, b174, b175, h⟩ := h
                        refine HList.vals (v := (.pointer (some (Addr.add a172 (y151.toNat * 1))))) rfl (HVal.indexAddr Try.runUnderlying50 Try.sizeOf3 (Sl.v_some rfl e173) rfl b174 b175) ?_
                        obtain ⟨x177, c176, h⟩ := h
                        refine HList.vals (v := (.int .i64 x177)) rfl (HVal.load1 Try.isAgg3 rfl c176) ?_
                        refine HList.ops' rfl (HOp.call' 22 [(.pointer r10), (.int .i64 x177)] (cap := []) rfl rfl Try.call22 (walk22 h)) ?_
                        rintro _ H178 ⟨r180, r181, rfl, h⟩
                        refine HList.vals (v := (.tuple #[(Sl.v r180), (.int .i64 r181)])) rfl (HVal.move' rfl) ?_
                        refine HList.vals (v := (Sl.v r180)) rfl (HVal.extract rfl rfl) ?_
                        refine HList.vals (v := (.int .i64 r181)) rfl (HVal.extract rfl rfl) ?_
                        refine HList.vals (v := (Sl.v r180)) rfl (HVal.assign' rfl) ?_
                        refine HList.vals (v := (.int .i64 r181)) rfl (HVal.assign' rfl) ?_
                        refine HList.nil ?_
                        refine nt ?_
                        refine HW.cut (fun ρ H_8 => ∃ (y191 : Bool), Env.Is ρ [(1, (Sl.v p1)), (6, (.pointer r7)), (7, (.pointer r10)), (8, (.pointer (some ⟨H19.size, 0, none⟩))), (9, (.int .i64 y26)), (17, (Sl.v r145)), (18, (.int .i64 y151)), (178, (.bool y191))] ∧ F7_8 Q X3 X7 p1 r7 r10 ⟨H19.size, 0, none⟩ y26 r145 y151 y191 H_8) ?_ ?_
                        · refine HW.region ?_
                          refine HList.vals (v := (.int .i64 r171)) rfl (HVal.move' rfl) ?_
                          refine HList.vals (v := (.int .i64 r181)) rfl (HVal.move' rfl) ?_
                          refine HList.vals (v := (.bool (decide (r171 ≠ r181)))) rfl (HVal.neqI rfl rfl) ?_
                          refine HList.vals (v := (.bool (decide (r171 ≠ r181)))) rfl (HVal.move' rfl) ?_
                          obtain ⟨hT, hF⟩ := h
                          rcases Bool.eq_false_or_eq_true (decide (r171 ≠ r181)) with hb189 | hb190
                          · have h := hT hb189
                            clear hT hF
                            refine HList.gskips rfl rfl rfl rfl (congrArg Value.bool hb189) ?_
                            refine HList.gskips rfl rfl rfl rfl (congrArg Value.bool hb189) ?_
                            refine HList.gskips rfl rfl rfl rfl (congrArg Value.bool hb189) ?_
                            refine HList.gskips rfl rfl rfl rfl (congrArg Value.bool hb189) ?_
                            refine HList.vals (v := (.bool true)) rfl (HVal.pickT rfl hb189 rfl) ?_
                            refine HList.nil ?_
                            refine nt ?_
                            exact ⟨true, ⟨rfl, rfl, rfl, rfl, rfl, rfl, rfl, rfl, trivial⟩, h⟩
                          · have h := hF hb190
                            clear hT hF
                            refine HList.gvals (v := (Sl.v r170)) rfl rfl rfl rfl (congrArg Value.bool hb190) (HVal.move' rfl) ?_
                            refine HList.gvals (v := (Sl.v r180)) rfl rfl rfl rfl (congrArg Value.bool hb190) (HVal.move' rfl) ?_
                            refine HList.gops rfl rfl rfl rfl (congrArg Value.bool hb190) (HOp.call' 23 [(Sl.v r170), (Sl.v r180)] (cap := []) rfl rfl Try.call23 (walk23 h)) ?_
                            rintro _ H192 ⟨r194, rfl, h⟩
                            refine HList.gvals (v := (.bool (!r194))) rfl rfl rfl rfl (congrArg Value.bool hb190) (HVal.not rfl) ?_
                            refine HList.vals (v := (.bool (!r194))) rfl (HVal.pickF rfl hb190 rfl) ?_
                            refine HList.nil ?_
                            refine nt ?_
                            exact ⟨(!r194), ⟨rfl, rfl, rfl, rfl, rfl, rfl, rfl, rfl, trivial⟩, h⟩
                        · rintro ρ H_8 ⟨y191, hI, h⟩
                          obtain ⟨ρ0, rfl⟩ : ∃ ρ0, ρ = (Env.set (Env.set (Env.set (Env.set (Env.set (Env.set (Env.set (Env.set ρ0 178 (.bool y191)) 18 (.int .i64 y151)) 17 (Sl.v r145)) 9 (.int .i64 y26)) 8 (.pointer (some ⟨H19.size, 0, none⟩))) 7 (.pointer r10)) 6 (.pointer r7)) 1 (Sl.v p1)) := ⟨ρ, hI.eq⟩
                          clear hI; unfold F7_8 at h
                          obtain ⟨hT, hF⟩ := h
                          refine HW.cond y191 rfl (fun hb195 => ?_) (fun hb195 => ?_)
                          · have h := hT hb195
                            clear hT hF
                            refine HW.seq ?_
                            refine HW.region ?_
                            refine HList.vals (v := (.bool false)) rfl (HVal.assign' rfl) ?_
                            refine HList.nil ?_
                            refine nt ?_
                            refine HW.ret ?_
                            refine br ?_
                            refine tr ?_
                            refine tr ?_
                            refine br ?_
                            refine tr ?_
                            refine br ?_
                            refine tr ?_
                            refine tr ?_
                            refine br ?_
                            refine tr ?_
                            exact ⟨_, resOf1 rfl Res1.t, ⟨false, rfl, h⟩⟩
                          · have h := hF hb195
                            clear hT hF
                            refine HW.skip ?_
                            refine nb ?_
                            refine nt ?_
                            refine HW.region ?_
                            refine HList.vals (v := (.int .i64 y151)) rfl (HVal.move' rfl) ?_
                            refine HList.vals (v := (.int .i64 (IntKind.i64.wrap (y151 + 1)))) rfl (HVal.add rfl rfl) ?_
                            refine HList.vals (v := (.int .i64 (IntKind.i64.wrap (y151 + 1)))) rfl (HVal.assign' rfl) ?_
                            refine HList.nil ?_
                            refine nt ?_
                            exact (hX7 _ _).1 h _ ⟨rfl, rfl, rfl, rfl, rfl, rfl, rfl, trivial⟩
                      · have h := hF hb161
                        clear hT hF
                        refine HList.gvals (v := (.int .i64 y26)) rfl rfl rfl rfl (congrArg Value.bool hb161) (HVal.move' rfl) ?_
                        refine HList.gvals (v := (.int .i64 (Int.tmod y26 (64 : Int)))) rfl rfl rfl rfl (congrArg Value.bool hb161) (HVal.rem rfl rfl (by decide)) ?_
                        refine HList.gvals (v := (.bool (decide ((Int.tmod y26 (64 : Int)) = 0)))) rfl rfl rfl rfl (congrArg Value.bool hb161) (HVal.eqlI rfl rfl) ?_
                        refine HList.gvals (v := (.bool (decide ((Int.tmod y26 (64 : Int)) = 0)))) rfl rfl rfl rfl (congrArg Value.bool hb158) (HVal.pickF rfl hb161 rfl) ?_
                        refine HList.vals (v := (.bool (decide ((Int.tmod y26 (64 : Int)) = 0)))) rfl (HVal.pickT rfl hb158 rfl) ?_
                        refine HList.nil ?_
                        refine nt ?_
                        obtain ⟨hT, hF⟩ := h
                        refine HW.cond (decide ((Int.tmod y26 (64 : Int)) = 0)) rfl (fun hb196 => ?_) (fun hb196 => ?_)
                        · have h := hT hb196
                          clear hT hF
                          refine HW.skip ?_
                          refine nt ?_
                          refine HW.seq ?_
                          refine HW.block ?_
                          refine HW.seq ?_
                          refine HW.region ?_
                          refine HList.vals (v := (.pointer r7)) rfl (HVal.move' rfl) ?_
                          refine HList.vals (v := (Sl.v r145)) rfl (HVal.move' rfl) ?_
                          refine HList.vals (v := (.int .i64 y151)) rfl (HVal.move' rfl) ?_
                          obtain ⟨a197, e198, b199, b200, h⟩ := h
                          refine HList.vals (v := (.pointer (some (Addr.add a197 (y151.toNat * 1))))) rfl (HVal.indexAddr Try.runUnderlying50 Try.sizeOf3 (Sl.v_some rfl e198) rfl b199 b200) ?_
                          obtain ⟨x202, c201, h⟩ := h
                          refine HList.vals (v := (.int .i64 x202)) rfl (HVal.load1 Try.isAgg3 rfl c201) ?_
                          refine HList.ops' rfl (HOp.call' 22 [(.pointer r7), (.int .i64 x202)] (cap := []) rfl rfl Try.call22 (walk22 h)) ?_
                          rintro _ H203 ⟨r205, r206, rfl, h⟩
                          refine HList.vals (v := (.tuple #[(Sl.v r205), (.int .i64 r206)])) rfl (HVal.move' rfl) ?_
                          refine HList.vals (v := (Sl.v r205)) rfl (HVal.extract rfl rfl) ?_
                          refine HList.vals (v := (.int .i64 r206)) rfl (HVal.extract rfl rfl) ?_
                          refine HList.vals (v := (Sl.v r205)) rfl (HVal.assign' rfl) ?_
                          refine HList.vals (v := (.int .i64 r206)) rfl (HVal.assign' rfl) ?_
                          refine HList.nil ?_
                          refine nt ?_
                          refine HW.seq ?_
                          refine HW.region ?_
                          refine HList.vals (v := (.pointer r10)) rfl (HVal.move' rfl) ?_
                          refine HList.vals (v := (Sl.v r145)) rfl (HVal.move' rfl) ?_
                          refine HList.vals (v := (.int .i64 y151)) rfl (HVal.move' rfl) ?_
                          obtain ⟨a207, e208, b209, b210, h⟩ := h
                          refine HList.vals (v := (.pointer (some (Addr.add a207 (y151.toNat * 1))))) rfl (HVal.indexAddr Try.runUnderlying50 Try.sizeOf3 (Sl.v_some rfl e208) rfl b209 b210) ?_
                          obtain ⟨x212, c211, h⟩ := h
                          refine HList.vals (v := (.int .i64 x212)) rfl (HVal.load1 Try.isAgg3 rfl c211) ?_
                          refine HList.ops' rfl (HOp.call' 22 [(.pointer r10), (.int .i64 x212)] (cap := []) rfl rfl Try.call22 (walk22 h)) ?_
                          rintro _ H213 ⟨r215, r216, rfl, h⟩
                          refine HList.vals (v := (.tuple #[(Sl.v r215), (.int .i64 r216)])) rfl (HVal.move' rfl) ?_
                          refine HList.vals (v := (Sl.v r215)) rfl (HVal.extract rfl rfl) ?_
                          refine HList.vals (v := (.int .i64 r216)) rfl (HVal.extract rfl rfl) ?_
                          refine HList.vals (v := (Sl.v r215)) rfl (HVal.assign' rfl) ?_
                          refine HList.vals (v := (.int .i64 r216)) rfl (HVal.assign' rfl) ?_
                          refine HList.nil ?_
                          refine nt ?_
                          refine HW.cut (fun ρ H_9 => ∃ (y226 : Bool), Env.Is ρ [(1, (Sl.v p1)), (6, (.pointer r7)), (7, (.pointer r10)), (8, (.pointer (some ⟨H19.size, 0, none⟩))), (9, (.int .i64 y26)), (17, (Sl.v r145)), (18, (.int .i64 y151)), (178, (.bool y226))] ∧ F7_9 Q X3 X7 p1 r7 r10 ⟨H19.size, 0, none⟩ y26 r145 y151 y226 H_9) ?_ ?_
                          · refine HW.region ?_
                            refine HList.vals (v := (.int .i64 r206)) rfl (HVal.move' rfl) ?_
                            refine HList.vals (v := (.int .i64 r216)) rfl (HVal.move' rfl) ?_
                            refine HList.vals (v := (.bool (decide (r206 ≠ r216)))) rfl (HVal.neqI rfl rfl) ?_
                            refine HList.vals (v := (.bool (decide (r206 ≠ r216)))) rfl (HVal.move' rfl) ?_
                            obtain ⟨hT, hF⟩ := h
                            rcases Bool.eq_false_or_eq_true (decide (r206 ≠ r216)) with hb224 | hb225
                            · have h := hT hb224
                              clear hT hF
                              refine HList.gskips rfl rfl rfl rfl (congrArg Value.bool hb224) ?_
                              refine HList.gskips rfl rfl rfl rfl (congrArg Value.bool hb224) ?_
                              refine HList.gskips rfl rfl rfl rfl (congrArg Value.bool hb224) ?_
                              refine HList.gskips rfl rfl rfl rfl (congrArg Value.bool hb224) ?_
                              refine HList.vals (v := (.bool true)) rfl (HVal.pickT rfl hb224 rfl) ?_
                              refine HList.nil ?_
                              refine nt ?_
                              exact ⟨true, ⟨rfl, rfl, rfl, rfl, rfl, rfl, rfl, rfl, trivial⟩, h⟩
                            · have h := hF hb225
                              clear hT hF
                              refine HList.gvals (v := (Sl.v r205)) rfl rfl rfl rfl (congrArg Value.bool hb225) (HVal.move' rfl) ?_
                              refine HList.gvals (v := (Sl.v r215)) rfl rfl rfl rfl (congrArg Value.bool hb225) (HVal.move' rfl) ?_
                              refine HList.gops rfl rfl rfl rfl (congrArg Value.bool hb225) (HOp.call' 23 [(Sl.v r205), (Sl.v r215)] (cap := []) rfl rfl Try.call23 (walk23 h)) ?_
                              rintro _ H227 ⟨r229, rfl, h⟩
                              refine HList.gvals (v := (.bool (!r229))) rfl rfl rfl rfl (congrArg Value.bool hb225) (HVal.not rfl) ?_
                              refine HList.vals (v := (.bool (!r229))) rfl (HVal.pickF rfl hb225 rfl) ?_
                              refine HList.nil ?_
                              refine nt ?_
                              exact ⟨(!r229), ⟨rfl, rfl, rfl, rfl, rfl, rfl, rfl, rfl, trivial⟩, h⟩
                          · rintro ρ H_9 ⟨y226, hI, h⟩
                            obtain ⟨ρ0, rfl⟩ : ∃ ρ0, ρ = (Env.set (Env.set (Env.set (Env.set (Env.set (Env.set (Env.set (Env.set ρ0 178 (.bool y226)) 18 (.int .i64 y151)) 17 (Sl.v r145)) 9 (.int .i64 y26)) 8 (.pointer (some ⟨H19.size, 0, none⟩))) 7 (.pointer r10)) 6 (.pointer r7)) 1 (Sl.v p1)) := ⟨ρ, hI.eq⟩
                            clear hI; unfold F7_9 at h
                            obtain ⟨hT, hF⟩ := h
                            refine HW.cond y226 rfl (fun hb230 => ?_) (fun hb230 => ?_)
                            · have h := hT hb230
                              clear hT hF
                              refine HW.seq ?_
                              refine HW.region ?_
                              refine HList.vals (v := (.bool false)) rfl (HVal.assign' rfl) ?_
                              refine HList.nil ?_
                              refine nt ?_
                              refine HW.ret ?_
                              refine br ?_
                              refine tr ?_
                              refine tr ?_
                              refine br ?_
                              refine tr ?_
                              refine br ?_
                              refine tr ?_
                              refine tr ?_
                              refine br ?_
                              refine tr ?_
                              exact ⟨_, resOf1 rfl Res1.t, ⟨false, rfl, h⟩⟩
                            · have h := hF hb230
                              clear hT hF
                              refine HW.skip ?_
                              refine nb ?_
                              refine nt ?_
                              refine HW.region ?_
                              refine HList.vals (v := (.int .i64 y151)) rfl (HVal.move' rfl) ?_
                              refine HList.vals (v := (.int .i64 (IntKind.i64.wrap (y151 + 1)))) rfl (HVal.add rfl rfl) ?_
                              refine HList.vals (v := (.int .i64 (IntKind.i64.wrap (y151 + 1)))) rfl (HVal.assign' rfl) ?_
                              refine HList.nil ?_
                              refine nt ?_
                              exact (hX7 _ _).1 h _ ⟨rfl, rfl, rfl, rfl, rfl, rfl, rfl, trivial⟩
                        · have h := hF hb196
                          clear hT hF
                          refine HW.exit ?_
                          refine te ?_
                          refine te ?_
                          refine be ?_
                          refine nt ?_
                          exact ⟨⟨rfl, rfl, rfl, rfl, rfl, trivial⟩, h⟩
                    · have h := hF hb159
                      clear hT hF
                      refine HList.gskips rfl rfl rfl rfl (congrArg Value.bool hb159) ?_
                      refine HList.gskips rfl rfl rfl rfl (congrArg Value.bool hb159) ?_
                      refine HList.gskips rfl rfl rfl rfl (congrArg Value.bool hb159) ?_
                      refine HList.uskips rfl rfl rfl rfl rfl ?_
                      refine HList.uskips rfl rfl rfl rfl rfl ?_
                      refine HList.uskips rfl rfl rfl rfl rfl ?_
                      refine HList.gskips rfl rfl rfl rfl (congrArg Value.bool hb159) ?_
                      refine HList.vals (v := (.bool false)) rfl (HVal.pickF rfl hb159 rfl) ?_
                      refine HList.nil ?_
                      refine nt ?_
                      refine HW.condF false rfl rfl ?_
                      refine HW.exit ?_
                      refine te ?_
                      refine te ?_
                      refine be ?_
                      refine nt ?_
                      exact ⟨⟨rfl, rfl, rfl, rfl, rfl, trivial⟩, h⟩
                  · rintro ρ H_6 ⟨hI, h⟩
                    obtain ⟨ρ0, rfl⟩ : ∃ ρ0, ρ = (Env.set (Env.set (Env.set (Env.set (Env.set ρ0 9 (.int .i64 y26)) 8 (.pointer (some ⟨H19.size, 0, none⟩))) 7 (.pointer r10)) 6 (.pointer r7)) 1 (Sl.v p1)) := ⟨ρ, hI.eq⟩
                    clear hI; unfold F7_6 at h
                    refine HW.cut (fun ρ H_10 => ∃ (y243 : Bool), Env.Is ρ [(1, (Sl.v p1)), (6, (.pointer r7)), (7, (.pointer r10)), (8, (.pointer (some ⟨H19.size, 0, none⟩))), (9, (.int .i64 y26)), (197, (.bool y243))] ∧ F7_10 Q X3 p1 r7 r10 ⟨H19.size, 0, none⟩ y26 y243 H_10) ?_ ?_
                    · refine HW.region ?_
                      refine HList.vals (v := (.int .i64 y26)) rfl (HVal.move' rfl) ?_
                      refine HList.vals (v := (.bool (decide (y26 < 120)))) rfl (HVal.lss rfl rfl) ?_
                      refine HList.vals (v := (.bool (decide (y26 < 120)))) rfl (HVal.move' rfl) ?_
                      obtain ⟨hT, hF⟩ := h
                      rcases Bool.eq_false_or_eq_true (decide (y26 < 120)) with hb236 | hb237
                      · have h := hT hb236
                        clear hT hF
                        refine HList.gskips rfl rfl rfl rfl (congrArg Value.bool hb236) ?_
                        refine HList.gskips rfl rfl rfl rfl (congrArg Value.bool hb236) ?_
                        refine HList.gskips rfl rfl rfl rfl (congrArg Value.bool hb236) ?_
                        refine HList.vals (v := (.bool true)) rfl (HVal.pickT rfl hb236 rfl) ?_
                        refine HList.vals (v := (.bool true)) rfl (HVal.move' rfl) ?_
                        refine HList.gvals (v := (.pointer (some ⟨H19.size, 0, none⟩))) rfl rfl rfl rfl rfl (HVal.move' rfl) ?_
                        refine HList.gops rfl rfl rfl rfl rfl (HOp.call' 28 [(.pointer (some ⟨H19.size, 0, none⟩))] (cap := []) rfl rfl Try.call28 (walk28 h)) ?_
                        rintro _ H238 ⟨r240, rfl, h⟩
                        refine HList.gvals (v := (.bool (!r240))) rfl rfl rfl rfl rfl (HVal.not rfl) ?_
                        refine HList.vals (v := (.bool (!r240))) rfl (HVal.pickT rfl rfl rfl) ?_
                        refine HList.vals (v := (.bool (!r240))) rfl (HVal.move' rfl) ?_
                        obtain ⟨hT, hF⟩ := h
                        rcases Bool.eq_false_or_eq_true (!r240) with hb241 | hb242
                        · have h := hT hb241
                          clear hT hF
                          refine HList.gskips rfl rfl rfl rfl (congrArg Value.bool hb241) ?_
                          refine HList.gskips rfl rfl rfl rfl (congrArg Value.bool hb241) ?_
                          refine HList.gskips rfl rfl rfl rfl (congrArg Value.bool hb241) ?_
                          refine HList.gskips rfl rfl rfl rfl (congrArg Value.bool hb241) ?_
                          refine HList.gskips rfl rfl rfl rfl (congrArg Value.bool hb241) ?_
                          refine HList.vals (v := (.bool true)) rfl (HVal.pickT rfl hb241 rfl) ?_
                          refine HList.nil ?_
                          refine nt ?_
                          exact ⟨true, ⟨rfl, rfl, rfl, rfl, rfl, rfl, trivial⟩, h⟩
                        · have h := hF hb242
                          clear hT hF
                          refine HList.gvals (v := (.pointer r7)) rfl rfl rfl rfl (congrArg Value.bool hb242) (HVal.move' rfl) ?_
                          refine HList.gops rfl rfl rfl rfl (congrArg Value.bool hb242) (HOp.call' 19 [(.pointer r7)] (cap := []) rfl rfl Try.call19 (walk19 h)) ?_
                          rintro _ H244 ⟨r246, rfl, h⟩
                          refine HList.gvals (v := (.pointer r10)) rfl rfl rfl rfl (congrArg Value.bool hb242) (HVal.move' rfl) ?_
                          refine HList.gops rfl rfl rfl rfl (congrArg Value.bool hb242) (HOp.call' 19 [(.pointer r10)] (cap := []) rfl rfl Try.call19 (walk19 h)) ?_
                          rintro _ H247 ⟨r249, rfl, h⟩
                          refine HList.gvals (v := (.bool (decide (r246 ≠ r249)))) rfl rfl rfl rfl (congrArg Value.bool hb242) (HVal.neqI rfl rfl) ?_
                          refine HList.vals (v := (.bool (decide (r246 ≠ r249)))) rfl (HVal.pickF rfl hb242 rfl) ?_
                          refine HList.nil ?_
                          refine nt ?_
                          exact ⟨(decide (r246 ≠ r249)), ⟨rfl, rfl, rfl, rfl, rfl, rfl, trivial⟩, h⟩
                      · have h := hF hb237
                        clear hT hF
                        refine HList.gvals (v := (.int .i64 y26)) rfl rfl rfl rfl (congrArg Value.bool hb237) (HVal.move' rfl) ?_
                        refine HList.gvals (v := (.int .i64 (Int.tmod y26 (64 : Int)))) rfl rfl rfl rfl (congrArg Value.bool hb237) (HVal.rem rfl rfl (by decide)) ?_
                        refine HList.gvals (v := (.bool (decide ((Int.tmod y26 (64 : Int)) = 0)))) rfl rfl rfl rfl (congrArg Value.bool hb237) (HVal.eqlI rfl rfl) ?_
                        refine HList.vals (v := (.bool (decide ((Int.tmod y26 (64 : Int)) = 0)))) rfl (HVal.pickF rfl hb237 rfl) ?_
                        refine HList.vals (v := (.bool (decide ((Int.tmod y26 (64 : Int)) = 0)))) rfl (HVal.move' rfl) ?_
                        obtain ⟨hT, hF⟩ := h
                        rcases Bool.eq_false_or_eq_true (decide ((Int.tmod y26 (64 : Int)) = 0)) with hb250 | hb251
                        · have h := hT hb250
                          clear hT hF
                          refine HList.gvals (v := (.pointer (some ⟨H19.size, 0, none⟩))) rfl rfl rfl rfl (congrArg Value.bool hb250) (HVal.move' rfl) ?_
                          refine HList.gops rfl rfl rfl rfl (congrArg Value.bool hb250) (HOp.call' 28 [(.pointer (some ⟨H19.size, 0, none⟩))] (cap := []) rfl rfl Try.call28 (walk28 h)) ?_
                          rintro _ H252 ⟨r254, rfl, h⟩
                          refine HList.gvals (v := (.bool (!r254))) rfl rfl rfl rfl (congrArg Value.bool hb250) (HVal.not rfl) ?_
                          refine HList.vals (v := (.bool (!r254))) rfl (HVal.pickT rfl hb250 rfl) ?_
                          refine HList.vals (v := (.bool (!r254))) rfl (HVal.move' rfl) ?_
                          obtain ⟨hT, hF⟩ := h
                          rcases Bool.eq_false_or_eq_true (!r254) with hb255 | hb256
                          · have h := hT hb255
                            clear hT hF
                            refine HList.gskips rfl rfl rfl rfl (congrArg Value.bool hb255) ?_
                            refine HList.gskips rfl rfl rfl rfl (congrArg Value.bool hb255) ?_
                            refine HList.gskips rfl rfl rfl rfl (congrArg Value.bool hb255) ?_
                            refine HList.gskips rfl rfl rfl rfl (congrArg Value.bool hb255) ?_
                            refine HList.gskips rfl rfl rfl rfl (congrArg Value.bool hb255) ?_
                            refine HList.vals (v := (.bool true)) rfl (HVal.pickT rfl hb255 rfl) ?_
                            refine HList.nil ?_
                            refine nt ?_
                            exact ⟨true, ⟨rfl, rfl, rfl, rfl, rfl, rfl, trivial⟩, h⟩
                          · have h := hF hb256
                            clear hT hF
                            refine HList.gvals (v := (.pointer r7)) rfl rfl rfl rfl (congrArg Value.bool hb256) (HVal.move' rfl) ?_
                            refine HList.gops rfl rfl rfl rfl (congrArg Value.bool hb256) (HOp.call' 19 [(.pointer r7)] (cap := []) rfl rfl Try.call19 (walk19 h)) ?_
                            rintro _ H257 ⟨r259, rfl, h⟩
                            refine HList.gvals (v := (.pointer r10)) rfl rfl rfl rfl (congrArg Value.bool hb256) (HVal.move' rfl) ?_
                            refine HList.gops rfl rfl rfl rfl (congrArg Value.bool hb256) (HOp.call' 19 [(.pointer r10)] (cap := []) rfl rfl Try.call19 (walk19 h)) ?_
                            rintro _ H260 ⟨r262, rfl, h⟩
                            refine HList.gvals (v := (.bool (decide (r259 ≠ r262)))) rfl rfl rfl rfl (congrArg Value.bool hb256) (HVal.neqI rfl rfl) ?_
                            refine HList.vals (v := (.bool (decide (r259 ≠ r262)))) rfl (HVal.pickF rfl hb256 rfl) ?_
                            refine HList.nil ?_
                            refine nt ?_
                            exact ⟨(decide (r259 ≠ r262)), ⟨rfl, rfl, rfl, rfl, rfl, rfl, trivial⟩, h⟩
                        · have h := hF hb251
                          clear hT hF
                          refine HList.gskips rfl rfl rfl rfl (congrArg Value.bool hb251) ?_
                          refine HList.gskips rfl rfl rfl rfl (congrArg Value.bool hb251) ?_
                          refine HList.gskips rfl rfl rfl rfl (congrArg Value.bool hb251) ?_
                          refine HList.vals (v := (.bool false)) rfl (HVal.pickF rfl hb251 rfl) ?_
                          refine HList.vals (v := (.bool false)) rfl (HVal.move' rfl) ?_
                          refine HList.gvals (v := (.pointer r7)) rfl rfl rfl rfl rfl (HVal.move' rfl) ?_
                          refine HList.gops rfl rfl rfl rfl rfl (HOp.call' 19 [(.pointer r7)] (cap := []) rfl rfl Try.call19 (walk19 h)) ?_
                          rintro _ H263 ⟨r265, rfl, h⟩
                          refine HList.gvals (v := (.pointer r10)) rfl rfl rfl rfl rfl (HVal.move' rfl) ?_
                          refine HList.gops rfl rfl rfl rfl rfl (HOp.call' 19 [(.pointer r10)] (cap := []) rfl rfl Try.call19 (walk19 h)) ?_
                          rintro _ H266 ⟨r268, rfl, h⟩
                          refine HList.gvals (v := (.bool (decide (r265 ≠ r268)))) rfl rfl rfl rfl rfl (HVal.neqI rfl rfl) ?_
                          refine HList.vals (v := (.bool (decide (r265 ≠ r268)))) rfl (HVal.pickF rfl rfl rfl) ?_
                          refine HList.nil ?_
                          refine nt ?_
                          exact ⟨(decide (r265 ≠ r268)), ⟨rfl, rfl, rfl, rfl, rfl, rfl, trivial⟩, h⟩
                    · rintro ρ H_10 ⟨y243, hI, h⟩
                      obtain ⟨ρ0, rfl⟩ : ∃ ρ0, ρ = (Env.set (Env.set (Env.set (Env.set (Env.set (Env.set ρ0 197 (.bool y243)) 9 (.int .i64 y26)) 8 (.pointer (some ⟨H19.size, 0, none⟩))) 7 (.pointer r10)) 6 (.pointer r7)) 1 (Sl.v p1)) := ⟨ρ, hI.eq⟩
                      clear hI; unfold F7_10 at h
                      obtain ⟨hT, hF⟩ := h
                      refine HW.cond y243 rfl (fun hb269 => ?_) (fun hb269 => ?_)
                      · have h := hT hb269
                        clear hT hF
                        refine HW.seq ?_
                        refine HW.region ?_
                        refine HList.vals (v := (.bool false)) rfl (HVal.assign' rfl) ?_
                        refine HList.nil ?_
                        refine nt ?_
                        refine HW.ret ?_
                        refine br ?_
                        refine tr ?_
                        refine tr ?_
                        refine br ?_
                        refine tr ?_
                        exact ⟨_, resOf1 rfl Res1.t, ⟨false, rfl, h⟩⟩
                      · have h := hF hb269
                        clear hT hF
                        refine HW.skip ?_
                        refine nb ?_
                        refine nt ?_
                        refine HW.region ?_
                        refine HList.vals (v := (.int .i64 y26)) rfl (HVal.move' rfl) ?_
                        refine HList.vals (v := (.int .i64 (IntKind.i64.wrap (y26 + 1)))) rfl (HVal.add rfl rfl) ?_
                        refine HList.vals (v := (.int .i64 (IntKind.i64.wrap (y26 + 1)))) rfl (HVal.assign' rfl) ?_
                        refine HList.nil ?_
                        refine nt ?_
                        exact (hX3 _ _).1 h _ ⟨rfl, rfl, rfl, rfl, rfl, trivial⟩
              · have h := hF hb35
                clear hT hF
                refine HW.exit ?_
                refine te ?_
                refine te ?_
                refine be ?_
                refine nt ?_
                exact ⟨⟨rfl, trivial⟩, h⟩
            · have h := hF hb32
              clear hT hF
              refine HList.gskips rfl rfl rfl rfl (congrArg Value.bool hb32) ?_
              refine HList.gskips rfl rfl rfl rfl (congrArg Value.bool hb32) ?_
              refine HList.gskips rfl rfl rfl rfl (congrArg Value.bool hb32) ?_
              refine HList.gskips rfl rfl rfl rfl (congrArg Value.bool hb32) ?_
              refine HList.gskips rfl rfl rfl rfl (congrArg Value.bool hb32) ?_
              refine HList.vals (v := (.bool false)) rfl (HVal.pickF rfl hb32 rfl) ?_
              refine HList.nil ?_
              refine nt ?_
              refine HW.condF false rfl rfl ?_
              refine HW.exit ?_
              refine te ?_
              refine te ?_
              refine be ?_
              refine nt ?_
              exact ⟨⟨rfl, trivial⟩, h⟩
          · rintro ρ H_2 ⟨hI, h⟩
            obtain ⟨ρ0, rfl⟩ : ∃ ρ0, ρ = (Env.set ρ0 8 (.pointer (some ⟨H19.size, 0, none⟩))) := ⟨ρ, hI.eq⟩
            clear hI; unfold F7_2 at h
            refine HW.seq ?_
            refine HW.region ?_
            refine HList.vals (v := (.pointer (some ⟨H19.size, 0, none⟩))) rfl (HVal.move' rfl) ?_
            refine HList.ops' rfl (HOp.call' 28 [(.pointer (some ⟨H19.size, 0, none⟩))] (cap := []) rfl rfl Try.call28 (walk28 h)) ?_
            rintro _ H270 ⟨r272, rfl, h⟩
            refine HList.vals (v := (.bool r272)) rfl (HVal.assign' rfl) ?_
            refine HList.nil ?_
            refine nt ?_
            refine HW.ret ?_
            exact ⟨_, resOf1 rfl Res1.t, ⟨r272, rfl, h⟩⟩

end Go.Hw
