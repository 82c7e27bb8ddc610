/- OrderAll. Own work of this session. -/
import Derived.Test.YtjeponambmjhcaaD2
set_option linter.unusedVariables false
namespace Go.Hw
open Go

structure OP where
  kind : Int
  on : Bool
  ty : ByteArray
  tm : Int
  sl : Sl
  now : Int
  vs : List VT
def oF : Fmt OP 34 6 := ⟨fun o => [.int .i64 o.kind, .bool o.on, .string o.ty, .int .i64 o.tm, Sl.v o.sl, .int .i64 o.now], fun _ => rfl, by intro x v hv; simp at hv; rcases hv with rfl | rfl | rfl | rfl | rfl | rfl <;> rfl, by decide⟩

structure Inv (H0 H : Hp) (ba bb : Nat) (pg pr qg qr : Option Addr) (FA FB : Nat → Prop) (c : Int) : Prop where
  k : Kp No H0 H
  a : Row H ba 26 [.pointer pg, .pointer pr]
  b : Row H bb 26 [.pointer qg, .pointer qr]
  ga : GG H pg pr FA c
  gb : GG H qg qr FB c
  na : ∀ b, FA b → H0.size ≤ b
  nb : ∀ b, FB b → H0.size ≤ b
  dis : ∀ b, FA b → ¬ FB b
  hb : H0.size ≤ bb
  ne : ba ≠ bb

section
variable {H0 H H' : Hp} {ba bb : Nat} {pg pr qg qr : Option Addr} {FA FB : Nat → Prop} {c : Int}
theorem Inv.no (h : Inv H0 H ba bb pg pr qg qr FA FB c) (k : Kp No H H') : Inv H0 H' ba bb pg pr qg qr FA FB c :=
  ⟨h.k.trans k fun _ => False.elim, k.row h.a id, k.row h.b id, h.ga.no k, h.gb.no k, h.na, h.nb, h.dis, h.hb, h.ne⟩
theorem Inv.new (h : Inv H0 H ba bb pg pr qg qr FA FB c) (k : Kp (fun b => H.size ≤ b) H H') : Inv H0 H' ba bb pg pr qg qr FA FB c :=
  h.no (k.mono fun b hb hS => by show False; exact absurd hS (Nat.not_le.2 hb))
theorem Inv.goA (h : Inv H0 H ba bb pg pr qg qr FA FB c) {FA' : Nat → Prop} {c' : Int} (g : GG H' pg pr FA' c') (k : Kp FA H H') (hn : ∀ b, FA' b → FA b ∨ H.size ≤ b) (hc : c ≤ c') : Inv H0 H' ba bb pg pr qg qr FA' FB c' :=
  ⟨h.k.trans k fun b hb => .inr (h.na b hb), k.row h.a (fun hF => h.ga.not26 _ _ hF h.a), k.row h.b (fun hF => h.ga.not26 _ _ hF h.b), g, (h.gb.kp k (fun b hb hF => h.dis b hF hb) h.ga.not49).le hc,
    fun b hb => (hn b hb).elim (h.na b) (fun h' => Nat.le_trans h.k.size h'), h.nb, fun b hb hB => (hn b hb).elim (fun h' => h.dis b h' hB) (fun h' => by have := h.gb.lt hB; omega), h.hb, h.ne⟩
theorem Inv.goB (h : Inv H0 H ba bb pg pr qg qr FA FB c) {FB' : Nat → Prop} {c' : Int} (g : GG H' qg qr FB' c') (k : Kp FB H H') (hn : ∀ b, FB' b → FB b ∨ H.size ≤ b) (hc : c ≤ c') : Inv H0 H' ba bb pg pr qg qr FA FB' c' :=
  ⟨h.k.trans k fun b hb => .inr (h.nb b hb), k.row h.a (fun hF => h.gb.not26 _ _ hF h.a), k.row h.b (fun hF => h.gb.not26 _ _ hF h.b), (h.ga.kp k (fun b hb hF => h.dis b hb hF) h.gb.not49).le hc, g,
    h.na, fun b hb => (hn b hb).elim (h.nb b) (fun h' => Nat.le_trans h.k.size h'), fun b hb hB => (hn b hB).elim (fun h' => h.dis b hb h') (fun h' => by have := h.ga.lt hb; omega), h.hb, h.ne⟩
/-- The second gate is laid into its box. -/
theorem Inv.setB (h : Inv H0 H ba bb pg pr qg qr FA FB c) {sg sr : Option Addr} {FB' : Nat → Prop} (g : GG H sg sr FB' c) (hn : ∀ b, FB' b → H0.size ≤ b) (hd : ∀ b, FA b → ¬ FB' b) (e : H' = sets H ⟨bb, 0, none⟩ [.pointer sg, .pointer sr] 0) :
    Inv H0 H' ba bb pg pr sg sr FA FB' c := by
  have k := (Kp.refl (fun b => b = bb) H).sets' e (.inl rfl)
  have n49 : ∀ b l, b = bb → ¬ Row H b 49 l := fun b l e rr => rr.ne_type h.b (by decide) e
  exact ⟨h.k.trans k fun b e => .inr (e ▸ h.hb), h.a.sets_ne' e h.ne, h.b.fill' e rfl, h.ga.kp k (fun b hb e => h.ga.not26 _ _ (e ▸ hb) h.b) n49, g.kp k (fun b hb e => g.not26 _ _ (e ▸ hb) h.b) n49, h.na, hn, hd, h.hb, h.ne⟩
end

theorem c3 {late room slow small : Int} {script : Sl} {Ops : List OP} {H0 : Hp} {Q : Bool → Hp → Prop} (hs : RdL oF H0 script Ops) (hl : Ops.length ≤ 1048576) (hv : ∀ o ∈ Ops, RdL vF H0 o.sl o.vs ∧ o.vs.length ≤ 1048576)
    (hQ : ∀ H', Kp No H0 H' → Q true H') : F3 late room slow small script H0 Q := by
  have hn := hs.n
  refine c5 fun pg pr H1 F1 g1 k1 hF1 H2 e2 => ?_
  have k2 := k1.push' e2
  have s2 := size_push' e2
  have s1 := k1.size
  have b2 := Row.new' e2
  refine ⟨b2.mayall, fun H3 e3 => ?_⟩
  have b3 := b2.fill' e3 rfl
  have k13 : Kp No H1 H3 := ((Kp.refl No H1).push' e2).sets' e3 (.inr (Nat.le_refl _))
  have g3 := g1.no k13
  refine c6 fun H4 k4 => ⟨fun hf => (by cases hf), fun _ => ⟨fun hf => (by cases hf), fun _ H5 e5 => ?_⟩⟩
  have k45 := k4.push' e5
  have sk4 := k4.size
  have sk13 := k13.size
  have hlt3 := b3.lt
  have inv0 : Inv H0 H5 H1.size H4.size pg pr none none F1 (fun _ => False) 0 :=
    ⟨(k1.trans k13 fun _ => False.elim).trans k45 fun _ => False.elim, k45.row b3 id, Row.new' e5, (g3.no k45), .inl ⟨rfl, rfl, fun _ => id⟩, hF1, fun _ => False.elim, fun _ _ => id, by omega, by omega⟩
  intro X hX
  suffices G : ∀ (d : Nat) (H : Hp) (i : Nat) (bg : Bool) (qg qr : Option Addr) (FA FB : Nat → Prop), i + d = Ops.length → Inv H0 H H1.size H4.size pg pr qg qr FA FB i → X true bg i H from
    G Ops.length H5 0 false none none F1 _ (by omega) inv0
  intro d
  induction d with
  | zero =>
    intro H i bg qg qr FA FB hi inv
    refine hX _ _ _ _ ⟨fun hb => absurd (of_decide_eq_true hb) (by omega), fun _ => ?_⟩
    have fin : ∀ H', Kp No H H' → F3_7 Q ⟨H1.size, 0, none⟩ ⟨H4.size, 0, none⟩ true H' := by
      intro H' k'
      have inv := inv.no k'
      refine ⟨fun _ => ⟨_, _, inv.a.all, c7 inv.ga (by omega) (fun H'' _ => RdL.nil vF H'') (by simp) fun H6 FA' ga' k6 hn' => ⟨fun _ => ?_, fun hf => (by cases hf)⟩⟩, fun hf => (by cases hf)⟩
      have inv6 := inv.goA ga' k6 hn' (by omega)
      refine ⟨_, _, inv6.b.all, c7 inv6.gb (by omega) (fun H'' _ => RdL.nil vF H'') (by simp) fun H7 FB' gb' k7 hn'' => ?_⟩
      exact hQ H7 (inv6.goB gb' k7 hn'' (by omega)).k
    cases bg with
    | true => exact ⟨fun hf => (by cases hf), fun _ => fin H (Kp.refl _ _)⟩
    | false => exact ⟨fun _ => c5 fun _ _ H' _ _ k' _ => fin H' k', fun hf => (by cases hf)⟩
  | succ d ih =>
    intro H i bg qg qr FA FB hi inv
    have hx : Ops[i]? = some (Ops[i]'(by omega)) := List.getElem?_eq_getElem (by omega)
    generalize Ops[i]'(by omega) = o at hx
    have hov := hv o (List.mem_of_getElem? hx)
    have hw : IntKind.i64.wrap ((i : Int) + 1) = ((i + 1 : Nat) : Int) := wr (by omega) (by omega)
    refine hX _ _ _ _ ⟨fun _ => ⟨_, _, inv.a.all, fun H6 e6 => ?_⟩, fun hb => absurd (of_decide_eq_false hb) (by omega)⟩
    have b6 := Row.new' e6
    have s6 := size_push' e6
    refine ⟨b6.mayall, fun H7 e7 => ?_⟩
    have b7 := b6.fill' e7 rfl
    have k67 : Kp No H H7 := ((Kp.refl No H).push' e6).sets' e7 (.inr (Nat.le_refl _))
    have inv7 := inv.no k67
    have hlt := inv.b.lt
    have hlta := inv.a.lt
    have sk := inv.k.size
    -- reading the step
    have rd : ∀ H', Kp No H0 H' → ∃ a, script.b = some a ∧ (0 : Int) ≤ i ∧ (i : Int) < (script.n : Int) ∧ cells H' (a.add (i * 6)) (oF.f o) 0 := fun H' k' => by
      obtain ⟨a, ha, hi0, ca⟩ := (hs.kp0 k').get hx
      exact ⟨a, ha, by omega, by omega, ca⟩
    -- the step itself
    have stepA : ∀ (H' : Hp) (FA FB : Nat → Prop) (qg qr : Option Addr) (bg : Bool), Inv H0 H' H1.size H4.size pg pr qg qr FA FB i → Row H' H.size 26 [.pointer pg, .pointer pr] → F3_4 Q X slow small script ⟨H1.size, 0, none⟩ ⟨H4.size, 0, none⟩ i ⟨H.size, 0, none⟩ true bg H' := by
      intro H' FA FB qg qr bg inv bx
      obtain ⟨a, ha, hi0, hi1, ca⟩ := rd H' inv.k
      refine ⟨_, _, bx.all, a, ha, hi0, hi1, _, _, _, _, _, _, ca, c7 inv.ga (by omega) (fun H'' k'' => hov.1.kp0 (inv.k.trans k'' fun b hb => .inr (inv.na b hb))) hov.2 fun H8 F8 g8 k8 hn8 => ⟨fun hf => (by cases hf), fun _ => ?_⟩⟩
      rw [hw]
      exact ih H8 (i + 1) bg qg qr F8 FB (by omega) (inv.goA g8 k8 hn8 (by omega))
    have stepB : ∀ (H' : Hp) (FA FB : Nat → Prop) (qg qr : Option Addr) (bg : Bool), Inv H0 H' H1.size H4.size pg pr qg qr FA FB i → Row H' H.size 26 [.pointer qg, .pointer qr] → F3_4 Q X slow small script ⟨H1.size, 0, none⟩ ⟨H4.size, 0, none⟩ i ⟨H.size, 0, none⟩ true bg H' := by
      intro H' FA FB qg qr bg inv bx
      obtain ⟨a, ha, hi0, hi1, ca⟩ := rd H' inv.k
      refine ⟨_, _, bx.all, a, ha, hi0, hi1, _, _, _, _, _, _, ca, c7 inv.gb (by omega) (fun H'' k'' => hov.1.kp0 (inv.k.trans k'' fun b hb => .inr (inv.nb b hb))) hov.2 fun H8 F8 g8 k8 hn8 => ⟨fun hf => (by cases hf), fun _ => ?_⟩⟩
      rw [hw]
      exact ih H8 (i + 1) bg qg qr FA F8 (by omega) (inv.goB g8 k8 hn8 (by omega))
    -- the second gate's step
    have second : ∀ (H' : Hp) (FB : Nat → Prop) (qg qr : Option Addr), Inv H0 H' H1.size H4.size pg pr qg qr FA FB i → Row H' H.size 26 [.pointer pg, .pointer pr] → F3_5 Q X slow small script ⟨H1.size, 0, none⟩ ⟨H4.size, 0, none⟩ i ⟨H.size, 0, none⟩ true true H' := by
      intro H' FB qg qr inv bx
      have szx := bx.lt
      refine ⟨_, _, inv.b.all, bx.mayall, fun H8 e8 => ?_⟩
      have b8 := bx.fill' e8 rfl
      have k8 := (Kp.refl (fun b => b = H.size) H').sets' e8 (.inl rfl)
      have n49 : ∀ b l, b = H.size → ¬ Row H' b 49 l := fun b l e rr => rr.ne_type bx (by decide) e
      have inv8 : Inv H0 H8 H1.size H4.size pg pr qg qr FA FB i :=
        ⟨inv.k.trans k8 fun b e => .inr (by omega), k8.row inv.a (by omega), k8.row inv.b (by omega), inv.ga.kp k8 (fun b hb e => inv.ga.not26 _ _ (e ▸ hb) bx) n49, inv.gb.kp k8 (fun b hb e => inv.gb.not26 _ _ (e ▸ hb) bx) n49, inv.na, inv.nb, inv.dis, inv.hb, inv.ne⟩
      refine c5 fun yg yr H9 FY gy k9 hFY H10 e10 => ?_
      have b10 := Row.new' e10
      refine ⟨b10.mayall, fun H11 e11 => ?_⟩
      have b11 := b10.fill' e11 rfl
      have k911 : Kp No H9 H11 := ((Kp.refl No H9).push' e10).sets' e11 (.inr (Nat.le_refl _))
      have inv11 := (inv8.no k9).no k911
      have bx11 := k911.row (k9.row b8 id) id
      refine ⟨fun hf => (by cases hf), fun _ => ⟨_, _, b11.all, ?_⟩⟩
      obtain ⟨a, ha, hi0, hi1, ca⟩ := rd H11 inv11.k
      have hFY0 : ∀ b, FY b → H0.size ≤ b := fun b hb => by
        have := hFY b hb
        have := inv8.k.size
        omega
      refine ⟨a, ha, hi0, hi1, _, _, _, _, _, _, ca, c7 (gy.no k911) (by omega) (fun H'' k'' => hov.1.kp0 (inv11.k.trans k'' fun b hb => .inr (hFY0 b hb))) hov.2 fun H12 F12 g12 k12 hn12 => ?_⟩
      have gy11 := gy.no k911
      have dA : ∀ b, FA b → ¬ FY b := fun b hb hy => by have := inv8.ga.lt hb; have := hFY b hy; omega
      have dB : ∀ b, FB b → ¬ FY b := fun b hb hy => by have := inv8.gb.lt hb; have := hFY b hy; omega
      have inv12 : Inv H0 H12 H1.size H4.size pg pr qg qr FA FB i :=
        ⟨inv11.k.trans k12 fun b hb => .inr (hFY0 b hb), k12.row inv11.a (fun h => gy11.not26 _ _ h inv11.a), k12.row inv11.b (fun h => gy11.not26 _ _ h inv11.b), inv11.ga.kp k12 dA gy11.not49, inv11.gb.kp k12 dB gy11.not49, inv.na, inv.nb, inv.dis, inv.hb, inv.ne⟩
      refine ⟨fun hf => (by cases hf), fun _ => stepB H12 FA FB qg qr true inv12 (k12.row bx11 fun h => gy11.not26 _ _ h bx11)⟩
    obtain ⟨a, ha, hi0, hi1, ca⟩ := rd H7 inv7.k
    refine ⟨a, ha, hi0, hi1, _, ca.2.1, fun _ => ?_, fun _ => stepA H7 FA FB qg qr bg inv7 b7⟩
    cases bg with
    | true => exact ⟨fun hf => (by cases hf), fun _ => second H7 FB qg qr inv7 b7⟩
    | false =>
      refine ⟨fun _ => c5 fun ng nr H8 FN gn k8 hFN => ?_, fun hf => (by cases hf)⟩
      have inv8 := inv7.no k8
      refine ⟨inv8.b.mayall, fun H9 e9 => ?_⟩
      have sz8 := k8.size
      have sz7 := inv7.k.size
      have inv9 := inv8.setB (FB' := FN) (gn.le (by omega)) (fun b hb => by have := hFN b hb; omega) (fun b hb hn => by have := inv7.ga.lt hb; have := hFN b hn; omega) e9
      exact ⟨fun hf => (by cases hf), fun _ => second H9 FN ng nr inv9 ((k8.row b7 id).sets_ne' e9 (by show H.size ≠ H4.size; omega))⟩

end Go.Hw
