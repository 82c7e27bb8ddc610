/- SchemaEvents: the law. Own work of this session. -/
import Derived.Test.YtbhfkpdalilhcaaDoorT5
set_option linter.unusedVariables false
namespace Go.Hw
open Go

section
variable {H0 H : Hp} {cb mr eb : Nat} {r vs : Sl} {A : List (ByteArray × Int)} {V : List VT} {time : Int}

theorem c3_3 {at_ wrong : Int} {Q : Bool → Hp → Prop} (hc : Cat1 H0 H cb mr r A) (he : Ev H0 H eb time vs V) (hA : GoodA A) (hf : Fits V A) (ht0 : 0 ≤ time) (ht1 : time ≤ 4611686018427387904) (hcb : cb ≠ eb) (hmr : mr ≠ eb) (hcl : cb < H.size) (hml : mr < H.size) (hw0 : 0 ≤ wrong) (hw1 : wrong ≤ 255)
    (hQ : ∀ H', Kp No H0 H' → Q true H') : F3_3 Q at_ wrong (some ⟨cb, 0, none⟩) ⟨eb, 0, none⟩ H := by
  have hlen := hA.len
  have hVl := hf.1
  refine ⟨S_T, time, vs, he.row.all, c11T hc he.lv.rd (by omega) fun H101 k101 => ?_⟩
  have e0 : chk time V A = 0 := by
    unfold chk
    rw [if_neg (by omega), if_neg (by omega)]
    exact chkL_ok hf.1 hf.2
  rw [e0]
  have v101 := he.no k101
  have c101 := hc.no k101
  have s101 := k101.size
  refine ⟨fun h => absurd rfl (of_decide_eq_true h), fun _ => ⟨time, v101.row.cell_of (i := 1) rfl, vs, v101.row.cell_of (i := 2) rfl, c11t c101 v101.lv.rd (by omega) fun H111 k111 => ?_⟩⟩
  have s111 := k111.size
  exact c3_5 (c101.no k111) (v101.no k111) hA hf ht0 ht1 hcb hmr (by omega) (by omega) hw0 hw1 hQ

theorem c3_1 {n time at_ wrong : Int} {s : ByteArray} {sl : Sl} {tb : Nat} {Q : Bool → Hp → Prop} (hc : Cat1 H0 H cb mr r A) (ht : Row H tb 27 [.string S_T, Sl.v sl]) (hl : Lst aF H sl A) (hA : GoodA A) (hk : Kp No H0 H) (hcl : cb < H.size) (hml : mr < H.size) (hw0 : 0 ≤ wrong) (hw1 : wrong ≤ 255) (ht0 : -9223372036854775808 ≤ time) (ht1 : time ≤ 9223372036854775807)
    (hQ : ∀ H', Kp No H0 H' → Q true H') : F3_1 Q n s time at_ wrong (some ⟨cb, 0, none⟩) ⟨tb, 0, none⟩ false H := by
  have hlen := hA.len
  have hln := hl.n
  have hs0 := hk.size
  have two : ∀ time : Int, 0 ≤ time → F3_2 Q n s at_ wrong (some ⟨cb, 0, none⟩) ⟨tb, 0, none⟩ time H := fun time h0 => by
    intro H38 e38
    have k38 : Kp No H H38 := (Kp.refl No _).push' e38
    have s38 := size_push' e38
    have r38 := Row.new' e38
    refine ⟨r38.mayw (by decide), fun H40 e40 => ?_⟩
    have hm0 := Int.tmod_nonneg 4611686018427387905 h0
    have hm1 := Int.tmod_lt_of_pos time (show (0 : Int) < 4611686018427387905 by decide)
    generalize Int.tmod time 4611686018427387905 = tt at hm0 hm1 e40
    have e40r : Row H40 H.size 33 [.string S_T, .int .i64 tt, Sl.v Sl.nil] := r38.fill' e40 rfl
    have k40 : Kp No H H40 := k38.sets' e40 (.inr (Nat.le_refl _))
    have s40 := size_sets' e40
    have v40 : Ev H0 H40 H.size tt Sl.nil [] := ⟨e40r, Lst.nil _ _, hs0, fun b hb => (by cases hb), hk.trans k40 fun _ h => h.elim⟩
    intro X hX
    suffices G : ∀ (d i : Nat) (vs : Sl) (V : List VT) (H' : Hp), i + d = A.length → V.length = i → (∀ (j : Nat) (v : VT) (a : ByteArray × Int), V[j]? = some v → A[j]? = some a → v.k = a.2 ∧ vld v = true) → (∀ b, vs.at b → H40.size ≤ b) → Ev H0 H' H.size tt vs V → Kp No H H' → H40.size ≤ H'.size → X (i : Int) H' from
      G A.length 0 Sl.nil [] H40 (by omega) rfl (fun j v a hv => by simp at hv) (fun b hb => by cases hb) v40 k40 (Nat.le_refl _)
    intro d
    induction d with
    | zero =>
      intro i vs V H' hi hV hf hfr he k hsz
      have t' := k.row ht id
      exact hX _ _ ⟨sl, t'.cell_of (i := 1) rfl, fun h => absurd (of_decide_eq_true h) (by omega), fun _ => c3_3 (hc.no k) he hA ⟨by omega, hf⟩ hm0 (by omega) (by omega) (by omega) (by omega) (by omega) hw0 hw1 hQ⟩
    | succ d ih =>
      intro i vs V H' hi hV hf hfr he k hsz
      have t' := k.row ht id
      have ga : A[i]? = some (A[i]'(by omega)) := List.getElem?_eq_getElem (by omega)
      have hka := (hA.ok _ (List.getElem_mem (l := A) (n := i) (by omega))).2.2
      generalize A[i]'(by omega) = a at ga hka
      obtain ⟨b, hb, hbn, cb'⟩ := (hl.kp k fun _ _ => id).rd.get ga
      refine hX _ _ ⟨sl, t'.cell_of (i := 1) rfl, fun _ => ⟨sl, t'.cell_of (i := 1) rfl, b, hb, by omega, by omega, a.2, ?_, c10 fun H66 k66 => fun H72 e72 => ?_⟩, fun h => absurd (of_decide_eq_false h) (by omega)⟩
      · rw [show ((i : Int)).toNat = i from by omega]
        exact cb'.2.1
      obtain ⟨g1, g2⟩ := valOf_ok (k := a.2) (n := IntKind.i64.wrap (n + (i : Int))) (s := s) hka.1 hka.2
      have k72 : Kp No H66 H72 := (Kp.refl No _).push' e72
      have s72 := size_push' e72
      have r72 := Row.new' e72
      refine ⟨r72.mayw (by decide), fun H74 e74 => ?_⟩
      generalize valOf a.2 (IntKind.i64.wrap (n + (i : Int))) s = v at g1 g2 e74
      have x74 : Row H74 H66.size 35 [.int .i64 v.k, .int .i64 v.n, .string v.s, .bool v.b] := r72.fill' e74 rfl
      have k74 : Kp No H66 H74 := k72.sets' e74 (.inr (Nat.le_refl _))
      have s74 := size_sets' e74
      have s66 := k66.size
      have kk74 : Kp No H' H74 := k66.trans k74 fun _ h => h.elim
      have e74' := he.no kk74
      refine ⟨vs, e74'.row.cell_of (i := 2) rfl, v.k, v.n, v.s, v.b, x74.all, fun H84 e84 => ?_⟩
      have k84 : Kp No H74 H84 := (Kp.refl No _).push' e84
      have s84 := size_push' e84
      have x84 : Row H84 H74.size 35 (vF.f v) := Row.new' e84
      have v84 := e74'.no k84
      refine v84.lv.append1 x84 rfl (by omega) (by omega) fun r88 H86 l86 k86 h86 => ?_
      have s86 := k86.size
      have r86 := k86.row v84.row fun hh => by have := hfr _ hh; omega
      refine ⟨r86.some (i := 2) (by simp), r86.frz 2, fun H89 e89 => ?_⟩
      have r89 : Row H89 H.size 33 [.string S_T, .int .i64 tt, Sl.v r88] := r86.set' e89
      have k89 : Kp (fun x => x = H.size) H86 H89 := (Kp.refl _ _).set' e89 (.inl rfl)
      have s89 := size_set' e89
      have f88 : ∀ x, r88.at x → H40.size ≤ x := fun x hx => by
        rcases h86 x hx with hx | hx
        · exact hfr x hx
        · omega
      have kt : Kp No H H89 := (((k.trans kk74 fun _ h => h.elim).trans k84 fun _ h => h.elim).trans k86 fun x hx => .inr (by have := hfr x hx; omega)).trans k89 fun x hx => .inr (by omega)
      rw [wr (by omega) (by omega)]
      refine ih (i + 1) r88 (V ++ [v]) H89 (by omega) (by simp; omega) (fun j w c hw hc' => ?_) f88 ⟨r89, l86.kp k89 fun x hx hh => by have := f88 x hx; omega, hs0, fun x hx => by have := f88 x hx; omega, hk.trans kt fun _ h => h.elim⟩ kt (by omega)
      by_cases hj : j < V.length
      · rw [List.getElem?_append_left hj] at hw
        exact hf j w c hw hc'
      · rw [List.getElem?_append_right (by omega)] at hw
        have hj0 : j - V.length = 0 := by
          have := (List.getElem?_eq_some_iff.1 hw).1
          simp at this; omega
        rw [hj0] at hw
        have hw : v = w := by simpa using hw
        subst hw
        rw [show j = i from by omega, ga] at hc'
        injection hc' with hc'
        subst hc'
        exact ⟨g1, g2⟩
  refine ⟨fun h => (by cases h), fun _ => ⟨fun h => ?_, fun h => two _ (by have := of_decide_eq_false h; omega)⟩⟩
  have := of_decide_eq_true h
  rw [wr (by omega) (by omega)]
  exact two _ (by omega)

theorem c3 {p0 : Sl} {K : List Int} {n time at_ wrong : Int} {s : ByteArray} {Q : Bool → Hp → Prop} (hw : WordsH H) (hK : RdL iF H p0 K) (hKl : K.length ≤ 4194304) (hw0 : 0 ≤ wrong) (hw1 : wrong ≤ 255) (ht0 : -9223372036854775808 ≤ time) (ht1 : time ≤ 9223372036854775807)
    (hQ : ∀ H', Kp No H H' → Q true H') : F3 p0 n s time at_ wrong H Q := by
  refine c7 fun H1 hrow hmap k1 => ?_
  have s1 := hrow.lt
  refine c8 (hw.no k1) (RdL.nil bF H1) (hK.kp0 k1) (by simp) (by omega) fun r name A H4 hname gA hAl lr fr k4 => fun H8 e8 => ?_
  have hname : name = S_T := by rw [hname, if_pos nm_T]
  subst hname
  have s4 := k4.size
  have k8 : Kp No H4 H8 := (Kp.refl No _).push' e8
  have s8 := size_push' e8
  have r8 := Row.new' e8
  refine ⟨r8.mayw (by decide), fun H10 e10 => ?_⟩
  have t10 : Row H10 H4.size 27 [.string S_T, Sl.v r] := r8.fill' e10 rfl
  have k10 : Kp No H4 H10 := k8.sets' e10 (.inr (Nat.le_refl _))
  have s10 := size_sets' e10
  have kk10 : Kp No H1 H10 := k4.trans k10 fun _ h => h.elim
  have kk : Kp No H H10 := k1.trans kk10 fun _ h => h.elim
  have l10 := lr.kp k10 fun _ _ => id
  have hcap : r.n ≤ r.c := by
    rcases l10.own with ⟨h0, _⟩ | ⟨_, _, _, _, _, _, g5, g6⟩
    · rw [h0]; decide
    · exact g5
  have hlen := gA.len
  have hwrg := gA.wrg nm_T
  refine ⟨fun h => (by cases h), fun _ => ⟨S_T, r, t10.all, c9 (hw.no kk) (kk10.row hrow id) (hmap.kp kk10 id) l10.rd hcap (by omega) (by decide) (fun h => absurd hwrg h) (fun _ h => (by cases h)) (fun _ _ h => absurd h (by decide)) fun _ _ _ r2 H26 l26 f26 m26 k26 => ?_⟩⟩
  have s26 := k26.size
  have c26 : Cat1 H H26 (H.size + 1) H.size r2 A := ⟨k26.row (kk10.row hrow id) (by omega), m26, l26⟩
  rw [show decide ((0 : Int) ≠ 0) = false from rfl]
  refine c3_1 c26 (k26.row t10 fun hh => by omega) (l10.kp k26 fun x hx hh => by have := fr x hx; omega) gA (kk.trans k26 fun x hx => .inr (by omega)) (by omega) (by omega) hw0 hw1 ht0 ht1 hQ
end
end Go.Hw
