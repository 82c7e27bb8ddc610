/- BufferWay: the loop of the steps. Own work of this session. -/
import Derived.Test.YtphnfleopkcmlaaL8
set_option linter.unusedVariables false
namespace Go.Hw
open Go

section
variable {H0 H : Hp} {g n : Nat} {f : Fn} {F : Nat → Prop} {rsl : Sl} {h : Nat}

set_option maxRecDepth 10000 in
theorem c6_L {Q : Bool → Hp → Prop} {ssl nsl : Sl} {SL NL : List Int} {m0 : Mk} (hssl : RdL uF H0 ssl SL) (hsl : SL.length ≤ 2000000) (hsw : ∀ x ∈ SL, 0 ≤ x ∧ x ≤ 255) (hnsl : RdL uF H0 nsl NL) (hnl : NL.length ≤ 2000000) (hnw : ∀ x ∈ NL, 0 ≤ x ∧ x ≤ 255)
    (w : WS H0 H g 1 f F rsl ([] ++ [m0]) Sl.nil []) (p : FP f h [m0] []) (hm0 : m0 = (0, 1)) (hQ : ∀ H', Kp No H0 H' → Q true H') : F6_L1 Q ssl nsl (some ⟨g, 0, none⟩) rsl (h : Int) 0 H := by
  have hsn := hssl.n
  intro X hX
  suffices G : ∀ (d i : Nat) (r : Sl) (h : Nat) (W' : List Mk) (last : Mk) (f : Fn) (F : Nat → Prop) (H : Hp), i + d = 200 → WS H0 H g (1 + 5 * i) f F r (W' ++ [last]) Sl.nil [] → FP f h (last :: W'.reverse) [] → W'.length = i → (W' ++ [last]).Pairwise (fun a b => a.2 < b.2) → 0 ≤ last.1 ∧ last.1 < 8 → 0 ≤ last.2 ∧ last.2 ≤ 1 + 3 * (i : Int) → X r (h : Int) (i : Int) H from
    G 200 0 rsl h [] m0 f F H (by omega) w p rfl (by simp) (by rw [hm0]; decide) (by rw [hm0]; decide)
  intro d
  induction d with
  | zero =>
    intro i r h W' last f F H hi w _ _ _ _ _
    exact hX _ _ _ _ ⟨fun _ => ⟨fun hh => absurd (of_decide_eq_true hh) (by omega), fun _ => hQ H w.kp⟩, fun _ => hQ H w.kp⟩
  | succ d ih =>
    intro i r h W' last f F H hi w p hWl hri hl1 hl2
    refine hX _ _ _ _ ⟨fun hh => ⟨fun _ => ?_, fun _ => hQ H w.kp⟩, fun _ => hQ H w.kp⟩
    have hil := of_decide_eq_true hh
    have hil : i < SL.length := by omega
    have gi : SL[i]? = some SL[i] := List.getElem?_eq_getElem hil
    have hs := hsw _ (List.getElem_mem hil)
    generalize SL[i] = s at gi hs
    have hrn := w.rl.n
    rw [List.length_append, List.length_singleton, hWl] at hrn
    have gl : (W' ++ [last])[i]? = some last := by rw [← hWl]; simp
    obtain ⟨q, hq, _, cq⟩ := w.rl.rd.get gl
    have hw1 : IntKind.i64.wrap ((r.n : Int) - 1) = (i : Int) := by rw [wr (by omega) (by omega)]; omega
    rw [hw1]
    refine ⟨q, hq, by omega, by omega, last.1, last.2, cq, fun H39 e39 => ?_⟩
    have k39 : Kp No H H39 := (Kp.refl No _).push' e39
    have s39 := size_push' e39
    have z39 : Row H39 H.size 32 [.int .i64 0, .int .i64 0] := Row.new' e39
    refine ⟨z39.mayall, fun H41 e41 => ?_⟩
    have s41 := size_sets' e41
    have x41 : Row H41 H.size 32 [.int .i64 last.1, .int .i64 last.2] := z39.fill' e41 rfl
    have k41 : Kp No H H41 := k39.trans ((Kp.refl (fun b => b = H.size) _).sets' e41 (.inl rfl)) fun _ hb => .inr (by omega)
    have w41 := w.no k41
    obtain ⟨t, ht, _, ct⟩ := (hssl.kp0 w41.kp).get gi
    refine ⟨last.1, x41.cell_of (i := 0) rfl, last.2, x41.cell_of (i := 1) rfl, t, ht, by omega, by omega, s, ct.1, fun H54 e54 => ?_⟩
    have k54 : Kp No H41 H54 := (Kp.refl No _).push' e54
    have s54 := size_push' e54
    have z54 : Row H54 H41.size 32 [.int .i64 0, .int .i64 0] := Row.new' e54
    have w54 := w41.no k54
    have x54 := k54.row x41 id
    obtain ⟨t2, ht2, _, ct2⟩ := (hssl.kp0 w54.kp).get gi
    have htt : t2 = t := by rw [ht] at ht2; injection ht2 with h; exact h.symm
    subst htt
    refine ⟨ct2.1, x54.cell_of (i := 1) rfl, x54.cell_of (i := 0) rfl, z54.mayall, fun H59 e59 => ?_⟩
    have hdiv : 0 ≤ Int.tdiv s 2 ∧ Int.tdiv s 2 ≤ 255 := by
      rw [Int.tdiv_eq_ediv_of_nonneg hs.1]; omega
    have hmod : 0 ≤ Int.tmod (Int.tdiv s 2) 3 ∧ Int.tmod (Int.tdiv s 2) 3 < 3 := ⟨Int.tmod_nonneg _ hdiv.1, Int.tmod_lt_of_pos _ (by decide)⟩
    have hval : IntKind.i64.wrap (IntKind.i64.wrap (last.2 + 1) + Int.tmod (IntKind.i64.wrap (Int.tdiv (IntKind.i64.wrap s) 2)) 3) = last.2 + 1 + Int.tmod (Int.tdiv s 2) 3 := by
      rw [wr (x := s) (by omega) (by omega), wr (x := Int.tdiv s 2) (by omega) (by omega), wr (x := last.2 + 1) (by omega) (by omega), wr (by omega) (by omega)]
    rw [hval] at e59
    generalize hsq : last.2 + 1 + Int.tmod (Int.tdiv s 2) 3 = sq at e59
    have s59 := size_sets' e59
    have y59 : Row H59 H41.size 32 [.int .i64 last.1, .int .i64 sq] := z54.fill' e59 rfl
    have k59 : Kp No H41 H59 := k54.trans ((Kp.refl (fun b => b = H41.size) _).sets' e59 (.inl rfl)) fun _ hb => .inr (by omega)
    have w59 := w41.no k59
    have x59 := k59.row x41 id
    obtain ⟨t3, ht3, _, ct3⟩ := (hssl.kp0 w59.kp).get gi
    have nF : ∀ b, H.size ≤ b → ¬ F b ∧ ¬ r.at b := fun b hb => ⟨fun hh => by have := w.bi.lt b hh; omega, fun hh => by have := w.rl.lt hh; omega⟩
    have two : ∀ (m : Mk) (H' : Hp), Kp No H59 H' ∨ H' = setc H59 ⟨H41.size, 0, none⟩ (.int .i64 m.1) → Row H' H41.size 32 [.int .i64 m.1, .int .i64 m.2] → (m.1 = last.1 ∨ m.1 = last.1 + 1) ∧ m.1 < 8 ∧ m.2 = sq → F6_2 Q X ssl nsl (some ⟨g, 0, none⟩) r (h : Int) (i : Int) ⟨H.size, 0, none⟩ ⟨H41.size, 0, none⟩ H' := by
      intro m H' hk hm2 hm
      have k' : Kp No H41 H' := by
        rcases hk with hk | hk
        · exact k59.trans hk fun _ h => h.elim
        · exact k59.trans ((Kp.refl (fun b => b = H41.size) _).set' hk (.inl rfl)) fun _ hb => .inr (by omega)
      have w' := w41.no k'
      refine c6_L5 (W' := W') (last := last) (m := m) hnsl hnl hnw w' p (by omega) (by omega) (k'.row x41 id) hm2 (nF _ (Nat.le_refl _)) (nF _ (by omega)) ⟨hm.1, hm.2.1, by omega⟩ (by omega) (by omega) hri (by omega) fun H2 f2 F2 j r2 w2 p2 => ?_
      have h5 : 1 + 5 * i + 5 = 1 + 5 * (i + 1) := by omega
      rw [h5] at w2
      refine ih (i + 1) r2 j (W' ++ [last]) m f2 F2 H2 (by omega) w2 p2 (by simp; omega) ?_ (by omega) (by omega)
      rw [List.pairwise_append]
      refine ⟨hri, by simp, fun a ha b hb => ?_⟩
      simp at hb
      subst hb
      rcases List.mem_append.1 ha with ha | ha
      · have := (List.pairwise_append.1 hri).2.2 a ha last (by simp)
        omega
      · simp at ha
        rw [ha]; omega
    have plain : F6_2 Q X ssl nsl (some ⟨g, 0, none⟩) r (h : Int) (i : Int) ⟨H.size, 0, none⟩ ⟨H41.size, 0, none⟩ H59 := two (last.1, sq) H59 (.inl (Kp.refl _ _)) y59 ⟨.inl rfl, by omega, rfl⟩
    refine ⟨t3, ht3, by omega, by omega, s, ct3.1, fun _ => ⟨last.1, y59.cell_of (i := 0) rfl, fun h7 => ⟨last.1, y59.cell_of (i := 0) rfl, y59.some (i := 0) (by simp), y59.frz 0, fun H92 e92 => ?_⟩, fun _ => plain⟩, fun _ => ⟨fun hh => (by cases hh), fun _ => plain⟩⟩
    have h7 := of_decide_eq_true h7
    rw [wr (by omega) (by omega)] at e92
    have y92 : Row H92 H41.size 32 [.int .i64 (last.1 + 1), .int .i64 sq] := y59.set' (i := 0) e92
    exact two (last.1 + 1, sq) H92 (.inr e92) y92 ⟨.inr rfl, by omega, rfl⟩

theorem c6 {ssl nsl : Sl} {SL NL : List Int} {Q : Bool → Hp → Prop} (hssl : RdL uF H ssl SL) (hsl : SL.length ≤ 2000000) (hsw : ∀ x ∈ SL, (Lit.int .u8 x).wf = true) (hnsl : RdL uF H nsl NL) (hnl : NL.length ≤ 2000000) (hnw : ∀ x ∈ NL, (Lit.int .u8 x).wf = true) (hQ : ∀ H', Kp No H H' → Q true H') : F6 ssl nsl H Q := by
  have u8 : ∀ x : Int, (Lit.int .u8 x).wf = true → 0 ≤ x ∧ x ≤ 255 := fun x hx => by
    simp [Lit.wf] at hx
    exact hx
  refine c8 fun H1 k1 => ⟨fun hh => (by cases hh), fun _ => c12 fun H5 g st hst b5 k5 => ⟨fun hh => (by cases hh), fun _ H9 e9 => ?_⟩⟩
  obtain rfl : st = 8 := hst ⟨by decide, by decide⟩
  have s1 := k1.size
  have s5 := k5.size
  have k9 : Kp No H5 H9 := (Kp.refl No _).push' e9
  have s9 := size_push' e9
  have x9 : Row H9 H5.size 32 (mF.f (0, 1)) := Row.new' e9
  have l9 : Lst mF H9 (Sl.mk (some ⟨H5.size, 0, none⟩) 1 1) [(0, 1)] := ⟨.inr ⟨H5.size, [], rfl, x9, rfl, rfl, Nat.le_refl _, show (1 : Nat) ≤ 9223372036854775807 by decide⟩⟩
  refine ⟨_, rfl, by decide, (show (0 : Int) < ((1 : Nat) : Int) by decide), 0, 1, x9.all, c13 (m := (0, 1)) (b5.kp k9 fun _ _ => id) (by decide) (fun h => absurd rfl h) fun _ H18 i hi b18 k18 => ⟨fun hh => absurd rfl (of_decide_eq_true hh), fun _ => ?_⟩⟩
  obtain rfl : i = 0 := hi.un ⟨rfl, fun j hj => by omega⟩
  have hat : ∀ b, (Sl.mk (some ⟨H5.size, 0, none⟩) 1 1).at b → b = H5.size := fun b hb => by
    have : (some ⟨H5.size, 0, none⟩ : Option Addr) = some ⟨b, 0, none⟩ := hb
    injection this with this
    injection this with this
    exact this.symm
  refine c6_L (h := 0) hssl hsl (fun x hx => u8 x (hsw x hx)) hnsl hnl (fun x hx => u8 x (hnw x hx)) (m0 := (0, 1)) ⟨b18, fun b hb => ?_, ((k1.trans k5 fun _ h => h.elim).trans k9 fun _ h => h.elim).trans k18 fun b hb => .inr (by omega), l9.kp k18 fun b hb hh => by rw [hat b hb] at hh; omega, fun b hb => ⟨by rw [hat b hb]; omega, fun hh => ?_⟩, Lst.nil _ _, fun b hb => (by cases hb)⟩ ⟨rfl, fun i hi => ?_, fun i hi => (by cases hi), List.nodup_nil, fun h => by cases h⟩ rfl hQ
  · rcases hb with hb | hb <;> omega
  · rw [hat b hb] at hh
    rcases hh with hh | hh <;> omega
  · unfold upd at hi
    split at hi
    · rename_i e; exact .inl e
    · exact absurd rfl hi
end
end Go.Hw
