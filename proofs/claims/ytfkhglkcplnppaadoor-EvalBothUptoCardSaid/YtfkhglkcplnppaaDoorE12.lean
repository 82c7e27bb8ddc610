/- The law's events in a row; functions over them: plain. Own work of this session. -/
import Derived.Test.YtfkhglkcplnppaaDoorE9
set_option linter.unusedVariables false
namespace Go.Hw
open Go

def evsF : Nat → List Int → List EvM
  | _, [] => []
  | i, x :: l => evM i x S_s :: evsF (i + 1) l
theorem evsF_len : ∀ (l : List Int) (i : Nat), (evsF i l).length = l.length
  | [], _ => rfl
  | _ :: l, i => by simp [evsF, evsF_len l]
theorem evsF_get : ∀ (l : List Int) (i j : Nat), (evsF i l)[j]? = l[j]?.map fun x => evM ((i + j : Nat) : Int) x S_s
  | [], _, _ => by simp [evsF]
  | x :: l, i, 0 => by simp [evsF]
  | x :: l, i, j + 1 => by
    simp only [evsF, List.getElem?_cons_succ, evsF_get l]
    rw [show i + 1 + j = i + (j + 1) by omega]

section
variable {H : Hp}
theorem c10l {t x : Int} {s : ByteArray} {Q : ByteArray → Int → Sl → Hp → Prop} (hQ : ∀ q H', Kp No H H' → Stb H.size H' (fun H' => RdL vF H' q (evM t x s).vals) → (∀ a, q.b = some a → H.size ≤ a.block) → Q S_T t q H') : F10 t x s H Q := by
  intro H1 e1
  have k1 : Kp No H H1 := (Kp.refl _ _).push' e1
  have s1 := size_push' e1
  refine c23 fun H3 k3 H9 e9 => ?_
  have k9 : Kp No H1 H9 := k3.push' e9
  have r9 : Row H9 H3.size 38 ((evM t x s).vals.flatMap vF.f) := Row.new' e9
  have := k3.size
  refine ret3 (K := Q) (k9.row (Row.new' e1) id) rfl S_T t _ fun H' k => hQ _ H' ((k1.no2 k9).box k (Nat.le_refl _)) ?_ ?_
  · intro S H'' k' hS
    exact Row.rdl (F := vF) (L := (evM t x s).vals) (n := 2) (k'.row (k.row r9 (by show H3.size ≠ H.size; omega)) (hS _ (by omega))) rfl 2
  · rintro a ha
    injection ha with ha
    subst ha
    show H.size ≤ H3.size
    omega
theorem c11 {p0 : Sl} {NS : List Int} {Q : Sl → Hp → Prop} (h : RdL iF H p0 NS) (hl : NS.length ≤ 1048576) (hQ : ∀ q H', Kp No H H' → EvsH H' q (evsF 0 NS) → (∀ b, q.at b → H.size ≤ b) → Q q H') : F11 p0 H Q := by
  have hn := h.n
  intro X hX
  suffices G : ∀ (d i : Nat) (q : Sl) (R : List (ByteArray × Int × Sl)) (H' : Hp), i + d = NS.length → R.length = i → Lst evF H' q R → (∀ b, q.at b → H.size ≤ b) → (∀ (j : Nat) (r : ByteArray × Int × Sl) (x : Int), R[j]? = some r → NS[j]? = some x → r.1 = S_T ∧ r.2.1 = (j : Int) ∧ RdL vF H' r.2.2 (evM j x S_s).vals ∧ ∀ a, r.2.2.b = some a → ¬ q.at a.block) → Kp No H H' → X q (i : Int) H' from
    G NS.length 0 Sl.nil [] H (by omega) rfl (Lst.nil _ _) (fun b hb => by cases hb) (fun j r x hr => by simp at hr) (Kp.refl _ _)
  intro d
  induction d with
  | zero =>
    intro i q R H' hi hR hL hq hr k
    refine hX _ _ _ ⟨fun g => absurd (of_decide_eq_true g) (by omega), fun _ => ?_⟩
    refine hQ q H' k ⟨by rw [evsF_len]; exact Nat.le_trans hl (by decide), R, hL.rd, by rw [evsF_len]; omega, fun j r e hr' he => ?_⟩ hq
    · rw [evsF_get, Option.map_eq_some_iff] at he
      obtain ⟨x, hx, rfl⟩ := he
      obtain ⟨a, b, c, _⟩ := hr j r x hr' hx
      rw [Nat.zero_add]
      exact ⟨a, b, c⟩
  | succ d ih =>
    intro i q R H' hi hR hL hq hr k
    have gx : NS[i]? = some (NS[i]'(by omega)) := List.getElem?_eq_getElem (by omega)
    generalize NS[i]'(by omega) = x at gx
    obtain ⟨p, hp, hpn, cp⟩ := (h.kp0 k).get gx
    have cp0 : cell H' (Addr.add p (((i : Int)).toNat * 1)) = some (.int .i64 x) := by
      have := cp.1
      rw [add_add, Nat.add_zero] at this
      rwa [show ((i : Int)).toNat = i from by omega]
    refine hX _ _ _ ⟨fun _ => ⟨p, hp, by omega, by omega, x, cp0, c10l fun s H11 k11 v11 l11 H16 e16 => ?_⟩, fun g => absurd (of_decide_eq_false g) (by omega)⟩
    have k16 : Kp No H' H16 := k11.push' e16
    have k1116 : Kp No H11 H16 := (Kp.refl _ _).push' e16
    have r16 : Row H16 H11.size 36 (evF.f (S_T, (i : Int), s)) := Row.new' e16
    have s11 := k11.size
    refine (hL.kp k16 fun _ _ => id).append1 r16 rfl (by omega) (by omega) fun q18 H18 l18 k18 g18 => ?_
    have hsl : ∀ b, q.at b → b < H'.size := fun b hb => hL.lt hb
    rw [wr (x := (i : Int) + 1) (by omega) (by omega), show ((i : Int) + 1) = ((i + 1 : Nat) : Int) from by omega]
    have kk := k.no2 k16
    refine ih (i + 1) q18 (R ++ [(S_T, (i : Int), s)]) H18 (by omega) (by simp [hR]) l18 (fun b hb => ?_) (fun j r y hr' hy => ?_) (kk.trans k18 fun b hb => .inr (hq b hb))
    · rcases g18 b hb with hb | hb
      · exact hq b hb
      · have := kk.size; omega
    · by_cases hj : j < R.length
      · rw [List.getElem?_append_left hj] at hr'
        obtain ⟨a1, a2, a3, a4⟩ := hr j r y hr' hy
        have a3' := (a3.kp0 k16)
        refine ⟨a1, a2, a3'.kp k18 a4, fun a ha hh => ?_⟩
        rcases g18 _ hh with hh | hh
        · exact a4 a ha hh
        · -- the block is old
          obtain ⟨a', ha', _, hc⟩ := a3.get (i := 0) (x := numV y) rfl
          rw [ha] at ha'
          injection ha' with ha'
          subst ha'
          have := cells_block hc (fun h => by cases h)
          rw [show (a.add (0 * 4)).block = a.block from ablk _ _] at this
          have := k16.size
          omega
      · have hj' : j = R.length := by
          have := (List.getElem?_eq_some_iff.1 hr').1
          simp at this; omega
        subst hj'
        rw [List.getElem?_append_right (Nat.le_refl _), Nat.sub_self] at hr'
        obtain rfl : (S_T, (i : Int), s) = r := by simpa using hr'
        rw [hR] at hy ⊢
        rw [gx] at hy
        injection hy with hy
        subst hy
        refine ⟨rfl, rfl, ?_, ?_⟩
        · exact v11 (fun b => q.at b) H18 ((k1116.mono fun _ _ h => h.elim).trans k18 fun b hb => .inl hb) fun b hb hh => by have := hsl b hh; omega
        · intro a ha hh
          obtain ⟨a', ha', _, hc⟩ := (v11.now).get (i := 0) (x := numV x) rfl
          rw [ha] at ha'
          injection ha' with ha'
          subst ha'
          have lt := cells_block hc (fun h => by cases h)
          rw [show (a.add (0 * 4)).block = a.block from ablk _ _] at lt
          rcases g18 _ hh with hh | hh
          · have := hsl _ hh
            have := l11 a ha
            omega
          · have := k1116.size
            have := size_push' e16
            omega
end
end Go.Hw
