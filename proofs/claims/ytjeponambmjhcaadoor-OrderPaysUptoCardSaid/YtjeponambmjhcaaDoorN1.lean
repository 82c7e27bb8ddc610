/- num: a number's text read back. Own work of this session. -/
import Derived.Test.YtjeponambmjhcaaDoorD1
set_option linter.unusedVariables false
namespace Go.Hw
open Go

/-- The text of a number. -/
def T (n : Nat) : ByteArray := ⟨(Lib.decDigits n).toArray⟩
theorem T_itoa (n : Nat) : (⟨(Lib.itoa (n : Int)).toArray⟩ : ByteArray) = T n := by
  unfold Lib.itoa T
  rw [if_neg (by omega)]
  rfl

/-- What a row of digits is worth. -/
def val (a : Nat) : List UInt8 → Nat
  | [] => a
  | b :: l => val (a * 10 + (b.toNat - 48)) l
theorem val_append : ∀ (l m : List UInt8) (a : Nat), val a (l ++ m) = val (val a l) m
  | [], m, a => rfl
  | b :: l, m, a => val_append l m _
theorem val_ge : ∀ (l : List UInt8) (a : Nat), a ≤ val a l
  | [], a => Nat.le_refl _
  | b :: l, a => Nat.le_trans (by omega) (val_ge l _)
theorem dig_toNat {d : Nat} (h : d < 10) : (UInt8.ofNat (48 + d)).toNat = 48 + d := by
  rw [UInt8.toNat_ofNat']
  omega
theorem val_dec : ∀ u : Nat, val 0 (Lib.decDigits u) = u := by
  intro u
  induction u using Nat.strongRecOn with
  | _ u ih =>
    rw [Lib.decDigits]
    split
    · rename_i h
      show 0 * 10 + ((UInt8.ofNat (48 + u)).toNat - 48) = u
      rw [dig_toNat h]; omega
    · rename_i h
      rw [val_append, ih (u / 10) (by omega)]
      show u / 10 * 10 + ((UInt8.ofNat (48 + u % 10)).toNat - 48) = u
      rw [dig_toNat (by omega)]; omega
theorem dec_dig : ∀ u : Nat, ∀ b ∈ Lib.decDigits u, 48 ≤ b.toNat ∧ b.toNat ≤ 57 := by
  intro u
  induction u using Nat.strongRecOn with
  | _ u ih =>
    rw [Lib.decDigits]
    split
    · rename_i h
      intro b hb
      rw [List.mem_singleton] at hb
      subst hb
      rw [dig_toNat h]; omega
    · rename_i h
      intro b hb
      rcases List.mem_append.1 hb with hb | hb
      · exact ih (u / 10) (by omega) b hb
      · rw [List.mem_singleton] at hb
        subst hb
        rw [dig_toNat (by omega)]; omega
theorem dec_len_le : ∀ u : Nat, (Lib.decDigits u).length ≤ u + 1 := by
  intro u
  induction u using Nat.strongRecOn with
  | _ u ih =>
    rw [Lib.decDigits]
    split
    · simp
    · have := ih (u / 10) (by omega)
      simp; omega

theorem T_size (u : Nat) : (T u).size = (Lib.decDigits u).length := by simp [T, ByteArray.size]
theorem T_inj {u v : Nat} (h : T u = T v) : u = v := by
  have : Lib.decDigits u = Lib.decDigits v := by
    have := congrArg (fun b : ByteArray => b.data.toList) h
    simpa [T] using this
  rw [← val_dec u, this, val_dec]
theorem T_bt {u i : Nat} {b : UInt8} (h : (Lib.decDigits u)[i]? = some b) : bt (T u) i = (b.toNat : Int) := by
  obtain ⟨hi, rfl⟩ := List.getElem?_eq_some_iff.1 h
  unfold bt
  rw [dif_pos (by rw [T_size]; exact hi)]
  rfl

theorem c12n {u : Nat} {H : Hp} {Q : Int → Hp → Prop} (ht : TabH H) (hu : u ≤ 9223372036854775807) (hs : (Lib.decDigits u).length ≤ 4000000) (hQ : ∀ H', Kp (fun _ => False) H H' → Q u H') : F12 (T u) H Q := by
  intro X hX
  suffices G : ∀ (d i : Nat), i + d = (Lib.decDigits u).length → X (val 0 ((Lib.decDigits u).take i) : Int) i H from G (Lib.decDigits u).length 0 (by omega)
  intro d
  induction d with
  | zero =>
    intro i hi
    rw [List.take_of_length_le (by omega), val_dec]
    refine hX _ _ _ ⟨fun hb => absurd (of_decide_eq_true hb) (by rw [T_size]; omega), fun _ => ⟨fun hb => absurd (of_decide_eq_true hb) (by omega), fun _ => ⟨ht, by omega, by omega, fun H' k => ?_⟩⟩⟩
    rw [T_itoa]
    show F12_4 Q u (!seq (T u) (T u)) H'
    rw [seq_refl]
    exact ⟨fun hf => (by cases hf), fun _ => hQ H' k⟩
  | succ d ih =>
    intro i hi
    have hx : (Lib.decDigits u)[i]? = some ((Lib.decDigits u)[i]'(by omega)) := List.getElem?_eq_getElem (by omega)
    generalize (Lib.decDigits u)[i]'(by omega) = b at hx
    have hb := dec_dig u b (List.mem_of_getElem? hx)
    have hbt := T_bt hx
    have hts := T_size u
    have hv : val 0 ((Lib.decDigits u).take (i + 1)) = val 0 ((Lib.decDigits u).take i) * 10 + (b.toNat - 48) := by
      rw [take_succ hx, val_append]; rfl
    have hle : val 0 ((Lib.decDigits u).take (i + 1)) ≤ u := by
      have h1 := val_ge ((Lib.decDigits u).drop (i + 1)) (val 0 ((Lib.decDigits u).take (i + 1)))
      rw [← val_append, List.take_append_drop, val_dec] at h1
      exact h1
    have hi0 : (i : Int).toNat = i := rfl
    refine hX _ _ _ ⟨fun _ => ⟨by omega, by rw [hi0]; omega, ?_⟩, fun hb => absurd (of_decide_eq_false hb) (by omega)⟩
    rw [hi0, hbt]
    refine ⟨fun h => absurd (of_decide_eq_true h) (by omega), fun _ => ⟨by omega, by omega, ?_⟩⟩
    rw [decide_eq_false (by omega)]
    refine ⟨fun hf => (by cases hf), fun _ => ⟨by omega, by rw [hi0]; omega, ?_⟩⟩
    rw [hi0, hbt]
    have w8 : IntKind.u8.wrap ((b.toNat : Int) - 48) = ((b.toNat - 48 : Nat) : Int) := by
      rw [Go.IntKind.wrap_u8' ]; omega
    rw [w8, wr (x := ((b.toNat - 48 : Nat) : Int)) (by omega) (by omega), wr (x := ((val 0 ((Lib.decDigits u).take i) : Nat) : Int) * 10) (by omega) (by omega), wr (x := _ + _) (by omega) (by omega), wr (x := (i : Int) + 1) (by omega) (by omega)]
    have := ih (i + 1) (by omega)
    rw [hv] at this
    push_cast at this
    exact this

end Go.Hw
