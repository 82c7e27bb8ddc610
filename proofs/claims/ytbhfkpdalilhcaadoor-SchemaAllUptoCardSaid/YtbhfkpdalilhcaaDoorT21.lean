/- The document's Print. Own work of this session. -/
import Derived.Test.YtbhfkpdalilhcaaDoorT20
set_option linter.unusedVariables false
namespace Go.Hw
open Go

theorem bapp (l : List UInt8) (t : ByteArray) : (⟨l.toArray⟩ : ByteArray) ++ t = ⟨(l ++ t.data.toList).toArray⟩ := by
  apply ByteArray.ext
  rw [ByteArray.data_append]
  apply Array.toList_inj.1
  simp
theorem bsz (l : List UInt8) : (⟨l.toArray⟩ : ByteArray).size = l.length := by simp [ByteArray.size]
section
variable {H : Hp} {name : ByteArray} {sl : Sl} {A : Atts}
theorem c51 {Q : ByteArray → Int → Hp → Prop} (h : RdL aF H sl A) (hl : A.length ≤ 4194304)
    (q1 : wrg name A ≠ 0 → ∀ H', Kp No H H' → Q E (wrg name A) H') (q0 : wrg name A = 0 → ∀ H', Kp No H H' → Q (printT name A) 0 H') : F51 name sl H Q := by
  have hn := h.n
  intro H1 e1
  have k1 : Kp No H H1 := (Kp.refl _ _).push' e1
  have r1 : Row H1 H.size 27 [.string name, Sl.v sl] := Row.new' e1
  refine ⟨name, sl, r1.all, c68 (h.kp0 k1) hl fun H6 k6 => ⟨fun hh => q1 (of_decide_eq_true hh) H6 (k1.trans k6 fun _ h => h.elim), fun hh => ?_⟩⟩
  have w0 : wrg name A = 0 := Decidable.not_not.1 (of_decide_eq_false hh)
  obtain ⟨gn, gA⟩ := wrg_good w0
  have hns := nm_size gn
  have hA16 := gA.len
  have q0 := q0 w0
  have kk6 : Kp No H H6 := k1.trans k6 fun _ h => h.elim
  intro H10 e10
  have k10 : Kp No H6 H10 := (Kp.refl _ _).push' e10
  have r10 := Row.new' e10
  refine ⟨r10.mayw (by simp), fun H12 e12 => ?_⟩
  have r12 : Row H12 H6.size 49 [.string E, .string S_INT, .string S_STR, .string S_BOOL] := r10.fill' e12 rfl
  have k12 : Kp No H6 H12 := k10.sets' e12 (.inr (Nat.le_refl _))
  have kk := kk6.trans k12 fun _ h => h.elim
  have r1' := (k6.trans k12 fun _ h => h.elim).row r1 id
  have z5 : S_TYPE_.size = 5 := rfl
  have z2 : S_____.size = 2 := rfl
  refine ⟨name, r1'.cell_of (i := 0) rfl, by rw [z5]; omega, by rw [size_app, z5, z2]; omega, ?_⟩
  have hhd : ((S_TYPE_ ++ name) ++ S_____).size ≤ 40 := by rw [size_app, size_app, z5, z2]; omega
  have ehd : ((S_TYPE_ ++ name) ++ S_____) = ⟨(((S_TYPE_ ++ name) ++ S_____).data.toList ++ prA true (A.take 0)).toArray⟩ := by
    apply ByteArray.ext
    apply Array.toList_inj.1
    simp [prA]
  unfold printT at q0
  rw [ehd]
  generalize (S_TYPE_ ++ name) ++ S_____ = hd at hhd q0 ⊢
  have ean : hd.data.toList.length = hd.size := rfl
  have pl : ∀ i, (prA true (A.take i)).length ≤ 800 := fun i => by
    have := prA_len (l := A.take i) (f := true) fun a ha => (gA.ok a (List.mem_of_mem_take ha)).1
    rw [List.length_take] at this
    omega
  intro X2 hX2
  suffices G : ∀ (d i : Nat), i + d = A.length → X2 ⟨(hd.data.toList ++ prA true (A.take i)).toArray⟩ (i : Int) H12 from G A.length 0 (by omega)
  intro d
  induction d with
  | zero =>
    intro i hi
    have hp := pl i
    rw [List.take_of_length_le (by omega)] at hp ⊢
    refine hX2 _ _ _ ⟨sl, by rw [add_mk]; exact r1'.cell_of rfl, fun h => absurd (of_decide_eq_true h) (by omega), fun _ => ⟨?_, ?_⟩⟩
    · rw [bsz, List.length_append, ean, show S___.size = 1 from rfl]; omega
    · rw [bapp, show S___.data.toList = [41] from rfl, List.append_assoc]
      exact q0 H12 kk
  | succ d ih =>
    intro i hi
    obtain ⟨a, ga⟩ : ∃ a, A[i]? = some a := ⟨_, List.getElem?_eq_getElem (by omega)⟩
    have hok := gA.ok a (List.mem_of_getElem? ga)
    have hsz := nm_size hok.1
    have htk : A.take (i + 1) = A.take i ++ [a] := by rw [List.take_add_one, ga]; rfl
    obtain ⟨p, hp, hpn, cp⟩ := (h.kp0 kk).get ga
    have it : ((i : Nat) : Int).toNat = i := by omega
    have hpl := pl i
    have hks : (kw a.2).size ≤ 4 := by
      unfold kw
      split
      · decide
      · split
        · decide
        · decide
    have kc : cell H12 (Addr.add ⟨H6.size, 0, none⟩ (a.2.toNat * 1)) = some (.string (kw a.2)) := by
      rw [add_mk, Nat.zero_add, Nat.mul_one]
      refine r12.cell_of ?_
      have hk : a.2 = 1 ∨ a.2 = 2 ∨ a.2 = 3 := by have := hok.2.2; omega
      rcases hk with e | e | e <;> rw [e] <;> rfl
    -- behind the comma
    have three : ∀ l : List UInt8, l.length ≤ 1000 → l = hd.data.toList ++ prA true (A.take i) ++ (if (true && (A.take i).isEmpty) then [] else S______.data.toList) → F51_3 Q X2 ⟨H.size, 0, none⟩ ⟨H6.size, 0, none⟩ (i : Int) ⟨l.toArray⟩ H12 := fun l hll hl2 => by
      have hk := hok.2.2
      refine ⟨sl, by rw [add_mk]; exact r1'.cell_of rfl, p, hp, by omega, by omega, a.1, by rw [it]; exact (by have := cp.1; rwa [add_add, Nat.add_zero] at this), by rw [bsz]; omega, by rw [size_app, bsz, show S_______.size = 1 from rfl]; omega, sl, by rw [add_mk]; exact r1'.cell_of rfl, p, hp, by omega, by omega, a.2, by rw [it]; exact cp.2.1, by omega, by show a.2 < ((4 : Nat) : Int); omega, kw a.2, kc, by rw [size_app, size_app, bsz, show S_______.size = 1 from rfl]; omega, ?_⟩
      rw [bapp, bapp, bapp, wr (by omega) (by omega), show ((i : Int) + 1) = ((i + 1 : Nat) : Int) by omega]
      have e : l ++ a.1.data.toList ++ S_______.data.toList ++ (kw a.2).data.toList = hd.data.toList ++ prA true (A.take (i + 1)) := by
        rw [htk, prA_snoc, hl2]
        show _ = hd.data.toList ++ (prA true (A.take i) ++ ((if (true && (A.take i).isEmpty) then [] else S______.data.toList) ++ (((a.1 ++ S_______) ++ kw a.2).data.toList ++ [])))
        have e3 : ((a.1 ++ S_______) ++ kw a.2).data.toList = a.1.data.toList ++ S_______.data.toList ++ (kw a.2).data.toList := by
          rw [ByteArray.data_append, ByteArray.data_append]; simp
        rw [e3]
        simp only [List.append_assoc, List.append_nil]
      rw [e]
      exact ih (i + 1) (by omega)
    refine hX2 _ _ _ ⟨sl, by rw [add_mk]; exact r1'.cell_of rfl, fun _ => ⟨fun h0 => ?_, fun h0 => ?_⟩, fun h => absurd (of_decide_eq_false h) (by omega)⟩
    · have h0 : 0 < i := by have := of_decide_eq_true h0; omega
      refine ⟨by rw [bsz, List.length_append, ean, show S______.size = 2 from rfl]; omega, ?_⟩
      rw [bapp]
      have z : S______.data.toList.length = 2 := rfl
      refine three _ (by rw [List.length_append, List.length_append, ean, z]; omega) ?_
      have : (A.take i).isEmpty = false := by
        rw [List.isEmpty_eq_false_iff]
        intro e
        have := congrArg List.length e
        rw [List.length_take] at this
        have this : min i A.length = 0 := this
        omega
      rw [this]; rfl
    · have h0 : i = 0 := by have := of_decide_eq_false h0; omega
      refine three _ (by rw [List.length_append, ean]; omega) ?_
      subst h0
      simp [prA]
end
end Go.Hw
