/- DeweyText. Own work of this session. -/
import Derived.Test.YtmjoeilahbfonaaDoorD5
import Derived.Lib.ItoaMem
set_option linter.unusedVariables false
namespace Go.Hw
open Go

/-! ## digits -/
theorem dig_one {n : Nat} (h : n < 10) : dig (n : Int) = [(48 + n : Int)] := by
  unfold dig
  rw [Lib.itoa_nonneg, Lib.decDigits_one h]
  simp
  omega
theorem dig_more {n m : Nat} (h : 0 < n) (hm : m < 10) : dig ((n * 10 + m : Nat) : Int) = dig (n : Int) ++ [(48 + m : Int)] := by
  unfold dig
  rw [Lib.itoa_nonneg, Lib.itoa_nonneg]
  conv => lhs; rw [Lib.decDigits, dif_neg (by omega)]
  rw [show (n * 10 + m) / 10 = n from by omega, show (n * 10 + m) % 10 = m from by omega, List.map_append]
  congr 1
  simp
  omega
theorem dig_ascii (n : Nat) : ∀ x ∈ dig (n : Int), 0 ≤ x ∧ x < 256 := by
  intro x hx
  unfold dig at hx
  obtain ⟨b, _, rfl⟩ := List.mem_map.1 hx
  have := b.toNat_lt
  omega
theorem sh_ascii : ∀ {L : List Int}, (∀ x ∈ L, 0 ≤ x) → ∀ x ∈ sh L, 0 ≤ x ∧ x < 256
  | [], _, x, hx => by simp [sh] at hx
  | [y], h, x, hx => by
    have := h y (List.mem_cons_self ..)
    have e : ((y.toNat : Nat) : Int) = y := by omega
    rw [← e] at hx
    exact dig_ascii _ x hx
  | y :: z :: l, h, x, hx => by
    have := h y (List.mem_cons_self ..)
    have e : ((y.toNat : Nat) : Int) = y := by omega
    simp only [sh] at hx
    rcases List.mem_append.1 hx with hx | hx
    · rw [← e] at hx
      exact dig_ascii _ x hx
    · rcases List.mem_cons.1 hx with rfl | hx
      · decide
      · exact sh_ascii (fun w hw => h w (List.mem_cons_of_mem _ hw)) x hx
theorem bytes_bst {L : List Int} (h : ∀ x ∈ L, 0 ≤ x ∧ x < 256) : bytes (bst L) = L.map Int.toNat := by
  unfold bytes bst
  simp only [List.map_map]
  apply List.map_congr_left
  intro x hx
  have := h x hx
  simp only [Function.comp]
  rw [UInt8.toNat_ofNat']
  omega
theorem bst_bytes {s : ByteArray} {L : List Int} (h : bytes s = L.map Int.toNat) : bst L = s := by
  unfold bytes at h
  unfold bst
  have : (L.map fun n => UInt8.ofNat n.toNat) = s.data.toList := by
    have h2 := congrArg (List.map UInt8.ofNat) h
    rw [List.map_map, List.map_map] at h2
    rw [show (fun n : Int => UInt8.ofNat n.toNat) = (UInt8.ofNat ∘ Int.toNat) from rfl, ← h2]
    conv => rhs; rw [← List.map_id s.data.toList]
    apply List.map_congr_left
    intro x _
    simp
  rw [this]

/-! ## what Show says is read -/
theorem rstep_dig {w : List Int} {u d : Nat} {fresh : Bool} (hd : d < 10) (hf : fresh = true ∨ 0 < u) (hm : u * 10 + d ≤ 2147483647) : rstep (w ++ [(u : Int)]) fresh (48 + d) = some (w ++ [((u * 10 + d : Nat) : Int)], false) := by
  unfold rstep
  rw [if_neg (fun h => by have := h.1; omega), if_neg (fun h => by
    rcases h with h | h | ⟨h1, h2⟩
    · omega
    · omega
    · rw [lastOf_snoc] at h2
      rcases hf with h | h
      · rw [h] at h1; cases h1
      · omega)]
  rw [lastOf_snoc, if_neg (by omega), List.dropLast_concat]
  congr 4
  omega
theorem read_dig (w : List Int) (rest : List Nat) : ∀ (k n : Nat), n ≤ k → n ≤ 2147483647 → rread ((dig (n : Int)).map Int.toNat ++ rest) (w ++ [0]) true = rread rest (w ++ [(n : Int)]) false := by
  have one : ∀ (n : Nat) (rest : List Nat), n < 10 → rread ((dig (n : Int)).map Int.toNat ++ rest) (w ++ [0]) true = rread rest (w ++ [(n : Int)]) false := by
    intro n rest h
    have := rstep_dig (w := w) (u := 0) (fresh := true) h (.inl rfl) (by omega)
    rw [Nat.zero_mul, Nat.zero_add] at this
    rw [dig_one h]
    have e : (48 + (n : Int)).toNat = 48 + n := by omega
    simp only [List.map_cons, List.map_nil, e, List.cons_append, List.nil_append, rread]
    rw [show ((0 : Nat) : Int) = 0 from rfl] at this
    rw [this]
  intro k
  induction k generalizing rest with
  | zero => intro n hn hm; exact one n rest (by omega)
  | succ k ih =>
    intro n hn hm
    by_cases h : n < 10
    · exact one n rest h
    · have e : n = n / 10 * 10 + n % 10 := by omega
      have hd := dig_more (n := n / 10) (m := n % 10) (by omega) (by omega)
      rw [← e] at hd
      rw [hd, List.map_append, List.append_assoc, ih _ (n / 10) (by omega) (by omega)]
      have e2 : (48 + ((n % 10 : Nat) : Int)).toNat = 48 + n % 10 := by omega
      simp only [List.map_cons, List.map_nil, e2, List.cons_append, List.nil_append, rread]
      have := rstep_dig (w := w) (u := n / 10) (d := n % 10) (fresh := false) (by omega) (.inr (by omega)) (by omega)
      rw [this, ← e]
theorem read_sh : ∀ (l w : List Int), l ≠ [] → (∀ x ∈ l, 0 ≤ x ∧ x ≤ 2147483647) → w.length + l.length ≤ 64 → rread ((sh l).map Int.toNat) (w ++ [0]) true = some (w ++ l)
  | [], _, h, _, _ => absurd rfl h
  | [x], w, _, h, _ => by
    have hx := h x (List.mem_cons_self ..)
    have e : ((x.toNat : Nat) : Int) = x := by omega
    have := read_dig w [] x.toNat x.toNat (Nat.le_refl _) (by omega)
    rw [e, List.append_nil] at this
    show rread ((dig x).map Int.toNat) _ _ = _
    rw [this]
    rfl
  | x :: y :: l, w, _, h, hl => by
    have hx := h x (List.mem_cons_self ..)
    have e : ((x.toNat : Nat) : Int) = x := by omega
    simp only [sh, List.map_append, List.map_cons]
    have := read_dig w ((46 : Int).toNat :: (sh (y :: l)).map Int.toNat) x.toNat x.toNat (Nat.le_refl _) (by omega)
    rw [e] at this
    rw [this]
    have st : rstep (w ++ [x]) false (46 : Int).toNat = some (w ++ [x] ++ [0], true) := by
      unfold rstep
      rw [if_pos ⟨rfl, rfl, by simp at hl ⊢; omega⟩]
    simp only [rread]
    rw [st]
    have ih := read_sh (y :: l) (w ++ [x]) (by simp) (fun z hz => h z (List.mem_cons_of_mem _ hz)) (by simp at hl ⊢; omega)
    simp only
    rw [ih, List.append_assoc]
    rfl
theorem read_show {L : List Int} (h : valid L = true) : rread (bytes (bst (sh L))) [0] true = some L := by
  obtain ⟨h0, h64, hx⟩ := valid_mem h
  rw [bytes_bst (sh_ascii fun x hm => (hx x hm).1)]
  exact read_sh L [] (List.length_pos_iff.1 h0) hx (by simpa using h64)

/-! ## what is read is what Show says -/
/-- The text so far. -/
def sofar (v : List Int) (fresh : Bool) : List Int := if fresh then sh v.dropLast ++ (if v.dropLast = [] then [] else [46]) else sh v
theorem show_read : ∀ (l : List Nat) (v W : List Int) (fresh : Bool), v ≠ [] → v.length ≤ 64 → (∀ x ∈ v, 0 ≤ x ∧ x ≤ 2147483647) → (fresh = true → lastOf v = 0) → rread l v fresh = some W →
    valid W = true ∧ (sh W).map Int.toNat = (sofar v fresh).map Int.toNat ++ l
  | [], v, W, fresh, h0, h64, hx, hf, h => by
    unfold rread at h
    cases fresh with
    | true => simp at h
    | false =>
      simp at h
      subst h
      refine ⟨?_, by simp [sofar]⟩
      unfold valid
      simp only [Bool.and_eq_true, decide_eq_true_eq, List.all_eq_true]
      exact ⟨⟨List.length_pos_iff.2 h0, h64⟩, hx⟩
  | b :: l, v, W, fresh, h0, h64, hx, hf, h => by
    unfold rread at h
    have hs := split_last h0
    unfold rstep at h
    split at h
    · cases h
    rename_i v' f' hst
    split at hst
    · rename_i hc
      injection hst with hst
      injection hst with hst1 hst2
      subst hst1 hst2
      obtain ⟨rfl, rfl, hl⟩ := hc
      obtain ⟨h1, h2⟩ := show_read l (v ++ [0]) W true (by simp) (by simp; omega) (fun x hm => by
        rcases List.mem_append.1 hm with hm | hm
        · exact hx x hm
        · rw [List.mem_singleton] at hm; rw [hm]; omega) (fun _ => lastOf_snoc _ _) h
      refine ⟨h1, ?_⟩
      rw [h2]
      simp [sofar, h0]
    · split at hst
      · cases hst
      rename_i hc1 hc2
      split at hst
      · cases hst
      rename_i hc3
      injection hst with hst
      injection hst with hst1 hst2
      subst hst1 hst2
      have hmem : lastOf v ∈ v := List.mem_of_getElem? (last_get (List.length_pos_iff.2 h0))
      have hla := hx _ hmem
      obtain ⟨h1, h2⟩ := show_read l _ W false (by simp) (by
        have := List.length_pos_iff.2 h0
        simp; omega) (fun x hm => by
        rcases List.mem_append.1 hm with hm | hm
        · exact hx x (List.dropLast_subset _ hm)
        · rw [List.mem_singleton] at hm; rw [hm]; omega) (fun h => (by cases h)) h
      refine ⟨h1, ?_⟩
      rw [h2]
      have hb : 48 ≤ b ∧ b ≤ 57 := by omega
      have hb3 : ¬ (fresh = false ∧ lastOf v = 0) := fun h => hc2 (.inr (.inr h))
      have key : sofar (v.dropLast ++ [lastOf v * 10 + ((b : Int) - 48)]) false = sofar v fresh ++ [(b : Int)] := by
        unfold sofar
        cases fresh with
        | true =>
          have hz := hf rfl
          rw [hz]
          simp only [if_pos, if_neg (show ¬ (false = true) from by decide)]
          rw [sh_snoc]
          congr 1
          have := dig_one (n := b - 48) (by omega)
          rw [show ((b - 48 : Nat) : Int) = 0 * 10 + ((b : Int) - 48) from by omega] at this
          rw [this]
          congr 1
          omega
        | false =>
          have hz : 0 < lastOf v := by
            by_cases e : lastOf v = 0
            · exact absurd ⟨rfl, e⟩ hb3
            · omega
          simp only [if_neg (show ¬ (false = true) from by decide)]
          conv => rhs; rw [hs]
          rw [sh_snoc, sh_snoc]
          rw [List.append_assoc, List.append_assoc, List.append_assoc]
          congr 2
          have := dig_more (n := (lastOf v).toNat) (m := b - 48) (by omega) (by omega)
          rw [show (((lastOf v).toNat * 10 + (b - 48) : Nat) : Int) = lastOf v * 10 + ((b : Int) - 48) from by omega, show (((lastOf v).toNat : Nat) : Int) = lastOf v from by omega] at this
          rw [this]
          congr 2
          omega
      rw [key]
      simp
theorem read_inv {s : ByteArray} {V : List Int} (h : rread (bytes s) [0] true = some V) : valid V = true ∧ bst (sh V) = s := by
  obtain ⟨h1, h2⟩ := show_read _ [0] V true (by simp) (by decide) (by simp) (fun _ => rfl) h
  refine ⟨h1, bst_bytes ?_⟩
  rw [h2]
  simp [sofar, sh]

theorem c5 {H : Hp} {p : Sl} {L : List Int} {s : ByteArray} {Q : Bool → Hp → Prop} (ht : TabH H) (hH : 0 < H.size) (h : Iv H p L) (hQ : ∀ H', Kp No H H' → Q true H') : F5 p s H Q := by
  refine c9 ht hH fun H1 k1 => ⟨fun hh => (by cases hh), fun _ => ?_⟩
  have s1 := k1.size
  have t1 := ht.kp k1 hH id
  have three : ∀ H', Kp No H1 H' → F5_3 Q s false H' := fun H3 k3 => by
    have kk3 := k1.trans k3 fun _ h => h.elim
    have s3 := k3.size
    refine ⟨fun hh => (by cases hh), fun _ => c18 (fun hn H' k' => ⟨fun _ => ⟨fun _ => ?_, fun hh => absurd rfl (of_decide_eq_false hh)⟩, fun hh => absurd (of_decide_eq_false hh) (by decide)⟩) fun V hV _ r H' lr k' _ => ⟨fun hh => absurd (of_decide_eq_true hh) (by decide), fun _ => ?_⟩⟩
    · exact hQ H' (kk3.trans k' fun _ h => h.elim)
    · obtain ⟨v1, v2⟩ := read_inv hV
      have kk' := kk3.trans k' fun _ h => h.elim
      have s' := k'.size
      refine c17 (lr.iv (by have := (valid_mem v1).2.1; omega)) (t1.kp (k3.trans k' fun _ h => h.elim) (by omega) id) (by omega) (fun hv => by rw [v1] at hv; cases hv) fun _ H2 k2 => ⟨fun _ => ?_, fun hh => absurd rfl (of_decide_eq_false hh)⟩
      rw [v2, seq_refl]
      exact hQ H2 (kk'.trans k2 fun _ h => h.elim)
  refine c17 (h.no k1) t1 (by omega) (fun _ => ⟨fun hh => absurd (of_decide_eq_true hh) (by decide), fun _ => ⟨fun _ => ⟨fun hh => absurd rfl (of_decide_eq_true hh), fun _ => ?_⟩, fun hh => absurd (of_decide_eq_false hh) (by decide)⟩⟩) fun hv H2 k2 => ⟨fun _ => ?_, fun hh => absurd rfl (of_decide_eq_false hh)⟩
  · rw [show (⟨#[]⟩ : ByteArray) = ByteArray.mk #[] from rfl, seq_refl]
    exact three H1 (Kp.refl _ _)
  · refine c18 (fun hn => by rw [read_show hv] at hn; cases hn) fun V hV _ r H3 lr k3 _ => ⟨fun hh => absurd rfl (of_decide_eq_true hh), fun _ => ?_⟩
    rw [read_show hv] at hV
    injection hV with hV
    subst hV
    refine c15 (((h.no k1).no k2).no k3) (lr.iv (by have := (valid_mem hv).2.1; omega)) ?_
    rw [decide_eq_true rfl]
    exact ⟨fun hh => (by cases hh), fun _ => ⟨fun hh => absurd rfl (of_decide_eq_true hh), fun _ => three H3 (k2.trans k3 fun _ h => h.elim)⟩⟩
end Go.Hw
