/- Contracts: taking out of the program's heap. Own work of this session. -/
import Derived.Test.YtjeponambmjhcaaDoorC2
set_option linter.unusedVariables false
namespace Go.Hw
open Go

theorem Lst.cut0 {α : Type} {t k : Nat} {F : Fmt α t k} {H : Hp} {s : Sl} {L : List α} (h : Lst F H s L) {n : Nat} (hn : n ≤ L.length) : Lst F H (Sl.cut s k 0 n s.c) (L.take n) ∧ ∀ b, (Sl.cut s k 0 n s.c).at b → s.at b := by
  have hsn := h.n
  rcases h.own with ⟨rfl, h0⟩ | ⟨b, sp, h1, h2, h3, h4, h5, h6⟩
  · have hL : L.length = 0 := by rw [← hsn]; rfl
    obtain rfl := List.eq_nil_of_length_eq_zero hL
    obtain rfl : n = 0 := by simpa using hn
    exact ⟨Lst.nil F H, fun b hb => hb⟩
  · have e : Sl.cut s k 0 n s.c = ⟨Option.some ⟨b, 0, none⟩, n, s.c⟩ := by
      unfold Sl.cut
      rw [h1]
      simp only [Option.map_some, add_mk, Nat.zero_mul, Nat.add_zero, Nat.sub_zero, ite_self]
    rw [e]
    refine ⟨⟨.inr ⟨b, (L.drop n).flatMap F.f ++ sp, rfl, ?_, ?_, ?_, ?_, h6⟩⟩, fun c hc => h1.trans hc⟩
    · rw [← List.append_assoc, ← List.flatMap_append, List.take_append_drop]; exact h2
    · rw [fl_len F.len, List.length_take, Nat.min_eq_left hn]
    · rw [← List.append_assoc, ← List.flatMap_append, List.take_append_drop]; exact h4
    · show n ≤ s.c; omega

theorem c36_loop {H : Hp} {hb : Nat} {sl : Sl} {L : List HC} {x : HC} {i y8 y9 : Nat} {l8 : List Value} {Q : Int → ByteArray → Int → Sl → Hp → Prop} (r : Row H hb 61 [Sl.v sl, lessv]) (h : Lst hF H sl L) (hl : L.length ≤ 1048577)
    (hi : i < L.length ∨ L.length = 0 ∧ i = 0) (hdn : HeapDn hlt L i) (b8 : Row H y8 56 l8) (hl8 : l8.length = 4) (b9 : Row H y9 56 (hF.f x)) (n8 : ¬ sl.at y8) (n9 : ¬ sl.at y9) (n89 : y8 ≠ y9)
    (hQ : ∀ H' L', L'.Perm L → Heap hlt L' → Lst hF H' sl L' → Kp (fun b => sl.at b ∨ b = y8) H H' → Q x.num x.e.ty x.e.tm x.e.sl H') :
    F27_L1 Q (some ⟨hb, 0, none⟩) ⟨y8, 0, none⟩ ⟨y9, 0, none⟩ (L.length : Int) i H := by
  intro X hX
  suffices G : ∀ (m : Nat) (H1 : Hp) (L1 : List HC) (i : Nat), L.length ≤ i + m → (i < L1.length ∨ L1.length = 0 ∧ i = 0) → Lst hF H1 sl L1 → L1.Perm L → HeapDn hlt L1 i → Kp sl.at H H1 → X i H1 from
    G L.length H L i (by omega) hi h (List.Perm.refl _) hdn (Kp.refl _ _)
  have hnr : ¬ sl.at hb := h.ne r (by decide)
  have fin : ∀ (H1 : Hp) (L1 : List HC) (a b : Int), Lst hF H1 sl L1 → L1.Perm L → Heap hlt L1 → Kp sl.at H H1 → F27_4 Q X (some ⟨hb, 0, none⟩) ⟨y8, 0, none⟩ ⟨y9, 0, none⟩ (L.length : Int) a b true H1 := by
    intro H1 L1 a b h1 hp hh k
    refine ⟨fun _ => ?_, fun hf => by cases hf⟩
    have b8 := k.row b8 n8
    have b9 := k.row b9 n9
    have hl8' : 4 = l8.length := hl8.symm
    refine ⟨_, _, _, _, b9.all, b8.mayw (by omega), fun H2 e2 => ⟨_, _, _, _, (b8.fill' e2 hl8').all, ?_⟩⟩
    exact hQ H2 L1 hp hh (h1.kp ((Kp.refl (fun b => b = y8) H1).sets' e2 (.inl rfl)) fun b hb e => n8 (e ▸ hb)) ((k.mono (T := fun b => sl.at b ∨ b = y8) fun _ _ => .inl).sets' e2 (.inl (.inr rfl)))
  intro m
  induction m with
  | zero =>
    intro H1 L1 i hm hi h1 hp hdn k
    have hlen := hp.length_eq
    obtain ⟨hl0, rfl⟩ : L1.length = 0 ∧ i = 0 := hi.resolve_left (by omega)
    have hL : L1 = [] := List.eq_nil_of_length_eq_zero hl0
    have hh : Heap hlt L1 := by subst hL; intro j x y _ hx; simp at hx
    refine hX _ _ ⟨fun hb => absurd (of_decide_eq_true hb) ?_, fun _ => ⟨fun hf => (by cases hf), fun _ => ⟨fun _ => fin _ _ _ _ h1 hp hh k, fun hf => absurd (of_decide_eq_false hf) ?_⟩⟩⟩
    · simp [wr]; omega
    · simp [wr]; omega
  | succ m ih =>
    intro H1 L1 i hm hi h1 hp hdn k
    have hlen := hp.length_eq
    have w1 : IntKind.i64.wrap (IntKind.i64.wrap (2 * (i : Int)) + 1) = ((2 * i + 1 : Nat) : Int) := by
      rw [wr (x := 2 * (i : Int)) (by omega) (by omega), wr (by omega) (by omega)]; omega
    have w2 : IntKind.i64.wrap (IntKind.i64.wrap (IntKind.i64.wrap (2 * (i : Int)) + 1) + 1) = ((2 * i + 2 : Nat) : Int) := by
      rw [w1, wr (by omega) (by omega)]; omega
    -- behind the choice of the child
    have key : ∀ (H2 : Hp) (c : Nat), Kp No H1 H2 → (c - 1) / 2 = i → 0 < c → (∀ j z w, 0 < j → (j - 1) / 2 = i → L1[j]? = some z → L1[c]? = some w → ¬ hlt z w) → (L1.length ≤ c → ∀ j, 0 < j → (j - 1) / 2 = i → L1[j]? = none) →
        F27_2 Q X (some ⟨hb, 0, none⟩) ⟨y8, 0, none⟩ ⟨y9, 0, none⟩ (L.length : Int) i c H2 := by
      intro H2 c k2 hc hc0 hmin hnone
      have h2 := h1.kp k2 (fun _ _ => id)
      have k := k.trans k2 (fun _ => False.elim)
      refine ⟨fun hb => ?_, fun hb => ?_⟩
      · have hb := of_decide_eq_true hb
        refine fin _ _ _ _ h2 hp ?_ k
        rcases hi with hi | hi
        · exact hdn.done (List.getElem?_eq_getElem hi) fun j x h0 hj hx => by rw [hnone (by omega) j h0 hj] at hx; cases hx
        · have hL : L1 = [] := List.eq_nil_of_length_eq_zero hi.1
          subst hL; intro j x y _ hx; simp at hx
      · have hb := of_decide_eq_false hb
        have hcl : c < L1.length := by omega
        have hil : i < L1.length := by omega
        have hx : L1[c]? = some L1[c] := List.getElem?_eq_getElem hcl
        have hy : L1[i]? = some L1[i] := List.getElem?_eq_getElem hil
        obtain ⟨a, ha, hi1, ca⟩ := h2.rd.get hx
        obtain ⟨a', ha', hj1, ca'⟩ := h2.rd.get hy
        have r2 := k.row r hnr
        have r0 := r2.cell_of (i := 0) rfl
        refine ⟨_, rfl, r2.cell_of (i := 1) rfl, _, rfl, _, r0, a, ha, by omega, by omega, _, _, _, _, ca, _, rfl, _, r0, a', ha', by omega, by omega, _, _, _, _, ca', c31 fun H3 k3 => ?_⟩
        have r3 := k3.row r2 id
        have h3 := h2.kp k3 (fun _ _ => id)
        have k := k.trans k3 (fun _ => False.elim)
        refine ⟨r3.cell_of (i := 0) rfl, r3.cell_of (i := 0) rfl, ?_⟩
        by_cases hq : hlt L1[c] L1[i]
        · rw [decide_eq_true (show _ ∨ _ from hq)]
          refine ⟨fun hf => (by cases hf), fun _ => c47 r3 h3 hy hx fun H4 h4 k4 => ?_⟩
          exact ih H4 _ c (by omega) (.inl (by simp; omega)) h4 ((perm_swap hy hx).trans hp) (hdn.step hOrd hc hc0 hx hy hq fun j z h0 hj hz => hmin j z _ h0 hj hz hx) (k.trans k4 fun _ => .inl)
        · rw [decide_eq_false (show ¬ (_ ∨ _) from hq)]
          refine fin _ _ _ _ h3 hp (hdn.done hy fun j z h0 hj hz => hOrd.cotrans _ _ _ (hmin j z _ h0 hj hz hx) hq) k
    refine hX _ _ ?_
    unfold F27_L1b
    rw [w2, w1]
    refine ⟨fun hb => ?_, fun hb => ?_⟩
    · have hb := of_decide_eq_true hb
      have hx : L1[2 * i + 2]? = some L1[2 * i + 2] := List.getElem?_eq_getElem (by omega)
      have hy : L1[2 * i + 1]? = some L1[2 * i + 1] := List.getElem?_eq_getElem (by omega)
      obtain ⟨a, ha, hi1, ca⟩ := h1.rd.get hx
      obtain ⟨a', ha', hj1, ca'⟩ := h1.rd.get hy
      have r2 := k.row r hnr
      have r0 := r2.cell_of (i := 0) rfl
      refine ⟨_, rfl, r2.cell_of (i := 1) rfl, _, rfl, _, r0, a, ha, by omega, by omega, _, _, _, _, ca, _, rfl, _, r0, a', ha', by omega, by omega, _, _, _, _, ca', c31 fun H3 k3 => ?_⟩
      have r3 := k3.row r2 id
      refine ⟨r3.cell_of (i := 0) rfl, r3.cell_of (i := 0) rfl, fun hq => ?_, fun hq => ?_⟩
      · have hq : hlt L1[2 * i + 2] L1[2 * i + 1] := of_decide_eq_true hq
        rw [show IntKind.i64.wrap (((2 * i + 1 : Nat) : Int) + 1) = ((2 * i + 2 : Nat) : Int) from by rw [wr (by omega) (by omega)]; omega]
        refine key H3 (2 * i + 2) k3 (by omega) (by omega) (fun j z w h0 hj hz hw => ?_) (fun hle => by omega)
        rw [hx] at hw; cases hw
        rcases (by omega : j = 2 * i + 1 ∨ j = 2 * i + 2) with rfl | rfl
        · rw [hy] at hz; cases hz; exact hOrd.asymm _ _ hq
        · rw [hx] at hz; cases hz; exact fun h => hOrd.asymm _ _ h h
      · have hq : ¬ hlt L1[2 * i + 2] L1[2 * i + 1] := of_decide_eq_false hq
        refine key H3 (2 * i + 1) k3 (by omega) (by omega) (fun j z w h0 hj hz hw => ?_) (fun hle => by omega)
        rw [hy] at hw; cases hw
        rcases (by omega : j = 2 * i + 1 ∨ j = 2 * i + 2) with rfl | rfl
        · rw [hy] at hz; cases hz; exact fun h => hOrd.asymm _ _ h h
        · rw [hx] at hz; cases hz; exact hq
    · have hb := of_decide_eq_false hb
      refine ⟨fun hf => (by cases hf), fun _ => key H1 (2 * i + 1) (Kp.refl _ _) (by omega) (by omega) (fun j z w h0 hj hz hw => ?_) (fun hle j h0 hj => ?_)⟩
      · have := (List.getElem?_eq_some_iff.1 hz).1
        obtain rfl : j = 2 * i + 1 := by omega
        rw [hw] at hz; cases hz; exact fun h => hOrd.asymm _ _ h h
      · exact List.getElem?_eq_none (by omega)

theorem set_last_take {α : Type} (L : List α) (x : α) : (L.set (L.length - 1) x).take (L.length - 1) = L.take (L.length - 1) := by
  rw [List.take_set_of_le (Nat.le_refl _)]

theorem c36 {H : Hp} {hb : Nat} {sl : Sl} {L : List HC} {x : HC} {Q : Int → ByteArray → Int → Sl → Hp → Prop} (r : Row H hb 61 [Sl.v sl, lessv]) (h : Lst hF H sl L) (hl : L.length ≤ 1048577) (hh : Heap hlt L) (hx : L[0]? = some x)
    (hQ : ∀ H' sl' L', (x :: L').Perm L → Heap hlt L' → Row H' hb 61 [Sl.v sl', lessv] → Lst hF H' sl' L' → Kp (fun b => b = hb ∨ sl.at b) H H' → (∀ b, sl'.at b → sl.at b) → Q x.num x.e.ty x.e.tm x.e.sl H') :
    F27 (some ⟨hb, 0, none⟩) H Q := by
  intro H1 e1
  have hn := h.n
  have hl0 : 0 < L.length := (List.getElem?_eq_some_iff.1 hx).1
  have hnr : ¬ sl.at hb := h.ne r (by decide)
  have k1 := (Kp.refl No H).push' e1
  have s1 := size_push' e1
  have b1 := Row.new' e1
  have h1 := h.kp k1 (fun _ _ => id)
  obtain ⟨a, ha, hi0, ca⟩ := h1.rd.get hx
  have r1 := (r.push' e1).cell_of (i := 0) rfl
  refine ⟨_, rfl, _, r1, a, ha, by omega, by omega, _, _, _, _, ca, _, rfl, _, r1, fun H2 e2 => ?_⟩
  have k2 := k1.push' e2
  have s2 := size_push' e2
  have b2 := Row.new' e2
  have h2 := h.kp k2 (fun _ _ => id)
  obtain ⟨a2, ha2, _, ca2⟩ := h2.rd.get hx
  have : a2 = a := by rw [ha] at ha2; exact (Option.some.inj ha2).symm
  subst this
  have r2 := ((r.push' e1).push' e2).cell_of (i := 0) rfl
  refine ⟨r2, ca2, r2, b2.mayall, fun H3 e3 => ?_⟩
  have k3 := k2.sets' e3 (.inr (by show H.size ≤ H1.size; omega))
  have s3 := size_sets' e3
  have b3 : Row H3 H1.size 56 (hF.f x) := b2.fill' e3 rfl
  have b13 := (b1.push' e2).sets_ne' e3 (by show H.size ≠ H1.size; omega)
  have r3 := k3.row r id
  refine ⟨r3.cell_of (i := 0) rfl, fun H4 e4 => ?_⟩
  have k4 := k3.push' e4
  have s4 := size_push' e4
  have r4 := (r3.push' e4).cell_of (i := 0) rfl
  have h4 := h.kp k4 (fun _ _ => id)
  have w : IntKind.i64.wrap (((sl.n : Nat) : Int) - 1) = ((L.length - 1 : Nat) : Int) := by rw [wr (by omega) (by omega)]; omega
  have hz : L[L.length - 1]? = some L[L.length - 1] := List.getElem?_eq_getElem (by omega)
  obtain ⟨az, haz, hiz, caz⟩ := h4.rd.get hz
  have b4 := Row.new' e4
  obtain ⟨c, hc1, hc2, hc3, hw, hset⟩ := h4.set (i := 0) (by omega) L[L.length - 1]
  rw [w]
  refine ⟨_, rfl, _, r4, _, rfl, _, r4, _, rfl, _, r4, az, haz, by omega, by omega, _, _, _, _, caz, _, _, _, _, b4.all, c, hc1, by omega, by omega, hw, fun H5 e5 => ?_⟩
  obtain ⟨h5, k5⟩ := hset _ e5
  have nb : ∀ b, H.size ≤ b → ¬ sl.at b := fun b hb hs => by have := h.lt hs; omega
  have b5 := k5.row b4 (nb _ (by omega))
  have hset5 := h5.set (i := L.length - 1) (by rw [List.length_set]; omega) ⟨0, ⟨ByteArray.mk #[], 0, Sl.nil, []⟩⟩
  obtain ⟨d, hd1, hd2, hd3, hw', hset'⟩ := hset5
  refine ⟨b5.all, d, hd1, by omega, by omega, hw', fun H6 e6 => ?_⟩
  obtain ⟨h6, k6⟩ := hset' _ e6
  have k36 : Kp (fun b => b = hb ∨ sl.at b) H H6 := ((k4.mono (T := fun b => b = hb ∨ sl.at b) fun _ _ => False.elim).trans k5 fun _ h => .inl (.inr h)).trans k6 fun _ h => .inl (.inr h)
  have r6 := k6.row (k5.row (r3.push' e4) hnr) hnr
  have hcn : sl.n ≤ sl.c := by
    rcases h.own with ⟨e, _⟩ | ⟨_, _, _, _, _, _, h5, _⟩
    · subst e; exact Nat.le_refl _
    · exact h5
  refine ⟨_, rfl, _, r6.cell_of (i := 0) rfl, by omega, Nat.zero_le _, by show L.length - 1 ≤ sl.c; omega, Nat.le_refl _, _, rfl, r6.some (i := 0) (by simp), r6.frz 0, fun H7 e7 => ?_⟩
  have r7 := r6.set' e7
  have k7 := k36.set' e7 (.inl (.inl rfl))
  have b97 := (k6.row (k5.row (b3.push' e4) (nb _ (by omega))) (nb _ (by omega))).set_ne' e7 (by have := r.lt; show H1.size ≠ hb; omega)
  have b87 := (k6.row (k5.row (b13.push' e4) (nb _ (by omega))) (nb _ (by omega))).set_ne' e7 (by have := r.lt; show H.size ≠ hb; omega)
  have h7 := (h6.kp ((Kp.refl (fun b => b = hb) H6).set' e7 (.inl rfl)) fun b hb' e => hnr (e ▸ hb')).cut0 (n := L.length - 1) (by simp)
  have eL : (((L.set 0 L[L.length - 1]).set (L.length - 1) (⟨0, ⟨ByteArray.mk #[], 0, Sl.nil, []⟩⟩ : HC)).take (L.length - 1)) = cutRoot L L[L.length - 1] := by
    have := set_last_take (L.set 0 L[L.length - 1]) (⟨0, ⟨ByteArray.mk #[], 0, Sl.nil, []⟩⟩ : HC)
    rw [List.length_set] at this
    exact this
  rw [eL] at h7
  obtain ⟨h7, at7⟩ := h7
  have hlc : (cutRoot L L[L.length - 1]).length = L.length - 1 := by simp [cutRoot]
  have hh7 := cutRoot_dn hh hz
  rw [show ((L.length - 1 : Nat) : Int) = ((cutRoot L L[L.length - 1]).length : Int) from by rw [hlc]]
  have r7' : Row H7 hb 61 [Sl.v (Sl.cut sl 4 0 (L.length - 1) sl.c), lessv] := r7
  refine c36_loop (i := 0) r7' h7 (by omega) (by omega) hh7 b87 rfl b97 (fun h => nb _ (Nat.le_refl _) (at7 _ h)) (fun h => nb _ (by omega) (at7 _ h)) (by omega) fun H' L' hp hh' h' k' => ?_
  refine hQ H' _ L' ((hp.cons x).trans (cutRoot_perm hx hz)) hh' (k'.row r7' (fun h => ?_)) h' (k7.trans k' fun b hb' => ?_) at7
  · rcases h with h | h
    · exact hnr (at7 _ h)
    · have := r.lt; omega
  · rcases hb' with h | h
    · exact .inl (.inr (at7 _ h))
    · exact .inr (by omega)

end Go.Hw
