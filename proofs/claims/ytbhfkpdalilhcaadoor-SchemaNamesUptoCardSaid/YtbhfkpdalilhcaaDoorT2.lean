/- A type that may be. Own work of this session. -/
import Derived.Test.YtbhfkpdalilhcaaDoorT1
set_option linter.unusedVariables false
namespace Go.Hw
open Go

theorem tmod_range (k : Int) {n : Int} (hn : 0 < n) : -n < Int.tmod k n ∧ Int.tmod k n < n := by
  by_cases h : 0 ≤ k
  · have h1 := Int.tmod_nonneg n h
    have h2 := Int.tmod_lt_of_pos k hn
    omega
  · have e : Int.tmod k n = - Int.tmod (-k) n := by rw [Int.neg_tmod]; omega
    have h1 := Int.tmod_nonneg n (show 0 ≤ -k by omega)
    have h2 := Int.tmod_lt_of_pos (-k) hn
    omega
theorem c12 {k n : Int} {H : Hp} {Q : Int → Hp → Prop} (hn : 0 < n) (hn2 : n ≤ 4611686018427387904) (hQ : ∀ r, 0 ≤ r → r < n → Q r H) : F12 k n H Q := by
  obtain ⟨h1, h2⟩ := tmod_range k hn
  refine ⟨by omega, fun hh => ?_, fun hh => ?_⟩
  · have := of_decide_eq_true hh
    show Q (IntKind.i64.wrap (Int.tmod k n + n)) H
    rw [wr (by omega) (by omega)]
    exact hQ _ (by omega) (by omega)
  · have := of_decide_eq_false hh
    exact hQ _ (by omega) h2

/-- Attributes that may be. -/
structure GoodA (A : List (ByteArray × Int)) : Prop where
  len : A.length ≤ 16
  ok : ∀ a ∈ A, nm a.1 = true ∧ a.1 ≠ S_time ∧ 1 ≤ a.2 ∧ a.2 ≤ 3
  ne : A.Pairwise fun a b => a.1 ≠ b.1
/-- A name of its own for the i-th place. -/
def Nmd (i : Nat) (s : ByteArray) : Prop := s = an i ∨ ∃ b t, bytes s = b :: t ∧ 98 ≤ b
theorem Nmd.ne {i j : Nat} {s : ByteArray} (h : Nmd j s) (hi : i < 16) (hj : j < 16) (hij : j ≠ i) : s ≠ an i := by
  rcases h with rfl | ⟨b, t, h, hb⟩
  · exact an_ne hj hi hij
  · intro e
    rw [e, an_bytes (by omega)] at h
    injection h with h _
    omega
structure NameOk (i : Nat) (s : ByteArray) : Prop where
  ok : nm s = true
  t : s ≠ S_time
  d : Nmd i s
theorem NameOk.an {i : Nat} (h : i < 16) : NameOk i (an i) := ⟨an_nm h, an_time h, .inl rfl⟩

theorem GoodA.snoc {A : List (ByteArray × Int)} {a : ByteArray × Int} (h : GoodA A) (hl : A.length < 16) (h1 : nm a.1 = true) (h2 : a.1 ≠ S_time) (h3 : 1 ≤ a.2 ∧ a.2 ≤ 3) (h4 : ∀ b ∈ A, b.1 ≠ a.1) : GoodA (A ++ [a]) := by
  refine ⟨by simp; omega, fun b hb => ?_, ?_⟩
  · rcases List.mem_append.1 hb with hb | hb
    · exact h.ok b hb
    · rw [List.mem_singleton] at hb
      rw [hb]; exact ⟨h1, h2, h3⟩
  · rw [List.pairwise_append]
    refine ⟨h.ne, by simp, fun b hb c hc => ?_⟩
    rw [List.mem_singleton] at hc
    rw [hc]; exact h4 b hb

theorem nm_T : nm S_T = true := by decide

section
variable {H : Hp} {p1 p2 : Sl} {NS : List ByteArray} {K : List Int} {p0 : ByteArray}

theorem c8 {Q : ByteArray → Sl → Hp → Prop} (hw : WordsH H) (hN : RdL bF H p1 NS) (hK : RdL iF H p2 K) (hNl : NS.length ≤ 4611686018427387904) (hKl : K.length ≤ 4611686018427387904)
    (hQ : ∀ r name A H', name = (if nm p0 = true then p0 else S_T) → GoodA A → A.length = min K.length 16 → Lst aF H' r A → (∀ b, r.at b → H.size ≤ b) → Kp No H H' → Q name r H') : F8 p0 p1 p2 H Q := by
  have hNn := hN.n
  have hKn := hK.n
  have hwz := hw.size
  intro H1 e1
  have k1 := (Kp.refl No H).push' e1
  have s1 := size_push' e1
  have res1 : Row H1 H.size 27 [.string ⟨#[]⟩, Sl.v Sl.nil] := Row.new' e1
  -- from the name on
  have one : ∀ name, name = (if nm p0 = true then p0 else S_T) → F8_1 Q p1 p2 ⟨H.size, 0, none⟩ name H1 := fun name hname => by
    intro H11 e11
    have k11 : Kp No H1 H11 := (Kp.refl No _).push' e11
    have s11 := size_push' e11
    have r11 := Row.new' e11
    refine ⟨r11.mayw (by decide), fun H13 e13 => ?_⟩
    have t13 : Row H13 H1.size 27 [.string name, Sl.v Sl.nil] := r11.fill' e13 rfl
    have k13 : Kp No H1 H13 := k11.sets' e13 (.inr (Nat.le_refl _))
    have s13 := size_sets' e13
    have res13 := k13.row res1 id
    intro X hX
    suffices G : ∀ (d i : Nat) (sl : Sl) (A : List (ByteArray × Int)) (H' : Hp), i + d = min K.length 16 → A.length = i → GoodA A → (∀ j a, A[j]? = some a → Nmd j a.1) → Row H' H1.size 27 [.string name, Sl.v sl] → Row H' H.size 27 [.string ⟨#[]⟩, Sl.v Sl.nil] → Lst aF H' sl A → (∀ b, sl.at b → H13.size ≤ b) → Kp No H H' → H13.size ≤ H'.size → X (i : Int) H' from
      G (min K.length 16) 0 Sl.nil [] H13 (by omega) rfl ⟨Nat.zero_le _, fun a ha => (by cases ha), List.Pairwise.nil⟩ (fun j a ha => by simp at ha) t13 res13 (Lst.nil _ _) (fun b hb => by cases hb) (k1.trans k13 fun _ h => h.elim) (Nat.le_refl _)
    intro d
    induction d with
    | zero =>
      intro i sl A H' hi hA gA _ ht hres hl hf k hsz
      have fin : F8_2 Q ⟨H.size, 0, none⟩ ⟨H1.size, 0, none⟩ H' := by
        refine ⟨name, sl, ht.all, hres.mayw (by simp), fun H2 e2 => ?_⟩
        have r2 : Row H2 H.size 27 [.string name, Sl.v sl] := hres.fill' e2 rfl
        have k2 : Kp (fun x => x = H.size) H' H2 := (Kp.refl _ _).sets' e2 (.inl rfl)
        exact ⟨name, sl, r2.all, hQ sl name A H2 hname gA (by omega) (hl.kp k2 fun x hx hh => by have := hf x hx; omega) (fun b hb => by have := hf b hb; omega) (k.trans k2 fun x hx => .inr (by omega))⟩
      refine hX _ _ ⟨fun h1 => ⟨fun h2 => ?_, fun _ => fin⟩, fun _ => fin⟩
      have := of_decide_eq_true h1
      have := of_decide_eq_true h2
      omega
    | succ d ih =>
      intro i sl A H' hi hA gA hD ht hres hl hf k hsz
      have hi16 : i < 16 := by omega
      refine hX _ _ ⟨fun _ => ⟨fun _ => c23 (by omega) fun H26 k26 => ?_, fun h => absurd (of_decide_eq_false h) (by omega)⟩, fun h => absurd (of_decide_eq_false h) (by omega)⟩
      have s26 := k26.size
      have kk26 : Kp No H H26 := k.trans k26 fun _ h => h.elim
      have hw26 := hw.no kk26
      have ans := an_size (show i < 100 by omega)
      rw [an_app]
      refine ⟨by rw [bst_size]; have := an_size (show i < 100 by omega); unfold an at this; rw [bst_size] at this; simp at this; show 1 + _ ≤ _; omega, ?_⟩
      -- the attribute is put behind
      have six : ∀ (a : ByteArray) (H2 : Hp), NameOk i a → (∀ b ∈ A, b.1 ≠ a) → Kp No H26 H2 → F8_6 Q X p1 p2 ⟨H.size, 0, none⟩ ⟨H1.size, 0, none⟩ (i : Int) a H2 := fun a H2 hok hne k2 => by
        have kk2 : Kp No H' H2 := k26.trans k2 fun _ h => h.elim
        have t2 := kk2.row ht id
        have res2 := kk2.row hres id
        have s2 := k2.size
        have gk : K[i]? = some (K[i]'(by omega)) := List.getElem?_eq_getElem (by omega)
        obtain ⟨b, hb, hbn, cb⟩ := ((hK.kp0 k).kp0 kk2).get gk
        refine ⟨sl, t2.cell_of (i := 1) rfl, b, hb, by omega, by omega, _, cb.1, c12 (by decide) (by decide) fun r hr0 hr1 => ⟨t2.cell_of (i := 1) rfl, fun H133 e133 => ?_⟩⟩
        have k133 : Kp No H2 H133 := (Kp.refl No _).push' e133
        have s133 := size_push' e133
        rw [wr (x := 1 + r) (by omega) (by omega)] at e133
        have x133 : Row H133 H2.size 38 (aF.f (a, 1 + r)) := Row.new' e133
        have t133 := k133.row t2 id
        have l133 := (hl.kp kk2 fun _ _ => id).kp k133 fun _ _ => id
        refine ⟨t133.cell_of (i := 1) rfl, l133.append1 x133 rfl (by omega) (by omega) fun r138 H136 l136 k136 h136 => ?_⟩
        have nt : ∀ x, sl.at x → x ≠ H1.size ∧ x ≠ H.size := fun x hx => by have := hf x hx; omega
        have t136 := k136.row t133 fun hh => (nt _ hh).1 rfl
        have res136 := k136.row (k133.row res2 id) fun hh => (nt _ hh).2 rfl
        refine ⟨t136.some (i := 1) (by simp), t136.frz 1, fun H139 e139 => ?_⟩
        have t139 : Row H139 H1.size 27 [.string name, Sl.v r138] := t136.set' e139
        have k139 : Kp (fun x => x = H1.size) H136 H139 := (Kp.refl _ _).set' e139 (.inl rfl)
        have s139 := size_set' e139
        have s136 := k136.size
        have f138 : ∀ b, r138.at b → H13.size ≤ b := fun b hb => by
          rcases h136 b hb with hb | hb
          · exact hf b hb
          · omega
        rw [wr (by omega) (by omega)]
        refine ih (i + 1) r138 (A ++ [(a, 1 + r)]) H139 (by omega) (by simp; omega) (gA.snoc (by omega) hok.ok hok.t ⟨by show 1 ≤ 1 + r; omega, by show 1 + r ≤ 3; omega⟩ hne) (fun j b hj => ?_) t139 (k139.row res136 (by omega)) (l136.kp k139 fun x hx hh => by have := f138 x hx; omega) f138 ((((k.trans kk2 fun _ h => h.elim).trans k133 fun _ h => h.elim).trans k136 fun x hx => .inr (by have := hf x hx; omega)).trans k139 fun x hx => .inr (by omega)) (by omega)
        by_cases hjl : j < A.length
        · rw [List.getElem?_append_left hjl] at hj
          exact hD j b hj
        · rw [List.getElem?_append_right (by omega)] at hj
          have hj0 : j - A.length = 0 := by
            have := (List.getElem?_eq_some_iff.1 hj).1
            simp at this; omega
          rw [hj0] at hj
          have hj : (a, 1 + r) = b := by simpa using hj
          subst hj
          rw [show j = i from by omega]
          exact hok.d
      -- no name twice
      have four : ∀ (a : ByteArray) (H2 : Hp), NameOk i a → Kp No H26 H2 → F8_4 Q X p1 p2 ⟨H.size, 0, none⟩ ⟨H1.size, 0, none⟩ (i : Int) a H2 := fun a H2 hok k2 => by
        intro Y hY
        suffices G7 : ∀ (e j : Nat) (a : ByteArray) (H2 : Hp), j + e = i → NameOk i a → (∀ q b, q < j → A[q]? = some b → b.1 ≠ a) → Kp No H26 H2 → Y a (j : Int) H2 from G7 i 0 a H2 (by omega) hok (fun q b hq => by omega) k2
        intro e
        induction e with
        | zero =>
          intro j a H2 hj hok hne k2
          refine hY _ _ _ ⟨fun h => absurd (of_decide_eq_true h) (by omega), fun _ => six a H2 hok (fun b hb => ?_) k2⟩
          obtain ⟨q, hq⟩ := List.getElem?_of_mem hb
          exact hne q b (by have := (List.getElem?_eq_some_iff.1 hq).1; omega) hq
        | succ e ih7 =>
          intro j a H2 hj hok hne k2
          have kk2 : Kp No H' H2 := k26.trans k2 fun _ h => h.elim
          have t2 := kk2.row ht id
          have gj : A[j]? = some (A[j]'(by omega)) := List.getElem?_eq_getElem (by omega)
          have dj := hD j _ gj
          generalize A[j]'(by omega) = b at gj dj
          have hln := hl.n
          obtain ⟨c, hc, hcn, cc⟩ := (hl.kp kk2 fun _ _ => id).rd.get gj
          have hcl : cell H2 (c.add (((j : Int)).toNat * 2)) = some (.string b.1) := by
            rw [show ((j : Int)).toNat = j from by omega]
            have := cc.1
            rwa [show (c.add (j * 2)).add 0 = c.add (j * 2) from by rw [add_add, Nat.add_zero]] at this
          refine hY _ _ _ ⟨fun _ => ⟨sl, t2.cell_of (i := 1) rfl, c, hc, by omega, by omega, b.1, hcl, fun he => c23 (by omega) fun H3 k3 => ?_, fun he => ?_⟩, fun h => absurd (of_decide_eq_false h) (by omega)⟩
          · rw [an_app]
            refine ⟨by rw [bst_size]; have := an_size (show i < 100 by omega); unfold an at this; rw [bst_size] at this; simp at this; show 1 + _ ≤ _; omega, ?_⟩
            unfold F8_8
            rw [wr (by omega) (by omega)]
            refine ih7 (j + 1) (an i) H3 (by omega) (NameOk.an hi16) (fun q b' hq hb' => ?_) (k2.trans k3 fun _ h => h.elim)
            exact (hD q b' hb').ne hi16 (by omega) (by omega)
          · unfold F8_8
            rw [wr (by omega) (by omega)]
            refine ih7 (j + 1) a H2 (by omega) hok (fun q b' hq hb' => ?_) k2
            by_cases hqj : q = j
            · subst hqj
              rw [gj] at hb'
              injection hb' with hb'
              subst hb'
              intro e
              rw [e, seq_refl] at he
              cases he
            · exact hne q b' (by omega) hb'
      have own : F8_5 Q X p1 p2 ⟨H.size, 0, none⟩ ⟨H1.size, 0, none⟩ (i : Int) (an i) false H26 := ⟨fun h => (by cases h), fun _ => four _ _ (NameOk.an hi16) (Kp.refl _ _)⟩
      refine ⟨fun hlt => ?_, fun _ => own⟩
      have hlt := of_decide_eq_true hlt
      have gn : NS[i]? = some (NS[i]'(by omega)) := List.getElem?_eq_getElem (by omega)
      generalize NS[i]'(by omega) = s at gn
      obtain ⟨b, hb, hbn, cb⟩ := (hN.kp0 kk26).get gn
      have rd : (some b : Option Addr) = some b ∧ True := ⟨rfl, trivial⟩
      refine ⟨b, hb, by omega, by omega, s, cb.1, c17 hw26 ⟨fun hnm => ⟨b, hb, by omega, by omega, s, cb.1, fun h0 => ⟨b, hb, by omega, by omega, s, cb.1, Int.le_refl _, by have := of_decide_eq_true h0; show 0 < _; omega, fun h98 => ⟨b, hb, by omega, by omega, s, cb.1, ?_⟩, fun _ => own⟩, fun _ => own⟩, fun _ => own⟩⟩
      have h0 : 0 < s.size := by have := of_decide_eq_true h0; omega
      have h98 := of_decide_eq_true h98
      rw [show ((0 : Int)).toNat = 0 from rfl, bt_get h0] at h98
      refine ⟨fun ht' => ⟨b, hb, by omega, by omega, s, cb.1, four s _ ⟨hnm, fun e => ?_, .inr ?_⟩ (Kp.refl _ _)⟩, fun _ => four _ _ (NameOk.an hi16) (Kp.refl _ _)⟩
      · rw [e, seq_refl] at ht'
        cases ht'
      · have hbl := bytes_len s
        cases hbs : bytes s with
        | nil => rw [hbs] at hbl; simp at hbl; omega
        | cons x t =>
          refine ⟨x, t, rfl, ?_⟩
          have : (bytes s)[0]'(by omega) = x := by simp [hbs]
          rw [this] at h98
          omega
  refine c17 (hw.no k1) ⟨fun h => ?_, fun h => ?_⟩
  · exact one _ (by rw [if_neg (by intro h'; rw [h'] at h; cases h)])
  · exact one _ (by rw [if_pos (by simpa using h)])
end
end Go.Hw
