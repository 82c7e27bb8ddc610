/- What is wrong with a type; a catalog's declarations. Own work of this session. -/
import Derived.Test.YtbhfkpdalilhcaaDoorT2
set_option linter.unusedVariables false
namespace Go.Hw
open Go

theorem RdL.front {α : Type} {t k : Nat} {F : Fmt α t k} {H : Hp} {s : Sl} {L : List α} (h : RdL F H s L) {i : Nat} (hi : i ≤ L.length) : RdL F H (Sl.cut s k 0 i s.c) (L.take i) := by
  have hn := h.n
  have hr := h.r
  refine ⟨by show i - 0 = _; rw [List.length_take]; omega, ?_⟩
  have e : (Sl.cut s k 0 i s.c).b = s.b := by
    unfold Sl.cut
    show (if s.c = 0 then s.b else s.b.map (·.add (0 * k))) = s.b
    split
    · rfl
    · cases s.b with
      | none => rfl
      | some a => simp [Addr.add]
  rw [e]
  cases hb : s.b with
  | none =>
    rw [hb] at hr
    have hr : L.flatMap F.f = [] := hr
    have := fl_len F.len L
    rw [hr] at this
    have hp := F.pos
    have : L.length = 0 := by
      cases hL : L.length with
      | zero => rfl
      | succ n => rw [hL, Nat.succ_mul] at this; simp at this; omega
    have : L = [] := List.eq_nil_of_length_eq_zero this
    subst this
    simp [rds]
  | some a =>
    rw [hb] at hr
    have hr : cells H a (L.flatMap F.f) 0 := hr
    show cells H a ((L.take i).flatMap F.f) 0
    have := cells_sub (i := 0) (m := (L.take i).flatMap F.f) hr (by
      rw [List.drop_zero, fl_len F.len, List.length_take, Nat.min_eq_left hi, fl_take F.len])
    rwa [show a.add 0 = a from by unfold Addr.add; simp] at this

theorem notT {b : Bool} (h : (!b) = true) : b = false := by cases b <;> simp_all
theorem notF {b : Bool} (h : (!b) = false) : b = true := by cases b <;> simp_all

section
variable {H : Hp} {sl : Sl} {A : List (ByteArray × Int)} {name : ByteArray}

theorem c54 {Q : Bool → Hp → Prop} (h : RdL aF H sl A) (hl : A.length ≤ 4611686018427387904) (hQ : ∀ H', Kp No H H' → Q (A.any fun a => seq a.1 name) H') : F54 sl name H Q := by
  have hn := h.n
  intro H1 e1
  have k1 := (Kp.refl No H).push' e1
  have n1 : Row H1 H.size 9 [.string name] := Row.new' e1
  intro X hX
  suffices G : ∀ (d i : Nat) (H' : Hp), i + d = A.length → ((A.take i).any fun a => seq a.1 name) = false → Kp No H1 H' → X (i : Int) H' from G A.length 0 H1 (by omega) rfl (Kp.refl _ _)
  intro d
  induction d with
  | zero =>
    intro i H' hi ha k
    rw [List.take_of_length_le (by omega)] at ha
    refine hX _ _ ⟨fun hh => absurd (of_decide_eq_true hh) (by omega), fun _ => ?_⟩
    have := hQ H' (k1.trans k fun _ h => h.elim)
    rw [ha] at this
    exact this
  | succ d ih =>
    intro i H' hi ha k
    have gi : A[i]? = some (A[i]'(by omega)) := List.getElem?_eq_getElem (by omega)
    have hmem : A[i]'(by omega) ∈ A := List.getElem_mem _
    have htk : A.take (i + 1) = A.take i ++ [A[i]'(by omega)] := by simp
    generalize A[i]'(by omega) = a at gi hmem htk
    obtain ⟨b, hb, hbn, cb⟩ := ((h.kp0 k1).kp0 k).get gi
    refine hX _ _ ⟨fun _ => ⟨b, hb, by omega, by omega, a.1, a.2, cb, fun H2 e2 => ?_⟩, fun hh => absurd (of_decide_eq_false hh) (by omega)⟩
    have k2 : Kp No H' H2 := (Kp.refl No _).push' e2
    have x2 : Row H2 H'.size 38 [.string a.1, .int .i64 a.2] := Row.new' e2
    have n2 := (k.trans k2 fun _ h => h.elim).row n1 id
    refine ⟨a.1, x2.cell_of (i := 0) rfl, name, n2.cell_of (i := 0) rfl, fun he => ?_, fun he => ?_⟩
    · have : (A.any fun a => seq a.1 name) = true := List.any_eq_true.2 ⟨a, hmem, he⟩
      have := this ▸ hQ H2 ((k1.trans k fun _ h => h.elim).trans k2 fun _ h => h.elim)
      show Q (decide ((0 : Int) ≤ (i : Int))) H2
      rw [decide_eq_true (by omega)]
      exact this
    · rw [wr (by omega) (by omega)]
      refine ih (i + 1) H2 (by omega) ?_ (k.trans k2 fun _ h => h.elim)
      rw [htk, List.any_append, ha]
      simp [he]

/-- What is wrong with a type's attributes; with a type. -/
def wrgL (pre : List (ByteArray × Int)) : List (ByteArray × Int) → Int
  | [] => 0
  | a :: l => if (nm a.1 && !(seq a.1 S_time)) = false then 20 else if ¬ (0 < a.2 ∧ a.2 < 4) then 24 else if (pre.any fun b => seq b.1 a.1) = true then 5 else wrgL (pre ++ [a]) l
def wrg (name : ByteArray) (A : List (ByteArray × Int)) : Int := if nm name = false then 20 else if 16 < A.length then 2 else wrgL [] A
theorem wrgL_good : ∀ (l pre : List (ByteArray × Int)), (∀ a ∈ l, nm a.1 = true ∧ a.1 ≠ S_time ∧ 1 ≤ a.2 ∧ a.2 ≤ 3) → (pre ++ l).Pairwise (fun a b => a.1 ≠ b.1) → wrgL pre l = 0
  | [], _, _, _ => rfl
  | a :: l, pre, h, hp => by
    obtain ⟨h1, h2, h3, h4⟩ := h a (List.mem_cons_self ..)
    unfold wrgL
    rw [h1, seq_false h2, if_neg (by decide), if_neg (by omega), if_neg ?_]
    · exact wrgL_good l (pre ++ [a]) (fun b hb => h b (List.mem_cons_of_mem _ hb)) (by rw [List.append_assoc]; exact hp)
    · intro hc
      obtain ⟨b, hb, he⟩ := List.any_eq_true.1 hc
      rw [List.pairwise_append] at hp
      exact hp.2.2 b hb a (List.mem_cons_self ..) (seq_iff.1 he)
theorem GoodA.wrg (h : GoodA A) (hn : nm name = true) : wrg name A = 0 := by
  unfold Hw.wrg
  rw [if_neg (by rw [hn]; decide), if_neg (by have := h.len; omega)]
  exact wrgL_good A [] h.ok (by simpa using h.ne)

theorem c52 {s : ByteArray} {Q : Bool → Hp → Prop} (hw : WordsH H) (hQ : Q (nm s && !(seq s S_time)) H) : F52 s H Q :=
  c17 hw ⟨fun h => (by rw [h] at hQ; exact hQ), fun h => (by rw [h] at hQ; exact hQ)⟩
theorem c53 {k : Int} {Q : Bool → Hp → Prop} (hQ : Q (decide (0 < k ∧ k < 4)) H) : F53 k H Q := by
  refine ⟨fun h => ?_, fun h => ?_⟩
  · rw [show decide (k < 4) = decide (0 < k ∧ k < 4) from decide_eq_decide.2 (by have := of_decide_eq_true h; omega)]; exact hQ
  · rw [decide_eq_false (by have := of_decide_eq_false h; omega)] at hQ; exact hQ

theorem c24 {Q : Int → Hp → Prop} (hw : WordsH H) (h : RdL aF H sl A) (hc : sl.n ≤ sl.c) (hl : A.length ≤ 4611686018427387904) (hQ : ∀ H', Kp No H H' → Q (wrg name A) H') : F24 name sl H Q := by
  have hn := h.n
  have hwz := hw.size
  intro H1 e1
  have k1 := (Kp.refl No H).push' e1
  have s1 := size_push' e1
  have t1 : Row H1 H.size 27 [.string name, Sl.v sl] := Row.new' e1
  unfold wrg at hQ
  refine ⟨name, t1.cell_of (i := 0) rfl, c17 (hw.no k1) ⟨fun hh => ?_, fun hh => ⟨sl, t1.cell_of (i := 1) rfl, fun h16 => ?_, fun h16 => ⟨sl, t1.cell_of (i := 1) rfl, ?_⟩⟩⟩⟩
  · rw [if_pos (by simpa using hh)] at hQ
    exact hQ H1 k1
  · rw [if_neg (by intro e; rw [e] at hh; cases hh), if_pos (by have := of_decide_eq_true h16; omega)] at hQ
    exact hQ H1 k1
  · rw [if_neg (by intro e; rw [e] at hh; cases hh), if_neg (by have := of_decide_eq_false h16; omega)] at hQ
    generalize hR : wrgL [] A = R at hQ
    intro X hX
    suffices G : ∀ (d i : Nat) (H' : Hp), i + d = A.length → wrgL (A.take i) (A.drop i) = R → Kp No H1 H' → X (i : Int) H' from G A.length 0 H1 (by omega) hR (Kp.refl _ _)
    intro d
    induction d with
    | zero =>
      intro i H' hi ha k
      rw [List.drop_eq_nil_of_le (by omega)] at ha
      refine hX _ _ ⟨fun hh => absurd (of_decide_eq_true hh) (by omega), fun _ => ?_⟩
      have := hQ H' (k1.trans k fun _ h => h.elim)
      rw [← ha] at this
      exact this
    | succ d ih =>
      intro i H' hi ha k
      have hil : i < A.length := by omega
      have gi : A[i]? = some (A[i]'hil) := List.getElem?_eq_getElem hil
      rw [List.drop_eq_getElem_cons hil] at ha
      have htk : A.take (i + 1) = A.take i ++ [A[i]'hil] := by simp
      generalize A[i]'hil = a at gi ha htk
      unfold wrgL at ha
      have kk : Kp No H H' := k1.trans k fun _ h => h.elim
      have hs := kk.size
      obtain ⟨b, hb, hbn, cb⟩ := (h.kp0 kk).get gi
      refine hX _ _ ⟨fun _ => ⟨b, hb, by omega, by omega, a.1, a.2, cb, fun H26 e26 => ?_⟩, fun hh => absurd (of_decide_eq_false hh) (by omega)⟩
      have k26 : Kp No H' H26 := (Kp.refl No _).push' e26
      have r26 := Row.new' e26
      refine ⟨r26.mayw (by decide), fun H28 e28 => ?_⟩
      have x28 : Row H28 H'.size 38 [.string a.1, .int .i64 a.2] := r26.fill' e28 rfl
      have k28 : Kp No H' H28 := k26.sets' e28 (.inr (Nat.le_refl _))
      have kk28 : Kp No H H28 := kk.trans k28 fun _ h => h.elim
      have t28 := (k.trans k28 fun _ h => h.elim).row t1 id
      refine ⟨a.1, x28.cell_of (i := 0) rfl, c52 (hw.no kk28) ⟨fun h1 => ?_, fun h1 => ⟨a.2, x28.cell_of (i := 1) rfl, c53 ⟨fun h2 => ?_, fun h2 => ⟨sl, t28.cell_of (i := 1) rfl, by omega, Nat.zero_le _, by omega, Nat.le_refl _, a.1, x28.cell_of (i := 0) rfl, ?_⟩⟩⟩⟩⟩
      · rw [if_pos (notT h1)] at ha
        rw [← ha] at hQ
        exact hQ H28 kk28
      · rw [if_neg (by intro e; rw [e] at h1; cases h1), if_pos (of_decide_eq_false (notT h2))] at ha
        rw [← ha] at hQ
        exact hQ H28 kk28
      · rw [if_neg (by intro e; rw [e] at h1; cases h1), if_neg (by
          intro e
          exact e (of_decide_eq_true (notF h2)))] at ha
        rw [show ((i : Int)).toNat = i from by omega]
        refine c54 ((h.kp0 kk28).front (i := i) (by omega)) (by rw [List.length_take]; omega) fun H51 k51 => ?_
        have t51 := k51.row t28 id
        have kk51 : Kp No H H51 := kk28.trans k51 fun _ h => h.elim
        refine ⟨t51.cell_of (i := 1) rfl, fun h3 => ?_, fun h3 => ?_⟩
        · rw [if_pos h3] at ha
          rw [← ha] at hQ
          exact hQ H51 kk51
        · rw [if_neg (by rw [h3]; decide)] at ha
          rw [wr (by omega) (by omega)]
          exact ih (i + 1) H51 (by omega) (by rw [htk]; exact ha) ((k.trans k28 fun _ h => h.elim).trans k51 fun _ h => h.elim)

theorem c25 {Q : ByteArray → Sl → Hp → Prop} (h : RdL aF H sl A) (hl : A.length ≤ 4194304) (hQ : ∀ r H', Lst aF H' r A → (∀ b, r.at b → H.size ≤ b) → Kp No H H' → Q name r H') : F25 name sl H Q := by
  have hn := h.n
  intro H1 e1 H3 e3
  have k1 := (Kp.refl No H).push' e1
  have s1 := size_push' e1
  have k3' : Kp No H1 H3 := (Kp.refl No _).push' e3
  have s3 := size_push' e3
  have k3 := k1.trans k3' fun _ h => h.elim
  have o3 : Row H3 H.size 27 [.string name, Sl.v sl] := k3'.row (Row.new' e1) id
  have z3 : Row H3 H1.size 27 [.string ⟨#[]⟩, Sl.v Sl.nil] := Row.new' e3
  refine ⟨sl, o3.cell_of (i := 1) rfl, (Lst.nil aF H3).append (xs := sl) (h.kp0 k3) rfl (by simp; omega) (by simp; omega) fun r H7 l7 k7' h7 => ?_⟩
  have k7 : Kp No H3 H7 := k7'.mono fun x _ hx => by cases hx
  rw [List.nil_append] at l7
  have f7 : ∀ b, r.at b → b = H3.size := fun b hb => by
    rcases h7 b hb with hb | hb
    · cases hb
    · exact hb
  have o7 := k7.row o3 id
  refine ⟨o7.some (i := 1) (by simp), o7.frz 1, fun H10 e10 => ?_⟩
  have o10 : Row H10 H.size 27 [.string name, Sl.v r] := o7.set' e10
  have k10 : Kp (fun x => x = H.size) H7 H10 := (Kp.refl _ _).set' e10 (.inl rfl)
  have z10 := k10.row (k7.row z3 id) (by omega)
  refine ⟨name, r, o10.all, z10.mayw (by decide), fun H17 e17 => ?_⟩
  have z17 : Row H17 H1.size 27 [.string name, Sl.v r] := z10.fill' e17 rfl
  have k17 : Kp (fun x => x = H1.size) H10 H17 := (Kp.refl _ _).sets' e17 (.inl rfl)
  exact ⟨name, r, z17.all, hQ r H17 ((l7.kp k10 fun x hx hh => by have := f7 x hx; omega).kp k17 fun x hx hh => by have := f7 x hx; omega) (fun b hb => by have := f7 b hb; omega) (((k3.trans k7 fun _ h => h.elim).trans k10 fun x hx => .inr (by omega)).trans k17 fun x hx => .inr (by omega))⟩

/-- A type is declared. -/
theorem c9 {cb mr c : Nat} {L : ML ByteArray (ByteArray × Sl)} {Q : Int → Hp → Prop} (hw : WordsH H) (hcb : Row H cb 72 [.map (some mr)]) (hm : mapAt mk9 mv27 H (some mr) L c) (h : RdL aF H sl A) (hc : sl.n ≤ sl.c) (hl : A.length ≤ 4194304) (hs : name.size ≤ 281474976710656)
    (q0 : wrg name A ≠ 0 → ∀ H', Kp No H H' → Q (wrg name A) H') (q1 : wrg name A = 0 → (mget L name).isSome = true → ∀ H', Kp No H H' → Q 5 H') (q2 : wrg name A = 0 → (mget L name).isSome = false → 64 ≤ L.length → ∀ H', Kp No H H' → Q 4 H')
    (q3 : wrg name A = 0 → (mget L name).isSome = false → L.length < 64 → ∀ r H', Lst aF H' r A → (∀ b, r.at b → H.size ≤ b) → mapAt mk9 mv27 H' (some mr) (mput L c name (name, r)).1 (mput L c name (name, r)).2 → Kp (fun x => x = mr) H H' → Q 0 H') : F9 (some ⟨cb, 0, none⟩) name sl H Q := by
  intro H1 e1
  have k1 := (Kp.refl No H).push' e1
  have s1 := size_push' e1
  have t1 : Row H1 H.size 27 [.string name, Sl.v sl] := Row.new' e1
  refine ⟨name, sl, t1.all, c24 (hw.no k1) (h.kp0 k1) hc (by omega) fun H6 k6 => ⟨fun hh => ?_, fun hh => ?_⟩⟩
  · exact q0 (by simpa using hh) H6 (k1.trans k6 fun _ h => h.elim)
  have w0 : wrg name A = 0 := by
    by_cases e : wrg name A = 0
    · exact e
    · exact absurd e (of_decide_eq_false hh)
  have kk6 : Kp No H H6 := k1.trans k6 fun _ h => h.elim
  have s6 := k6.size
  have c6 := kk6.row hcb id
  have t6 := k6.row t1 id
  have m6 := hm.kp kk6 id
  refine ⟨_, rfl, some mr, c6.cell_of (i := 0) rfl, name, t6.cell_of (i := 0) rfl, L, c, MapK.of m6, fun H19 e19 => ?_⟩
  have k19 : Kp No H6 H19 := (Kp.refl No _).push' e19
  have s19 := size_push' e19
  have r19 := Row.new' e19
  have t19 := k19.row t6 id
  have c19 := k19.row c6 id
  have m19 := m6.kp k19 id
  refine ⟨MapK.of m19, t19.cell_of (i := 0) rfl, c19.cell_of (i := 0) rfl, r19.mayw (by decide), fun H24 e24 => ?_⟩
  have k24 : Kp No H6 H24 := k19.sets' e24 (.inr (Nat.le_refl _))
  have kk24 : Kp No H H24 := kk6.trans k24 fun _ h => h.elim
  have t24 := k24.row t6 id
  have c24' := k24.row c6 id
  have m24 := m6.kp k24 id
  have s24 := k24.size
  refine ⟨fun hh => q1 w0 hh H24 kk24, fun hh => ⟨_, rfl, some mr, c24'.cell_of (i := 0) rfl, L, c, m24, fun h64 => q2 w0 hh (by have := of_decide_eq_true h64; omega) H24 kk24, fun h64 => ?_⟩⟩
  have h64 := of_decide_eq_false h64
  refine ⟨_, rfl, some mr, c24'.cell_of (i := 0) rfl, name, t24.cell_of (i := 0) rfl, name, sl, t24.all, ⟨hs, fun H45 k45 => ?_⟩⟩
  have t45 := k45.row t24 id
  have c45 := k45.row c24' id
  have kk45 : Kp No H H45 := kk24.trans k45 fun _ h => h.elim
  refine ⟨t45.all, c45.cell_of (i := 0) rfl, c25 (h.kp0 kk45) hl fun r H50 l50 f50 k50 => ?_⟩
  have c50 := k50.row c45 id
  have kk50 : Kp No H H50 := kk45.trans k50 fun _ h => h.elim
  have m50 := hm.kp kk50 id
  refine ⟨c50.cell_of (i := 0) rfl, mr, L, c, rfl, MapK.of m50, fun H55 e55 => ?_⟩
  have k55 : Kp (fun x => x = mr) H50 H55 := (Kp.refl _ _).seto' e55 (.inl rfl)
  have s45 := k45.size
  refine q3 w0 hh (by omega) r H55 (l50.kp k55 fun x hx hh => ?_) (fun b hb => by have := f50 b hb; omega) (mapAt.put m50.lt e55) (kk50.mono (fun x _ hx => hx.elim) |>.trans k55 fun x hx => .inl hx)
  obtain ⟨sp, hrow⟩ := l50.row hx
  subst hh
  exact m50.ne hrow rfl
theorem c7 {Q : Option Addr → Hp → Prop} (hQ : ∀ H', Row H' (H.size + 1) 72 [.map (some H.size)] → mapAt mk9 mv27 H' (some H.size) [] 0 → Kp No H H' → Q (some ⟨H.size + 1, 0, none⟩) H') : F7 H Q := by
  intro H1 e1 H3 e3
  have s1 := size_push' e1
  have k3 : Kp No H1 H3 := (Kp.refl No _).push' e3
  have := hQ H3 (by
    have r3 := Row.new' e3
    rw [s1] at r3
    exact r3) ((mapAt.new e1).kp k3 id) (((Kp.refl No H).push' e1).trans k3 fun _ h => h.elim)
  rw [← s1] at this
  exact this
end
end Go.Hw
