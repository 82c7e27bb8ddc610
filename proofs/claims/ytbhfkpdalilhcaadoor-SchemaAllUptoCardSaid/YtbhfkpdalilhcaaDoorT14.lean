/- The document's own answer: names, types, values; the catalogs' questions. Own work of this session. -/
import Derived.Test.YtbhfkpdalilhcaaDoorT12
set_option linter.unusedVariables false
namespace Go.Hw
open Go

def digN (b : Nat) : Bool := decide (48 ≤ b) && decide (b ≤ 57)
section
variable {H : Hp}

theorem c72 {b : Nat} {Q : Bool → Hp → Prop} (hQ : Q (digN b) H) : F72 (b : Int) H Q := by
  unfold digN at hQ
  refine ⟨fun h => ?_, fun h => ?_⟩
  · rw [decide_eq_true (show 48 ≤ b by have := of_decide_eq_true h; omega)] at hQ
    rw [show decide ((b : Int) ≤ 57) = decide (b ≤ 57) from decide_eq_decide.2 (by omega)]
    exact hQ
  · rw [decide_eq_false (show ¬ 48 ≤ b by have := of_decide_eq_false h; omega)] at hQ
    exact hQ
theorem c74 {b : Nat} {Q : Bool → Hp → Prop} (hQ : Q (partN' b) H) : F74 (b : Int) H Q := by
  have e : partN' b = (letterN b || digN b) := rfl
  have t : letterN b = true → Q true H := fun h => by rw [e, h] at hQ; exact hQ
  have f : letterN b = false → F72 (b : Int) H (fun r H => Q r H) := fun h => c72 (by rw [e, h] at hQ; exact hQ)
  have lt : ((97 ≤ b ∧ b ≤ 122) ∨ (65 ≤ b ∧ b ≤ 90) ∨ b = 95) → Q true H := fun h => t (letterN_iff.2 h)
  have lf : ¬ ((97 ≤ b ∧ b ≤ 122) ∨ (65 ≤ b ∧ b ≤ 90) ∨ b = 95) → F72 (b : Int) H (fun r H => Q r H) := fun h => f (by
    rw [Bool.eq_false_iff]
    exact fun h' => h (letterN_iff.1 h'))
  refine ⟨fun h1 => ⟨fun h2 => lt ?_, fun h2 => ⟨fun h3 => ⟨fun h4 => lt ?_, fun h4 => ⟨fun h5 => lt ?_, fun h5 => lf ?_⟩⟩, fun h3 => ⟨fun h5 => lt ?_, fun h5 => lf ?_⟩⟩⟩, fun h1 => ⟨fun h3 => ⟨fun h4 => lt ?_, fun h4 => ⟨fun h5 => lt ?_, fun h5 => lf ?_⟩⟩, fun h3 => ⟨fun h5 => lt ?_, fun h5 => lf ?_⟩⟩⟩ <;>
  · simp only [decide_eq_true_eq, decide_eq_false_iff_not] at *
    omega

theorem words_any (s : ByteArray) : (words.any fun w => seq w s) = wordsL.contains (bytes s) := by
  rw [Bool.eq_iff_iff, List.any_eq_true, List.contains_iff_mem, ← words_bytes]
  constructor
  · rintro ⟨w, hw, e⟩
    rw [← seq_iff.1 e]
    exact List.mem_map_of_mem hw
  · intro h
    obtain ⟨w, hw, e⟩ := List.mem_map.1 h
    exact ⟨w, hw, seq_iff.2 (bytes_inj e)⟩
theorem c73 {s : ByteArray} {Q : Bool → Hp → Prop} (hQ : ∀ H', Kp No H H' → Q (wordsL.contains (bytes s)) H') : F73 s H Q := by
  intro H1 e1
  have k1 : Kp No H H1 := (Kp.refl No H).push' e1
  have w1 : Row H1 H.size 9 (words.map Value.string) := Row.new' e1
  have hQ := hQ H1 k1
  rw [← words_any] at hQ
  intro X hX
  suffices G : ∀ (d i : Nat), i + d = 16 → ((words.take i).any fun w => seq w s) = false → X (i : Int) H1 from G 16 0 (by omega) rfl
  intro d
  induction d with
  | zero =>
    intro i hi ha
    rw [List.take_of_length_le (by rw [words_len]; omega)] at ha
    rw [ha] at hQ
    exact hX _ _ ⟨fun h => absurd (of_decide_eq_true h) (by show ¬ (i : Int) < ((16 : Nat) : Int); omega), fun _ => hQ⟩
  | succ d ih =>
    intro i hi ha
    have hil : i < words.length := by rw [words_len]; omega
    have hw : cell H1 (Addr.add ⟨H.size, 0, none⟩ (((i : Int)).toNat * 1)) = some (.string (words[i]'hil)) := by
      rw [show ((i : Int)).toNat * 1 = i from by omega, add_mk, Nat.zero_add]
      exact w1.cell_of (by rw [List.getElem?_map, List.getElem?_eq_getElem hil]; rfl)
    have htk : words.take (i + 1) = words.take i ++ [words[i]'hil] := by simp
    have hmem : words[i]'hil ∈ words := List.getElem_mem hil
    generalize words[i]'hil = w at hw htk hmem
    refine hX _ _ ⟨fun _ => ⟨_, rfl, by omega, by show (i : Int) < ((16 : Nat) : Int); omega, w, hw, fun he => ?_, fun he => ?_⟩, fun h => absurd (of_decide_eq_false h) (by show ¬ ¬ (i : Int) < ((16 : Nat) : Int); omega)⟩
    · rw [show (words.any fun w => seq w s) = true from List.any_eq_true.2 ⟨w, hmem, he⟩] at hQ
      exact hQ
    · rw [wr (by omega) (by omega)]
      refine ih (i + 1) (by omega) ?_
      rw [htk, List.any_append, ha]
      simp [he]

theorem nm_eq {s : ByteArray} {b : Nat} {t : List Nat} (h : bytes s = b :: t) : nm s = (decide (s.size ≤ 32) && !(digN b) && !(wordsL.contains (bytes s)) && (bytes s).all partN') := by
  have hl := bytes_len s
  unfold nm
  rw [h] at hl ⊢
  unfold nmL
  show (decide ((b :: t).length ≤ 32) && letterN b && (b :: t).all partN' && !(wordsL.contains (b :: t))) = _
  rw [hl, List.all_cons]
  have e : partN' b = (letterN b || digN b) := rfl
  have x : letterN b = true → digN b = false := fun h => by
    have := letterN_iff.1 h
    unfold digN
    rw [Bool.eq_false_iff]
    intro h2
    rw [Bool.and_eq_true, decide_eq_true_iff, decide_eq_true_iff] at h2
    omega
  rw [e]
  cases hlb : letterN b with
  | true => rw [x hlb]; simp [Bool.and_comm, Bool.and_left_comm]
  | false => cases digN b <;> simp
theorem c49 {s : ByteArray} {Q : Bool → Hp → Prop} (hQ : ∀ H', Kp No H H' → Q (nm s) H') : F49 s H Q := by
  have hb := bytes_len s
  have no : nm s = false → ∀ H', Kp No H H' → F49_1 Q s true H' := fun h H' k => ⟨fun _ => by have := hQ H' k; rw [h] at this; exact this, fun h => by cases h⟩
  refine ⟨fun h1 => no ?_ H (Kp.refl _ _), fun h1 => ⟨fun h2 => no ?_ H (Kp.refl _ _), fun h2 => ?_⟩⟩
  · have h1 := of_decide_eq_true h1
    unfold nm
    rw [show bytes s = [] from List.eq_nil_of_length_eq_zero (by omega)]
    rfl
  · have h2 := of_decide_eq_true h2
    cases hbs : bytes s with
    | nil => rw [hbs] at hb; simp at hb; omega
    | cons b t =>
      rw [nm_eq hbs, decide_eq_false (by omega)]; rfl
  have h1 := of_decide_eq_false h1
  have h2 := of_decide_eq_false h2
  cases hbs : bytes s with
  | nil => rw [hbs] at hb; simp at hb; omega
  | cons b t =>
    have h0 : 0 < s.size := by omega
    have hnm := nm_eq hbs
    rw [decide_eq_true (show s.size ≤ 32 by omega), Bool.true_and] at hnm
    refine ⟨by omega, h0, ?_⟩
    rw [show ((0 : Int)).toNat = 0 from rfl, bt_get h0]
    have : (bytes s)[0]'(by rw [bytes_len]; exact h0) = b := by simp [hbs]
    rw [this]
    refine c72 ⟨fun hd => no ?_ H (Kp.refl _ _), fun hd => c73 fun H14 k14 => ?_⟩
    · rw [hnm, hd]; rfl
    rw [hd] at hnm
    cases hw : wordsL.contains (bytes s) with
    | true =>
      rw [hw] at hnm
      exact no (by rw [hnm]; rfl) H14 k14
    | false =>
      rw [hw] at hnm
      have hnm : nm s = (bytes s).all partN' := by rw [hnm]; rfl
      refine ⟨fun h => (by cases h), fun _ => ?_⟩
      have hQ := hQ H14 k14
      intro X hX
      suffices G : ∀ (d i : Nat), i + d = s.size → ((bytes s).take i).all partN' = true → X (i : Int) H14 from G s.size 0 (by omega) rfl
      intro d
      induction d with
      | zero =>
        intro i hi ha
        rw [List.take_of_length_le (by omega)] at ha
        rw [hnm, ha] at hQ
        exact hX _ _ ⟨fun h => absurd (of_decide_eq_true h) (by omega), fun _ => hQ⟩
      | succ d ih =>
        intro i hi ha
        have hlt : i < s.size := by omega
        have hmem : (bytes s)[i]'(by omega) ∈ bytes s := List.getElem_mem _
        have htk : (bytes s).take (i + 1) = (bytes s).take i ++ [(bytes s)[i]'(by omega)] := by simp
        have hbt := bt_get hlt
        generalize (bytes s)[i]'(by omega) = x at hmem htk hbt
        refine hX _ _ ⟨fun _ => ⟨by omega, by omega, ?_⟩, fun h => absurd (of_decide_eq_false h) (by omega)⟩
        rw [show ((i : Int)).toNat = i from by omega, hbt]
        refine c74 ⟨fun hp => ?_, fun hp => ?_⟩
        · have hf : (bytes s).all partN' = false := by
            rw [Bool.eq_false_iff]
            intro h
            have := List.all_eq_true.1 h x hmem
            rw [notT hp] at this
            cases this
          rw [hnm, hf] at hQ
          exact hQ
        · rw [wr (by omega) (by omega)]
          refine ih (i + 1) (by omega) ?_
          rw [htk, List.all_append, ha]
          simpa using notF hp

/-! ## types -/
variable {sl : Sl} {A : List (ByteArray × Int)} {name : ByteArray}
theorem c68 {Q : Int → Hp → Prop} (h : RdL aF H sl A) (hl : A.length ≤ 4194304) (hQ : ∀ H', Kp No H H' → Q (wrg name A) H') : F68 name sl H Q := by
  have hn := h.n
  intro H1 e1
  have k1 : Kp No H H1 := (Kp.refl No H).push' e1
  have s1 := size_push' e1
  have t1 : Row H1 H.size 27 [.string name, Sl.v sl] := Row.new' e1
  unfold wrg at hQ
  refine ⟨name, t1.cell_of (i := 0) rfl, c49 fun H5 k5 => ⟨fun hh => ?_, fun hh => ⟨sl, (k5.row t1 id).cell_of (i := 1) rfl, fun h16 => ?_, fun h16 => ?_⟩⟩⟩
  · rw [if_pos (by simpa using hh)] at hQ
    exact hQ H5 (k1.no2' k5)
  · rw [if_neg (by intro e; rw [e] at hh; cases hh), if_pos (by have := of_decide_eq_true h16; omega)] at hQ
    exact hQ H5 (k1.no2' k5)
  rw [if_neg (by intro e; rw [e] at hh; cases hh), if_neg (by have := of_decide_eq_false h16; omega)] at hQ
  have hA16 : A.length ≤ 16 := by have := of_decide_eq_false h16; omega
  generalize hR : wrgL [] A = R at hQ
  have t5 := k5.row t1 id
  have kk5 := k1.no2' k5
  intro X hX
  suffices G : ∀ (d i : Nat) (H' : Hp), i + d = A.length → wrgL (A.take i) (A.drop i) = R → Kp No H5 H' → X (i : Int) H' from G A.length 0 H5 (by omega) hR (Kp.refl _ _)
  intro d
  induction d with
  | zero =>
    intro i H' hi ha k
    rw [List.drop_eq_nil_of_le (by omega)] at ha
    refine hX _ _ ⟨sl, (k.row t5 id).cell_of (i := 1) rfl, fun hh => absurd (of_decide_eq_true hh) (by omega), fun _ => ?_⟩
    have := hQ H' (kk5.no2' k)
    rw [← ha] at this
    exact this
  | succ d ih =>
    intro i H' hi ha k
    have hil : i < A.length := by omega
    have gi : A[i]? = some (A[i]'hil) := List.getElem?_eq_getElem hil
    rw [List.drop_eq_getElem_cons hil] at ha
    have htk : A.take (i + 1) = A.take i ++ [A[i]'hil] := by simp
    generalize A[i]'hil = a at gi ha htk
    unfold wrgL at ha
    have kk : Kp No H H' := kk5.no2' k
    obtain ⟨b, hb, hbn, cb⟩ := (h.kp0 kk).get gi
    have t' := k.row t5 id
    refine hX _ _ ⟨sl, t'.cell_of (i := 1) rfl, fun _ => ⟨sl, t'.cell_of (i := 1) rfl, b, hb, by omega, by omega, a.1, a.2, cb, fun H28 e28 => ?_⟩, fun hh => absurd (of_decide_eq_false hh) (by omega)⟩
    have k28 : Kp No H' H28 := (Kp.refl No _).push' e28
    have r28 := Row.new' e28
    refine ⟨r28.mayw (by decide), fun H30 e30 => ?_⟩
    have x30 : Row H30 H'.size 38 [.string a.1, .int .i64 a.2] := r28.fill' e30 rfl
    have k30 : Kp No H' H30 := k28.sets' e30 (.inr (Nat.le_refl _))
    refine ⟨a.1, x30.cell_of (i := 0) rfl, c49 fun H38 k38 => ?_⟩
    have kk38 : Kp No H5 H38 := (k.no2' k30).no2' k38
    have f38 := kk5.no2' kk38
    have x38 := k38.row x30 id
    have t38 := kk38.row t5 id
    have three : ∀ y : Bool, y = !(nm a.1 && !(seq a.1 S_time)) → F68_3 Q X ⟨H.size, 0, none⟩ (i : Int) ⟨H'.size, 0, none⟩ y H38 := fun y hy => by
      refine ⟨fun h1 => ?_, fun h1 => ?_⟩
      · rw [if_pos (notT (hy ▸ h1))] at ha
        rw [← ha] at hQ
        exact hQ H38 f38
      have h1' : (nm a.1 && !(seq a.1 S_time)) = true := notF (hy ▸ h1)
      rw [if_neg (by rw [h1']; decide)] at ha
      have four : ∀ y : Bool, (y = true ↔ ¬ (0 < a.2 ∧ a.2 < 4)) → F68_4 Q X ⟨H.size, 0, none⟩ (i : Int) ⟨H'.size, 0, none⟩ y H38 := fun y hy => by
        refine ⟨fun h2 => ?_, fun h2 => ?_⟩
        · rw [if_pos (hy.1 h2)] at ha
          rw [← ha] at hQ
          exact hQ H38 f38
        have h2' : 0 < a.2 ∧ a.2 < 4 := by
          by_cases e : 0 < a.2 ∧ a.2 < 4
          · exact e
          · rw [hy.2 e] at h2; cases h2
        rw [if_neg (fun e => e h2')] at ha
        intro Y hY
        suffices G2 : ∀ (e j : Nat), j + e = i → ((A.take j).any fun b => seq b.1 a.1) = false → Y (j : Int) H38 from G2 i 0 (by omega) rfl
        intro e
        induction e with
        | zero =>
          intro j hj hn'
          obtain rfl : j = i := by omega
          refine hY _ _ ⟨fun h => absurd (of_decide_eq_true h) (by omega), fun _ => ?_⟩
          rw [if_neg (by rw [hn']; decide)] at ha
          unfold F68_2
          rw [wr (by omega) (by omega)]
          exact ih (j + 1) H38 (by omega) (by rw [htk]; exact ha) kk38
        | succ e ih2 =>
          intro j hj hn'
          have gj : A[j]? = some (A[j]'(by omega)) := List.getElem?_eq_getElem (by omega)
          have htj : A.take (j + 1) = A.take j ++ [A[j]'(by omega)] := by simp
          have hmem : A[j]'(by omega) ∈ A.take i := by
            rw [List.mem_take_iff_getElem]
            exact ⟨j, by omega, rfl⟩
          generalize A[j]'(by omega) = y at gj htj hmem
          obtain ⟨p, hp, hpn, cp⟩ := (h.kp0 f38).get gj
          have cpc : cell H38 (Addr.add p (((j : Int)).toNat * 2)) = some (.string y.1) := by
            rw [show ((j : Int)).toNat = j from by omega]
            have := cp.1
            rwa [show (p.add (j * 2)).add 0 = p.add (j * 2) from by rw [add_add, Nat.add_zero]] at this
          refine hY _ _ ⟨fun _ => ⟨sl, t38.cell_of (i := 1) rfl, p, hp, by omega, by omega, y.1, cpc, a.1, x38.cell_of (i := 0) rfl, fun hs => ?_, fun hs => ?_⟩, fun h => absurd (of_decide_eq_false h) (by omega)⟩
          · rw [if_pos (List.any_eq_true.2 ⟨y, hmem, hs⟩)] at ha
            rw [← ha] at hQ
            exact hQ H38 f38
          · rw [wr (by omega) (by omega)]
            refine ih2 (j + 1) (by omega) ?_
            rw [htj, List.any_append, hn']
            simp [hs]
      refine ⟨a.2, x38.cell_of (i := 1) rfl, fun h => four true ⟨fun _ => by have := of_decide_eq_true h; omega, fun _ => rfl⟩, fun h => ⟨a.2, x38.cell_of (i := 1) rfl, four _ ⟨fun h2 => by have := of_decide_eq_true h2; omega, fun h2 => decide_eq_true (by have := of_decide_eq_false h; omega)⟩⟩⟩
    refine ⟨fun hx => three true ?_, fun hx => ⟨a.1, x38.cell_of (i := 0) rfl, three _ ?_⟩⟩
    · rw [notT hx]; rfl
    · rw [notF hx]; simp

theorem c70 {Q : ByteArray → Sl → Hp → Prop} (h : RdL aF H sl A) (hl : A.length ≤ 4194304) (hQ : ∀ r H', Lst aF H' r A → (∀ b, r.at b → H.size ≤ b) → Kp No H H' → Q name r H') : F70 name sl H Q := by
  have hn := h.n
  intro H1 e1 H3 e3
  have k1 := (Kp.refl No H).push' e1
  have s1 := size_push' e1
  have k3' : Kp No H1 H3 := (Kp.refl No _).push' e3
  have s3 := size_push' e3
  have k3 := k1.trans k3' fun _ h => h.elim
  have o3 : Row H3 H.size 27 [.string name, Sl.v sl] := k3'.row (Row.new' e1) id
  have z3 : Row H3 H1.size 27 [.string ⟨#[]⟩, Sl.v Sl.nil] := Row.new' e3
  refine ⟨sl, o3.cell_of (i := 1) rfl, (Lst.nil aF H3).append (xs := sl) (h.kp0 k3) rfl (by simp; omega) (by simp; omega) fun r H7 l7 k7' h7 => ?_⟩
  have k7 : Kp No H3 H7 := k7'.mono fun x _ hx => by cases hx
  rw [List.nil_append] at l7
  have f7 : ∀ b, r.at b → b = H3.size := fun b hb => by
    rcases h7 b hb with hb | hb
    · cases hb
    · exact hb
  have o7 := k7.row o3 id
  refine ⟨o7.some (i := 1) (by simp), o7.frz 1, fun H10 e10 => ?_⟩
  have o10 : Row H10 H.size 27 [.string name, Sl.v r] := o7.set' e10
  have k10 : Kp (fun x => x = H.size) H7 H10 := (Kp.refl _ _).set' e10 (.inl rfl)
  have z10 := k10.row (k7.row z3 id) (by omega)
  refine ⟨name, r, o10.all, z10.mayw (by decide), fun H17 e17 => ?_⟩
  have z17 : Row H17 H1.size 27 [.string name, Sl.v r] := z10.fill' e17 rfl
  have k17 : Kp (fun x => x = H1.size) H10 H17 := (Kp.refl _ _).sets' e17 (.inl rfl)
  exact ⟨name, r, z17.all, hQ r H17 ((l7.kp k10 fun x hx hh => by have := f7 x hx; omega).kp k17 fun x hx hh => by have := f7 x hx; omega) (fun b hb => by have := f7 b hb; omega) (((k3.trans k7 fun _ h => h.elim).trans k10 fun x hx => .inr (by omega)).trans k17 fun x hx => .inr (by omega))⟩

theorem c71 {v : VT} {Q : Bool → Hp → Prop} (hQ : ∀ H', Kp No H H' → Q (vld v) H') : F71 v.k v.n v.s v.b H Q := by
  obtain ⟨k, n, s, b⟩ := v
  intro H1 e1
  have k1 := (Kp.refl No H).push' e1
  have r1 : Row H1 H.size 35 [.int .i64 k, .int .i64 n, .string s, .bool b] := Row.new' e1
  have hQ := hQ H1 k1
  unfold vld at hQ
  simp only [] at hQ
  refine ⟨k, r1.cell_of (i := 0) rfl, fun h1 => ⟨s, r1.cell_of (i := 2) rfl, fun h => ⟨b, r1.cell_of (i := 3) rfl, ?_⟩, fun h => ?_⟩, fun h1 => ⟨fun h2 => ⟨n, r1.cell_of (i := 1) rfl, fun h => ⟨b, r1.cell_of (i := 3) rfl, fun hb => ⟨s, r1.cell_of (i := 2) rfl, ?_⟩, fun hb => ?_⟩, fun h => ?_⟩, fun h2 => ⟨fun h3 => ⟨n, r1.cell_of (i := 1) rfl, fun h => ⟨s, r1.cell_of (i := 2) rfl, ?_⟩, fun h => ?_⟩, fun h3 => ?_⟩⟩⟩
  · rw [if_pos (of_decide_eq_true h1), h] at hQ
    exact hQ
  · rw [if_pos (of_decide_eq_true h1), h] at hQ
    exact hQ
  · rw [if_neg (of_decide_eq_false h1), if_pos (of_decide_eq_true h2), decide_eq_true (of_decide_eq_true h), hb] at hQ
    rw [show decide ((s.size : Int) ≤ 256) = decide (s.size ≤ 256) from decide_eq_decide.2 (by omega)]
    exact hQ
  · rw [if_neg (of_decide_eq_false h1), if_pos (of_decide_eq_true h2), decide_eq_true (of_decide_eq_true h), hb] at hQ
    exact hQ
  · rw [if_neg (of_decide_eq_false h1), if_pos (of_decide_eq_true h2), decide_eq_false (of_decide_eq_false h)] at hQ
    exact hQ
  · rw [if_neg (of_decide_eq_false h1), if_neg (of_decide_eq_false h2), if_pos (of_decide_eq_true h3), decide_eq_true (of_decide_eq_true h)] at hQ
    exact hQ
  · rw [if_neg (of_decide_eq_false h1), if_neg (of_decide_eq_false h2), if_pos (of_decide_eq_true h3), decide_eq_false (of_decide_eq_false h)] at hQ
    exact hQ
  · rw [if_neg (of_decide_eq_false h1), if_neg (of_decide_eq_false h2), if_neg (of_decide_eq_false h3)] at hQ
    exact hQ
end

/-! ## the document's catalog -/
/-- The document's catalog in block rb, its list s: the same types in the same order. -/
structure RefH (H : Hp) (rb : Nat) (s : Sl) (M : List (ByteArray × Sl)) (Z : List CE) : Prop where
  row : Row H rb 118 [Sl.v s]
  l : Lst tF H s M
  len : M.length = Z.length
  a : ∀ (i : Nat) (m : ByteArray × Sl) (z : CE), M[i]? = some m → Z[i]? = some z → m.1 = z.n ∧ Lst aF H m.2 z.A
theorem RefH.kp {S : Nat → Prop} {H H' : Hp} {rb : Nat} {s : Sl} {M : List (ByteArray × Sl)} {Z : List CE} (h : RefH H rb s M Z) (k : Kp S H H') (h1 : ¬ S rb) (h2 : ∀ b, s.at b → ¬ S b) (h3 : ∀ m ∈ M, ∀ b, m.2.at b → ¬ S b) : RefH H' rb s M Z :=
  ⟨k.row h.row h1, h.l.kp k h2, h.len, fun i m z hm hz => ⟨(h.a i m z hm hz).1, (h.a i m z hm hz).2.kp k (h3 m (List.mem_of_getElem? hm))⟩⟩
theorem RefH.no {H H' : Hp} {rb : Nat} {s : Sl} {M : List (ByteArray × Sl)} {Z : List CE} (h : RefH H rb s M Z) (k : Kp No H H') : RefH H' rb s M Z := h.kp k id (fun _ _ => id) fun _ _ _ _ => id

section
variable {H : Hp} {rb : Nat} {s : Sl} {M : List (ByteArray × Sl)} {Z : List CE} {name : ByteArray}
/-- Where a type stands. -/
theorem c69 {Q : Int → Hp → Prop} (h : RefH H rb s M Z) (hl : Z.length ≤ 64) (q1 : ∀ (i : Nat) (z : CE), Z[i]? = some z → z.n = name → Q (i : Int) H) (q0 : (∀ z ∈ Z, z.n ≠ name) → Q (-1) H) : F69 (some ⟨rb, 0, none⟩) name H Q := by
  have hn := h.l.n
  have hlen := h.len
  intro X hX
  suffices G : ∀ (d i : Nat), i + d = Z.length → (∀ z ∈ Z.take i, z.n ≠ name) → X (i : Int) H from G Z.length 0 (by omega) (fun z hz => by simp at hz)
  intro d
  induction d with
  | zero =>
    intro i hi ha
    rw [List.take_of_length_le (by omega)] at ha
    exact hX _ _ ⟨_, rfl, s, h.row.cell_of (i := 0) rfl, fun hh => absurd (of_decide_eq_true hh) (by omega), fun _ => q0 ha⟩
  | succ d ih =>
    intro i hi ha
    have gz : Z[i]? = some (Z[i]'(by omega)) := List.getElem?_eq_getElem (by omega)
    have gm : M[i]? = some (M[i]'(by omega)) := List.getElem?_eq_getElem (by omega)
    have htk : Z.take (i + 1) = Z.take i ++ [Z[i]'(by omega)] := by simp
    have hz := h.a i _ _ gm gz
    generalize Z[i]'(by omega) = z at gz htk hz
    generalize M[i]'(by omega) = m at gm hz
    obtain ⟨p, hp, hpn, cp⟩ := h.l.rd.get gm
    have cpc : cell H (Addr.add p (((i : Int)).toNat * 2)) = some (.string m.1) := by
      rw [show ((i : Int)).toNat = i from by omega]
      have := cp.1
      rwa [show (p.add (i * 2)).add 0 = p.add (i * 2) from by rw [add_add, Nat.add_zero]] at this
    refine hX _ _ ⟨_, rfl, s, h.row.cell_of (i := 0) rfl, fun _ => ⟨_, rfl, s, h.row.cell_of (i := 0) rfl, p, hp, by omega, by omega, m.1, cpc, fun hs => ?_, fun hs => ?_⟩, fun hh => absurd (of_decide_eq_false hh) (by omega)⟩
    · exact q1 i z gz (by rw [← hz.1]; exact seq_iff.1 hs)
    · rw [wr (by omega) (by omega)]
      refine ih (i + 1) (by omega) fun y hy => ?_
      rw [htk] at hy
      rcases List.mem_append.1 hy with hy | hy
      · exact ha y hy
      · rw [List.mem_singleton] at hy
        subst hy
        intro e
        rw [hz.1, e, seq_refl] at hs
        cases hs
end
end Go.Hw
