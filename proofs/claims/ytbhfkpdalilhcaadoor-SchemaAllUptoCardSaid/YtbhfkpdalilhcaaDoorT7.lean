/- A declaration's tokens: the reader's steps. Own work of this session. -/
import Derived.Test.YtbhfkpdalilhcaaDoorWalkC
import Derived.Test.YtbhfkpdalilhcaaDoorT4
import Derived.Laws.RangeString
import Derived.Laws.RangeAny
set_option linter.unusedVariables false
namespace Go.Hw
open Go

/-! ## tokens, over lists of bytes -/
def blankN (b : Nat) : Bool := decide (b = 32) || decide (b = 9) || decide (b = 10) || decide (b = 13)
def signN (b : Nat) : Bool := decide (b = 40) || decide (b = 41) || decide (b = 44)
def skipB (l : List Nat) : List Nat := l.dropWhile blankN
def wLen (l : List Nat) : Nat := (l.takeWhile partN').length
def tokLen (l : List Nat) : Nat := if wLen l = 0 then (match l with | b :: _ => if signN b then 1 else 0 | [] => 0) else wLen l
/-- The token at the head, what stands behind it. -/
def tl (r : List Nat) : List Nat := r.take (tokLen r)
def nxt (r : List Nat) : List Nat := skipB (r.drop (tokLen r))
theorem wLen_le (l : List Nat) : wLen l ≤ l.length := (List.takeWhile_prefix _).length_le
theorem tokLen_le (l : List Nat) : tokLen l ≤ l.length := by
  unfold tokLen
  split
  · cases l with
    | nil => exact Nat.le_refl _
    | cons b t =>
      show (if signN b then 1 else 0) ≤ t.length + 1
      split <;> omega
  · exact wLen_le l
theorem skipB_suffix (l : List Nat) : skipB l <:+ l := List.dropWhile_suffix _
theorem nxt_suffix (r : List Nat) : nxt r <:+ r := (skipB_suffix _).trans (List.drop_suffix _ _)

theorem skipB_at : ∀ (l : List Nat) (p : Nat), (l.take p).all blankN = true → (∀ b, l[p]? = some b → blankN b = false) → p ≤ l.length → skipB l = l.drop p
  | [], p, _, _, h => by
    have : p = 0 := by simpa using h
    subst this; rfl
  | b :: t, 0, _, h, _ => by
    have := h b rfl
    unfold skipB
    rw [List.dropWhile_cons, this]
    rfl
  | b :: t, p + 1, ha, h, hp => by
    rw [List.take_succ_cons, List.all_cons, Bool.and_eq_true] at ha
    unfold skipB
    rw [List.dropWhile_cons, ha.1]
    exact skipB_at t p ha.2 (fun b hb => h b (by simpa using hb)) (by simpa using hp)
theorem wLen_at : ∀ (l : List Nat) (p : Nat), (l.take p).all partN' = true → (∀ b, l[p]? = some b → partN' b = false) → p ≤ l.length → wLen l = p
  | [], p, _, _, h => by
    have : p = 0 := by simpa using h
    subst this; rfl
  | b :: t, 0, _, h, _ => by
    have := h b rfl
    unfold wLen
    rw [List.takeWhile_cons, this]
    rfl
  | b :: t, p + 1, ha, h, hp => by
    rw [List.take_succ_cons, List.all_cons, Bool.and_eq_true] at ha
    unfold wLen
    rw [List.takeWhile_cons, ha.1]
    have := wLen_at t p ha.2 (fun b hb => h b (by simpa using hb)) (by simpa using hp)
    unfold wLen at this
    simp [this]

theorem bytes_extract (s : ByteArray) (i j : Nat) : bytes (s.extract i j) = ((bytes s).take j).drop i := by
  unfold bytes
  rw [ByteArray.data_extract]
  simp only [Array.toList_extract, List.extract, List.map_take, List.map_drop]
  rw [List.drop_take]
theorem bytes_lt {s : ByteArray} {b : Nat} (h : b ∈ bytes s) : b < 256 := by
  unfold bytes at h
  obtain ⟨x, _, rfl⟩ := List.mem_map.1 h
  exact x.toNat_lt
theorem get_bytes {s : ByteArray} {i : Nat} (h : i < s.size) : (s[i]'h).toNat = (bytes s)[i]'(by rw [bytes_len]; exact h) := by
  simp [bytes]
  rfl

/-! ## the reader -/
/-- A reader of this text, the rest from its token on. -/
def Rdr (H : Hp) (rb : Nat) (s : ByteArray) (r : List Nat) : Prop :=
  r <:+ bytes s ∧ ∃ tx : ByteArray, bytes tx = tl r ∧ Row H rb 89 [.string s, .int .i64 ((s.size - r.length : Nat) : Int), .int .i64 ((s.size - r.length + tokLen r : Nat) : Int), .string tx]
theorem Rdr.kp {S : Nat → Prop} {H H' : Hp} {rb : Nat} {s : ByteArray} {r : List Nat} (h : Rdr H rb s r) (k : Kp S H H') (hs : ¬ S rb) : Rdr H' rb s r :=
  ⟨h.1, h.2.imp fun _ ⟨h1, h2⟩ => ⟨h1, k.row h2 hs⟩⟩
theorem Rdr.no {H H' : Hp} {rb : Nat} {s : ByteArray} {r : List Nat} (h : Rdr H rb s r) (k : Kp No H H') : Rdr H' rb s r := h.kp k id
theorem Rdr.lt {H : Hp} {rb : Nat} {s : ByteArray} {r : List Nat} (h : Rdr H rb s r) : rb < H.size := h.2.elim fun _ h => h.2.lt

theorem iterAt.new {H H1 : Hp} {s : ByteArray} {p : Nat} (e : H1 = Array.push H (.stringIter s p)) : iterAt H1 ⟨H.size, 0, none⟩ s p := ⟨H.size, rfl, by subst e; simp⟩
theorem iterAt.step {H H1 : Hp} {a : Addr} {s : ByteArray} {p q : Nat} (h : iterAt H a s p) (e : H1 = seto H a.block (.stringIter s q)) : iterAt H1 a s q ∧ Kp (fun x => x = a.block) H H1 := by
  obtain ⟨r, rfl, hr⟩ := h
  have hlt := (Array.getElem?_eq_some_iff.1 hr).1
  subst e
  exact ⟨⟨r, rfl, by simp [seto, hlt]⟩, (Kp.refl _ _).seto' rfl (.inl rfl)⟩
theorem iterAt.ne {H : Hp} {r b t : Nat} {s : ByteArray} {p : Nat} {l : List Value} (h : iterAt H ⟨r, 0, none⟩ s p) (k : Row H b t l) : b ≠ r := by
  rintro rfl
  obtain ⟨r', e, hr⟩ := h
  injection e with e
  subst e
  unfold Row at k
  rw [hr] at k
  cases k

section
variable {H : Hp} {rb : Nat} {s : ByteArray}

theorem c80 {b : Nat} {Q : Bool → Hp → Prop} (hQ : Q (signN b) H) : F80 (b : Int) H Q := by
  unfold signN at hQ
  have e : ∀ k : Nat, decide ((b : Int) = (k : Int)) = decide (b = k) := fun k => decide_eq_decide.2 (by omega)
  refine ⟨fun h => ?_, fun h => ⟨fun h1 => ?_, fun h1 => ?_⟩⟩
  · have h : decide (b = 40) = true := (e 40).symm.trans h
    rw [h] at hQ; exact hQ
  · have h1 : decide (b = 41) = true := (e 41).symm.trans h1
    rw [h1, Bool.or_true, Bool.true_or] at hQ; exact hQ
  · have h : decide (b = 40) = false := (e 40).symm.trans h
    have h1 : decide (b = 41) = false := (e 41).symm.trans h1
    rw [h, h1] at hQ
    rw [show decide ((b : Int) = 44) = decide (b = 44) from e 44]
    exact hQ

theorem c60_6 {a m : Nat} {tx : ByteArray} {Q : Hp → Prop} (hr : Row H rb 89 [.string s, .int .i64 (a : Int), .int .i64 ((a + m : Nat) : Int), .string tx]) (ha : a ≤ s.size) (hm : m = tokLen ((bytes s).drop a))
    (hQ : ∀ H', Rdr H' rb s ((bytes s).drop a) → Kp (fun x => x = rb) H H' → Q H') : F60_6 Q (some ⟨rb, 0, none⟩) H := by
  have hl := tokLen_le ((bytes s).drop a)
  have hb := bytes_len s
  rw [List.length_drop] at hl
  refine ⟨_, rfl, s, hr.cell_of (i := 0) rfl, _, rfl, _, hr.cell_of (i := 1) rfl, _, rfl, _, hr.cell_of (i := 2) rfl, by omega, by omega, by omega, by omega, _, rfl, hr.some (i := 3) (by simp), hr.frz 3, fun H' e => ?_⟩
  have r' := hr.set' e
  refine hQ H' ⟨List.drop_suffix _ _, s.extract a (a + m), ?_, ?_⟩ ((Kp.refl _ _).set' e (.inl rfl))
  · rw [bytes_extract, hm]
    unfold tl
    rw [List.drop_take]
    congr 1
    omega
  · have e1 : s.size - ((bytes s).drop a).length = a := by rw [List.length_drop]; omega
    rw [e1, ← hm]
    rw [show (((a : Int)).toNat) = a from by omega, show (((a + m : Nat) : Int)).toNat = a + m from by omega] at r'
    exact r'

theorem c60_4 {a : Nat} {tx : ByteArray} {Q : Hp → Prop} (hr : Row H rb 89 [.string s, .int .i64 (a : Int), .int .i64 ((a + wLen ((bytes s).drop a) : Nat) : Int), .string tx]) (ha : a ≤ s.size) (hs : s.size ≤ 4096)
    (hQ : ∀ H', Rdr H' rb s ((bytes s).drop a) → Kp (fun x => x = rb) H H' → Q H') : F60_4 Q (some ⟨rb, 0, none⟩) H := by
  have hb := bytes_len s
  have hwl := wLen_le ((bytes s).drop a)
  rw [List.length_drop] at hwl
  have fin0 : (tokLen ((bytes s).drop a) = wLen ((bytes s).drop a)) → F60_6 Q (some ⟨rb, 0, none⟩) H := fun h => c60_6 (by rw [← h] at hr; exact hr) ha rfl hQ
  refine ⟨_, rfl, _, hr.cell_of (i := 2) rfl, _, rfl, _, hr.cell_of (i := 1) rfl, fun h => ?_, fun h => ⟨fun h' => (by cases h'), fun _ => fin0 ?_⟩⟩
  · have hw : wLen ((bytes s).drop a) = 0 := by have := of_decide_eq_true h; omega
    refine ⟨_, rfl, _, hr.cell_of (i := 1) rfl, _, rfl, s, hr.cell_of (i := 0) rfl, fun hlt => ?_, fun hlt => ⟨fun h' => (by cases h'), fun _ => fin0 ?_⟩⟩
    · have hlt : a < s.size := by have := of_decide_eq_true hlt; omega
      have hd : (bytes s).drop a = (bytes s)[a]'(by omega) :: (bytes s).drop (a + 1) := List.drop_eq_getElem_cons (by omega)
      refine ⟨_, rfl, s, hr.cell_of (i := 0) rfl, _, rfl, _, hr.cell_of (i := 1) rfl, by omega, by omega, ?_⟩
      rw [show ((a : Int)).toNat = a from by omega, bt_get hlt]
      refine c80 ⟨hr.cell_of (i := 1) rfl, hr.cell_of (i := 0) rfl, hr.cell_of (i := 0) rfl, hr.cell_of (i := 1) rfl, hr.cell_of (i := 1) rfl, hr.cell_of (i := 2) rfl, fun hsg => ?_, fun hsg => fin0 ?_⟩
      · refine ⟨_, rfl, _, hr.cell_of (i := 2) rfl, _, rfl, hr.some (i := 2) (by simp), hr.frz 2, fun H1 e1 => ?_⟩
        have r1 := hr.set' e1
        rw [wr (by omega) (by omega), hw] at r1
        have ht : tokLen ((bytes s).drop a) = 1 := by
          unfold tokLen
          rw [if_pos hw, hd]
          show (if signN _ then 1 else 0) = 1
          rw [hsg]; rfl
        have k1 : Kp (fun x => x = rb) H H1 := (Kp.refl _ _).set' e1 (.inl rfl)
        refine c60_6 (a := a) (m := 1) r1 ha ht.symm fun H' h1 h2 => hQ H' h1 (k1.trans h2 fun x hx => .inl hx)
      · unfold tokLen
        rw [if_pos hw, hw, hd]
        show (if signN _ then 1 else 0) = 0
        rw [hsg]; rfl
    · have hlt : ¬ a < s.size := by have := of_decide_eq_false hlt; omega
      unfold tokLen
      rw [if_pos hw, hw, List.drop_eq_nil_of_le (by omega)]
  · unfold tokLen
    rw [if_neg (by have := of_decide_eq_false h; omega)]

theorem c60_1 {a : Nat} {x : Int} {tx : ByteArray} {Q : Hp → Prop} (hr : Row H rb 89 [.string s, .int .i64 (a : Int), .int .i64 x, .string tx]) (ha : a ≤ s.size) (hs : s.size ≤ 4096)
    (hQ : ∀ H', Rdr H' rb s ((bytes s).drop a) → Kp (fun x => x = rb) H H' → Q H') : F60_1 Q (some ⟨rb, 0, none⟩) H := by
  have hb := bytes_len s
  refine ⟨_, rfl, _, hr.cell_of (i := 1) rfl, _, rfl, hr.some (i := 2) (by simp), hr.frz 2, fun H65 e65 => ?_⟩
  have r65 : Row H65 rb 89 [.string s, .int .i64 (a : Int), .int .i64 (a : Int), .string tx] := hr.set' e65
  have k65 : Kp (fun x => x = rb) H H65 := (Kp.refl _ _).set' e65 (.inl rfl)
  intro X hX
  suffices G : ∀ (d k : Nat) (H' : Hp), a + k + d = s.size → (((bytes s).drop a).take k).all partN' = true → Row H' rb 89 [.string s, .int .i64 (a : Int), .int .i64 ((a + k : Nat) : Int), .string tx] → Kp (fun x => x = rb) H H' → X H' from
    G (s.size - a) 0 H65 (by omega) rfl r65 k65
  intro d
  induction d with
  | zero =>
    intro k H' hk hall r' k'
    refine hX _ ⟨_, rfl, _, r'.cell_of (i := 2) rfl, _, rfl, s, r'.cell_of (i := 0) rfl, fun h => absurd (of_decide_eq_true h) (by omega), fun _ => ?_⟩
    have hw : wLen ((bytes s).drop a) = k := wLen_at _ _ hall (fun b hb' => by
      rw [List.getElem?_eq_none (by rw [List.length_drop]; omega)] at hb'; cases hb') (by rw [List.length_drop]; omega)
    rw [← hw] at r'
    exact c60_4 r' ha hs fun H2 h1 h2 => hQ H2 h1 (k'.trans h2 fun x hx => .inl hx)
  | succ d ih =>
    intro k H' hk hall r' k'
    have hlt : a + k < s.size := by omega
    have hg : ((bytes s).drop a)[k]? = some ((bytes s)[a + k]'(by omega)) := by
      rw [List.getElem?_drop, List.getElem?_eq_getElem]
    refine hX _ ⟨_, rfl, _, r'.cell_of (i := 2) rfl, _, rfl, s, r'.cell_of (i := 0) rfl, fun _ => ⟨_, rfl, s, r'.cell_of (i := 0) rfl, _, rfl, _, r'.cell_of (i := 2) rfl, by omega, by omega, ?_⟩, fun h => absurd (of_decide_eq_false h) (by omega)⟩
    rw [show (((a + k : Nat) : Int)).toNat = a + k from by omega, bt_get hlt]
    refine c33 ⟨r'.cell_of (i := 2) rfl, r'.cell_of (i := 0) rfl, r'.cell_of (i := 0) rfl, r'.cell_of (i := 2) rfl, fun hp => ?_, fun hp => ?_⟩
    · refine ⟨_, rfl, _, r'.cell_of (i := 2) rfl, _, rfl, r'.some (i := 2) (by simp), r'.frz 2, fun H1 e1 => ?_⟩
      have r1 := r'.set' e1
      rw [wr (by omega) (by omega)] at r1
      refine ih (k + 1) H1 (by omega) ?_ ?_ (k'.set' e1 (.inl rfl))
      · rw [List.take_add_one, List.all_append, hall, hg]
        simpa using hp
      · have : ((a + k : Nat) : Int) + 1 = ((a + (k + 1) : Nat) : Int) := by omega
        rw [this] at r1
        exact r1
    · have hw : wLen ((bytes s).drop a) = k := wLen_at _ _ hall (fun b hb' => by
        rw [hg] at hb'
        injection hb' with hb'
        rw [← hb']; exact hp) (by rw [List.length_drop]; omega)
      rw [← hw] at r'
      exact c60_4 r' ha hs fun H2 h1 h2 => hQ H2 h1 (k'.trans h2 fun x hx => .inl hx)

/-- On to the next token. -/
theorem c60 {n : Nat} {x : Int} {tx : ByteArray} {Q : Hp → Prop} (hr : Row H rb 89 [.string s, .int .i64 x, .int .i64 (n : Int), .string tx]) (hn : n ≤ s.size) (hs : s.size ≤ 4096)
    (hQ : ∀ H', Rdr H' rb s (skipB ((bytes s).drop n)) → Kp (fun x => x = rb) H H' → Q H') : F60 (some ⟨rb, 0, none⟩) H Q := by
  have hb := bytes_len s
  refine ⟨_, rfl, s, hr.cell_of (i := 0) rfl, _, rfl, hr.some (i := 1) (by simp), hr.frz 1, fun H7 e7 => ?_⟩
  have r7 : Row H7 rb 89 [.string s, .int .i64 (s.size : Int), .int .i64 (n : Int), .string tx] := hr.set' e7
  have k7 : Kp (fun x => x = rb) H H7 := (Kp.refl _ _).set' e7 (.inl rfl)
  have s7 := size_set' e7
  refine ⟨_, rfl, s, r7.cell_of (i := 0) rfl, _, rfl, _, r7.cell_of (i := 2) rfl, by omega, by omega, Nat.le_refl _, fun H23 e23 => ?_⟩
  rw [show ((n : Int)).toNat = n from by omega] at e23
  have k23' : Kp No H7 H23 := (Kp.refl No _).push' e23
  have r23 := k23'.row r7 id
  refine ⟨r23.cell_of (i := 2) rfl, r23.cell_of (i := 0) rfl, ?_⟩
  have hit := iterAt.new e23
  have hss : bytes (s.extract n s.size) = (bytes s).drop n := by rw [bytes_extract, List.take_of_length_le (by omega)]
  have hsl : (s.extract n s.size).size = s.size - n := by rw [ByteArray.size_extract]; omega
  generalize s.extract n s.size = ss at hit hss hsl
  have fin : ∀ (ps : Nat) (H' : Hp) (y : Int), y = ((n + ps : Nat) : Int) → ps ≤ ss.size → ((bytes ss).take ps).all blankN = true → (∀ b, (bytes ss)[ps]? = some b → blankN b = false) → Row H' rb 89 [.string s, .int .i64 y, .int .i64 (n : Int), .string tx] → Kp (fun x => x = rb) H H' → F60_1 Q (some ⟨rb, 0, none⟩) H' := fun ps H' y hy hps hall hnb r' k' => by
    subst hy
    refine c60_1 r' (by omega) hs fun H2 h1 h2 => hQ H2 ?_ (k'.trans h2 fun x hx => .inl hx)
    have := skipB_at (bytes ss) ps hall hnb (by rw [bytes_len]; exact hps)
    rw [hss] at this
    rw [this, List.drop_drop]
    exact h1
  intro X hX
  suffices G : ∀ (d ps : Nat) (H' : Hp), ps + d = ss.size → ((bytes ss).take ps).all blankN = true → iterAt H' ⟨H7.size, 0, none⟩ ss ps → Row H' rb 89 [.string s, .int .i64 (s.size : Int), .int .i64 (n : Int), .string tx] → Kp (fun x => x = rb) H H' → X H' from
    G ss.size 0 H23 (by omega) rfl hit r23 (k7.trans k23' fun _ h => h.elim)
  intro d
  induction d with
  | zero =>
    intro ps H' hd hall hi r' k'
    refine hX _ ⟨ss, ps, hi, fun h => absurd (of_decide_eq_true h) (by omega), fun _ => fin ps H' _ (by omega) (by omega) hall (fun b hb' => ?_) r' k'⟩
    rw [List.getElem?_eq_none (by rw [bytes_len]; omega)] at hb'; cases hb'
  | succ d ih =>
    intro ps H' hd hall hi r' k'
    have hlt : ps < ss.size := by omega
    have hg : (bytes ss)[ps]? = some ((bytes ss)[ps]'(by rw [bytes_len]; exact hlt)) := List.getElem?_eq_getElem _
    have hgb := get_bytes hlt
    refine hX _ ⟨ss, ps, hi, fun _ => fun H34 e34 => ?_, fun h => absurd (of_decide_eq_false h) (by omega)⟩
    obtain ⟨hi34, k34⟩ := hi.step e34
    have hne := hi.ne r'
    have r34 := k34.row r' hne
    have kk34 : Kp (fun x => x = rb) H H34 := k'.trans k34 fun x hx => .inr (by subst hx; show H.size ≤ H7.size; omega)
    -- a byte that is no blank
    have stop : blankN ((bytes ss)[ps]'(by rw [bytes_len]; exact hlt)) = false → F60_3 Q X (some ⟨rb, 0, none⟩) (ps : Int) ⟨H7.size, 0, none⟩ true H34 := fun hnb => by
      refine ⟨fun _ => ⟨_, rfl, _, r34.cell_of (i := 2) rfl, _, rfl, r34.some (i := 1) (by simp), r34.frz 1, fun H53 e53 => ?_⟩, fun h => (by cases h)⟩
      have r53 := r34.set' e53
      rw [wr (by omega) (by omega)] at r53
      exact fin ps H53 _ (by omega) (by omega) hall (fun b hb' => by
        rw [hg] at hb'
        injection hb' with hb'
        rw [← hb']; exact hnb) r53 (kk34.set' e53 (.inl rfl))
    have go : blankN ((bytes ss)[ps]'(by rw [bytes_len]; exact hlt)) = true → (Utf8.decode ss ps).2 = 1 → F60_3 Q X (some ⟨rb, 0, none⟩) (ps : Int) ⟨H7.size, 0, none⟩ false H34 := fun hbk hw => by
      refine ⟨fun h => (by cases h), fun _ => ih (ps + 1) H34 (by omega) ?_ (by rw [hw] at hi34; exact hi34) r34 kk34⟩
      rw [List.take_add_one, List.all_append, hall, hg]
      simpa using hbk
    generalize (bytes ss)[ps]'(by rw [bytes_len]; exact hlt) = b at hg hgb stop go
    by_cases hb128 : b < 128
    · have hdec := decode_ascii ss ps hlt (by omega)
      have h1 : (Utf8.decode ss ps).1 = b := by rw [hdec]; exact hgb
      have h2 : (Utf8.decode ss ps).2 = 1 := by rw [hdec]
      rw [h1]
      unfold blankN at stop go
      refine ⟨fun h32 => ⟨fun h9 => ⟨fun h10 => ?_, fun h10 => go ?_ h2⟩, fun h9 => go ?_ h2⟩, fun h32 => go ?_ h2⟩
      · have h32 := of_decide_eq_true h32
        have h9 := of_decide_eq_true h9
        have h10 := of_decide_eq_true h10
        by_cases h13 : b = 13
        · have := go (by rw [decide_eq_true h13, Bool.or_true]) h2
          rw [show decide ((b : Int) ≠ 13) = false from by simp; omega]
          exact this
        · have := stop (by rw [decide_eq_false (show ¬ b = 32 by omega), decide_eq_false (show ¬ b = 9 by omega), decide_eq_false (show ¬ b = 10 by omega), decide_eq_false h13]; rfl)
          rw [show decide ((b : Int) ≠ 13) = true from by simp; omega]
          exact this
      · have : b = 10 := by have := of_decide_eq_false h10; omega
        subst this; rfl
      · have : b = 9 := by have := of_decide_eq_false h9; omega
        subst this; rfl
      · have : b = 32 := by have := of_decide_eq_false h32; omega
        subst this; rfl
    · have hdec := decode_high ss ps hlt (by omega)
      have nb : blankN b = false := by
        unfold blankN
        rw [decide_eq_false (show ¬ b = 32 by omega), decide_eq_false (show ¬ b = 9 by omega), decide_eq_false (show ¬ b = 10 by omega), decide_eq_false (show ¬ b = 13 by omega)]; rfl
      have h := hdec.1
      generalize (Utf8.decode ss ps).1 = c at h
      refine ⟨fun _ => ⟨fun _ => ⟨fun _ => ?_, fun h10 => absurd (of_decide_eq_false h10) (by omega)⟩, fun h9 => absurd (of_decide_eq_false h9) (by omega)⟩, fun h32 => absurd (of_decide_eq_false h32) (by omega)⟩
      rw [show decide ((c : Int) ≠ 13) = true from by simp; omega]
      exact stop nb

/-- On to the next token, from one. -/
theorem c60n {r : List Nat} {Q : Hp → Prop} (h : Rdr H rb s r) (hs : s.size ≤ 4096) (hQ : ∀ H', Rdr H' rb s (nxt r) → Kp (fun x => x = rb) H H' → Q H') : F60 (some ⟨rb, 0, none⟩) H Q := by
  obtain ⟨hsuf, tx, htx, hr⟩ := h
  have hb := bytes_len s
  have hl := hsuf.length_le
  have ht := tokLen_le r
  have hd : (bytes s).drop (s.size - r.length) = r := by
    obtain ⟨p, hp⟩ := hsuf
    have : p.length = s.size - r.length := by
      have := congrArg List.length hp
      rw [List.length_append] at this; omega
    rw [← this, ← hp, List.drop_left]
  refine c60 hr (by omega) hs fun H' h1 h2 => hQ H' ?_ h2
  rw [← List.drop_drop, hd] at h1
  exact h1

theorem seq_tl {tx t : ByteArray} {r : List Nat} (h : bytes tx = tl r) : seq tx t = decide (tl r = bytes t) := by rw [seq_bytes, h]
theorem c61 {r : List Nat} {t : ByteArray} {Q : Bool → Hp → Prop} (h : Rdr H rb s r) (hs : s.size ≤ 4096) (q0 : tl r ≠ bytes t → Q false H) (q1 : tl r = bytes t → ∀ H', Rdr H' rb s (nxt r) → Kp (fun x => x = rb) H H' → Q true H') : F61 (some ⟨rb, 0, none⟩) t H Q := by
  obtain ⟨hsuf, tx, htx, hr⟩ := h
  refine ⟨_, rfl, tx, hr.cell_of (i := 3) rfl, fun hh => q0 ?_, fun hh => c60n ⟨hsuf, tx, htx, hr⟩ hs fun H' h1 h2 => q1 ?_ H' h1 h2⟩
  · have := notT hh
    rw [seq_tl htx] at this
    exact of_decide_eq_false this
  · have := notF hh
    rw [seq_tl htx] at this
    exact of_decide_eq_true this
/-- Is the token a word? -/
def wordN (r : List Nat) : Bool := match r with | b :: _ => partN' b | [] => false
theorem tl_nil {r : List Nat} (h : tl r = []) : wordN r = false := by
  cases r with
  | nil => rfl
  | cons b t =>
    show partN' b = false
    by_cases hp : partN' b = true
    · have : wLen (b :: t) ≠ 0 := by
        unfold wLen
        rw [List.takeWhile_cons, hp]
        simp
      unfold tl tokLen at h
      rw [if_neg this] at h
      have h := congrArg List.length h
      rw [List.length_take] at h
      have := wLen_le (b :: t)
      simp at h
      omega
    · simpa using hp
theorem tl_head {r : List Nat} (h : tl r ≠ []) : ∃ b t t', r = b :: t ∧ tl r = b :: t' := by
  cases r with
  | nil => exact absurd rfl h
  | cons b t =>
    unfold tl at h ⊢
    cases hk : tokLen (b :: t) with
    | zero => rw [hk] at h; exact absurd rfl h
    | succ k => exact ⟨b, t, t.take k, rfl, rfl⟩
theorem c62 {r : List Nat} {Q : Bool → Hp → Prop} (h : Rdr H rb s r) (hQ : Q (wordN r) H) : F62 (some ⟨rb, 0, none⟩) H Q := by
  obtain ⟨hsuf, tx, htx, hr⟩ := h
  refine ⟨_, rfl, tx, hr.cell_of (i := 3) rfl, fun hh => ⟨_, rfl, tx, hr.cell_of (i := 3) rfl, by omega, ?_, ?_⟩, fun hh => ?_⟩
  all_goals have hse : seq tx E = decide (tl r = []) := seq_tl htx
  · have := notT hh
    rw [hse] at this
    have := of_decide_eq_false this
    have hl : (bytes tx).length ≠ 0 := by rw [htx]; exact fun e => this (List.eq_nil_of_length_eq_zero e)
    rw [bytes_len] at hl
    show 0 < tx.size
    omega
  · have := notT hh
    rw [hse] at this
    have := of_decide_eq_false this
    obtain ⟨b, t, t', hb, ht⟩ := tl_head this
    have h0 : 0 < tx.size := by rw [← bytes_len, htx, ht]; simp
    rw [show ((0 : Int)).toNat = 0 from rfl, bt_get h0]
    have : (bytes tx)[0]'(by rw [bytes_len]; exact h0) = b := by simp [htx, ht]
    rw [this]
    refine c33 ?_
    rw [hb] at hQ
    exact hQ
  · have := notF hh
    rw [hse] at this
    rw [tl_nil (of_decide_eq_true this)] at hQ
    exact hQ
theorem c64 {r : List Nat} {Q : Bool → Hp → Prop} (h : Rdr H rb s r) (hQ : Q (decide (r = [])) H) : F64 (some ⟨rb, 0, none⟩) H Q := by
  obtain ⟨hsuf, tx, htx, hr⟩ := h
  have hb := bytes_len s
  have hl := hsuf.length_le
  refine ⟨_, rfl, _, hr.cell_of (i := 1) rfl, _, rfl, s, hr.cell_of (i := 0) rfl, ?_⟩
  have : decide (((s.size - r.length : Nat) : Int) = (s.size : Int)) = decide (r = []) := decide_eq_decide.2 ⟨fun h => List.eq_nil_of_length_eq_zero (by omega), fun h => by subst h; simp⟩
  rw [this]; exact hQ
end
end Go.Hw
