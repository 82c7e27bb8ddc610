/- schema: names; numbers in digits. Own work of this session. -/
import Derived.Test.YtbhfkpdalilhcaaDoorWalkC
import Derived.Test.YtbhfkpdalilhcaaDoorHwJ
import Derived.Lib.Strings
set_option linter.unusedVariables false
namespace Go.Hw
open Go

abbrev No : Nat → Prop := fun _ => False
def iF : Fmt Int 3 1 := ⟨fun x => [.int .i64 x], fun _ => rfl, by intro x v hv; simp at hv; rcases hv with rfl; rfl, by decide⟩
def bF : Fmt ByteArray 9 1 := ⟨fun x => [.string x], fun _ => rfl, by intro x v hv; simp at hv; rcases hv with rfl; rfl, by decide⟩
/-- An attribute: its name, its kind. -/
def aF : Fmt (ByteArray × Int) 38 2 := ⟨fun x => [.string x.1, .int .i64 x.2], fun _ => rfl, by
  intro x v hv
  simp only [List.mem_cons, List.not_mem_nil, or_false] at hv
  rcases hv with rfl | rfl <;> rfl, by decide⟩

/-! ## bytes -/
def bytes (s : ByteArray) : List Nat := s.data.toList.map (·.toNat)
theorem bytes_len (s : ByteArray) : (bytes s).length = s.size := by simp [bytes]
theorem bytes_inj {a b : ByteArray} (h : bytes a = bytes b) : a = b := by
  apply ByteArray.ext
  apply Array.toList_inj.1
  unfold bytes at h
  have := congrArg (List.map UInt8.ofNat) h
  rw [List.map_map, List.map_map] at this
  have e : ∀ l : List UInt8, l.map (UInt8.ofNat ∘ (·.toNat)) = l := fun l => by
    conv => rhs; rw [← List.map_id l]
    apply List.map_congr_left
    intro x _
    simp
  rw [e, e] at this
  exact this
theorem seq_bytes (a b : ByteArray) : seq a b = decide (bytes a = bytes b) := by
  unfold seq
  rw [Lib.toList_data, Lib.toList_data]
  by_cases h : a = b
  · subst h; simp
  · rw [decide_eq_false (fun e => h (bytes_inj e)), beq_eq_false_iff_ne]
    intro e
    exact h (ByteArray.ext (Array.toList_inj.1 e))
theorem seq_iff {a b : ByteArray} : seq a b = true ↔ a = b := by
  rw [seq_bytes, decide_eq_true_iff]
  exact ⟨bytes_inj, fun h => by rw [h]⟩
theorem seq_refl (s : ByteArray) : seq s s = true := seq_iff.2 rfl
theorem seq_false {a b : ByteArray} (h : a ≠ b) : seq a b = false := by
  rw [Bool.eq_false_iff]
  exact fun e => h (seq_iff.1 e)
theorem bt_get {x : ByteArray} {j : Nat} (h : j < x.size) : bt x j = ((bytes x)[j]'(by rw [bytes_len]; exact h) : Nat) := by
  unfold bt
  rw [dif_pos h]
  simp [bytes]
  rfl
theorem bytes_bst {L : List Int} (h : ∀ x ∈ L, 0 ≤ x ∧ x < 256) : bytes (bst L) = L.map Int.toNat := by
  unfold bytes bst
  simp only [List.map_map]
  apply List.map_congr_left
  intro x hx
  have := h x hx
  simp only [Function.comp]
  rw [UInt8.toNat_ofNat']
  omega
theorem bst_append (A B : List Int) : bst (A ++ B) = bst A ++ bst B := by
  apply ByteArray.ext
  rw [ByteArray.data_append]
  unfold bst
  simp
theorem bst_size (A : List Int) : (bst A).size = A.length := by
  unfold bst
  simp [ByteArray.size]

/-! ## names -/
def letterN (b : Nat) : Bool := (decide (97 ≤ b) && decide (b ≤ 122)) || (decide (65 ≤ b) && decide (b ≤ 90)) || decide (b = 95)
def partN' (b : Nat) : Bool := letterN b || (decide (48 ≤ b) && decide (b ≤ 57))
def wordsL : List (List Nat) := [[80, 65, 84, 84, 69, 82, 78], [83, 69, 81], [80, 65, 82, 84, 73, 84, 73, 79, 78], [66, 89], [87, 72, 69, 82, 69], [87, 73, 84, 72, 73, 78], [82, 69, 84, 85, 82, 78], [65, 78, 68], [79, 82], [78, 79, 84], [84, 82, 85, 69], [70, 65, 76, 83, 69], [84, 89, 80, 69], [73, 78, 84], [83, 84, 82], [66, 79, 79, 76]]
def ofBytes (l : List Nat) : ByteArray := ⟨(l.map UInt8.ofNat).toArray⟩
def words : List ByteArray := wordsL.map ofBytes
/-- Is it a name? -/
def nmL (l : List Nat) : Bool := match l with
  | [] => false
  | b :: t => decide (l.length ≤ 32) && letterN b && l.all partN' && !(wordsL.contains l)
def nm (s : ByteArray) : Bool := nmL (bytes s)
/-- The language's words lie where their variable is. -/
def WordsH (H : Hp) : Prop := cells H ⟨1, 0, none⟩ (words.map Value.string) 0
theorem WordsH.size {H : Hp} (h : WordsH H) : 1 < H.size := cells_block (a := ⟨1, 0, none⟩) h (by decide)
theorem WordsH.kp {S : Nat → Prop} {H H' : Hp} (h : WordsH H) (k : Kp S H H') (hs : ¬ S 1) : WordsH H' := k.cells (a := ⟨1, 0, none⟩) h.size hs h
theorem WordsH.no {H H' : Hp} (h : WordsH H) (k : Kp No H H') : WordsH H' := h.kp k id

theorem letterN_iff {b : Nat} : letterN b = true ↔ ((97 ≤ b ∧ b ≤ 122) ∨ (65 ≤ b ∧ b ≤ 90) ∨ b = 95) := by
  unfold letterN
  rw [Bool.or_eq_true, Bool.or_eq_true, Bool.and_eq_true, Bool.and_eq_true, decide_eq_true_iff, decide_eq_true_iff, decide_eq_true_iff, decide_eq_true_iff, decide_eq_true_iff]
  omega
theorem c32 {b : Nat} {H : Hp} {Q : Bool → Hp → Prop} (hQ : Q (letterN b) H) : F32 (b : Int) H Q := by
  have e : ∀ y : Bool, (y = true ↔ letterN b = true) → Q y H := fun y h => (Bool.eq_iff_iff.2 h) ▸ hQ
  have t : ((97 ≤ b ∧ b ≤ 122) ∨ (65 ≤ b ∧ b ≤ 90) ∨ b = 95) → Q true H := fun h => e true ⟨fun _ => letterN_iff.2 h, fun _ => rfl⟩
  have l : ¬ (97 ≤ b ∧ b ≤ 122) → ¬ (65 ≤ b ∧ b ≤ 90) → Q (decide ((b : Int) = 95)) H := fun h1 h2 => e _ ⟨fun h => letterN_iff.2 (by have := of_decide_eq_true h; omega), fun h => decide_eq_true (by have := letterN_iff.1 h; omega)⟩
  refine ⟨fun h1 => ⟨fun h2 => t ?_, fun h2 => ⟨fun h3 => ⟨fun h4 => t ?_, fun h4 => l ?_ ?_⟩, fun h3 => l ?_ ?_⟩⟩, fun h1 => ⟨fun h3 => ⟨fun h4 => t ?_, fun h4 => l ?_ ?_⟩, fun h3 => l ?_ ?_⟩⟩ <;>
  · simp only [decide_eq_true_eq, decide_eq_false_iff_not] at *
    omega
theorem c33 {b : Nat} {H : Hp} {Q : Bool → Hp → Prop} (hQ : Q (partN' b) H) : F33 (b : Int) H Q := by
  refine c32 ⟨fun h => ?_, fun h => ⟨fun h1 => ?_, fun h1 => ?_⟩⟩
  · unfold partN' at hQ
    rw [h] at hQ; exact hQ
  · unfold partN' at hQ
    rw [h, decide_eq_true (show 48 ≤ b by have := of_decide_eq_true h1; omega)] at hQ
    rw [show decide ((b : Int) ≤ 57) = decide (b ≤ 57) from decide_eq_decide.2 (by omega)]
    exact hQ
  · unfold partN' at hQ
    rw [h, decide_eq_false (show ¬ 48 ≤ b by have := of_decide_eq_false h1; omega)] at hQ
    exact hQ

theorem words_len : words.length = 16 := rfl
theorem bytes_of {l : List Nat} (h : l.all (fun b => decide (b < 256)) = true) : bytes (ofBytes l) = l := by
  unfold bytes ofBytes
  simp only [List.map_map]
  conv => rhs; rw [← List.map_id l]
  apply List.map_congr_left
  intro x hx
  have := List.all_eq_true.1 h x hx
  simp only [decide_eq_true_eq] at this
  simp [Nat.mod_eq_of_lt this]
theorem words_bytes : words.map bytes = wordsL := by
  unfold words
  rw [List.map_map]
  conv => rhs; rw [← List.map_id wordsL]
  apply List.map_congr_left
  intro l hl
  refine bytes_of ?_
  have : wordsL.all (fun l => l.all fun b => decide (b < 256)) = true := by decide
  exact List.all_eq_true.1 this l hl

theorem c17 {s : ByteArray} {H : Hp} {Q : Bool → Hp → Prop} (hw : WordsH H) (hQ : Q (nm s) H) : F17 s H Q := by
  have hbl := bytes_len s
  have no : nm s = false → ∀ y : Bool, y = true → F17_1 Q s y H := fun h y hy => ⟨fun _ => by rw [← h]; exact hQ, fun h' => by rw [hy] at h'; cases h'⟩
  refine ⟨fun h => no ?_ _ rfl, fun h => ⟨fun h1 => no ?_ _ rfl, fun h1 => ?_⟩⟩
  · have := seq_iff.1 h
    subst this
    rfl
  · have h1 := of_decide_eq_true h1
    unfold nm
    cases hb : bytes s with
    | nil => rfl
    | cons b t =>
      rw [hb] at hbl
      unfold nmL
      rw [decide_eq_false (by omega)]; rfl
  have h1 := of_decide_eq_false h1
  have h0 : 0 < s.size := by
    by_cases e : s.size = 0
    · have : s = ⟨#[]⟩ := bytes_inj (by
        rw [List.eq_nil_of_length_eq_zero (l := bytes s) (by rw [bytes_len]; exact e)]; rfl)
      rw [this, show (ByteArray.mk #[]) = (⟨#[]⟩ : ByteArray) from rfl, seq_refl] at h
      cases h
    · omega
  obtain ⟨b0, t, hbt⟩ : ∃ b t, bytes s = b :: t := by
    cases hb : bytes s with
    | nil => rw [hb] at hbl; simp at hbl; omega
    | cons b t => exact ⟨b, t, rfl⟩
  have e0 : bt s 0 = (b0 : Int) := by
    rw [bt_get h0]
    simp [hbt]
  refine ⟨Int.le_refl _, h0, ?_⟩
  rw [show (0 : Int).toNat = 0 from rfl, e0]
  refine c32 ⟨fun hl => ?_, fun hl => ?_⟩
  · have : nm s = false := by
      unfold nm nmL
      rw [hbt]
      have hl : letterN b0 = false := by simpa using hl
      simp only [hl]
      simp
    rw [← this]; exact hQ
  have hl : letterN b0 = true := by simpa using hl
  intro X hX
  suffices G : ∀ (d i : Nat), i + d = s.size → ((bytes s).take i).all partN' = true → X (i : Int) H from G s.size 0 (by omega) rfl
  intro d
  induction d with
  | succ d ih =>
    intro i hi ha
    have gi : i < s.size := by omega
    refine hX _ _ ⟨fun _ => ⟨by omega, by omega, ?_⟩, fun hh => absurd (of_decide_eq_false hh) (by omega)⟩
    rw [show ((i : Int)).toNat = i from by omega, bt_get gi]
    have hil : i < (bytes s).length := by omega
    have hmem : (bytes s)[i]'hil ∈ bytes s := List.getElem_mem _
    have htk : (bytes s).take (i + 1) = (bytes s).take i ++ [(bytes s)[i]'hil] := by simp
    refine c33 ⟨fun hp => ?_, fun hp => ?_⟩
    · have hp : partN' ((bytes s)[i]'hil) = false := by simpa using hp
      have : nm s = false := by
        unfold nm nmL
        rw [Bool.eq_false_iff]
        intro hn
        rw [hbt] at hn
        simp only [Bool.and_eq_true] at hn
        rw [← hbt] at hn
        have := List.all_eq_true.1 hn.1.2 _ hmem
        rw [hp] at this; cases this
      rw [← this]; exact hQ
    · rw [wr (by omega) (by omega)]
      refine ih (i + 1) (by omega) ?_
      rw [htk, List.all_append, ha]
      simpa using hp
  | zero =>
    intro i hi ha
    rw [List.take_of_length_le (by omega)] at ha
    refine hX _ _ ⟨fun hh => absurd (of_decide_eq_true hh) (by omega), fun _ => ?_⟩
    have hnm : nm s = !(wordsL.contains (bytes s)) := by
      unfold nm
      have hle : (bytes s).length ≤ 32 := by omega
      rw [hbt] at hle ha ⊢
      unfold nmL
      show (decide ((b0 :: t).length ≤ 32) && letterN b0 && (b0 :: t).all partN' && !(wordsL.contains (b0 :: t))) = _
      rw [decide_eq_true hle, hl, ha]
      rfl
    refine ⟨_, _, _, _, _, _, _, _, _, _, _, _, _, _, _, _, hw, ?_⟩
    intro X4 hX4
    suffices G : ∀ (d i : Nat), i + d = 16 → (∀ j, j < i → words[j]? ≠ some s) → X4 (i : Int) H from G 16 0 (by omega) (fun j hj => by omega)
    intro d
    induction d with
    | zero =>
      intro i hi hj
      refine hX4 _ _ ⟨fun hh => absurd (of_decide_eq_true hh) (by omega), fun _ => ?_⟩
      have : wordsL.contains (bytes s) = false := by
        rw [Bool.eq_false_iff]
        intro hc
        have hc : bytes s ∈ wordsL := by simpa using hc
        rw [← words_bytes] at hc
        obtain ⟨w, hw1, hw2⟩ := List.mem_map.1 hc
        obtain ⟨k, hk⟩ := List.getElem?_of_mem hw1
        have hk16 : k < 16 := by
          have := (List.getElem?_eq_some_iff.1 hk).1
          rw [words_len] at this; exact this
        rw [bytes_inj hw2] at hk
        exact hj k (by omega) hk
      rw [hnm, this] at hQ
      exact hQ
    | succ d ih4 =>
      intro i hi hj
      have hil : i < words.length := by rw [words_len]; omega
      have gw : words[((i : Int)).toNat]? = some (words[i]'hil) := by
        rw [show ((i : Int)).toNat = i from by omega]; exact List.getElem?_eq_getElem hil
      refine hX4 _ _ ⟨fun _ => ⟨by omega, by omega, words[i]'hil, gw, fun he => ?_, fun he => ?_⟩, fun hh => absurd (of_decide_eq_false hh) (by omega)⟩
      · have he := seq_iff.1 he
        have : wordsL.contains (bytes s) = true := by
          rw [List.contains_iff_mem, ← words_bytes]
          exact List.mem_map.2 ⟨_, List.getElem_mem hil, by rw [he]⟩
        rw [hnm, this] at hQ
        exact hQ
      · rw [wr (by omega) (by omega)]
        refine ih4 (i + 1) (by omega) fun j hj' e => ?_
        by_cases hji : j = i
        · subst hji
          rw [List.getElem?_eq_getElem hil] at e
          injection e with e
          rw [e, seq_refl] at he
          cases he
        · exact hj j (by omega) e

/-! ## numbers in digits -/
def dlN (n : Nat) : List Nat := if n < 10 then [48 + n] else [48 + n / 10, 48 + n % 10]
def dlI (n : Nat) : List Int := (dlN n).map fun (b : Nat) => (b : Int)
theorem w8 {x : Int} (h0 : 0 ≤ x) (h1 : x < 256) : IntKind.u8.wrap x = x := by
  have e : IntKind.u8.wrap x = x % 256 := by
    simp [IntKind.wrap, IntKind.bits, IntKind.signed]
  rw [e]; omega
/-- The i-th attribute's name, if no other one may be. -/
def an (i : Nat) : ByteArray := bst (97 :: dlI i)
theorem an_bytes {i : Nat} (h : i < 100) : bytes (an i) = 97 :: dlN i := by
  unfold an
  rw [bytes_bst]
  · unfold dlI
    rw [List.map_cons, List.map_map]
    congr 1
    conv => rhs; rw [← List.map_id (dlN i)]
    apply List.map_congr_left
    intro x _
    simp
  · intro x hx
    rcases List.mem_cons.1 hx with rfl | hx
    · decide
    · unfold dlI dlN at hx
      split at hx
      · simp at hx; omega
      · simp at hx; omega
theorem an_size {i : Nat} (h : i < 100) : (an i).size ≤ 3 := by
  rw [← bytes_len, an_bytes h]
  unfold dlN
  split <;> simp
theorem an_nm {i : Nat} (h : i < 16) : nm (an i) = true := by
  unfold nm
  rw [an_bytes (by omega)]
  have : (List.range 16).all (fun i => nmL (97 :: dlN i)) = true := by decide
  exact List.all_eq_true.1 this i (List.mem_range.2 h)
theorem an_ne {i j : Nat} (hi : i < 16) (hj : j < 16) (h : i ≠ j) : an i ≠ an j := fun e => by
  have e := congrArg bytes e
  rw [an_bytes (by omega), an_bytes (by omega)] at e
  have : (List.range 16).all (fun i => (List.range 16).all fun j => decide (i = j) || !(decide (dlN i = dlN j))) = true := by decide
  have := List.all_eq_true.1 (List.all_eq_true.1 this i (List.mem_range.2 hi)) j (List.mem_range.2 hj)
  injection e with _ e
  simp [h, e] at this
theorem an_time {i : Nat} (h : i < 16) : an i ≠ S_time := fun e => by
  have e := congrArg bytes e
  rw [an_bytes (by omega)] at e
  have : bytes S_time = [116, 105, 109, 101] := rfl
  rw [this] at e
  injection e with e _
  cases e
end Go.Hw
