/- SchemaNames: the law. Own work of this session. -/
import Derived.Test.YtbhfkpdalilhcaaDoorT12
set_option linter.unusedVariables false
namespace Go.Hw
open Go

/-- The name's bytes, one by one. -/
def okL : Nat → List Nat → Bool
  | _, [] => true
  | i, b :: l => (letterN b || ((decide (48 ≤ b) && decide (b ≤ 57)) && decide (i ≠ 0))) && okL (i + 1) l
theorem okL_pos : ∀ {l : List Nat} {i : Nat}, 0 < i → okL i l = l.all partN'
  | [], _, _ => rfl
  | b :: l, i, h => by
    unfold okL
    rw [List.all_cons, okL_pos (i := i + 1) (by omega), decide_eq_true (show i ≠ 0 by omega), Bool.and_true]
    rfl
theorem okL_nm (l : List Nat) : nmL l = (decide (1 ≤ l.length) && decide (l.length ≤ 32) && okL 0 l && !(wordsL.contains l)) := by
  cases l with
  | nil => rfl
  | cons b t =>
    unfold nmL okL
    show (decide ((b :: t).length ≤ 32) && letterN b && (b :: t).all partN' && !(wordsL.contains (b :: t))) = _
    rw [okL_pos (i := 0 + 1) (by omega), decide_eq_false (show ¬ (0 : Nat) ≠ 0 by omega), Bool.and_false, Bool.or_false, List.all_cons, decide_eq_true (show 1 ≤ (b :: t).length by simp), Bool.true_and]
    unfold partN'
    cases letterN b <;> simp

theorem nm_x : nm S_x = true := by decide
theorem nm_INT : nm S_INT = false := by decide
theorem nm_Other : nm S_Other = true := by decide
theorem Other_time : S_Other ≠ S_time := by decide

section
variable {H H0 : Hp} {s : ByteArray} {Q : Bool → Hp → Prop}

theorem cat_of {Hx : Hp} {cb mr : Nat} {z : CE} (hrow : Row Hx cb 72 [.map (some mr)]) (hm : mapAt mk9 mv27 Hx (some mr) (ents [z]) 1) (ht : z.t = 0) (hl : Lst aF Hx z.s z.A) (hA : z.A.length ≤ 16) : CatH Hx cb mr [z] 1 :=
  ⟨hrow, hm, ⟨by simp [ents], fun e he => by
    have : e = (z.n, (z.n, z.s), z.t) := by simpa [ents] using he
    subst this
    show z.t < 1
    omega⟩, fun y hy => by
    rw [List.mem_singleton] at hy
    subst hy
    exact ⟨hl, hA⟩, by simp⟩

theorem c5_11 {cb mr : Nat} (htab : WordsH H) (h : CatH H cb mr [] 0) (hs : s.size ≤ 1048576) (hk : Kp No H0 H) (hb : ∀ x, x = mr → H0.size ≤ x) (hQ : ∀ H', Kp No H0 H' → Q true H') : F5_11 Q s (nm s) (some ⟨cb, 0, none⟩) false H := by
  have hmr := hb mr rfl
  have hwz := htab.size
  refine ⟨fun h => (by cases h), fun _ => ?_⟩
  have w1 : wrg s [] = if nm s = false then 20 else 0 := by
    unfold wrg
    split
    · rfl
    · rfl
  have w2 : wrg S_Other [(s, 1)] = if (nm s && !(seq s S_time)) = false then 20 else 0 := by
    unfold wrg
    rw [if_neg (by rw [nm_Other]; decide), if_neg (by show ¬ 16 < 1; omega)]
    unfold wrgL
    split
    · rfl
    · rw [if_neg (by show ¬ ¬ ((0 : Int) < 1 ∧ (1 : Int) < 4); omega), if_neg (by simp)]
      rfl
  have one : ∀ {H88 H91 : Hp}, H91 = Array.push H88 (.cells #[(.string s), (.int .i64 1)] 38) → RdL aF H91 ⟨some ⟨H88.size, 0, none⟩, 1, 1⟩ [(s, 1)] := fun {H88 H91} e => by
    have x : Row H91 H88.size 38 (aF.f (s, 1)) := Row.new' e
    exact ⟨rfl, x.all⟩
  by_cases hn : nm s = true
  · -- a name
    rw [hn]
    rw [if_neg (by rw [hn]; decide)] at w1
    refine c9 (A := []) htab h.row h.m (RdL.nil aF H) (Nat.le_refl _) (by simp) (by omega) (fun hh => absurd w1 hh) (fun _ hh => (by cases hh)) (fun _ _ hh => absurd hh (by decide)) fun _ _ _ r H88 l88 f88 m88 k88 => ?_
    have c88 : CatH H88 cb mr [⟨s, r, [], 0⟩] 1 := cat_of (k88.row h.row fun e => h.m.ne h.row e.symm) m88 rfl l88 (by simp)
    have f88' : Kp No H0 H88 := hk.trans k88 fun b e => .inr (by omega)
    have tab88 : WordsH H88 := by
      refine htab.kp k88 fun e => ?_
      have hlt := h.m.lt
      have hcell := htab
      have : (1 : Nat) < H.size := hwz
      have h1 := (cells_iff.1 htab) 0 _ (show (words.map Value.string)[0]? = some _ from rfl)
      have hm := h.m
      rw [← e] at hm
      have hm : H[1]? = some (mapo mk9 mv27 (ents []) 0) := hm
      unfold cell at h1
      rw [show (Addr.add ⟨1, 0, none⟩ (0 + 0)).block = 1 from rfl, hm] at h1
      cases h1
    intro H91 e91
    have k91 : Kp No H88 H91 := (Kp.refl No _).push' e91
    have c91 := c88.no k91
    have hrd := one e91
    have f91 := f88'.no2' k91
    have hget : mget (ents [⟨s, r, [], 0⟩]) S_Other = if S_Other = s then some (s, r) else none := by
      show mget [(s, (s, r), 0)] S_Other = _
      rw [mget_cons]
      rfl
    have fin : ∀ (v : Int) (H93 : Hp), Kp No H0 H93 → WordsH H93 → (v = if s = S_time then 20 else if s = S_Other then 5 else 0) →
        (((!true) = true → F17 s H93 fun r99 H97 => ((!r99) = true → ((decide ((0 : Int) = 20)) = true → ((decide (v = 20)) = true → F18 (some ⟨cb, 0, none⟩) H97 fun r108 H106 => Q (decide (((r108).n : Int) = 0)) H106) ∧ ((decide (v = 20)) = false → Q false H97)) ∧ ((decide ((0 : Int) = 20)) = false → Q false H97)) ∧ ((!r99) = false → Q false H97)) ∧
         ((!true) = false → (((seq s S_Other) = true → (F17 s H93 (fun (r112 : Bool) (H110 : Hp) => 
           (r112 = true → (((decide ((0 : Int) = 0)) = true → (Q (decide (v = 5)) H110)) ∧
           ((decide ((0 : Int) = 0)) = false → (Q false H110)))) ∧
           (r112 = false → (Q false H110))))) ∧
           ((seq s S_Other) = false → (F17 s H93 (fun (r119 : Bool) (H117 : Hp) => 
           (r119 = true → (((decide ((0 : Int) = 0)) = true → ((((decide (v = 0)) == (!(seq s S_time))) = true → (Q ((decide (v = 20)) == (seq s S_time)) H117)) ∧
           (((decide (v = 0)) == (!(seq s S_time))) = false → (Q false H117)))) ∧
           ((decide ((0 : Int) = 0)) = false → (Q false H117)))) ∧
           (r119 = false → (Q false H117)))))))) := fun v H93 hk93 hw93 hv => by
      refine ⟨fun h => (by cases h), fun _ => ⟨fun ho => ?_, fun ho => ?_⟩⟩
      · have ho := seq_iff.1 ho
        have hv : v = 5 := by rw [hv, ho, if_neg Other_time, if_pos rfl]
        refine c17 hw93 ⟨fun _ => ⟨fun _ => ?_, fun h => absurd rfl (of_decide_eq_false h)⟩, fun h => (by rw [hn] at h; cases h)⟩
        rw [hv]
        exact hQ H93 hk93
      · have ho : s ≠ S_Other := fun e => by rw [e, seq_refl] at ho; cases ho
        refine c17 hw93 ⟨fun _ => ⟨fun _ => ?_, fun h => absurd rfl (of_decide_eq_false h)⟩, fun h => (by rw [hn] at h; cases h)⟩
        by_cases ht : s = S_time
        · have hv : v = 20 := by rw [hv, if_pos ht]
          rw [hv, ht, seq_refl]
          exact ⟨fun _ => hQ H93 hk93, fun h => (by cases h)⟩
        · have hv : v = 0 := by rw [hv, if_neg ht, if_neg ho]
          rw [hv, seq_false ht]
          exact ⟨fun _ => hQ H93 hk93, fun h => (by cases h)⟩
    refine c9 (A := [(s, 1)]) (tab88.no k91) c91.row c91.m hrd (Nat.le_refl _) (by simp) (by decide) (fun hw H93 k93 => ?_) (fun hw hg H93 k93 => ?_) (fun _ _ hh => absurd hh (by simp [ents])) fun hw hg _ r2 H93 l93 _ m93 k93 => ?_
    · rw [w2, hn] at hw
      have ht : s = S_time := by
        by_cases e : s = S_time
        · exact e
        · rw [seq_false e] at hw
          exact absurd rfl hw
      rw [w2]
      refine fin _ H93 (f91.no2' k93) ((tab88.no k91).no k93) ?_
      rw [if_pos ht, ht, seq_refl]
      rfl
    · rw [w2, hn] at hw
      have ht : s ≠ S_time := fun e => by
        rw [e, seq_refl] at hw
        cases hw
      refine fin _ H93 (f91.no2' k93) ((tab88.no k91).no k93) ?_
      rw [if_neg ht]
      have : S_Other = s := by
        by_cases e : S_Other = s
        · exact e
        · have hg : (mget (ents [⟨s, r, [], 0⟩]) S_Other).isSome = true := hg
          rw [hget, if_neg e] at hg
          cases hg
      rw [if_pos this.symm]
    · rw [w2, hn] at hw
      have ht : s ≠ S_time := fun e => by
        rw [e, seq_refl] at hw
        cases hw
      have hne : S_Other ≠ s := fun e => by
        have hg : (mget (ents [⟨s, r, [], 0⟩]) S_Other).isSome = false := hg
        rw [hget, if_pos e] at hg
        cases hg
      refine fin _ H93 (f91.trans k93 fun b e => .inr (by omega)) ?_ ?_
      · refine (tab88.no k91).kp k93 fun e => ?_
        have h1 := (cells_iff.1 tab88) 0 _ (show (words.map Value.string)[0]? = some _ from rfl)
        have hm := c88.m
        rw [← e] at hm
        have hm : H88[1]? = some (mapo mk9 mv27 (ents [⟨s, r, [], 0⟩]) 1) := hm
        unfold cell at h1
        rw [show (Addr.add ⟨1, 0, none⟩ (0 + 0)).block = 1 from rfl, hm] at h1
        cases h1
      · rw [if_neg ht, if_neg (Ne.symm hne)]
  · -- none
    have hn : nm s = false := by simpa using hn
    rw [hn]
    rw [if_pos hn] at w1
    rw [if_pos (by rw [hn]; rfl)] at w2
    refine c9 (A := []) htab h.row h.m (RdL.nil aF H) (Nat.le_refl _) (by simp) (by omega) (fun hw H88 k88 => ?_) (fun hw => absurd hw (by rw [w1]; decide)) (fun hw => absurd hw (by rw [w1]; decide)) (fun hw => absurd hw (by rw [w1]; decide))
    have c88 := h.no k88
    have f88 := hk.no2' k88
    intro H91 e91
    have k91 : Kp No H88 H91 := (Kp.refl No _).push' e91
    have c91 := c88.no k91
    have tab91 := (htab.no k88).no k91
    refine c9 (A := [(s, 1)]) tab91 c91.row c91.m (one e91) (Nat.le_refl _) (by simp) (by decide) (fun hw H93 k93 => ?_) (fun hw => absurd hw (by rw [w2]; decide)) (fun hw => absurd hw (by rw [w2]; decide)) (fun hw => absurd hw (by rw [w2]; decide))
    have f93 := (f88.no2' k91).no2' k93
    have tab93 := tab91.no k93
    rw [w1, w2]
    refine ⟨fun _ => c17 tab93 ?_, fun h => (by cases h)⟩
    rw [hn]
    refine ⟨fun _ => ⟨fun _ => ⟨fun _ => c18 (c91.no k93) (Nat.zero_le _) fun sl M D H' hp _ ht kk => ?_, fun h => absurd rfl (of_decide_eq_false h)⟩, fun h => absurd rfl (of_decide_eq_false h)⟩, fun h => (by cases h)⟩
    have hl : sl.n = 0 := by
      have h1 := ht.l.n
      have h2 := ht.len
      have h3 := hp.length_eq
      have h3 : D.length = 0 := h3
      omega
    rw [hl]
    exact hQ H' (f93.no2' kk)

theorem c5 (htab : WordsH H) (hs : s.size ≤ 1048576) (hQ : ∀ H', Kp No H H' → Q true H') : F5 s H Q := by
  have hb := bytes_len s
  have hwz := htab.size
  -- from the words on
  have two : ∀ y : Bool, y = (decide (1 ≤ s.size) && decide (s.size ≤ 32) && okL 0 (bytes s)) → F5_2 Q s y H := fun y hy => by
    intro H49 e49
    have k49 : Kp No H H49 := (Kp.refl No H).push' e49
    have r49 := Row.new' e49
    refine ⟨r49.mayw (by decide), fun H51 e51 => ?_⟩
    have w51 : Row H51 H.size 52 (words.map Value.string) := r49.fill' e51 rfl
    have k51 : Kp No H H51 := k49.sets' e51 (.inr (Nat.le_refl _))
    intro X hX
    suffices G : ∀ (d i : Nat) (z : Bool), i + d = 16 → z = (y && !((words.take i).any fun w => seq w s)) → X z (i : Int) H51 from G 16 0 y (by omega) (by simp)
    intro d
    induction d with
    | zero =>
      intro i z hi hz
      rw [List.take_of_length_le (by rw [words_len]; omega)] at hz
      refine hX _ _ _ ⟨fun h => absurd (of_decide_eq_true h) (by omega), fun _ => ?_⟩
      have hznm : z = nm s := by
        rw [hz, hy]
        unfold nm
        rw [okL_nm, hb]
        congr 1
        congr 1
        rw [Bool.eq_iff_iff, List.any_eq_true, List.contains_iff_mem, ← words_bytes]
        constructor
        · rintro ⟨w, hw, e⟩
          rw [← seq_iff.1 e]
          exact List.mem_map_of_mem hw
        · intro h
          obtain ⟨w, hw, e⟩ := List.mem_map.1 h
          exact ⟨w, hw, seq_iff.2 (bytes_inj e)⟩
      rw [hznm]
      refine c7 fun H70 row70 m70 k70 => ⟨fun h => (by cases h), fun _ => c17 ((htab.no k51).no k70) ?_⟩
      rw [nm_x]
      refine ⟨fun h => (by cases h), fun _ => c17 ((htab.no k51).no k70) ?_⟩
      rw [nm_INT]
      have s51 := k51.size
      exact c5_11 ((htab.no k51).no k70) ⟨row70, m70, ⟨by simp [ents], fun e he => by cases he⟩, fun z hz => (by cases hz), by simp⟩ hs (k51.no2' k70) (fun x hx => by omega) hQ
    | succ d ih =>
      intro i z hi hz
      have hil : i < words.length := by rw [words_len]; omega
      have hw : cell H51 (Addr.add ⟨H.size, 0, none⟩ (((i : Int)).toNat * 1)) = some (.string (words[i]'hil)) := by
        rw [show ((i : Int)).toNat * 1 = i from by omega, add_mk, Nat.zero_add]
        exact w51.cell_of (by rw [List.getElem?_map, List.getElem?_eq_getElem hil]; rfl)
      have htk : words.take (i + 1) = words.take i ++ [words[i]'hil] := by simp
      generalize words[i]'hil = w at hw htk
      refine hX _ _ _ ⟨fun _ => ⟨by omega, by omega, w, hw, fun he => ?_, fun he => ?_⟩, fun h => absurd (of_decide_eq_false h) (by omega)⟩
      · unfold F5_10
        rw [wr (by omega) (by omega)]
        refine ih (i + 1) false (by omega) ?_
        rw [htk, List.any_append]
        simp [he]
      · unfold F5_10
        rw [wr (by omega) (by omega)]
        refine ih (i + 1) z (by omega) ?_
        rw [hz, htk, List.any_append]
        simp [he]
  -- the bytes
  have one : ∀ y : Bool, y = (decide (1 ≤ s.size) && decide (s.size ≤ 32)) → F5_1 Q s y H := fun y hy => by
    intro X hX
    obtain ⟨R, hR⟩ : ∃ R, R = (y && okL 0 (bytes s)) := ⟨_, rfl⟩
    suffices G : ∀ (d i : Nat) (z : Bool), i + d = s.size → (z && okL i ((bytes s).drop i)) = R → X z (i : Int) H from G s.size 0 y (by omega) (by rw [List.drop_zero, hR])
    intro d
    induction d with
    | zero =>
      intro i z hi hz
      rw [List.drop_eq_nil_of_le (by omega)] at hz
      refine hX _ _ _ ⟨fun h => absurd (of_decide_eq_true h) (by omega), fun _ => two z ?_⟩
      rw [← hy, ← hR, ← hz]
      simp [okL]
    | succ d ih =>
      intro i z hi hz
      have hlt : i < s.size := by omega
      have hdr : (bytes s).drop i = (bytes s)[i]'(by omega) :: (bytes s).drop (i + 1) := List.drop_eq_getElem_cons (by omega)
      have hbt := bt_get hlt
      rw [hdr] at hz
      generalize (bytes s)[i]'(by omega) = b at hz hbt
      have hi0 : decide ((i : Int) = 0) = decide (i = 0) := decide_eq_decide.2 (by omega)
      -- the flag goes on
      have seven : ∀ q : Bool, q = !(letterN b || ((decide (48 ≤ b) && decide (b ≤ 57)) && decide (i ≠ 0))) → F5_7 Q X s z (i : Int) q H := fun q hq => by
        unfold okL at hz
        refine ⟨fun h => ?_, fun h => ?_⟩
        · unfold F5_4
          rw [wr (by omega) (by omega)]
          refine ih (i + 1) false (by omega) ?_
          rw [h] at hq
          have : (letterN b || ((decide (48 ≤ b) && decide (b ≤ 57)) && decide (i ≠ 0))) = false := notT hq.symm
          rw [this] at hz
          rw [← hz]
          simp
        · unfold F5_4
          rw [wr (by omega) (by omega)]
          refine ih (i + 1) z (by omega) ?_
          rw [h] at hq
          have : (letterN b || ((decide (48 ≤ b) && decide (b ≤ 57)) && decide (i ≠ 0))) = true := notF hq.symm
          rw [this, Bool.true_and] at hz
          exact hz
      have six : ∀ y24 y29 : Bool, y24 = (decide (48 ≤ b) && decide (b ≤ 57)) → y29 = letterN b → F5_6 Q X s z (i : Int) y24 y29 H := fun y24 y29 h24 h29 => by
        refine ⟨fun h => ⟨fun h2 => seven _ ?_, fun h2 => seven _ ?_⟩, fun h => seven _ ?_⟩
        · rw [← h29, ← h24, notT h, notT h2]; rfl
        · rw [← h29, ← h24, notT h, notF h2, hi0]
          by_cases e : i = 0
          · rw [decide_eq_true e, decide_eq_false (fun h => h e)]; rfl
          · rw [decide_eq_false e, decide_eq_true e]; rfl
        · rw [← h29, notF h]; rfl
      have five : ∀ y20 : Bool, y20 = (decide (48 ≤ b) && decide (b ≤ 57)) → F5_5 Q X s z (i : Int) (b : Int) y20 H := fun y20 h20 => by
        have t : ((97 ≤ b ∧ b ≤ 122) ∨ (65 ≤ b ∧ b ≤ 90) ∨ b = 95) → F5_6 Q X s z (i : Int) y20 true H := fun h => six y20 true h20 (letterN_iff.2 h).symm
        have l : ¬ (97 ≤ b ∧ b ≤ 122) → ¬ (65 ≤ b ∧ b ≤ 90) → F5_6 Q X s z (i : Int) y20 (decide ((b : Int) = 95)) H := fun h1 h2 => six y20 _ h20 (Bool.eq_iff_iff.2 ⟨fun h => letterN_iff.2 (by have := of_decide_eq_true h; omega), fun h => decide_eq_true (by have := letterN_iff.1 h; omega)⟩)
        refine ⟨fun h1 => ⟨fun h2 => t ?_, fun h2 => ⟨fun h3 => ⟨fun h4 => t ?_, fun h4 => l ?_ ?_⟩, fun h3 => l ?_ ?_⟩⟩, fun h1 => ⟨fun h3 => ⟨fun h4 => t ?_, fun h4 => l ?_ ?_⟩, fun h3 => l ?_ ?_⟩⟩ <;>
        · simp only [decide_eq_true_eq, decide_eq_false_iff_not] at *
          omega
      refine hX _ _ _ ⟨fun _ => ⟨by omega, by omega, ?_⟩, fun h => absurd (of_decide_eq_false h) (by omega)⟩
      rw [show ((i : Int)).toNat = i from by omega, hbt]
      refine ⟨fun h => five _ ?_, fun h => five _ ?_⟩
      · rw [decide_eq_true (show 48 ≤ b by have := of_decide_eq_true h; omega), Bool.true_and]
        exact decide_eq_decide.2 (by omega)
      · rw [decide_eq_false (show ¬ 48 ≤ b by have := of_decide_eq_false h; omega), Bool.false_and]
  refine ⟨fun h => one _ ?_, fun h => one _ ?_⟩
  · rw [decide_eq_true (show 1 ≤ s.size by have := of_decide_eq_true h; omega), Bool.true_and]
    exact decide_eq_decide.2 (by omega)
  · rw [decide_eq_false (show ¬ 1 ≤ s.size by have := of_decide_eq_false h; omega), Bool.false_and]
end
end Go.Hw
