/- What is written is read back, whatever blanks stand between the tokens: over lists of bytes. Own work of this session. -/
import Derived.Test.YtbhfkpdalilhcaaDoorT9
set_option linter.unusedVariables false
namespace Go.Hw
open Go

abbrev Bl (g : List Nat) : Prop := g.all blankN = true
/-- The head of a text is no blank; is no part of a word. -/
def NB (t : List Nat) : Prop := ∀ b, t.head? = some b → blankN b = false
def NP (t : List Nat) : Prop := ∀ b, t.head? = some b → partN' b = false

theorem skipB_app {g t : List Nat} (hg : Bl g) (ht : NB t) : skipB (g ++ t) = t := by
  rw [skipB_at (g ++ t) g.length (by rw [List.take_left]; exact hg) (fun b hb => ht b (by
    rw [List.getElem?_append_right (Nat.le_refl _), Nat.sub_self] at hb
    rw [List.head?_eq_getElem?]; exact hb)) (by simp), List.drop_left]
theorem wLen_app {w t : List Nat} (hw : w.all partN' = true) (ht : NP t) : wLen (w ++ t) = w.length :=
  wLen_at (w ++ t) w.length (by rw [List.take_left]; exact hw) (fun b hb => ht b (by
    rw [List.getElem?_append_right (Nat.le_refl _), Nat.sub_self] at hb
    rw [List.head?_eq_getElem?]; exact hb)) (by simp)
theorem tokLen_word {w t : List Nat} (hw : w.all partN' = true) (h0 : w ≠ []) (ht : NP t) : tokLen (w ++ t) = w.length := by
  have hl : w.length ≠ 0 := fun e => h0 (List.eq_nil_of_length_eq_zero e)
  unfold tokLen
  rw [wLen_app hw ht, if_neg hl]
theorem tl_word {w t : List Nat} (hw : w.all partN' = true) (h0 : w ≠ []) (ht : NP t) : tl (w ++ t) = w := by
  unfold tl
  rw [tokLen_word hw h0 ht, List.take_left]
theorem nxt_word {w t : List Nat} (hw : w.all partN' = true) (h0 : w ≠ []) (ht : NP t) : nxt (w ++ t) = skipB t := by
  unfold nxt
  rw [tokLen_word hw h0 ht, List.drop_left]
theorem sign_np {b : Nat} (h : signN b = true) : partN' b = false ∧ blankN b = false := by
  unfold signN at h
  simp only [Bool.or_eq_true, decide_eq_true_eq] at h
  rcases h with (rfl | rfl) | rfl
  · exact ⟨rfl, rfl⟩
  · exact ⟨rfl, rfl⟩
  · exact ⟨rfl, rfl⟩
theorem tokLen_sign {b : Nat} {t : List Nat} (h : signN b = true) : tokLen (b :: t) = 1 := by
  have h0 : wLen (b :: t) = 0 := wLen_at _ 0 rfl (fun x hx => by
    obtain rfl : b = x := by simpa using hx
    exact (sign_np h).1) (Nat.zero_le _)
  unfold tokLen
  rw [if_pos h0]
  show (if signN b then 1 else 0) = 1
  rw [if_pos h]
theorem tl_sign {b : Nat} {t : List Nat} (h : signN b = true) : tl (b :: t) = [b] := by
  unfold tl
  rw [tokLen_sign h]; rfl
theorem nxt_sign {b : Nat} {t : List Nat} (h : signN b = true) : nxt (b :: t) = skipB t := by
  unfold nxt
  rw [tokLen_sign h]; rfl
theorem part_nb {b : Nat} (h : partN' b = true) : blankN b = false := by
  have e : ∀ k : Nat, partN' k = false → decide (b = k) = false := fun k hk => decide_eq_false (fun e => by subst e; rw [h] at hk; cases hk)
  unfold blankN
  rw [e 32 rfl, e 9 rfl, e 10 rfl, e 13 rfl]; rfl
theorem blank_np {b : Nat} (h : blankN b = true) : partN' b = false := by
  cases hp : partN' b with
  | false => rfl
  | true => rw [part_nb hp] at h; cases h
theorem NP.gap {g t : List Nat} (hg : Bl g) (ht : g = [] → NP t) : NP (g ++ t) := by
  cases g with
  | nil => exact ht rfl
  | cons b l =>
    intro x hx
    obtain rfl : b = x := by simpa using hx
    exact blank_np (List.all_eq_true.1 hg b (List.mem_cons_self ..))
theorem NP.sign {b : Nat} {t : List Nat} (h : signN b = true) : NP (b :: t) := fun x hx => by
  obtain rfl : b = x := by simpa using hx
  exact (sign_np h).1
theorem NB.sign {b : Nat} {t : List Nat} (h : signN b = true) : NB (b :: t) := fun x hx => by
  obtain rfl : b = x := by simpa using hx
  exact (sign_np h).2
theorem NB.word {w t : List Nat} (hw : w.all partN' = true) (h0 : w ≠ []) : NB (w ++ t) := by
  cases w with
  | nil => exact absurd rfl h0
  | cons b l =>
    intro x hx
    obtain rfl : b = x := by simpa using hx
    rw [List.all_cons, Bool.and_eq_true] at hw
    exact part_nb hw.1

theorem nm_part {s : ByteArray} (h : nm s = true) : (bytes s).all partN' = true ∧ bytes s ≠ [] := by
  unfold nm at h
  cases hb : bytes s with
  | nil => rw [hb] at h; cases h
  | cons b t =>
    rw [hb] at h
    unfold nmL at h
    simp only [Bool.and_eq_true] at h
    exact ⟨h.1.2, fun h => by cases h⟩
theorem wordN_word {w t : List Nat} (hw : w.all partN' = true) (h0 : w ≠ []) : wordN (w ++ t) = true := by
  cases w with
  | nil => exact absurd rfl h0
  | cons b l =>
    rw [List.all_cons, Bool.and_eq_true] at hw
    exact hw.1
theorem ofBytes_bytes (s : ByteArray) : ofBytes (bytes s) = s := bytes_inj (bytes_of (by
  rw [List.all_eq_true]
  intro b hb
  exact decide_eq_true (bytes_lt hb)))
theorem tok_word {s : ByteArray} {t : List Nat} (hw : (bytes s).all partN' = true) (h0 : bytes s ≠ []) (ht : NP t) : tok (bytes s ++ t) = s := by
  unfold tok
  rw [tl_word hw h0 ht, ofBytes_bytes]
theorem kw_part {k : Int} : (bytes (kw k)).all partN' = true ∧ bytes (kw k) ≠ [] := by
  unfold kw
  split
  · exact ⟨rfl, fun h => by cases h⟩
  · split
    · exact ⟨rfl, fun h => by cases h⟩
    · exact ⟨rfl, fun h => by cases h⟩
theorem kindT_kw {k : Int} (h1 : 1 ≤ k) (h3 : k ≤ 3) : kindT (kw k) = k := by
  have n1 : seq S_STR S_INT = false := seq_false (by decide)
  have n2 : seq S_BOOL S_INT = false := seq_false (by decide)
  have n3 : seq S_BOOL S_STR = false := seq_false (by decide)
  have : k = 1 ∨ k = 2 ∨ k = 3 := by omega
  unfold kindT
  rcases this with rfl | rfl | rfl
  · rw [show kw 1 = S_INT from rfl, seq_refl]; rfl
  · rw [show kw 2 = S_STR from rfl, n1, seq_refl]; rfl
  · rw [show kw 3 = S_BOOL from rfl, n2, n3, seq_refl]; rfl

/-- The attributes, spelt with whatever blanks; 'f': none stands ahead. -/
inductive Body : Bool → List (ByteArray × Int) → List Nat → Prop
  | done {f : Bool} {g g' : List Nat} : Bl g → Bl g' → Body f [] (g ++ 41 :: g')
  | first {a : ByteArray × Int} {l : List (ByteArray × Int)} {g t : List Nat} : Bl g → g ≠ [] → Body false l t → Body true (a :: l) (bytes a.1 ++ (g ++ (bytes (kw a.2) ++ t)))
  | more {a : ByteArray × Int} {l : List (ByteArray × Int)} {g1 g2 g t : List Nat} : Bl g1 → Bl g2 → Bl g → g ≠ [] → Body false l t → Body false (a :: l) (g1 ++ 44 :: (g2 ++ (bytes a.1 ++ (g ++ (bytes (kw a.2) ++ t)))))

theorem Body.np {l : List (ByteArray × Int)} {t : List Nat} (h : Body false l t) : NP t := by
  cases h with
  | done h1 h2 => exact NP.gap h1 fun _ => NP.sign rfl
  | more h1 h2 h3 h4 h5 => exact NP.gap h1 fun _ => NP.sign rfl

/-- One attribute, read. -/
theorem attrP_one {a : ByteArray × Int} {A : List (ByteArray × Int)} {g t : List Nat} (ha : nm a.1 = true ∧ a.1 ≠ S_time ∧ 1 ≤ a.2 ∧ a.2 ≤ 3) (hne : ∀ b ∈ A, b.1 ≠ a.1) (hl : A.length < 16) (hg : Bl g) (h0 : g ≠ []) (ht : NP t) :
    attrP (bytes a.1 ++ (g ++ (bytes (kw a.2) ++ t))) A = (0, skipB t, A ++ [a]) := by
  obtain ⟨p1, p2⟩ := nm_part ha.1
  obtain ⟨k1, k2⟩ := kw_part (k := a.2)
  have np : NP (g ++ (bytes (kw a.2) ++ t)) := NP.gap hg fun e => absurd e h0
  have e1 : nxt (bytes a.1 ++ (g ++ (bytes (kw a.2) ++ t))) = bytes (kw a.2) ++ t := by rw [nxt_word p1 p2 np, skipB_app hg (NB.word k1 k2)]
  unfold attrP
  rw [if_neg (by rw [wordN_word p1 p2]; decide), if_neg (by omega), tok_word p1 p2 np, if_neg (by rw [ha.1, seq_false ha.2.1]; decide), if_neg ?_, e1, tok_word k1 k2 ht, kindT_kw ha.2.2.1 ha.2.2.2, if_neg (by omega), nxt_word k1 k2 ht]
  intro h
  obtain ⟨b, hb, he⟩ := List.any_eq_true.1 h
  exact hne b hb (seq_iff.1 he)

theorem loopP_body : ∀ (As A0 : List (ByteArray × Int)) (n : Nat) (t : List Nat), n + A0.length = 17 → GoodA (A0 ++ As) → Body A0.isEmpty As t → (loopP n (skipB t) A0).1 = 0 ∧ (loopP n (skipB t) A0).2.2 = A0 ++ As
  | [], A0, n, t, hn, hA, hb => by
    have h16 := hA.len
    rw [List.append_nil] at h16
    obtain ⟨m, rfl⟩ : ∃ m, n = m + 1 := ⟨n - 1, by omega⟩
    generalize hf : A0.isEmpty = f at hb
    generalize hAs : ([] : List (ByteArray × Int)) = As at hb
    cases hb with
    | done h1 h2 =>
      rename_i g g'
      rw [skipB_app h1 (NB.sign rfl)]
      unfold loopP
      have : skipB g' = [] := by
        have := skipB_app (g := g') (t := []) h2 (fun b hb => by cases hb)
        rwa [List.append_nil] at this
      rw [if_pos (tl_sign rfl), nxt_sign rfl, this, if_pos rfl]
      exact ⟨rfl, by simp⟩
    | first => cases hAs
    | more => cases hAs
  | a :: l, A0, n, t, hn, hA, hb => by
    have hlen := hA.len
    have hl16 : A0.length + l.length + 1 ≤ 16 := by
      rw [List.length_append] at hlen
      have : (a :: l).length = l.length + 1 := rfl
      omega
    obtain ⟨m, rfl⟩ : ∃ m, n = m + 1 := ⟨n - 1, by omega⟩
    have hok := hA.ok a (by simp)
    have hne : ∀ b ∈ A0, b.1 ≠ a.1 := fun b hb => (List.pairwise_append.1 hA.ne).2.2 b hb a (List.mem_cons_self ..)
    obtain ⟨p1, p2⟩ := nm_part hok.1
    have hA' : GoodA ((A0 ++ [a]) ++ l) := by rw [List.append_assoc]; exact hA
    have no41 : ∀ t, NP t → tl (bytes a.1 ++ t) ≠ [41] := fun t ht e => by
      rw [tl_word p1 p2 ht] at e
      rw [e] at p1
      cases p1
    have ne : (A0 ++ [a]).isEmpty = false := by simp
    generalize hf : A0.isEmpty = f at hb
    generalize hAs : a :: l = As at hb
    cases hb with
    | done => cases hAs
    | first hg h0 hb =>
      injection hAs with e1 e2
      subst e1 e2
      have hA0 : A0 = [] := List.isEmpty_iff.1 hf
      rename_i g t'
      have np : NP (g ++ (bytes (kw a.2) ++ t')) := NP.gap hg fun e => absurd e h0
      rw [show skipB (bytes a.1 ++ _) = bytes a.1 ++ _ from skipB_app (g := []) rfl (NB.word p1 p2)]
      unfold loopP
      rw [if_neg (no41 _ np), if_pos hA0, attrP_one hok hne (by omega) hg h0 hb.np, if_pos rfl]
      have ih := loopP_body l (A0 ++ [a]) m _ (by simp; omega) hA' (by rw [ne]; exact hb)
      rw [List.append_assoc] at ih
      exact ih
    | more h1 h2 hg h0 hb =>
      injection hAs with e1 e2
      subst e1 e2
      have hA0 : A0 ≠ [] := fun e => by rw [e] at hf; cases hf
      rw [skipB_app h1 (NB.sign rfl)]
      unfold loopP
      rw [if_neg (by rw [tl_sign rfl]; decide), if_neg hA0, if_pos (tl_sign rfl), nxt_sign rfl, skipB_app h2 (NB.word p1 p2), attrP_one hok hne (by omega) hg h0 hb.np, if_pos rfl]
      have ih := loopP_body l (A0 ++ [a]) m _ (by simp; omega) hA' (by rw [ne]; exact hb)
      rw [List.append_assoc] at ih
      exact ih

/-- A declaration, spelt with whatever blanks, is read as what it is. -/
theorem declP_spelt {name : ByteArray} {A : List (ByteArray × Int)} {g0 g1 g2 g3 t : List Nat} (hn : nm name = true) (hA : GoodA A) (h0 : Bl g0) (h1 : Bl g1) (h1' : g1 ≠ []) (h2 : Bl g2) (h3 : Bl g3) (hb : Body true A t) :
    (declP (g0 ++ (bytes S_TYPE ++ (g1 ++ (bytes name ++ (g2 ++ 40 :: (g3 ++ t))))))).1 = 0 ∧ (declP (g0 ++ (bytes S_TYPE ++ (g1 ++ (bytes name ++ (g2 ++ 40 :: (g3 ++ t))))))).2.2 = (name, A) := by
  obtain ⟨p1, p2⟩ := nm_part hn
  have t1 : (bytes S_TYPE).all partN' = true := rfl
  have t2 : bytes S_TYPE ≠ [] := fun h => by cases h
  have np1 : NP (g1 ++ (bytes name ++ (g2 ++ 40 :: (g3 ++ t)))) := NP.gap h1 fun e => absurd e h1'
  have np2 : NP (g2 ++ 40 :: (g3 ++ t)) := NP.gap h2 fun _ => NP.sign rfl
  have e0 : skipB (g0 ++ (bytes S_TYPE ++ (g1 ++ (bytes name ++ (g2 ++ 40 :: (g3 ++ t)))))) = bytes S_TYPE ++ (g1 ++ (bytes name ++ (g2 ++ 40 :: (g3 ++ t)))) := skipB_app h0 (NB.word t1 t2)
  have e1 : nxt (bytes S_TYPE ++ (g1 ++ (bytes name ++ (g2 ++ 40 :: (g3 ++ t))))) = bytes name ++ (g2 ++ 40 :: (g3 ++ t)) := by rw [nxt_word t1 t2 np1, skipB_app h1 (NB.word p1 p2)]
  have e2 : nxt (bytes name ++ (g2 ++ 40 :: (g3 ++ t))) = 40 :: (g3 ++ t) := by rw [nxt_word p1 p2 np2, skipB_app h2 (NB.sign rfl)]
  have e3 : nxt (40 :: (g3 ++ t)) = skipB (g3 ++ t) := nxt_sign rfl
  -- the blanks ahead of the body
  have e4 : skipB (g3 ++ t) = skipB t := by
    unfold skipB
    rw [List.dropWhile_append]
    have : List.dropWhile blankN g3 = [] := by
      have := skipB_app (g := g3) (t := []) h3 (fun b hb => by cases hb)
      rwa [List.append_nil] at this
    rw [this]
    rfl
  unfold declP
  simp only []
  rw [e0, if_neg (by rw [tl_word t1 t2 np1]; exact fun h => h rfl), e1, if_neg (by rw [wordN_word p1 p2]; decide), tok_word p1 p2 np2, if_neg (by rw [hn]; decide), e2, if_neg (by rw [tl_sign rfl]; exact fun h => h rfl), e3, e4]
  have ih := loopP_body A [] 17 t rfl (by simpa using hA) hb
  rw [List.nil_append] at ih
  exact ⟨ih.1, by rw [ih.2]⟩

/-- What is printed is spelt so. -/
theorem map_nat_append (a b : List UInt8) : (a ++ b).map UInt8.toNat = a.map UInt8.toNat ++ b.map UInt8.toNat := List.map_append
theorem bytes_mk (l : List UInt8) : bytes ⟨l.toArray⟩ = l.map UInt8.toNat := by simp [bytes]
theorem prA_body : ∀ {A : List (ByteArray × Int)} {f : Bool}, Body f A ((prA f A).map UInt8.toNat ++ [41])
  | [], f => Body.done (g := []) (g' := []) rfl rfl
  | a :: l, f => by
    have ih := prA_body (A := l) (f := false)
    have e : ((a.1 ++ S_______) ++ kw a.2).data.toList.map UInt8.toNat = bytes a.1 ++ ([32] ++ bytes (kw a.2)) := by
      show bytes ((a.1 ++ S_______) ++ kw a.2) = _
      rw [bytes_app, bytes_app, List.append_assoc]
      rfl
    cases f with
    | true =>
      have := Body.first (a := a) (g := [32]) rfl (fun h => by cases h) ih
      show Body true (a :: l) (([] ++ (((a.1 ++ S_______) ++ kw a.2).data.toList ++ prA false l)).map UInt8.toNat ++ [41])
      rw [List.nil_append, map_nat_append, e]
      simp only [List.append_assoc]
      exact this
    | false =>
      have := Body.more (a := a) (g1 := []) (g2 := [32]) (g := [32]) rfl rfl rfl (fun h => by cases h) ih
      show Body false (a :: l) ((S______.data.toList ++ (((a.1 ++ S_______) ++ kw a.2).data.toList ++ prA false l)).map UInt8.toNat ++ [41])
      rw [map_nat_append, map_nat_append, e]
      simp only [List.append_assoc]
      exact this
theorem printT_bytes (name : ByteArray) (A : List (ByteArray × Int)) : bytes (printT name A) = [] ++ (bytes S_TYPE ++ ([32] ++ (bytes name ++ ([32] ++ 40 :: ([] ++ ((prA true A).map UInt8.toNat ++ [41])))))) := by
  unfold printT
  rw [bytes_mk, map_nat_append, map_nat_append]
  have e : ((S_TYPE_ ++ name) ++ S_____).data.toList.map UInt8.toNat = bytes S_TYPE ++ ([32] ++ (bytes name ++ [32, 40])) := by
    show bytes ((S_TYPE_ ++ name) ++ S_____) = _
    rw [bytes_app, bytes_app, List.append_assoc]
    rfl
  rw [e]
  simp only [List.append_assoc, List.nil_append]
  rfl
theorem printT_size {name : ByteArray} {A : List (ByteArray × Int)} (hn : nm name = true) (hA : GoodA A) : (printT name A).size ≤ 900 := by
  have h1 := prA_len (l := A) (f := true) fun a ha => (hA.ok a ha).1
  have h2 := nm_size hn
  have h3 := hA.len
  have e : (printT name A).size = ((S_TYPE_ ++ name) ++ S_____).size + ((prA true A).length + 1) := by
    rw [← bytes_len]
    unfold printT
    rw [bytes_mk, List.length_map, List.length_append, List.length_append]
    rfl
  rw [e, size_app, size_app, show S_TYPE_.size = 5 from rfl, show S_____.size = 2 from rfl]
  omega
theorem declP_print {name : ByteArray} {A : List (ByteArray × Int)} (hn : nm name = true) (hA : GoodA A) : (declP (bytes (printT name A))).1 = 0 ∧ (declP (bytes (printT name A))).2.2 = (name, A) := by
  rw [printT_bytes]
  exact declP_spelt hn hA rfl rfl (fun h => by cases h) rfl rfl prA_body
end Go.Hw
