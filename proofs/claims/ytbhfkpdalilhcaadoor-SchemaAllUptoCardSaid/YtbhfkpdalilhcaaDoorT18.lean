/- The document's tokens. Own work of this session. -/
import Derived.Test.YtbhfkpdalilhcaaDoorT17
set_option linter.unusedVariables false
namespace Go.Hw
open Go

def tkF : Fmt (ByteArray × Int × Bool) 123 3 := ⟨fun x => [.string x.1, .int .i64 x.2.1, .bool x.2.2], fun _ => rfl, by
  intro x v hv
  simp only [List.mem_cons, List.not_mem_nil, or_false] at hv
  rcases hv with rfl | rfl | rfl <;> rfl, by decide⟩
/-- A token as it is laid. -/
def tkOf (s : ByteArray) (r : List Nat) : ByteArray × Int × Bool := (tok r, ((s.size - r.length : Nat) : Int), wordN r)
section
variable {H : Hp} {s : ByteArray}
theorem Tk.suf {r b : List Nat} {L : List (List Nat)} (h : Tk r L) (hr : r <:+ b) : ∀ x ∈ L, x <:+ b := by
  induction h with
  | last _ => intro x hx; rw [List.mem_singleton] at hx; subst hx; exact hr
  | more _ _ ih =>
    intro x hx
    rcases List.mem_cons.1 hx with rfl | hx
    · exact hr
    · exact ih ((nxt_suffix _).trans hr) x hx
/-- A token is put behind the others. -/
theorem put75 {H0 : Hp} {sl : Sl} {P : List (List Nat)} {R : List Nat} {x : ByteArray × Int × Bool} {K : Sl → Hp → Prop} (hl : Lst tkF H sl (P.map (tkOf s))) (hb : ∀ b, sl.at b → H0.size ≤ b) (k : Kp No H0 H) (hx : x = tkOf s R) (hP : P.length ≤ 100000)
    (hK : ∀ r H', Lst tkF H' r ((P ++ [R]).map (tkOf s)) → (∀ b, r.at b → H0.size ≤ b) → Kp No H0 H' → K r H') :
    ∀ H33 : Hp, H33 = Array.push H (.cells (tkF.f x).toArray 123) → AppendF H33 123 3 32 #[.string E, .int .i64 0, .bool false] sl (Sl.mk (some ⟨H.size, 0, none⟩) 1 1).b (Sl.mk (some ⟨H.size, 0, none⟩) 1 1).n K := by
  intro H33 e33
  have k33 : Kp No H H33 := (Kp.refl _ _).push' e33
  have s0 := k.size
  have s33 := size_push' e33
  have hbox : Row H33 H.size 123 (tkF.f x) := Row.new' e33
  refine Lst.append1 (F := tkF) (hl.kp k33 fun _ _ => id) hbox rfl (by rw [List.length_map]; omega) (by rw [List.length_map]; omega) fun r H' hr hk ha => ?_
  refine hK r H' (by rw [List.map_append, List.map_cons, List.map_nil, ← hx]; exact hr) (fun b h => (ha b h).elim (hb b) fun h => by omega) ?_
  exact (k.trans (k33.mono fun _ _ h => h.elim) fun b h => .inl h).trans hk fun b h => .inr (hb b h)
theorem c75 {Q : Sl → Hp → Prop} (hs : s.size ≤ 4096) (hQ : ∀ sl L H', Tk (skipB (bytes s)) L → Lst tkF H' sl (L.map (tkOf s)) → (∀ b, sl.at b → H.size ≤ b) → L.length ≤ 5000 → Kp No H H' → Q sl H') : F75 s H Q := by
  have hbl := bytes_len s
  intro X2 hX2
  suffices G : ∀ (d i : Nat) (sl : Sl) (P : List (List Nat)) (H' : Hp), i + d = s.size → Lst tkF H' sl (P.map (tkOf s)) → (∀ b, sl.at b → H.size ≤ b) → P.length ≤ i → (∀ L, Tk (skipB ((bytes s).drop i)) L → Tk (skipB (bytes s)) (P ++ L)) → Kp No H H' → X2 sl (i : Int) H' from
    G s.size 0 Sl.nil [] H (by omega) (Lst.nil _ _) (fun b h => by cases h) (Nat.le_refl _) (fun L h => h) (Kp.refl _ _)
  intro d
  induction d using Nat.strongRecOn with
  | _ d ih =>
  intro i sl P H' hi hl hb hP hT k
  have dl : ((bytes s).drop i).length = s.size - i := by rw [List.length_drop]; omega
  have it : ((i : Nat) : Int).toNat = i := by omega
  -- the end
  have fin : skipB ((bytes s).drop i) = (bytes s).drop i → tl ((bytes s).drop i) = [] → F75_1 Q sl (i : Int) H' := fun e1 e2 => by
    refine put75 (x := (E, (i : Int), false)) (R := (bytes s).drop i) hl hb k ?_ (by omega) fun r H2 hr hb2 k2 => hQ r _ H2 (hT _ (by rw [e1]; exact .last e2)) hr hb2 (by rw [List.length_append]; simp; omega) k2
    unfold tkOf
    have w0 : wordN ((bytes s).drop i) = false := by
      cases e : wordN ((bytes s).drop i) with
      | false => rfl
      | true => exact absurd e2 (wordN_tl e)
    rw [w0, dl, show s.size - (s.size - i) = i from by omega]
    have : tok ((bytes s).drop i) = E := by unfold tok; rw [e2]; rfl
    rw [this]
  by_cases h0 : i = s.size
  · refine hX2 _ _ _ ⟨fun h => absurd (of_decide_eq_true h) (by omega), fun _ => fin ?_ ?_⟩
    · have : (bytes s).drop i = [] := List.drop_eq_nil_of_le (by omega)
      rw [this]; rfl
    · have : (bytes s).drop i = [] := List.drop_eq_nil_of_le (by omega)
      rw [this]; rfl
  have hlt : i < s.size := by omega
  have hd : (bytes s).drop i = (bytes s)[i]'(by omega) :: (bytes s).drop (i + 1) := List.drop_eq_getElem_cons (by omega)
  have hext : ∀ j, i ≤ j → bytes (s.extract i j) = ((bytes s).drop i).take (j - i) := fun j hj => by rw [bytes_extract, List.drop_take]
  refine hX2 _ _ _ ⟨fun _ => ⟨by omega, by omega, ?_⟩, fun h => absurd (of_decide_eq_false h) (by omega)⟩
  rw [it, bt_get hlt]
  generalize hc : (bytes s)[i]'(by omega) = c at hd
  have wi : IntKind.i64.wrap ((i : Int) + 1) = ((i + 1 : Nat) : Int) := by rw [wr (by omega) (by omega)]; omega
  -- a blank
  have bl : blankN c = true → F75_3 Q X2 s sl (i : Int) (c : Int) true H' := fun hbk => by
    refine ⟨fun _ => ?_, fun h => (by cases h)⟩
    rw [wi]
    refine ih (d - 1) (by omega) (i + 1) sl P H' (by omega) hl hb (by omega) (fun L h => hT L ?_) k
    rw [hd]
    unfold skipB at h ⊢
    rw [List.dropWhile_cons, hbk]; exact h
  -- none
  have nb : blankN c = false → F75_3 Q X2 s sl (i : Int) (c : Int) false H' := fun hbk => by
    have hsk : skipB ((bytes s).drop i) = (bytes s).drop i := by
      rw [hd]; unfold skipB; rw [List.dropWhile_cons, hbk]; rfl
    have sg : signN c = true → F75_4 Q X2 s sl (i : Int) (i : Int) true H' := fun hsg => by
      have hp : partN' c = false := by
        have e : partN' c = (letterN c || digN c) := rfl
        unfold signN at hsg
        simp only [Bool.or_eq_true, decide_eq_true_eq] at hsg
        rw [e]
        rcases hsg with (h | h) | h <;> subst h <;> decide
      have htl : tokLen ((bytes s).drop i) = 1 := by
        unfold tokLen
        have : wLen ((bytes s).drop i) = 0 := by rw [hd]; unfold wLen; rw [List.takeWhile_cons, hp]; rfl
        rw [if_pos this, hd]
        show (if signN c then 1 else 0) = 1
        rw [if_pos hsg]
      have ht : tl ((bytes s).drop i) = [c] := by unfold tl; rw [htl, hd]; rfl
      have hn : nxt ((bytes s).drop i) = skipB ((bytes s).drop (i + 1)) := by unfold nxt; rw [htl, List.drop_drop]
      refine ⟨fun _ => ?_, fun h => (by cases h)⟩
      rw [wi]
      refine ⟨by omega, by omega, by omega, by omega, ?_⟩
      rw [it, show ((i + 1 : Nat) : Int).toNat = i + 1 from by omega]
      refine put75 (x := (s.extract i (i + 1), (i : Int), false)) (R := (bytes s).drop i) hl hb k ?_ (by omega) fun r H2 hr hb2 k2 => ih (d - 1) (by omega) (i + 1) r _ H2 (by omega) hr hb2 (by rw [List.length_append]; simp; omega) (fun L h => ?_) k2
      · unfold tkOf
        rw [dl, show s.size - (s.size - i) = i from by omega]
        have e1 : tok ((bytes s).drop i) = s.extract i (i + 1) := bytes_inj (by rw [bytes_tok (List.drop_suffix _ _), hext _ (by omega), show i + 1 - i = 1 from by omega, ht, hd]; rfl)
        have e2 : wordN ((bytes s).drop i) = false := by rw [hd]; exact hp
        rw [e1, e2]
      · rw [List.append_assoc]
        refine hT _ ?_
        rw [hsk]
        exact .more (by rw [ht]; exact List.cons_ne_nil _ _) (by rw [hn]; exact h)
    have nsg : signN c = false → F75_4 Q X2 s sl (i : Int) (i : Int) false H' := fun hsg => by
      refine ⟨fun h => (by cases h), fun _ => ?_⟩
      intro X6 hX6
      have five : ∀ j, i ≤ j → j ≤ s.size → (((bytes s).drop i).take (j - i)).all partN' = true → (∀ b, ((bytes s).drop i)[j - i]? = some b → partN' b = false) → F75_5 Q X2 s sl (i : Int) (j : Int) H' := fun j h1 h2 h3 h4 => by
        have hw : wLen ((bytes s).drop i) = j - i := wLen_at _ _ h3 h4 (by omega)
        refine ⟨fun e => ?_, fun e => ?_⟩
        · have e := of_decide_eq_true e
          have ej : j = i := by omega
          subst ej
          rw [Nat.sub_self] at hw
          refine fin hsk ?_
          unfold tl tokLen
          rw [if_pos hw, hd]
          show (c :: _).take (if signN c then 1 else 0) = []
          rw [if_neg (by rw [hsg]; decide)]; rfl
        · have e := of_decide_eq_false e
          have hij : i < j := by omega
          have htl : tokLen ((bytes s).drop i) = j - i := by unfold tokLen; rw [if_neg (by omega), hw]
          have ht : tl ((bytes s).drop i) = ((bytes s).drop i).take (j - i) := by unfold tl; rw [htl]
          have hn : nxt ((bytes s).drop i) = skipB ((bytes s).drop j) := by unfold nxt; rw [htl, List.drop_drop, show i + (j - i) = j from by omega]
          have hwd : wordN ((bytes s).drop i) = true := by
            rw [hd] at h3 ⊢
            obtain ⟨m, hm⟩ : ∃ m, j - i = m + 1 := ⟨j - i - 1, by omega⟩
            rw [hm, List.take_succ_cons, List.all_cons, Bool.and_eq_true] at h3
            exact h3.1
          refine ⟨by omega, by omega, by omega, by omega, ?_⟩
          rw [it, show ((j : Nat) : Int).toNat = j from by omega]
          refine put75 (x := (s.extract i j, (i : Int), true)) (R := (bytes s).drop i) hl hb k ?_ (by omega) fun r H2 hr hb2 k2 => ih (s.size - j) (by omega) j r _ H2 (by omega) hr hb2 (by rw [List.length_append]; simp; omega) (fun L h => ?_) k2
          · unfold tkOf
            rw [dl, show s.size - (s.size - i) = i from by omega, hwd]
            have e1 : tok ((bytes s).drop i) = s.extract i j := bytes_inj (by rw [bytes_tok (List.drop_suffix _ _), hext _ (by omega), ht])
            rw [e1]
          · rw [List.append_assoc]
            refine hT _ ?_
            rw [hsk]
            exact .more (wordN_tl hwd) (by rw [hn]; exact h)
      suffices G2 : ∀ (e j : Nat), j + e = s.size → i ≤ j → (((bytes s).drop i).take (j - i)).all partN' = true → X6 (j : Int) H' from G2 (s.size - i) i (by omega) (Nat.le_refl _) (by rw [Nat.sub_self]; rfl)
      intro e
      induction e with
      | zero =>
        intro j hj h1 h3
        refine hX6 _ _ ⟨fun h => absurd (of_decide_eq_true h) (by omega), fun _ => five j h1 (by omega) h3 fun b hb => ?_⟩
        have := (List.getElem?_eq_some_iff.1 hb).1; omega
      | succ e ih2 =>
        intro j hj h1 h3
        have hjl : j < s.size := by omega
        have gj : ((bytes s).drop i)[j - i]? = some ((bytes s)[j]'(by omega)) := by
          rw [List.getElem?_drop, show i + (j - i) = j from by omega]
          exact List.getElem?_eq_getElem (by omega)
        refine hX6 _ _ ⟨fun _ => ⟨by omega, by omega, ?_⟩, fun h => absurd (of_decide_eq_false h) (by omega)⟩
        rw [show ((j : Nat) : Int).toNat = j from by omega, bt_get hjl]
        refine c74 ⟨fun hp => ?_, fun hp => five j h1 (by omega) h3 fun b hb => ?_⟩
        · rw [wr (by omega) (by omega), show ((j : Int) + 1) = ((j + 1 : Nat) : Int) by omega]
          refine ih2 (j + 1) (by omega) (by omega) ?_
          rw [show j + 1 - i = (j - i) + 1 from by omega, List.take_add_one, List.all_append, h3, gj]
          simp [hp]
        · rw [gj] at hb; injection hb with hb; subst hb; exact hp
    have e : ∀ k : Nat, decide ((c : Int) = (k : Int)) = decide (c = k) := fun k => decide_eq_decide.2 (by omega)
    refine ⟨fun h => (by cases h), fun _ => ⟨fun h => sg ?_, fun h => ⟨fun h1 => sg ?_, fun h1 => ?_⟩⟩⟩
    · have h : decide (c = 40) = true := (e 40).symm.trans h
      unfold signN; rw [h]; rfl
    · have h1 : decide (c = 41) = true := (e 41).symm.trans h1
      unfold signN; rw [h1, Bool.or_true, Bool.true_or]
    · have h : decide (c = 40) = false := (e 40).symm.trans h
      have h1 : decide (c = 41) = false := (e 41).symm.trans h1
      have es : signN c = decide (c = 44) := by unfold signN; rw [h, h1]; rfl
      have e44 : decide ((c : Int) = 44) = decide (c = 44) := e 44
      show F75_4 Q X2 s sl (i : Int) (i : Int) (decide ((c : Int) = 44)) H'
      rw [e44]
      cases hg : decide (c = 44) with
      | true => exact sg (es.trans hg)
      | false => exact nsg (es.trans hg)
  have e : ∀ k : Nat, decide ((c : Int) = (k : Int)) = decide (c = k) := fun k => decide_eq_decide.2 (by omega)
  have eb : blankN c = (decide (c = 32) || decide (c = 9) || decide (c = 10) || decide (c = 13)) := rfl
  refine ⟨fun h => bl ?_, fun h => ⟨fun h1 => bl ?_, fun h1 => ⟨fun h2 => bl ?_, fun h2 => ?_⟩⟩⟩
  · have h : decide (c = 32) = true := (e 32).symm.trans h
    rw [eb, h]; rfl
  · have h1 : decide (c = 9) = true := (e 9).symm.trans h1
    rw [eb, h1]; simp
  · have h2 : decide (c = 10) = true := (e 10).symm.trans h2
    rw [eb, h2]; simp
  · have h : decide (c = 32) = false := (e 32).symm.trans h
    have h1 : decide (c = 9) = false := (e 9).symm.trans h1
    have h2 : decide (c = 10) = false := (e 10).symm.trans h2
    have eb' : blankN c = decide (c = 13) := by rw [eb, h, h1, h2]; rfl
    have e13 : decide ((c : Int) = 13) = decide (c = 13) := e 13
    show F75_3 Q X2 s sl (i : Int) (c : Int) (decide ((c : Int) = 13)) H'
    rw [e13]
    cases hg : decide (c = 13) with
    | true => exact bl (eb'.trans hg)
    | false => exact nb (eb'.trans hg)
end
end Go.Hw
