/- Contracts: the document's gate, its calls. Own work of this session. -/
import Derived.Test.YtjeponambmjhcaaC7
set_option linter.unusedVariables false
namespace Go.Hw
open Go

theorem map_erase {α β : Type} (f : α → β) : ∀ (l : List α) (i : Nat), (l.eraseIdx i).map f = (l.map f).eraseIdx i
  | [], _ => rfl
  | x :: l, 0 => rfl
  | x :: l, i + 1 => by simp [List.eraseIdx_cons_succ, map_erase f l i]
theorem erase_perm {α : Type} {x : α} : ∀ {l : List α} {i : Nat}, l[i]? = some x → (x :: l.eraseIdx i).Perm l
  | [], _, h => by simp at h
  | y :: l, 0, h => by simp at h; subst h; exact List.Perm.refl _
  | y :: l, i + 1, h => by
    have := erase_perm (l := l) (i := i) (by simpa using h)
    exact (List.Perm.swap y x _).trans (this.cons y)
theorem filter_erase {α : Type} {x : α} {p : α → Bool} (hp : p x = false) : ∀ {l : List α} {i : Nat}, l[i]? = some x → (l.eraseIdx i).filter p = l.filter p
  | [], _, h => by simp at h
  | y :: l, 0, h => by
    simp at h; subst h
    simp [hp]
  | y :: l, i + 1, h => by
    have := filter_erase hp (l := l) (i := i) (by simpa using h)
    simp only [List.eraseIdx_cons_succ, List.filter_cons, this]

def Fst (M : List HC) (b : Int) : Prop := (M = [] ∧ b = -1) ∨ ∃ (i : Nat) (x : HC), b = i ∧ M[i]? = some x ∧ (∀ y ∈ M.eraseIdx i, hlt x y) ∧ ∀ y ∈ M, x.e.tm ≤ y.e.tm

theorem c48' {H : Hp} {r : Nat} {l5 : List Value} {sl : Sl} {M : List HC} {Q : Int → Hp → Prop} (hr : Row H r 80 l5) (h2 : l5[2]? = some (Sl.v sl)) (h : Lst eF H sl (M.map HC.e)) (hl : M.length ≤ 1048576)
    (hi : M.Pairwise fun x y => x.num < y.num) (hQ : ∀ b, Fst M b → Q b H) : F48 (some ⟨r, 0, none⟩) H Q := by
  refine c48 hr h2 h (by simpa using hl) (fun e => hQ _ (.inl ⟨by simpa using e, rfl⟩)) fun i x hx ha hb => ?_
  rw [List.getElem?_map, Option.map_eq_some_iff] at hx
  obtain ⟨z, hz, rfl⟩ := hx
  have get : ∀ (j : Nat) (y : HC), M[j]? = some y → (M.map HC.e)[j]? = some y.e := fun j y hy => by rw [List.getElem?_map, hy]; rfl
  refine hQ _ (.inr ⟨i, z, rfl, hz, fun y hy => ?_, fun y hy => ?_⟩)
  · obtain ⟨j, hj, hy⟩ := List.mem_eraseIdx_iff_getElem?.1 hy
    by_cases hji : j < i
    · exact .inl (ha j _ hji (get j y hy))
    · have h1 := hb j _ (by omega) (get j y hy)
      obtain ⟨hjl, rfl⟩ := List.getElem?_eq_some_iff.1 hy
      obtain ⟨hil, rfl⟩ := List.getElem?_eq_some_iff.1 hz
      have h2 := List.pairwise_iff_getElem.1 hi i j hil hjl (by omega)
      unfold hlt
      omega
  · obtain ⟨j, hj, rfl⟩ := List.getElem_of_mem hy
    have hg := get j _ (List.getElem?_eq_getElem hj)
    by_cases hji : j < i
    · have := ha j _ hji hg; omega
    · exact hb j _ (by omega) hg

theorem c44 {H : Hp} {r : Nat} {sl : Sl} {s : St} {M : List HC} {to : Int} {Q : Sl → Hp → Prop} (h : RL H r sl s M) (hi : s.C.Pairwise fun x y => x.num < y.num) (hl : M.length ≤ 1048576)
    (hQ : ∀ t H' sl', RA H' r sl' { s with C := rest to s.C } → Ans H' t ((out to s.C).map NE.e) → Kp (fun b => b = r) H H' → (∀ b, sl'.at b → sl.at b ∨ H.size ≤ b) → (∀ b, t.at b → H.size ≤ b) → Q t H') : F44 (some ⟨r, 0, none⟩) to H Q := by
  have hiM : M.Pairwise fun x y => x.num < y.num := by
    have := hi
    rw [← h.eq, List.pairwise_map] at this
    exact this
  have hdis : s.C.Pairwise dis := hi.imp fun hlt => by unfold dis; omega
  have hrl := h.row.lt
  refine c48' h.row rfl h.lst hl hiM fun b0 hb0 => ?_
  intro X hX
  suffices G : ∀ (d : Nat) (H1 : Hp) (M1 O : List HC) (sl1 t1 : Sl) (b1 : Int), M1.length ≤ d → Row H1 r 80 [.int .i64 s.late, .int .i64 s.room, Sl.v sl1, .int .i64 s.top, .int .i64 s.mark] → Lst eF H1 sl1 (M1.map HC.e) → M1.Pairwise (fun x y => x.num < y.num) → (O ++ M1).Perm M → O.Pairwise hlt → (∀ x ∈ O, ∀ y ∈ M1, hlt x y) → (∀ x ∈ O, x.e.tm ≤ to) →
      (M1.filter fun x => decide (to < x.e.tm)) = (M.filter fun x => decide (to < x.e.tm)) → Fst M1 b1 →
      Lst eF H1 t1 (O.map HC.e) → (∀ b, t1.at b → H.size ≤ b) → (∀ b, sl1.at b → sl.at b ∨ H.size ≤ b) → Kp (fun b => b = r) H H1 → X t1 b1 H1 from
    G M.length H M [] sl Sl.nil b0 (Nat.le_refl _) h.row h.lst hiM (List.Perm.refl _) List.Pairwise.nil (fun x hx => by simp at hx) (fun x hx => by simp at hx) rfl hb0 (Lst.nil _ _) (fun b hb => by cases hb) (fun b => .inl) (Kp.refl _ _)
  have n49 : ∀ b l, b = r → ¬ Row H b 49 l := fun b l e rr => by subst e; exact rr.ne_type h.row (by decide) rfl
  have fin : ∀ (H1 : Hp) (M1 O : List HC) (sl1 t1 : Sl), Row H1 r 80 [.int .i64 s.late, .int .i64 s.room, Sl.v sl1, .int .i64 s.top, .int .i64 s.mark] → Lst eF H1 sl1 (M1.map HC.e) → (O ++ M1).Perm M → O.Pairwise hlt → (∀ x ∈ O, x.e.tm ≤ to) →
      (M1.filter fun x => decide (to < x.e.tm)) = (M.filter fun x => decide (to < x.e.tm)) → (∀ y ∈ M1, to < y.e.tm) →
      Lst eF H1 t1 (O.map HC.e) → (∀ b, t1.at b → H.size ≤ b) → (∀ b, sl1.at b → sl.at b ∨ H.size ≤ b) → Kp (fun b => b = r) H H1 → F44_1 Q t1 H1 := by
    intro H1 M1 O sl1 t1 r1 h1 hp hso hom hf hm1 ho htn hsn k
    have hv : Vals H1 (M.map HC.e) := h.vals.kp k n49
    have hsub : ∀ x, x ∈ O ∨ x ∈ M1 → x.e ∈ M.map HC.e := fun x hx => List.mem_map_of_mem (hp.subset (by simpa using hx))
    have hpm : (O.map HC.ne ++ M1.map HC.ne).Perm s.C := by
      rw [← List.map_append, ← h.eq]; exact hp.map HC.ne
    have hO : O.map HC.ne = out to s.C := out_unique hdis hpm (fun x hx => by
      obtain ⟨y, hy, rfl⟩ := List.mem_map.1 hx; exact hom y hy) (fun x hx => by
      obtain ⟨y, hy, rfl⟩ := List.mem_map.1 hx; exact hm1 y hy) (List.pairwise_map.2 (hso.imp fun hlt => hOrd.asymm _ _ hlt))
    have hM : M1.map HC.ne = rest to s.C := by
      rw [List.filter_eq_self.2 fun x hx => decide_eq_true (hm1 x hx)] at hf
      rw [hf, rest, ← h.eq, List.filter_map]
      rfl
    refine hQ t1 H1 sl1 ⟨M1, r1, h1, fun e he => ?_, hM⟩ ⟨O.map HC.e, ho, fun e he => ?_, ?_⟩ k hsn htn
    · obtain ⟨x, hx, rfl⟩ := List.mem_map.1 he
      exact hv _ (hsub x (.inr hx))
    · obtain ⟨x, hx, rfl⟩ := List.mem_map.1 he
      exact hv _ (hsub x (.inl hx))
    · rw [← hO]
      simp only [List.map_map]
      rfl
  intro d
  induction d with
  | zero =>
    intro H1 M1 O sl1 t1 b1 hd r1 h1 hi1 hp hso hol hom hf hb1 ho htn hsn k
    have hM1 : M1 = [] := List.eq_nil_of_length_eq_zero (by omega)
    rcases hb1 with ⟨_, rfl⟩ | ⟨i, x, rfl, hx, _⟩
    · refine hX _ _ _ ⟨fun hb => absurd (of_decide_eq_true hb) (by omega), fun _ => fin H1 M1 O sl1 t1 r1 h1 hp hso hom hf (by subst hM1; simp) ho htn hsn k⟩
    · subst hM1; simp at hx
  | succ d ih =>
    intro H1 M1 O sl1 t1 b1 hd r1 h1 hi1 hp hso hol hom hf hb1 ho htn hsn k
    rcases hb1 with ⟨hM1, rfl⟩ | ⟨i, x, rfl, hx, hfst, hmin⟩
    · refine hX _ _ _ ⟨fun hb => absurd (of_decide_eq_true hb) (by omega), fun _ => fin H1 M1 O sl1 t1 r1 h1 hp hso hom hf (by subst hM1; simp) ho htn hsn k⟩
    · refine hX _ _ _ ⟨fun _ => ?_, fun hb => absurd (of_decide_eq_false hb) (by omega)⟩
      have hxe : (M1.map HC.e)[i]? = some x.e := by rw [List.getElem?_map, hx]; rfl
      have hn := h1.n
      have hll := hp.length_eq
      simp only [List.length_append] at hll
      have hil := (List.getElem?_eq_some_iff.1 hx).1
      rw [List.length_map] at hn
      obtain ⟨a, ha, hi0, ca⟩ := h1.rd.get hxe
      refine ⟨_, rfl, _, r1.cell_of (i := 2) rfl, a, ha, by omega, by omega, _, ca.2.1, fun hq => ?_, fun hq => ?_⟩
      · have hq := of_decide_eq_true hq
        refine c49 r1 h1 (by simp; omega) hxe fun H2 sl2 r2 h2 k2 hs2 H3 e3 => ?_
        have s2 := k2.size
        have sk := k.size
        have k3 := (Kp.refl No H2).push' e3
        have s3 := size_push' e3
        have b3 : Row H3 H2.size 32 (eF.f x.e) := Row.new' e3
        have ho2 := ho.kp k2 fun b hb e => by have := htn b hb; omega
        refine (ho2.kp k3 fun _ _ => id).append1 b3 rfl (by simp; omega) (by simp; omega) fun t4 H4 h4 k4 ht4 => ?_
        have k24 : Kp t1.at H2 H4 := (k3.mono fun _ _ => False.elim).trans k4 fun _ => .inl
        have nt : ¬ t1.at r := fun hb => by have := htn r hb; omega
        have r4 := k24.row r2 nt
        have hsl2 : ∀ b, sl2.at b → ¬ t1.at b := fun b hb hb' => by
          have := hs2 b hb
          have := ho.lt hb'
          omega
        have hm4 := h2.kp k24 hsl2
        rw [← map_erase] at hm4
        have hxf : decide (to < x.e.tm) = false := decide_eq_false (by omega)
        have hi2 := hi1.sublist (List.eraseIdx_sublist M1 i)
        refine c48' r4 rfl hm4 (by have := List.length_eraseIdx_le M1 i; omega) hi2 fun b5 hb5 => ?_
        have hp' := erase_perm hx
        have hel : (M1.eraseIdx i).length + 1 = M1.length := by simpa using hp'.length_eq
        refine ih H4 (M1.eraseIdx i) (O ++ [x]) sl2 t4 b5 (by omega) r4 hm4 hi2 ?_ ?_ ?_ ?_ ((filter_erase (p := fun x : HC => decide (to < x.e.tm)) hxf hx).trans hf) hb5 (by simpa using h4) ?_ (fun b hb => .inr (by have := hs2 b hb; omega)) ((k.trans k2 fun _ => .inl).trans k24 fun b hb => .inr (htn b hb))
        · rw [List.append_assoc]; exact (hp'.append_left O).trans hp
        · rw [List.pairwise_append]
          refine ⟨hso, List.pairwise_singleton _ _, fun y hy z hz => ?_⟩
          rw [List.mem_singleton] at hz
          subst hz
          exact hol y hy _ (hp'.subset (List.mem_cons_self ..))
        · intro y hy z hz
          rcases List.mem_append.1 hy with hy | hy
          · exact hol y hy z (hp'.subset (List.mem_cons_of_mem _ hz))
          · rw [List.mem_singleton] at hy
            subst hy
            exact hfst z hz
        · intro y hy
          rcases List.mem_append.1 hy with hy | hy
          · exact hom y hy
          · rw [List.mem_singleton] at hy
            subst hy; exact hq
        · intro b hb
          rcases ht4 b hb with h | h
          · exact htn b h
          · omega
      · have hq := of_decide_eq_false hq
        exact fin H1 M1 O sl1 t1 r1 h1 hp hso hom hf (fun y hy => by have := hmin y hy; omega) ho htn hsn k

theorem RL.len {H : Hp} {r : Nat} {sl : Sl} {s : St} {M : List HC} (h : RL H r sl s M) (ok : s.Ok) : M.length ≤ 4096 := by
  have := congrArg List.length h.eq
  have := ok.len
  have := ok.room
  rw [List.length_map] at *
  omega

theorem c27 {H : Hp} {r : Nat} {sl : Sl} {s : St} {M : List HC} {now : Int} {Q : Sl → Int → Hp → Prop} (h : RL H r sl s M) (ok : s.Ok)
    (hQ : ∀ t H' sl', RA H' r sl' (advance s now).2.2 → Ans H' t ((advance s now).1.map NE.e) → Kp (fun b => b = r) H H' → (∀ b, sl'.at b → sl.at b ∨ H.size ≤ b) → Q t (advance s now).2.1 H') : F27 (some ⟨r, 0, none⟩) now H Q := by
  have key : ∀ b, (b = true ↔ (now < 0 ∨ 4611686018427387904 < now)) → F27_1 Q (some ⟨r, 0, none⟩) now b H := by
    intro b hbb
    refine ⟨fun hb' => ?_, fun hb' => ?_⟩
    · have e : advance s now = ([], 23, s) := if_pos (hbb.1 hb')
      rw [e] at hQ
      exact hQ _ H sl ⟨M, h⟩ (Ans.nil H) (Kp.refl _ _) (fun _ => .inl)
    · have e : advance s now = (out (mark' s now) s.C, 0, { s with top := top' s now, mark := mark' s now, C := rest (mark' s now) s.C }) := if_neg (fun h => by rw [hbb.2 h] at hb'; cases hb')
      rw [e] at hQ
      refine c43 h fun H1 h1 k1 => ⟨_, rfl, _, h1.row.cell_of (i := 4) rfl, c44 h1 ok.inc (by have := h.len ok; omega) fun t H2 sl' h2 a2 k2 hs ht => ?_⟩
      have := k1.size
      exact hQ t H2 sl' h2 a2 (k1.trans k2 fun _ => .inl) fun b hb => (hs b hb).imp id (by omega)
  refine ⟨fun hb => key _ ⟨fun _ => .inl (of_decide_eq_true hb), fun _ => rfl⟩, fun hb => key _ ?_⟩
  have hb := of_decide_eq_false hb
  simp only [decide_eq_true_eq]
  omega

theorem c30 {H : Hp} {r : Nat} {sl : Sl} {s : St} {M : List HC} {Q : Int → Hp → Prop} (h : RL H r sl s M) (hQ : Q s.mark H) : F30 (some ⟨r, 0, none⟩) H Q :=
  ⟨_, rfl, _, h.row.cell_of (i := 4) rfl, hQ⟩

theorem c22 {late room : Int} {H : Hp} {Q : Option Addr → Int → Hp → Prop} (h1 : badNew late room → Q none 1 H)
    (h2 : ¬ badNew late room → ∀ H' r, RA H' r Sl.nil (st0 late room) → Kp No H H' → H.size ≤ r → Q (some ⟨r, 0, none⟩) 0 H') : F22 late room H Q := by
  have key : ∀ b, (b = true ↔ badNew late room) → F22_1 Q late room b H := by
    intro b hb
    refine ⟨fun e => h1 (hb.1 e), fun e H1 e1 => ?_⟩
    exact h2 (fun h => by rw [hb.2 h] at e; cases e) H1 H.size ⟨[], Row.new' e1, Lst.nil _ _, fun x hx => (by simp at hx), rfl⟩ ((Kp.refl No H).push' e1) (Nat.le_refl _)
  refine ⟨fun hb => key _ ⟨fun _ => .inl (of_decide_eq_true hb), fun _ => rfl⟩, fun hb => ⟨fun hc => key _ ⟨fun _ => .inr (.inl (of_decide_eq_true hc)), fun _ => rfl⟩, fun hc => ⟨fun hd => key _ ⟨fun _ => .inr (.inr (.inl (of_decide_eq_true hd))), fun _ => rfl⟩, fun hd => key _ ?_⟩⟩⟩
  have hb := of_decide_eq_false hb
  have hc := of_decide_eq_false hc
  have hd := of_decide_eq_false hd
  simp only [decide_eq_true_eq, badNew]
  omega

end Go.Hw
