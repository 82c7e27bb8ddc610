/- Lists that are full of one thing; appended to, in their place or not. Own work of this session. -/
import Derived.Test.YtmjoeilahbfonaaDoorD9
set_option linter.unusedVariables false
namespace Go.Hw
open Go

section
variable {α : Type} {t k : Nat} {F : Fmt α t k} {H H' : Hp} {x : α}

abbrev rep (F : Fmt α t k) (p : Nat) (x : α) : List Value := (List.replicate p x).flatMap F.f
theorem rep_len (F : Fmt α t k) (p : Nat) (x : α) : (rep F p x).length = p * k := by rw [fl_len F.len, List.length_replicate]
theorem rep_add (F : Fmt α t k) (p q : Nat) (x : α) : rep F (p + q) x = rep F p x ++ rep F q x := by
  unfold rep; rw [← List.replicate_append_replicate, List.flatMap_append]

/-- A slice shows one thing throughout. -/
def All (F : Fmt α t k) (H : Hp) (x : α) (s : Sl) : Prop := RdL F H s (List.replicate s.n x)
theorem All.nil : All F H x Sl.nil := RdL.nil F H
theorem Lst.all {s : Sl} {p : Nat} (h : Lst F H s (List.replicate p x)) : All F H x s := by
  have hn := h.n
  rw [List.length_replicate] at hn
  unfold All
  rw [hn]; exact h.rd
theorem All.kp {S : Nat → Prop} {s : Sl} (h : All F H x s) (kp : Kp S H H') (hs : ∀ a, s.b = some a → ¬ S a.block) : All F H' x s := RdL.kp h kp hs

/-- A row that shows one thing at its first places. -/
structure Wide (F : Fmt α t k) (H : Hp) (x : α) (b p c : Nat) : Prop where
  row : ∃ sp, Row H b t (rep F p x ++ sp) ∧ (rep F p x ++ sp).length = c * k
  pc : p ≤ c
  c63 : c ≤ 9223372036854775807
theorem Wide.kp {S : Nat → Prop} {b p c : Nat} (h : Wide F H x b p c) (kp : Kp S H H') (hs : ¬ S b) : Wide F H' x b p c := by
  obtain ⟨sp, h1, h2⟩ := h.row
  exact ⟨⟨sp, kp.row h1 hs, h2⟩, h.pc, h.c63⟩
theorem Wide.all {b p c q c' : Nat} (h : Wide F H x b p c) (hq : q ≤ p) : All F H x ⟨some ⟨b, 0, none⟩, q, c'⟩ := by
  obtain ⟨sp, h1, _⟩ := h.row
  refine ⟨by simp, ?_⟩
  show cells H ⟨b, 0, none⟩ (rep F q x) 0
  refine h1.cells ?_
  rw [Nat.add_zero, List.drop_zero, show p = q + (p - q) from by omega, rep_add, List.append_assoc, List.take_left]

/-- A slice's own row, or none: at its first 'p' places one thing. -/
def Base (F : Fmt α t k) (H : Hp) (x : α) (l : Sl) (p : Nat) : Prop := (l = Sl.nil ∧ p = 0) ∨ ∃ b, l.b = some ⟨b, 0, none⟩ ∧ Wide F H x b p l.c
theorem Base.of {l : Sl} {p : Nat} (h : Lst F H l (List.replicate p x)) : Base F H x l p := by
  rcases h.own with ⟨h0, h1⟩ | ⟨b, sp, h1, h2, h3, h4, h5, h6⟩
  · refine .inl ⟨h0, ?_⟩
    have := rep_len F p x
    rw [show rep F p x = [] from h1] at this
    have hp := F.pos
    cases p with
    | zero => rfl
    | succ p => rw [Nat.succ_mul] at this; simp at this; omega
  · have hn := h.n
    rw [List.length_replicate] at hn
    exact .inr ⟨b, h1, ⟨sp, h2, h4⟩, by omega, h6⟩
theorem Base.kp {S : Nat → Prop} {l : Sl} {p : Nat} (h : Base F H x l p) (kp : Kp S H H') (hs : ∀ b, l.at b → ¬ S b) : Base F H' x l p := by
  rcases h with h | ⟨b, h1, h2⟩
  · exact .inl h
  · exact .inr ⟨b, h1, h2.kp kp (hs b h1)⟩
theorem Base.all {l : Sl} {p q c' : Nat} (h : Base F H x l p) (hq : q ≤ p) : All F H x ⟨l.b, q, c'⟩ := by
  rcases h with ⟨rfl, rfl⟩ | ⟨b, h1, h2⟩
  · obtain rfl : q = 0 := by omega
    exact ⟨by simp, rfl⟩
  · rw [h1]; exact h2.all hq

/-- Appended in its place, or anew. -/
theorem Base.app {bytes q j p : Nat} {z : Array Value} {l xs : Sl} {K : Sl → Hp → Prop} (h : Base F H x l p) (hq : q ≤ p) (hj : 0 < j) (hx : RdL F H xs (List.replicate j x)) (hz : z.size = k) (hb : (q + j) * bytes ≤ 140737488355328) (h63 : q + j ≤ 9223372036854775807)
    (hroom : q + j ≤ l.c → ∀ H', Base F H' x l (max p (q + j)) → Kp l.at H H' → K ⟨l.b, q + j, l.c⟩ H') (hgrow : l.c < q + j → ∀ r H', Lst F H' r (List.replicate (q + j) x) → Kp No H H' → (∀ b, r.at b → b = H.size) → K r H') : AppendF H t k bytes z ⟨l.b, q, l.c⟩ xs.b xs.n K := by
  have hxn : xs.n = j := by have := hx.n; simpa using this
  have hq' : (⟨l.b, q, l.c⟩ : Sl).n = q := rfl
  refine ⟨rep F q x, rep F j x, by rw [rep_len], (h.all (c' := l.c) hq).r, by rw [rep_len, hxn], hx.r, fl_one F _, by rw [hxn]; exact hb, by rw [hxn]; exact h63, fun hr => ?_, fun hg cap hc1 hc2 => ?_⟩
  · rw [hxn] at hr ⊢
    have hr : q + j ≤ l.c := hr
    rcases h with ⟨rfl, rfl⟩ | ⟨b, h1, h2⟩
    · exact absurd hr (by show ¬ q + j ≤ 0; omega)
    · obtain ⟨sp, hrow, hlen⟩ := h2.row
      have hk := F.pos
      have hfit : q * k + (rep F j x).length ≤ (rep F p x ++ sp).length := by
        rw [rep_len, hlen, ← Nat.add_mul]; exact Nat.mul_le_mul_right _ hr
      refine ⟨fun a ha => ?_, ?_⟩
      · have ha : l.b = some a := ha
        rw [h1] at ha
        obtain rfl : (⟨b, 0, none⟩ : Addr) = a := by simpa using ha
        rw [add_mk, Nat.zero_add]
        exact hrow.mayw (by simp only [Nat.add_zero]; exact hfit)
      · show K ⟨l.b, q + j, l.c⟩ (match l.b with | some a => sets H (a.add (q * k)) (rep F j x) 0 | none => H)
        rw [h1]
        simp only [add_mk, Nat.zero_add]
        rw [← h1]
        have hrow' := Row.sets (vs := rep F j x) (i := 0) (o := q * k) hrow (by simp only [Nat.add_zero]; exact hfit)
        refine hroom hr _ (.inr ⟨b, h1, ?_, by have := h2.pc; omega, h2.c63⟩) (Kp.sets (Kp.refl _ _) (.inl h1) _ _)
        have e : ∃ sp', over (rep F p x ++ sp) (q * k + 0) (rep F j x) = rep F (max p (q + j)) x ++ sp' := by
          rw [Nat.add_zero]
          unfold over
          have hp : rep F p x = rep F q x ++ rep F (p - q) x := by rw [← rep_add]; congr 1; omega
          rw [hp]
          have hql := rep_len F q x
          rw [List.append_assoc, List.append_assoc, ← hql, List.take_left, hql, rep_len F j x]
          rw [← List.append_assoc, ← rep_add]
          have hdrop : (rep F q x ++ (rep F (p - q) x ++ sp)).drop (q * k + j * k) = (rep F (p - q) x ++ sp).drop (j * k) := by
            rw [List.drop_append, hql, List.drop_eq_nil_of_le (by rw [hql]; omega), show q * k + j * k - q * k = j * k from by omega]
            rfl
          rw [hdrop]
          by_cases hle : q + j ≤ p
          · have : rep F (p - q) x = rep F j x ++ rep F (p - q - j) x := by rw [← rep_add]; congr 1; omega
            rw [this, List.append_assoc, ← rep_len F j x, List.drop_left, ← List.append_assoc, ← rep_add]
            exact ⟨sp, by congr 2; omega⟩
          · refine ⟨sp.drop (j * k - (p - q) * k), ?_⟩
            have : (p - q) * k ≤ j * k := Nat.mul_le_mul_right _ (by omega)
            rw [List.drop_append, rep_len, List.drop_eq_nil_of_le (by rw [rep_len]; exact this), List.nil_append]
            congr 2; omega
        obtain ⟨sp', e⟩ := e
        refine ⟨sp', by rw [← e]; exact hrow', ?_⟩
        rw [← e, length_over _ _ _ (by simp only [Nat.add_zero]; exact hfit), hlen]
  · rw [hxn] at hg hc1 ⊢
    have hg : l.c < q + j := hg
    refine hgrow hg _ _ ⟨.inr ⟨H.size, zs z (cap - (q + j)), rfl, ?_, ?_, ?_, hc1, hc2⟩⟩ (Kp.push (Kp.refl _ _) _) fun b hb => ?_
    · rw [← rep_add]; exact Row.newl _ _ _
    · exact rep_len F (q + j) x
    · have hc1 : q + j ≤ cap := hc1
      show (rep F (q + j) x ++ zs z (cap - (q + j))).length = cap * k
      rw [List.length_append, rep_len, zs_length, hz, ← Nat.add_mul]
      congr 1; omega
    · have : (some ⟨H.size, 0, none⟩ : Option Addr) = some ⟨b, 0, none⟩ := hb
      injection this with this
      injection this with this
      exact this.symm

/-- What an append onto 'l' has given: in its place, or anew in blocks from 'h0' on. -/
def Got (F : Fmt α t k) (H : Hp) (x : α) (l : Sl) (p h0 : Nat) (g : Sl) : Prop := (∃ q c, q ≤ p ∧ g = ⟨l.b, q, c⟩) ∨ (All F H x g ∧ ∀ a, g.b = some a → h0 ≤ a.block ∧ a.block < H.size)
theorem Got.kp {S : Nat → Prop} {l g : Sl} {p p' h0 : Nat} (h : Got F H x l p h0 g) (kp : Kp S H H') (hp : p ≤ p') (hs : ∀ b, S b → b < h0) : Got F H' x l p' h0 g := by
  rcases h with ⟨q, c, h1, h2⟩ | ⟨h1, h2⟩
  · exact .inl ⟨q, c, by omega, h2⟩
  · refine .inr ⟨h1.kp kp fun a ha hh => ?_, fun a ha => ⟨(h2 a ha).1, Nat.lt_of_lt_of_le (h2 a ha).2 kp.size⟩⟩
    have := hs _ hh
    have := (h2 a ha).1
    omega
theorem Got.all {l g : Sl} {p h0 : Nat} (h : Got F H x l p h0 g) (hb : Base F H x l p) : All F H x g ∧ ∀ a, g.b = some a → l.at a.block ∨ (h0 ≤ a.block ∧ a.block < H.size) := by
  rcases h with ⟨q, c, h1, rfl⟩ | ⟨h1, h2⟩
  · refine ⟨hb.all h1, fun a ha => .inl ?_⟩
    rcases hb with ⟨rfl, _⟩ | ⟨b, h3, _⟩
    · cases ha
    · have ha : l.b = some a := ha
      have : a = ⟨b, 0, none⟩ := by rw [h3] at ha; injection ha with ha; exact ha.symm
      rw [this]; exact h3
  · exact ⟨h1, fun a ha => .inr (h2 a ha)⟩
end
/-- A list that was handed out, a copy of it, what both show. -/
structure PP (α : Type) where
  a : Sl
  b : Sl
  L : List α
structure Rst {α : Type} {t k : Nat} (F : Fmt α t k) (H : Hp) (lo : Nat) (G : Nat → Prop) (ps : List (PP α)) : Prop where
  e : ∀ p ∈ ps, Lst F H p.a p.L ∧ Lst F H p.b p.L ∧ p.L.length ≤ 2000000
  g : ∀ p ∈ ps, ∀ x, p.a.at x ∨ p.b.at x → lo ≤ x ∧ ¬ G x
  d : ps.Pairwise fun p q => ∀ x, p.a.at x → ¬ q.a.at x
  b : ∀ p ∈ ps, ∀ q ∈ ps, ∀ x, p.a.at x → ¬ q.b.at x

section
variable {α : Type} {t k : Nat} {F : Fmt α t k} {H H' : Hp} {lo : Nat} {G G' S : Nat → Prop} {ps : List (PP α)} {p : PP α}
theorem Rst.nil : Rst F H lo G [] := ⟨fun p hp => (by cases hp), fun p hp => (by cases hp), List.Pairwise.nil, fun p hp => (by cases hp)⟩
theorem Rst.lt (h : Rst F H lo G ps) : ∀ p ∈ ps, ∀ x, p.a.at x ∨ p.b.at x → x < H.size := fun p hp x hx => by
  rcases hx with hx | hx
  · exact (h.e p hp).1.lt hx
  · exact (h.e p hp).2.1.lt hx
theorem Rst.kp (h : Rst F H lo G ps) (kp : Kp S H H') (hs : ∀ x, S x → ∀ p ∈ ps, ¬ (p.a.at x ∨ p.b.at x)) (hG : ∀ x, G' x → x < H.size → G x) : Rst F H' lo G' ps :=
  ⟨fun p hp => ⟨(h.e p hp).1.kp kp fun x hx hh => hs x hh p hp (.inl hx), (h.e p hp).2.1.kp kp fun x hx hh => hs x hh p hp (.inr hx), (h.e p hp).2.2⟩, fun p hp x hx => ⟨(h.g p hp x hx).1, fun hh => (h.g p hp x hx).2 (hG x hh (h.lt p hp x hx))⟩, h.d, h.b⟩
theorem Rst.no (h : Rst F H lo G ps) (kp : Kp No H H') : Rst F H' lo G ps := h.kp kp (fun _ h => h.elim) fun _ h _ => h
/-- Rows of another type turn. -/
theorem Rst.ty (h : Rst F H lo G ps) (kp : Kp S H H') (hs : ∀ x, S x → x < H.size → ∃ u l, Row H x u l ∧ u ≠ t) : Rst F H' lo G ps := by
  refine h.kp kp (fun x hx p hp hh => ?_) fun _ h _ => h
  obtain ⟨u, l, hr, hu⟩ := hs x hx (h.lt p hp x hh)
  rcases hh with hh | hh
  · exact ((h.e p hp).1.row hh).elim fun _ hr' => hr.ne_type hr' hu rfl
  · exact ((h.e p hp).2.1.row hh).elim fun _ hr' => hr.ne_type hr' hu rfl
/-- One more pair. -/
theorem Rst.add (h : Rst F H lo G ps) (he : Lst F H p.a p.L ∧ Lst F H p.b p.L ∧ p.L.length ≤ 2000000) (hg : ∀ x, p.a.at x ∨ p.b.at x → lo ≤ x ∧ ¬ G x) (hn : ∀ q ∈ ps, ∀ x, q.a.at x ∨ q.b.at x → ¬ p.a.at x ∧ (q.a.at x → ¬ p.b.at x)) (hs : ∀ x, p.a.at x → ¬ p.b.at x) : Rst F H lo G (ps ++ [p]) := by
  refine ⟨fun q hq => ?_, fun q hq => ?_, ?_, fun q hq r hr x hx hy => ?_⟩
  · rcases List.mem_append.1 hq with hq | hq
    · exact h.e q hq
    · rw [List.mem_singleton] at hq; rw [hq]; exact he
  · rcases List.mem_append.1 hq with hq | hq
    · exact h.g q hq
    · rw [List.mem_singleton] at hq; rw [hq]; exact hg
  · rw [List.pairwise_append]
    refine ⟨h.d, by simp, fun q hq r hr x hx => ?_⟩
    rw [List.mem_singleton] at hr
    rw [hr]; exact (hn q hq x (.inl hx)).1
  · rcases List.mem_append.1 hq with h1 | h1 <;> rcases List.mem_append.1 hr with h2 | h2
    · exact h.b q h1 r h2 x hx hy
    · rw [List.mem_singleton] at h2
      rw [h2] at hy
      exact (hn q h1 x (.inl hx)).2 hx hy
    · rw [List.mem_singleton] at h1
      rw [h1] at hx
      exact (hn r h2 x (.inr hy)).1 hx
    · rw [List.mem_singleton] at h1 h2
      rw [h1] at hx
      rw [h2] at hy
      exact hs x hx hy
/-- The first one is written over. -/
theorem Rst.tail (h : Rst F H lo G (p :: ps)) (kp : Kp (fun b => G b ∨ p.a.at b) H H') (hG : ∀ x, G' x → x < H.size → G x ∨ p.a.at x) : Rst F H' lo G' ps := by
  have hp := h.d
  rw [List.pairwise_cons] at hp
  have key : ∀ q ∈ ps, ∀ x, q.a.at x ∨ q.b.at x → ¬ (G x ∨ p.a.at x) := fun q hq x hx hh => by
    rcases hh with hh | hh
    · exact (h.g q (List.mem_cons_of_mem _ hq) x hx).2 hh
    · rcases hx with hx | hx
      · exact hp.1 q hq x hh hx
      · exact h.b p List.mem_cons_self q (List.mem_cons_of_mem _ hq) x hh hx
  have hl := h.lt
  refine ⟨fun q hq => ?_, fun q hq x hx => ⟨(h.g q (List.mem_cons_of_mem _ hq) x hx).1, fun hh => key q hq x hx (hG x hh (hl q (List.mem_cons_of_mem _ hq) x hx))⟩, hp.2, fun q hq r hr => h.b q (List.mem_cons_of_mem _ hq) r (List.mem_cons_of_mem _ hr)⟩
  obtain ⟨h1, h2, h3⟩ := h.e q (List.mem_cons_of_mem _ hq)
  exact ⟨h1.kp kp fun x hx => key q hq x (.inl hx), h2.kp kp fun x hx => key q hq x (.inr hx), h3⟩
end

end Go.Hw
