/- Lists that were handed out, written full: filling. Own work of this session. -/
import Derived.Test.YtjeponambmjhcaaE1
set_option linter.unusedVariables false
namespace Go.Hw
open Go

def sF (u : Nat) : Fmt Sl u 1 := ⟨fun s => [Sl.v s], fun _ => rfl, by intro x v hv; simp at hv; subst hv; rfl, by decide⟩
def mkv (n : Nat) : VT := ⟨9, n, ByteArray.mk #[], false⟩
def mke (n : Nat) : EC := ⟨ByteArray.mk #[], -1 - n, Sl.nil, []⟩

def prs (P : List (Sl × Sl)) : List Sl := P.flatMap fun p => [p.1, p.2]
theorem prs_len : ∀ P : List (Sl × Sl), (prs P).length = 2 * P.length
  | [] => rfl
  | p :: P => by have := prs_len P; simp [prs] at *; omega
theorem prs_even : ∀ (P : List (Sl × Sl)) (i : Nat), (prs P)[2 * i]? = (P[i]?).map Prod.fst
  | [], i => by simp [prs]
  | p :: P, 0 => rfl
  | p :: P, i + 1 => by
    rw [show 2 * (i + 1) = 2 * i + 1 + 1 from by omega]
    exact prs_even P i
theorem prs_odd : ∀ (P : List (Sl × Sl)) (i : Nat), (prs P)[2 * i + 1]? = (P[i]?).map Prod.snd
  | [], i => by simp [prs]
  | p :: P, 0 => rfl
  | p :: P, i + 1 => by
    rw [show 2 * (i + 1) + 1 = 2 * i + 1 + 1 + 1 from by omega]
    exact prs_odd P i
theorem prs_set : ∀ (P : List (Sl × Sl)) (i : Nat) (v w g : Sl), P[i]? = some (v, w) → (prs P).set (2 * i + 1) g = prs (P.set i (v, g))
  | [], i, v, w, g, h => by simp at h
  | p :: P, 0, v, w, g, h => by simp at h; subst h; rfl
  | p :: P, i + 1, v, w, g, h => by
    rw [show 2 * (i + 1) + 1 = 2 * i + 1 + 1 + 1 from by omega]
    have := prs_set P i v w g (by simpa using h)
    show p.1 :: p.2 :: (prs P).set (2 * i + 1) g = p.1 :: p.2 :: prs (P.set i (v, g))
    rw [this]
theorem prs_snoc (P : List (Sl × Sl)) (p : Sl × Sl) : prs (P ++ [p]) = prs P ++ [p.1, p.2] := by simp [prs]
theorem prs_get {P : List (Sl × Sl)} {i : Nat} {s : Sl} (h : (prs P)[i]? = some s) : ∃ p, P[i / 2]? = some p ∧ (s = p.1 ∨ s = p.2) := by
  rcases (by omega : i = 2 * (i / 2) ∨ i = 2 * (i / 2) + 1) with e | e
  · rw [e, prs_even, Option.map_eq_some_iff] at h
    obtain ⟨p, hp, rfl⟩ := h
    exact ⟨p, hp, .inl rfl⟩
  · rw [e, prs_odd, Option.map_eq_some_iff] at h
    obtain ⟨p, hp, rfl⟩ := h
    exact ⟨p, hp, .inr rfl⟩

/-- Pairs of lists that were kept: written full (those from 'a' on not yet written on). -/
structure Kept {α : Type} {t k u : Nat} (F : Fmt α t k) (mk : Nat → α) (H : Hp) (s : Sl) (P : List (Sl × Sl)) (a : Nat) (D : Nat → Prop) : Prop where
  lst : Lst (sF u) H s (prs P)
  old : ∀ (i : Nat) (p : Sl × Sl), P[i]? = some p → RdL F H p.1 (List.replicate p.1.n (mk i)) ∧ RdL F H p.2 (List.replicate p.2.n (mk i))
  new : ∀ (i : Nat) (p : Sl × Sl), P[i]? = some p → a ≤ i → Lst F H p.1 (List.replicate p.1.n (mk i)) ∧ p.2 = Sl.nil
  dj : P.Pairwise fun p q => ∀ b, (p.1.blk b ∨ p.2.blk b) → ¬ (q.1.blk b ∨ q.2.blk b)
  own : ∀ p ∈ P, ∀ b, (p.1.blk b ∨ p.2.blk b) → ¬ s.at b
  fp : ∀ b, D b ↔ (s.at b ∨ ∃ p ∈ P, p.1.blk b ∨ p.2.blk b)
  sh : ∀ p ∈ P, p.1.n ≤ 1099511627776 ∧ p.2.n ≤ 9223372036854775807

section
variable {α : Type} {t k u : Nat} {F : Fmt α t k} {mk : Nat → α} {H H' : Hp} {s : Sl} {P : List (Sl × Sl)} {a : Nat} {D : Nat → Prop}
theorem Kept.kp {S : Nat → Prop} (h : Kept (u := u) F mk H s P a D) (k : Kp S H H') (hs : ∀ b, D b → ¬ S b) : Kept (u := u) F mk H' s P a D := by
  have hm : ∀ (i : Nat) (p : Sl × Sl), P[i]? = some p → ∀ b, (p.1.blk b ∨ p.2.blk b) → ¬ S b := fun i p hp b hb => hs b ((h.fp b).2 (.inr ⟨p, List.mem_of_getElem? hp, hb⟩))
  exact ⟨h.lst.kp k fun b hb => hs b ((h.fp b).2 (.inl hb)), fun i p hp => ⟨(h.old i p hp).1.kpb k fun b hb => hm i p hp b (.inl hb), (h.old i p hp).2.kpb k fun b hb => hm i p hp b (.inr hb)⟩,
    fun i p hp ha => ⟨(h.new i p hp ha).1.kp k fun b hb => hm i p hp b (.inl (Sl.blk_of_at hb)), (h.new i p hp ha).2⟩, h.dj, h.own, h.fp, h.sh⟩

/-- A pair more. -/
theorem Kept.append {v : Sl} {bx : Nat} {K : Sl → Hp → Prop} (h : Kept (u := u) F mk H s P a D) (hv : Lst F H v (List.replicate v.n (mk P.length))) (hvD : ∀ b, v.at b → ¬ D b) (row : Row H bx u [Sl.v v, Sl.v Sl.nil]) (hl : P.length ≤ 1099511627776) (hDl : ∀ b, D b → b < H.size)
    (hut : u ≠ t) (hvn : v.n ≤ 1099511627776)
    (hK : ∀ s' H' D', Kept (u := u) F mk H' s' (P ++ [(v, Sl.nil)]) a D' → Kp s.at H H' → (∀ b, D' b → D b ∨ v.at b ∨ H.size ≤ b) → K s' H') :
    AppendF H u 1 24 #[Sl.v Sl.nil] s (Sl.mk (some ⟨bx, 0, none⟩) 2 2).b (Sl.mk (some ⟨bx, 0, none⟩) 2 2).n K := by
  have hx : RdL (sF u) H (Sl.mk (some ⟨bx, 0, none⟩) 2 2) [v, Sl.nil] := Row.rdl (L := [v, Sl.nil]) row rfl _
  refine h.lst.append hx rfl (by rw [prs_len]; simp; omega) (by rw [prs_len]; simp; omega) fun s' H' h1 k1 hn => ?_
  have hsD : ∀ b, s.at b → D b := fun b hb => (h.fp b).2 (.inl hb)
  have hmD : ∀ p ∈ P, ∀ b, (p.1.blk b ∨ p.2.blk b) → D b := fun p hp b hb => (h.fp b).2 (.inr ⟨p, hp, hb⟩)
  have hvs : ∀ b, v.at b → ¬ s.at b := fun b hb hs => hvD b hb (hsD b hs)
  have hv' := hv.kp k1 hvs
  have nilb : ∀ b, ¬ Sl.nil.blk b := fun b hb => by obtain ⟨a, ha, _⟩ := hb; cases ha
  have hget : ∀ (i : Nat) (p : Sl × Sl), (P ++ [(v, Sl.nil)])[i]? = some p → P[i]? = some p ∨ (i = P.length ∧ p = (v, Sl.nil)) := fun i p hp => by
    by_cases hi : i < P.length
    · rw [List.getElem?_append_left hi] at hp
      exact .inl hp
    · have hi2 := (List.getElem?_eq_some_iff.1 hp).1
      simp only [List.length_append, List.length_cons, List.length_nil] at hi2
      have : i = P.length := by omega
      subst this
      simp at hp
      exact .inr ⟨rfl, hp.symm⟩
  refine hK s' H' (fun b => s'.at b ∨ ∃ p ∈ P ++ [(v, Sl.nil)], p.1.blk b ∨ p.2.blk b) ⟨by rw [prs_snoc]; exact h1, fun i p hp => ?_, fun i p hp ha => ?_, ?_, fun p hp b hb hs' => ?_, fun _ => Iff.rfl, fun p hp => ?_⟩ k1 fun b hb => ?_
  · rcases hget i p hp with hp | ⟨rfl, rfl⟩
    · have hm := hmD p (List.mem_of_getElem? hp)
      have ho := h.own p (List.mem_of_getElem? hp)
      exact ⟨(h.old i p hp).1.kpb k1 fun b hb => ho b (.inl hb), (h.old i p hp).2.kpb k1 fun b hb => ho b (.inr hb)⟩
    · exact ⟨hv'.rd, RdL.nil _ _⟩
  · rcases hget i p hp with hp | ⟨rfl, rfl⟩
    · have ho := h.own p (List.mem_of_getElem? hp)
      exact ⟨(h.new i p hp ha).1.kp k1 fun b hb => ho b (.inl (Sl.blk_of_at hb)), (h.new i p hp ha).2⟩
    · exact ⟨hv', rfl⟩
  · rw [List.pairwise_append]
    refine ⟨h.dj, List.pairwise_singleton _ _, fun p hp q hq b hb hb' => ?_⟩
    rw [List.mem_singleton] at hq
    subst hq
    rcases hb' with hb' | hb'
    · exact hvD b (hv.at_of_blk hb') (hmD p hp b hb)
    · exact nilb b hb'
  · rcases hn b hs' with h2 | h2
    · rcases List.mem_append.1 hp with hp | hp
      · exact h.own p hp b hb h2
      · rw [List.mem_singleton] at hp
        subst hp
        rcases hb with hb | hb
        · exact hvs b (hv.at_of_blk hb) h2
        · exact nilb b hb
    · subst h2
      rcases List.mem_append.1 hp with hp | hp
      · have := hDl _ (hmD p hp _ hb); omega
      · rw [List.mem_singleton] at hp
        subst hp
        rcases hb with hb | hb
        · have := hv.lt (hv.at_of_blk hb); omega
        · exact nilb _ hb
  · rcases List.mem_append.1 hp with hp | hp
    · exact h.sh p hp
    · rw [List.mem_singleton] at hp
      subst hp
      exact ⟨hvn, by simp [Sl.nil]⟩
  · rcases hb with hb | ⟨p, hp, hb⟩
    · rcases hn b hb with h2 | h2
      · exact .inl (hsD b h2)
      · exact .inr (.inr (by omega))
    · rcases List.mem_append.1 hp with hp | hp
      · exact .inl (hmD p hp b hb)
      · rw [List.mem_singleton] at hp
        subst hp
        rcases hb with hb | hb
        · exact .inr (.inl (hv.at_of_blk hb))
        · exact absurd hb (nilb b)

/-- A pair is written on: the list that was grown is laid into the second place. -/
theorem Kept.grown {i : Nat} {v g : Sl} (h : Kept (u := u) F mk H s P i D) (hp : P[i]? = some (v, Sl.nil)) (k : Kp v.at H H') (hv : RdL F H' v (List.replicate v.n (mk i))) (hg : RdL F H' g (List.replicate g.n (mk i))) (hgv : ∀ b, g.blk b → v.blk b) (hgn : g.n ≤ 9223372036854775807) (hDl : ∀ b, D b → b < H.size) :
    Lst (sF u) H' s (prs P) ∧ ∃ a : Addr, s.b = some a ∧ 2 * i + 1 < s.n ∧ mayw H' (a.add ((2 * i + 1) * 1)) 1 0 ∧ ∀ H'', H'' = sets H' (a.add ((2 * i + 1) * 1)) [Sl.v g] 0 → Kept (u := u) F mk H'' s (P.set i (v, g)) (i + 1) D ∧ Kp s.at H' H'' := by
  have hil := (List.getElem?_eq_some_iff.1 hp).1
  have hmem := List.mem_of_getElem? hp
  have hvl := (h.new i _ hp (Nat.le_refl _)).1
  have hvs : ∀ b, v.at b → ¬ s.at b := fun b hb => h.own _ hmem b (.inl (Sl.blk_of_at hb))
  have hs' : Lst (sF u) H' s (prs P) := h.lst.kp k fun b hb hb' => hvs b hb' hb
  obtain ⟨a, ha, _, hn, hw, hset⟩ := hs'.set (i := 2 * i + 1) (by rw [prs_len]; omega) g
  refine ⟨hs', a, ha, hn, hw, fun H'' e => ?_⟩
  obtain ⟨h2, k2⟩ := hset H'' e
  rw [prs_set P i v Sl.nil g hp] at h2
  have hdj : ∀ (j : Nat) (q : Sl × Sl), P[j]? = some q → j ≠ i → ∀ b, (q.1.blk b ∨ q.2.blk b) → ¬ v.at b := fun j q hq hne b hb hvb => by
    have hjl := (List.getElem?_eq_some_iff.1 hq).1
    have hqe := (List.getElem?_eq_some_iff.1 hq).2
    have hpe := (List.getElem?_eq_some_iff.1 hp).2
    have hvb' : (v, Sl.nil).1.blk b ∨ (v, Sl.nil).2.blk b := .inl (Sl.blk_of_at hvb)
    rcases Nat.lt_or_gt_of_ne hne with hlt | hlt
    · have := List.pairwise_iff_getElem.1 h.dj j i hjl hil hlt b
      rw [hqe, hpe] at this
      exact this hb hvb'
    · have := List.pairwise_iff_getElem.1 h.dj i j hil hjl hlt b
      rw [hqe, hpe] at this
      exact this hvb' hb
  have kall : ∀ (j : Nat) (q : Sl × Sl), P[j]? = some q → j ≠ i → ∀ b, (q.1.blk b ∨ q.2.blk b) → ¬ v.at b ∧ ¬ s.at b := fun j q hq hne b hb => ⟨hdj j q hq hne b hb, h.own q (List.mem_of_getElem? hq) b hb⟩
  have hget : ∀ (j : Nat) (q : Sl × Sl), (P.set i (v, g))[j]? = some q → (j = i ∧ q = (v, g)) ∨ (j ≠ i ∧ P[j]? = some q) := fun j q hq => by
    rw [List.getElem?_set] at hq
    by_cases e : i = j
    · subst e
      simp [hil] at hq
      exact .inl ⟨rfl, hq.symm⟩
    · rw [if_neg e] at hq
      exact .inr ⟨fun h => e h.symm, hq⟩
  have ovg : ∀ b, ((v, g).1.blk b ∨ (v, g).2.blk b) → v.blk b := fun b hb => hb.elim id (hgv b)
  have hvnS : ∀ b, v.blk b → ¬ s.at b := fun b hb => hvs b (hvl.at_of_blk hb)
  refine ⟨⟨h2, fun j q hq => ?_, fun j q hq hj => ?_, ?_, fun q hq b hb => ?_, fun b => ?_, fun q hq => ?_⟩, k2⟩
  · rcases hget j q hq with ⟨rfl, rfl⟩ | ⟨hne, hq⟩
    · exact ⟨hv.kpb k2 fun b hb => hvnS b hb, hg.kpb k2 fun b hb => hvnS b (hgv b hb)⟩
    · exact ⟨((h.old j q hq).1.kpb k fun b hb => (kall j q hq hne b (.inl hb)).1).kpb k2 fun b hb => (kall j q hq hne b (.inl hb)).2,
        ((h.old j q hq).2.kpb k fun b hb => (kall j q hq hne b (.inr hb)).1).kpb k2 fun b hb => (kall j q hq hne b (.inr hb)).2⟩
  · rcases hget j q hq with ⟨rfl, rfl⟩ | ⟨hne, hq⟩
    · omega
    · have := h.new j q hq (by omega)
      exact ⟨(this.1.kp k fun b hb => (kall j q hq hne b (.inl (Sl.blk_of_at hb))).1).kp k2 fun b hb => (kall j q hq hne b (.inl (Sl.blk_of_at hb))).2, this.2⟩
  · rw [List.pairwise_iff_getElem]
    intro j l hj hl hjl b
    have gj := List.getElem?_eq_getElem hj
    have gl := List.getElem?_eq_getElem hl
    generalize (P.set i (v, g))[j] = q at *
    generalize (P.set i (v, g))[l] = r at *
    rcases hget j q gj with ⟨rfl, rfl⟩ | ⟨hne, hq⟩
    · rcases hget l r gl with ⟨e, _⟩ | ⟨hne', hr⟩
      · omega
      · intro hb hb'
        exact hdj l r hr hne' b hb' (hvl.at_of_blk (ovg b hb))
    · rcases hget l r gl with ⟨rfl, rfl⟩ | ⟨hne', hr⟩
      · intro hb hb'
        exact hdj j q hq hne b hb (hvl.at_of_blk (ovg b hb'))
      · have hjl' := (List.getElem?_eq_some_iff.1 hq)
        have hll' := (List.getElem?_eq_some_iff.1 hr)
        have := List.pairwise_iff_getElem.1 h.dj j l hjl'.1 hll'.1 hjl b
        rw [hjl'.2, hll'.2] at this
        exact this
  · obtain ⟨j, hj⟩ := List.getElem?_of_mem hq
    rcases hget j q hj with ⟨rfl, rfl⟩ | ⟨hne, hq⟩
    · exact hvnS b (ovg b hb)
    · exact h.own q (List.mem_of_getElem? hq) b hb
  · rw [h.fp b]
    constructor
    · rintro (hb | ⟨q, hq, hb⟩)
      · exact .inl hb
      · obtain ⟨j, hj⟩ := List.getElem?_of_mem hq
        by_cases hji : j = i
        · subst hji
          rw [hp] at hj
          injection hj with hj
          subst hj
          refine .inr ⟨(v, g), List.mem_of_getElem? (i := j) (by simp [hil]), ?_⟩
          rcases hb with hb | hb
          · exact .inl hb
          · obtain ⟨a, ha, _⟩ := hb; cases ha
        · refine .inr ⟨q, List.mem_of_getElem? (i := j) ?_, hb⟩
          rw [List.getElem?_set_ne (fun h => hji h.symm)]
          exact hj
    · rintro (hb | ⟨q, hq, hb⟩)
      · exact .inl hb
      · obtain ⟨j, hj⟩ := List.getElem?_of_mem hq
        rcases hget j q hj with ⟨rfl, rfl⟩ | ⟨hne, hq⟩
        · exact .inr ⟨_, hmem, .inl (ovg b hb)⟩
        · exact .inr ⟨q, List.mem_of_getElem? hq, hb⟩
  · obtain ⟨j, hj⟩ := List.getElem?_of_mem hq
    rcases hget j q hj with ⟨rfl, rfl⟩ | ⟨hne, hq⟩
    · exact ⟨(h.sh _ hmem).1, hgn⟩
    · exact h.sh q (List.mem_of_getElem? hq)
end

/-- What was handed out and written full. -/
def HS (H : Hp) (hh : Nat) (PV PE : List (Sl × Sl)) (av ae : Nat) (F : Nat → Prop) : Prop :=
  ∃ vs es sz DV DE, Row H hh 45 [Sl.v vs, Sl.v es, .int .i64 sz, .int .i64 ((2 * av : Nat) : Int), .int .i64 ((2 * ae : Nat) : Int)] ∧ Kept (u := 30) vF mkv H vs PV av DV ∧ Kept (u := 50) eF mke H es PE ae DE ∧
    (∀ b, DV b → ¬ DE b) ∧ ¬ DV hh ∧ ¬ DE hh ∧ (∀ b, F b ↔ b = hh ∨ DV b ∨ DE b) ∧ ∀ b, F b → b < H.size

theorem HS.kp {H H' : Hp} {hh : Nat} {PV PE : List (Sl × Sl)} {av ae : Nat} {F S : Nat → Prop} (h : HS H hh PV PE av ae F) (k : Kp S H H') (hs : ∀ b, F b → ¬ S b) : HS H' hh PV PE av ae F := by
  obtain ⟨vs, es, sz, DV, DE, r, kv, ke, d, nv, ne, f, lt⟩ := h
  exact ⟨vs, es, sz, DV, DE, k.row r (hs hh ((f hh).2 (.inl rfl))), kv.kp k fun b hb => hs b ((f b).2 (.inr (.inl hb))), ke.kp k fun b hb => hs b ((f b).2 (.inr (.inr hb))), d, nv, ne, f, fun b hb => Nat.lt_of_lt_of_le (lt b hb) k.size⟩
theorem HS.no {H H' : Hp} {hh : Nat} {PV PE : List (Sl × Sl)} {av ae : Nat} {F : Nat → Prop} (h : HS H hh PV PE av ae F) (k : Kp No H H') : HS H' hh PV PE av ae F := h.kp k fun _ _ => id
theorem HS.lt {H : Hp} {hh : Nat} {PV PE : List (Sl × Sl)} {av ae : Nat} {F : Nat → Prop} (h : HS H hh PV PE av ae F) {b : Nat} (hb : F b) : b < H.size := by
  obtain ⟨vs, es, sz, DV, DE, r, kv, ke, d, nv, ne, f, lt⟩ := h
  exact lt b hb

theorem c15 {n : Int} {H : Hp} {Q : Int → Int → ByteArray → Bool → Hp → Prop} (hQ : ∀ H', Kp No H H' → Q 9 n (ByteArray.mk #[]) false H') : F15 n H Q := by
  intro H1 e1
  have b1 := Row.new' e1
  refine ⟨b1.mayall, fun H2 e2 => ⟨_, _, _, _, (b1.fill' e2 rfl).all, hQ H2 (((Kp.refl No H).push' e1).sets' e2 (.inr (Nat.le_refl _)))⟩⟩

theorem set_rep {α : Type} (x : α) (V : List α) (j : Nat) (hj : j < V.length) : (List.replicate j x ++ V.drop j).set j x = List.replicate (j + 1) x ++ V.drop (j + 1) := by
  apply List.ext_getElem?
  intro m
  simp only [List.getElem?_set, List.getElem?_append, List.length_append, List.length_replicate, List.length_drop, List.getElem?_replicate, List.getElem?_drop]
  by_cases h1 : j = m
  · subst h1
    simp; omega
  · by_cases h2 : m < j
    · simp [h1, h2, show m < j + 1 from by omega]
    · simp [h1, h2, show ¬ m < j + 1 from by omega]
      congr 1; omega

theorem tdiv_two (n : Nat) : Int.tdiv ((2 * n : Nat) : Int) 2 = (n : Int) := by
  show (((2 * n) / 2 : Nat) : Int) = n
  omega

end Go.Hw
