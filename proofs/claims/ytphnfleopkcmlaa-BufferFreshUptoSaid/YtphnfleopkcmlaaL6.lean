/- BufferNodes: the whole law. Own work of this session. -/
import Derived.Test.YtphnfleopkcmlaaL4
set_option linter.unusedVariables false
namespace Go.Hw
open Go

section
variable {F : Nat → Prop} {H : Hp} {g n : Nat} {st : Int} {f : Fn}

theorem take_succ_mem {α : Type} {l : List α} {i : Nat} {x : α} (h : l[i]? = some x) (m : α) : m ∈ l.take (i + 1) ↔ m ∈ l.take i ∨ m = x := by
  obtain ⟨hi, rfl⟩ := List.getElem?_eq_some_iff.1 h
  have : l.take (i + 1) = l.take i ++ [l[i]] := by simp
  rw [this, List.mem_append, List.mem_singleton]

/-- How many different marks there are. -/
theorem c20 {Q : Int → Hp → Prop} (h : BI F H g st n f) (hn : n ≤ 1000) (hQ : ∀ H' (D : List Mk), D.Nodup → (∀ m, m ∈ D ↔ OnRow f m) → Kp No H H' → Q D.length H') : F20 (some ⟨g, 0, none⟩) H Q := by
  refine c21 h (by omega) fun H1 r lr hra k1 => ?_
  have s1 := k1.size
  have hrn := lr.n
  have hrlen := runsOf_len f n
  have hrn : r.n = (runsOf f n).length := by simpa [ints] using hrn
  intro X hX
  suffices G : ∀ (d i : Nat) (l : Sl) (S : List Mk) (H' : Hp), i + d = (runsOf f n).length → Lst mF H' l S → (∀ b, l.at b → H1.size ≤ b) → S.Nodup → S.length ≤ 1001 * i → (∀ m, m ∈ S ↔ ∃ v ∈ (runsOf f n).take i, ∃ row, f v = some row ∧ m ∈ row) → Kp No H1 H' → X l (i : Int) H' from
    G (runsOf f n).length 0 Sl.nil [] H1 (by omega) (Lst.nil _ _) (fun b hb => by cases hb) List.nodup_nil (by simp) (fun m => by simp) (Kp.refl _ _)
  intro d
  induction d with
  | zero =>
    intro i l S H' hi ls hls hnd hlen hS k
    have hln := ls.n
    refine hX _ _ _ ⟨fun hh => absurd (of_decide_eq_true hh) (by omega), fun _ => ?_⟩
    unfold F20_1
    rw [hln]
    refine hQ H' S hnd (fun m => (hS m).trans ?_) (k1.trans k fun _ h => h.elim)
    rw [List.take_of_length_le (by omega)]
    constructor
    · rintro ⟨v, hv, row, h1, h2⟩
      exact ⟨v, row, h1, h2⟩
    · rintro ⟨v, row, h1, h2⟩
      refine ⟨v, runsOf_mem.2 ⟨?_, by rw [h1]; rfl⟩, row, h1, h2⟩
      by_cases hv : v < n
      · exact hv
      · rw [h.big (by omega)] at h1; cases h1
  | succ d ih =>
    intro i l S H' hi ls hls hnd hlen hS k
    have hil : i < (runsOf f n).length := by omega
    have gi : (runsOf f n)[i]? = some (runsOf f n)[i] := List.getElem?_eq_getElem hil
    have hmem := List.getElem_mem hil
    generalize (runsOf f n)[i] = v at gi hmem
    have gi' : (ints (runsOf f n))[i]? = some (v : Int) := by rw [List.getElem?_map, gi]; rfl
    obtain ⟨hvn, hvs⟩ := runsOf_mem.1 hmem
    obtain ⟨p, hp, _, cp⟩ := (lr.kp k fun _ _ => id).rd.get gi'
    have hw : IntKind.i64.wrap ((i : Int) + 1) = ((i + 1 : Nat) : Int) := by rw [wr (by omega) (by omega)]; omega
    have sk := k.size
    refine hX _ _ _ ⟨fun _ => ⟨p, hp, by omega, by omega, _, cp.1, c22 ((h.kp k1 fun _ _ => id).kp k fun _ _ => id) (by omega) (fun hh => ?_) fun row hrow hrl H18 s lrow hsa k18 => ?_⟩, fun hh => absurd (of_decide_eq_false hh) (by omega)⟩
    · rw [atI_nat] at hh
      rw [hh] at hvs; cases hvs
    rw [atI_nat] at hrow
    have s18 := k18.size
    have hsn := lrow.n
    rw [List.length_reverse] at hsn
    intro Y hY
    suffices G2 : ∀ (e j : Nat) (l : Sl) (S : List Mk) (H' : Hp), j + e = row.length → Lst mF H' l S → (∀ b, l.at b → H1.size ≤ b ∧ ¬ s.at b) → S.Nodup → S.length ≤ 1001 * i + j → (∀ m, m ∈ S ↔ (∃ v ∈ (runsOf f n).take i, ∃ row, f v = some row ∧ m ∈ row) ∨ m ∈ row.reverse.take j) → Kp (fun b => H1.size ≤ b ∧ ¬ s.at b) H18 H' → Y l (j : Int) H' from
      G2 row.length 0 l S H18 (by omega) (ls.kp k18 fun _ _ => id) (fun b hb => ⟨hls b hb, fun hh => by have := ls.lt hb; have := hsa b hh; omega⟩) hnd (by omega) (fun m => by rw [hS]; simp) (Kp.refl _ _)
    intro e
    induction e with
    | zero =>
      intro j l S H2 hj ls hls hnd hlen hS k2
      refine hY _ _ _ ⟨fun hh => absurd (of_decide_eq_true hh) (by omega), fun _ => ?_⟩
      unfold F20_3
      rw [hw]
      refine ih (i + 1) l S H2 (by omega) ls (fun b hb => (hls b hb).1) hnd (by omega) (fun m => (hS m).trans ?_) ((k.trans k18 fun _ h => h.elim).trans k2 fun _ h => .inr h.1)
      rw [List.take_of_length_le (l := row.reverse) (by simp; omega)]
      constructor
      · rintro (⟨u, hu, ro, h1, h2⟩ | hm)
        · exact ⟨u, (take_succ_mem gi u).2 (.inl hu), ro, h1, h2⟩
        · exact ⟨v, (take_succ_mem gi v).2 (.inr rfl), row, hrow, by simpa using hm⟩
      · rintro ⟨u, hu, ro, h1, h2⟩
        rcases (take_succ_mem gi u).1 hu with hu | hu
        · exact .inl ⟨u, hu, ro, h1, h2⟩
        · rw [hu, hrow] at h1
          injection h1 with h1
          exact .inr (by rw [h1]; simpa using h2)
    | succ e ih2 =>
      intro j l S H2 hj ls hls hnd hlen hS k2
      have hjl : j < row.reverse.length := by simp; omega
      have gj : row.reverse[j]? = some row.reverse[j] := List.getElem?_eq_getElem hjl
      generalize row.reverse[j] = m at gj
      have hln := ls.n
      have hwj : IntKind.i64.wrap ((j : Int) + 1) = ((j + 1 : Nat) : Int) := by rw [wr (by omega) (by omega)]; omega
      obtain ⟨q, hq, _, cq⟩ := (lrow.kp k2 fun _ hb hh => hh.2 hb).rd.get gj
      have sk2 := k2.size
      refine hY _ _ _ ⟨fun _ => ?_, fun hh => absurd (of_decide_eq_false hh) (by omega)⟩
      intro Z hZ
      suffices G3 : ∀ (c t : Nat), t + c = S.length → Z (decide (m ∈ S.take t)) (t : Int) H2 from by
        have := G3 S.length 0 (by omega)
        rwa [show decide (m ∈ S.take 0) = false from by simp] at this
      intro c
      induction c with
      | zero =>
        intro t ht
        refine hZ _ _ _ ⟨fun hh => absurd (of_decide_eq_true hh) (by omega), fun _ => ?_⟩
        rw [List.take_of_length_le (by omega)]
        refine ⟨fun hh => ⟨q, hq, by omega, by omega, _, _, cq, fun H82 e82 => ?_⟩, fun hh => ?_⟩
        · have hnot : m ∉ S := by simpa using hh
          have k82 : Kp No H2 H82 := (Kp.refl No _).push' e82
          have s82 := size_push' e82
          have bx : Row H82 H2.size 32 (mF.f m) := Row.new' e82
          refine (ls.kp k82 fun _ _ => id).append1 bx rfl (by omega) (by omega) fun r86 H84 l84 k84 hs84 => ?_
          unfold F20_5
          rw [hwj]
          refine ih2 (j + 1) r86 (S ++ [m]) H84 (by omega) l84 (fun b hb => ?_) ?_ (by simp; omega) (fun x => ?_) ((k2.trans k82 fun _ h => h.elim).trans k84 fun b hb => .inl (hls b hb))
          · rcases hs84 b hb with hb | hb
            · exact hls b hb
            · refine ⟨by omega, fun hh => ?_⟩
              have := (lrow.kp k2 fun _ hb hh => hh.2 hb).lt hh
              omega
          · rw [List.nodup_append]
            refine ⟨hnd, by simp, fun a ha b hb => ?_⟩
            simp at hb
            subst hb
            exact fun hh => hnot (hh ▸ ha)
          · rw [List.mem_append, List.mem_singleton, hS, take_succ_mem gj]
            constructor
            · rintro ((h | h) | h)
              · exact .inl h
              · exact .inr (.inl h)
              · exact .inr (.inr h)
            · rintro (h | h | h)
              · exact .inl (.inl h)
              · exact .inl (.inr h)
              · exact .inr h
        · have hin : m ∈ S := by simpa using hh
          unfold F20_5
          rw [hwj]
          refine ih2 (j + 1) l S H2 (by omega) ls hls hnd (by omega) (fun x => ?_) k2
          rw [hS, take_succ_mem gj]
          constructor
          · rintro (h | h)
            · exact .inl h
            · exact .inr (.inl h)
          · rintro (h | h | h)
            · exact .inl h
            · exact .inr h
            · subst h
              exact (hS x).1 hin
      | succ c ih3 =>
        intro t ht
        have htl : t < S.length := by omega
        have gt : S[t]? = some S[t] := List.getElem?_eq_getElem htl
        have hwt : IntKind.i64.wrap ((t : Int) + 1) = ((t + 1 : Nat) : Int) := by rw [wr (by omega) (by omega)]; omega
        obtain ⟨w, hw', _, cw⟩ := ls.rd.get gt
        have hnext : decide (m ∈ S.take (t + 1)) = (decide (m ∈ S.take t) || decide (S[t] = m)) := by
          rw [Bool.eq_iff_iff]
          simp only [decide_eq_true_eq, Bool.or_eq_true]
          rw [take_succ_mem gt]
          constructor
          · rintro (h | h)
            · exact .inl h
            · exact .inr h.symm
          · rintro (h | h)
            · exact .inl h
            · exact .inr h.symm
        have ih3 := ih3 (t + 1) (by omega)
        refine hZ _ _ _ ⟨fun _ => ⟨fun hh => ?_, fun hh => ⟨w, hw', by omega, by omega, _, _, cw, q, hq, by omega, by omega, _, _, cq, ?_⟩⟩, fun hh => absurd (of_decide_eq_false hh) (by omega)⟩
        · unfold F20_8
          rw [hwt]
          rw [hnext, hh] at ih3
          exact ih3
        · unfold F20_8
          rw [hwt]
          rw [hnext, hh] at ih3
          have : (decide (S[t].1 = m.1) && decide (S[t].2 = m.2)) = decide (S[t] = m) := by
            rw [Bool.eq_iff_iff]
            simp [Prod.ext_iff]
          rw [this]
          exact ih3
end
end Go.Hw
