/- The document's reading of a declaration: all of it; Print. Own work of this session. -/
import Derived.Test.YtbhfkpdalilhcaaDoorT19
set_option linter.unusedVariables false
namespace Go.Hw
open Go

theorem stepP_w {w : Nat} {n : ByteArray} {A : Atts} {r : List Nat} : (stepP w n A r).1 ≤ 7 ∧ ((stepP w n A r).1 = 5 → (stepP w n A r).2.2.2 ≠ []) ∧ (stepP w n A r).2.2.2.length ≤ A.length + 1 := by
  unfold stepP
  have sk : ∀ k, (setK A k).length ≤ A.length + 1 := fun k => by
    unfold setK
    rw [List.length_append, List.length_dropLast]
    split <;> simp <;> omega
  repeat' split
  all_goals first
    | exact ⟨by show _ ≤ 7; omega, (fun h => by simp at h), by show A.length ≤ _; omega⟩
    | exact ⟨by show _ ≤ 7; omega, (fun h => by simp at h), sk _⟩
    | exact ⟨by show _ ≤ 7; omega, fun _ => by simp, by simp⟩
section
variable {H : Hp} {s : ByteArray}
theorem ret2 {b : Nat} {l : List Value} {K : ByteArray → Sl → Hp → Prop} (r : Row H b 27 l) (hl : l.length = 2) (x : ByteArray) (y : Sl) (hK : ∀ H', Kp (fun x => x = b) H H' → K x y H') :
    mayw H ⟨b, 0, none⟩ 2 0 ∧ ∀ H' : Hp, H' = sets H ⟨b, 0, none⟩ [.string x, Sl.v y] 0 → (∃ (x6 : ByteArray) (x7 : Sl), cells H' ⟨b, 0, none⟩ [.string x6, Sl.v x7] 0 ∧ (K x6 x7 H')) := by
  refine ⟨r.mayw (by omega), fun H' e => ?_⟩
  have r' : Row H' b 27 [.string x, Sl.v y] := r.fill' e (by simp [hl])
  exact ⟨_, _, r'.all, hK H' ((Kp.refl _ _).sets' e (.inl rfl))⟩
theorem c50 {Q : ByteArray → Sl → Int → Int → Hp → Prop}
    (q2 : 4096 < s.size → ∀ H', Kp No H H' → Q E Sl.nil 0 2 H')
    (q1 : s.size ≤ 4096 → (declP (bytes s)).1 ≠ 0 → ∀ H', Kp No H H' → Q E Sl.nil ((s.size - (declP (bytes s)).2.1.length : Nat) : Int) (declP (bytes s)).1 H')
    (q0 : s.size ≤ 4096 → (declP (bytes s)).1 = 0 → ∀ sl H', Lst aF H' sl (declP (bytes s)).2.2.2 → (∀ b, sl.at b → H.size ≤ b) → Kp No H H' → Q (declP (bytes s)).2.2.1 sl 0 0 H') : F50 s H Q := by
  intro H1 e1
  have k1 : Kp No H H1 := (Kp.refl _ _).push' e1
  have s1 := size_push' e1
  have r1 : Row H1 H.size 27 [.string E, Sl.v Sl.nil] := Row.new' e1
  have box : ∀ {Ha Hb : Hp}, Kp No H Ha → Kp (fun x => x = H.size) Ha Hb → Kp No H Hb := fun k k' => k.trans k' fun b e => .inr (by omega)
  refine ⟨fun g => ?_, fun g => ?_⟩
  · exact ret2 (K := fun a b H' => Q a b 0 2 H') r1 rfl E Sl.nil fun H' k => q2 (by have := of_decide_eq_true g; omega) H' (box k1 k)
  have hs : s.size ≤ 4096 := by have := of_decide_eq_false g; omega
  replace q1 := q1 hs
  replace q0 := q0 hs
  intro H10 e10
  have k10 : Kp No H H10 := k1.push' e10
  have s10 := size_push' e10
  have t10 : Row H10 H1.size 27 [.string E, Sl.v Sl.nil] := Row.new' e10
  refine c75 hs fun ts TL H12 hT hts htb hlen k12 => ?_
  have kk12 := k10.trans k12 fun _ h => h.elim
  obtain ⟨m1, m2, m3⟩ := decl_mach hT
  have suf := hT.suf (skipB_suffix (bytes s))
  rw [← m1, ← m2] at q1
  rw [← m1] at q0 m3
  have htn := hts.n
  rw [List.length_map] at htn
  intro X2 hX2
  suffices G : ∀ (L : List (List Nat)) (i w : Nat) (n : ByteArray) (A : Atts) (sl : Sl) (H' : Hp), TL.drop i = L → i + L.length = TL.length → mach L w n A = mach TL 0 E [] → w ≤ 7 → (w = 5 → A ≠ []) → A.length ≤ i → PT H1.size H' H1.size n sl A → Row H' H.size 27 [.string E, Sl.v Sl.nil] → Lst tkF H' ts (TL.map (tkOf s)) → Kp No H H' → X2 (w : Int) (i : Int) H' from
    G TL 0 0 E [] Sl.nil H12 rfl (by omega) rfl (by decide) (fun h => absurd h (by decide)) (Nat.le_refl _) ⟨k12.row t10 id, Lst.nil _ _, Nat.le_refl _, fun b h => (by cases h), by have := k12.size; omega⟩ (k12.row (r1.push' e10) id) hts kk12
  intro L
  induction L with
  | nil =>
    intro i w n A sl H' hd hi hm hw h5 hA hp hr ht k
    refine hX2 _ _ _ ⟨fun h => absurd (of_decide_eq_true h) (by simp only [List.length_nil] at hi; omega), fun _ => ?_⟩
    have e24 : mach TL 0 E [] = (24, [], n, A) := hm.symm
    refine ret2 (K := fun a b H' => Q a b ((s.size : Nat) : Int) 24 H') hr rfl E Sl.nil fun H' k' => ?_
    have := q1 (by rw [e24]; exact (by decide : (24 : Int) ≠ 0)) H' (box k k')
    rw [e24] at this; exact this
  | cons r L ih =>
    intro i w n A sl H' hd hi hm hw h5 hA hp hr ht k
    simp only [List.length_cons] at hi
    have it : ((i : Nat) : Int).toNat = i := by omega
    have gr : TL[i]? = some r := by
      have := congrArg (fun x : List (List Nat) => x[0]?) hd
      simpa using this
    have hsuf := suf r (List.mem_of_getElem? gr)
    have hrl : r.length ≤ s.size := by have := hsuf.length_le; rw [bytes_len] at this; exact this
    have gt : (TL.map (tkOf s))[i]? = some (tkOf s r) := by rw [List.getElem?_map, gr]; rfl
    have tk : ∀ {Hx}, Lst tkF Hx ts (TL.map (tkOf s)) → ∃ a : Addr, ts.b = some a ∧ (0 : Int) ≤ (i : Int) ∧ (i : Int) < (ts.n : Int) ∧ cells Hx (a.add ((i : Int).toNat * 3)) [.string (tok r), .int .i64 ((s.size - r.length : Nat) : Int), .bool (wordN r)] 0 := fun hx => by
      obtain ⟨a, ha, hlt, hcs⟩ := hx.rd.get gt
      exact ⟨a, ha, by omega, by omega, by rw [it]; exact hcs⟩
    have tl0 : seq (tok r) E = true ↔ tl r = [] := tok_seq hsuf rfl
    -- not the end
    have go : ¬ (w = 7 ∧ r = []) → F50_3 Q X2 s ⟨H.size, 0, none⟩ ⟨H1.size, 0, none⟩ ts (w : Int) (i : Int) false H' := fun hne => by
      obtain ⟨a, ha, ha0, han, hcs⟩ := tk ht
      refine ⟨fun g => (by cases g), fun _ => ⟨a, ha, ha0, han, _, _, _, hcs, ?_⟩⟩
      have sw := @stepP_w w n A r
      rw [mach, if_neg hne] at hm
      have tsn : ¬ ts.at H1.size := ht.ne hp.t (by decide)
      have tst : ∀ b, ts.at b → ¬ (b = H1.size ∨ sl.at b) := fun b hb hh => by
        rcases hh with rfl | hh
        · exact tsn hb
        · obtain ⟨sp, h1⟩ := ht.row hb
          exact hp.l.ne h1 (by decide) hh
      have nrb : ¬ (H.size = H1.size ∨ sl.at H.size) := fun hh => by
        rcases hh with e | hh
        · omega
        · exact hp.l.ne hr (by decide) hh
      have kfr : ∀ {Hx}, Kp (fun b => b = H1.size ∨ sl.at b) H' Hx → Kp No H Hx := fun kx => k.trans kx fun b hb => .inr (by
        rcases hb with rfl | hb
        · omega
        · have := hp.b3 b hb; omega)
      refine c76 hp (by omega) hsuf hw h5 (fun he w' H65 k65 => ?_) (fun he sl' H65 p65 k65 => ?_)
      · refine ⟨fun _ => ?_, fun h => absurd (of_decide_eq_false h) (fun h => h he)⟩
        have ht65 := ht.kp k65 tst
        have hr65 := k65.row hr nrb
        obtain ⟨a2, ha2, ha20, ha2n, hcs2⟩ := tk ht65
        refine ⟨a2, ha2, ha20, ha2n, _, hcs2.2.1, hr65.mayw (by simp), fun H76 e76 => ?_⟩
        have k76 : Kp (fun x => x = H.size) H65 H76 := (Kp.refl (fun x => x = H.size) H65).sets' e76 (.inl rfl)
        have r76 : Row H76 H.size 27 [.string E, Sl.v Sl.nil] := hr65.fill' e76 rfl
        have ht76 := ht65.kp k76 fun b hb e => (ht65.ne hr65 (by decide)) (e ▸ hb)
        obtain ⟨a3, ha3, _, _, hcs3⟩ := tk ht76
        rw [ha2] at ha3; injection ha3 with ha3; subst ha3
        refine ⟨hcs3.2.1, _, _, r76.all, ?_⟩
        rw [if_pos he] at hm
        have := q1 (by rw [← hm]; exact he) H76 (box (kfr k65) k76)
        rw [← hm] at this; exact this
      · refine ⟨fun h => absurd rfl (of_decide_eq_true h), fun _ => ?_⟩
        rw [if_neg (fun h => h he)] at hm
        rw [wr (by omega) (by omega), show ((i : Int) + 1) = ((i + 1 : Nat) : Int) by omega]
        refine ih (i + 1) _ _ _ sl' H65 ?_ (by omega) hm sw.1 sw.2.1 (by have := sw.2.2; omega) p65 (k65.row hr nrb) (ht.kp k65 tst) (kfr k65)
        rw [show TL.drop (i + 1) = (TL.drop i).drop 1 from by rw [List.drop_drop], hd]; rfl
    have yes : w = 7 ∧ r = [] → F50_3 Q X2 s ⟨H.size, 0, none⟩ ⟨H1.size, 0, none⟩ ts (w : Int) (i : Int) true H' := fun ⟨hw7, hr0⟩ => by
      refine ⟨fun _ => ⟨_, _, hp.t.all, ?_⟩, fun g => (by cases g)⟩
      have em : mach TL 0 E [] = (0, r, n, A) := by rw [← hm, mach, if_pos ⟨hw7, hr0⟩]
      have ed := m3 (by rw [em])
      rw [em] at ed
      refine ret2 (K := fun a b H' => Q a b 0 0 H') hr rfl n sl fun H'' k'' => ?_
      have := q0 (by rw [em]) sl H'' (by rw [← ed]; exact hp.l.kp k'' fun b hb e => (hp.l.ne hr (by decide)) (e ▸ hb)) (fun b hb => by have := hp.b3 b hb; omega) (box k k'')
      rw [← ed] at this; exact this
    refine hX2 _ _ _ ⟨fun _ => ⟨fun g7 => ?_, fun g7 => go fun h => absurd (of_decide_eq_false g7) (by omega)⟩, fun h => absurd (of_decide_eq_false h) (by omega)⟩
    have w7 : w = 7 := by have := of_decide_eq_true g7; omega
    obtain ⟨a, ha, ha0, han, hcs⟩ := tk ht
    have c0 : cell H' (a.add ((i : Int).toNat * 3)) = some (.string (tok r)) := by have := hcs.1; rwa [add_add, Nat.add_zero] at this
    refine ⟨a, ha, ha0, han, tok r, c0, fun ge => ⟨a, ha, ha0, han, _, hcs.2.1, ?_⟩, fun ge => go fun h => ?_⟩
    · by_cases hr0 : r = []
      · rw [show decide ((((s.size - r.length : Nat) : Int)) = ((s.size : Nat) : Int)) = true from decide_eq_true (by rw [hr0]; rfl)]
        exact yes ⟨w7, hr0⟩
      · have : 0 < r.length := List.length_pos_iff.2 hr0
        rw [show decide ((((s.size - r.length : Nat) : Int)) = ((s.size : Nat) : Int)) = false from decide_eq_false (by omega)]
        exact go fun h => hr0 h.2
    · rw [tl0.2 (by rw [h.2]; rfl)] at ge; cases ge
end
end Go.Hw
