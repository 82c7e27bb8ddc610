/- The document's reading of a declaration, over tokens: plain. Own work of this session. -/
import Derived.Test.YtbhfkpdalilhcaaDoorT16
set_option linter.unusedVariables false
namespace Go.Hw
open Go

/-- The tokens from one on: the last one is the end, or a byte that is no part of one. -/
inductive Tk : List Nat → List (List Nat) → Prop
  | last {r : List Nat} : tl r = [] → Tk r [r]
  | more {r : List Nat} {L : List (List Nat)} : tl r ≠ [] → Tk (nxt r) L → Tk r (r :: L)
theorem wordN_tl {r : List Nat} (h : wordN r = true) : tl r ≠ [] := by
  match r, h with
  | b :: t, h =>
    have h : partN' b = true := h
    have hw : wLen (b :: t) ≠ 0 := by
      unfold wLen
      rw [List.takeWhile_cons, h]
      simp
    unfold tl tokLen
    rw [if_neg hw]
    intro e
    have := congrArg List.length e
    rw [List.length_take, List.length_cons, List.length_nil] at this
    omega
abbrev Atts := List (ByteArray × Int)
/-- What is wrong with an attribute's name. -/
def atE (A : Atts) (t : ByteArray) : Int := if 16 ≤ A.length then 2 else if (nm t && !(seq t S_time)) = false then 20 else if (A.any fun a => seq a.1 t) = true then 5 else 0
def setK (A : Atts) (k : Int) : Atts := A.dropLast ++ (match A.getLast? with | some a => [(a.1, k)] | none => [])
theorem setK_app (A : Atts) (t : ByteArray) (x k : Int) : setK (A ++ [(t, x)]) k = A ++ [(t, k)] := by
  unfold setK
  rw [List.dropLast_concat, List.getLast?_concat]
/-- One token: what is wanted then, what is wrong, the type so far. -/
def stepP (w : Nat) (n : ByteArray) (A : Atts) (r : List Nat) : Nat × Int × ByteArray × Atts :=
  if w = 0 then (if tl r = [84, 89, 80, 69] then (1, 0, n, A) else (0, 24, n, A))
  else if w = 1 then (if wordN r = true then (if nm (tok r) = true then (2, 0, tok r, A) else (0, 20, n, A)) else (0, 24, n, A))
  else if w = 2 then (if tl r = [40] then (3, 0, n, A) else (0, 24, n, A))
  else if w = 3 ∨ w = 4 then (if w = 3 ∧ tl r = [41] then (7, 0, n, A) else if wordN r = true then (5, atE A (tok r), n, A ++ [(tok r, 0)]) else (0, 24, n, A))
  else if w = 5 then (if kindT (tok r) = 0 then (0, 24, n, A) else (6, 0, n, setK A (kindT (tok r))))
  else if w = 6 then (if tl r = [44] then (4, 0, n, A) else if tl r = [41] then (7, 0, n, A) else (0, 24, n, A))
  else (0, 24, n, A)
def mach : List (List Nat) → Nat → ByteArray → Atts → Int × List Nat × ByteArray × Atts
  | [], _, n, A => (24, [], n, A)
  | r :: L, w, n, A => if w = 7 ∧ r = [] then (0, r, n, A) else if (stepP w n A r).2.1 ≠ 0 then ((stepP w n A r).2.1, r, n, A) else mach L (stepP w n A r).1 (stepP w n A r).2.2.1 (stepP w n A r).2.2.2
/-- Wrong alike, at the same place; or the same type. -/
def Same (p : Int × List Nat × ByteArray × Atts) (n : ByteArray) (q : Int × List Nat × Atts) : Prop := p.1 = q.1 ∧ p.2.1 = q.2.1 ∧ (q.1 = 0 → p.2.2 = (n, q.2.2))
theorem mach_err {r : List Nat} {L : List (List Nat)} {w : Nat} {n n' : ByteArray} {A A' : Atts} {e : Int} (hw : w ≠ 7) (he : (stepP w n A r).2.1 = e) (h0 : e ≠ 0) : Same (mach (r :: L) w n A) n' (e, r, A') := by
  unfold mach
  rw [if_neg (fun h => hw h.1), if_pos (by rw [he]; exact h0), he]
  exact ⟨rfl, rfl, fun h => absurd h h0⟩
theorem mach_go {r : List Nat} {L : List (List Nat)} {w w' : Nat} {n n' : ByteArray} {A A' : Atts} (hw : w ≠ 7) (he : stepP w n A r = (w', 0, n', A')) : mach (r :: L) w n A = mach L w' n' A' := by
  rw [mach, if_neg (fun h => hw h.1), he, if_neg (fun h => h rfl)]
theorem kind_tok {r : List Nat} (h : kindT (tok r) ≠ 0) : tl r ≠ [] := fun e => by
  apply h
  have hs : ∀ x : ByteArray, 0 < x.size → seq (tok r) x = false := fun x hx => by
    cases he : seq (tok r) x
    · rfl
    · have := seq_iff.1 he
      rw [← this] at hx
      unfold tok at hx
      rw [e] at hx
      exact absurd hx (by decide)
  unfold kindT
  rw [hs _ (by decide), hs _ (by decide), hs _ (by decide)]
  rfl
theorem tk_more {r : List Nat} {L : List (List Nat)} (h : Tk r L) (ht : tl r ≠ []) : ∃ L', L = r :: L' ∧ Tk (nxt r) L' := by
  cases h with
  | last h => exact absurd h ht
  | more _ h => exact ⟨_, rfl, h⟩
theorem tk_head {r : List Nat} {L : List (List Nat)} (h : Tk r L) : ∃ L', L = r :: L' := by
  cases h with
  | last h => exact ⟨_, rfl⟩
  | more _ h => exact ⟨_, rfl⟩
theorem nz {x : Int} {P : Prop} (h : x = 0) (d : (x == 0) = false) : P := by subst h; cases d
/-- An attribute. -/
theorem attr_mach {r : List Nat} {L : List (List Nat)} {w : Nat} {n : ByteArray} {A : Atts} (h : Tk r L) (hw : w = 3 ∨ w = 4) (h3 : w = 3 → tl r ≠ [41]) (hA : A.length ≤ 16) :
    ((attrP r A).1 ≠ 0 → Same (mach L w n A) n (attrP r A)) ∧ ((attrP r A).1 = 0 → ∃ L', Tk (attrP r A).2.1 L' ∧ mach L w n A = mach L' 6 n (attrP r A).2.2 ∧ (attrP r A).2.2.length = A.length + 1 ∧ A.length < 16) := by
  obtain ⟨L1, rfl⟩ := tk_head h
  have w7 : w ≠ 7 := by omega
  have st : stepP w n A r = if wordN r = true then (5, atE A (tok r), n, A ++ [(tok r, 0)]) else (0, 24, n, A) := by
    unfold stepP
    rw [if_neg (by omega), if_neg (by omega), if_neg (by omega), if_pos hw, if_neg (fun h => h3 h.1 h.2)]
  unfold attrP
  by_cases hwd : wordN r = false
  · rw [if_pos hwd]
    exact ⟨fun _ => mach_err w7 (by rw [st, if_neg (by rw [hwd]; decide)]) (by decide), fun h => nz h rfl⟩
  rw [if_neg hwd]
  have hwd : wordN r = true := by simpa using hwd
  rw [if_pos hwd] at st
  unfold atE at st
  by_cases h16 : A.length = 16
  · rw [if_pos h16]
    exact ⟨fun _ => mach_err w7 (by rw [st, if_pos (by omega)]) (by decide), fun h => nz h rfl⟩
  rw [if_neg h16]
  rw [if_neg (by omega)] at st
  by_cases hn : (nm (tok r) && !(seq (tok r) S_time)) = false
  · rw [if_pos hn]
    exact ⟨fun _ => mach_err w7 (by rw [st, if_pos hn]) (by decide), fun h => nz h rfl⟩
  rw [if_neg hn]
  rw [if_neg hn] at st
  by_cases hd : (A.any fun a => seq a.1 (tok r)) = true
  · rw [if_pos hd]
    exact ⟨fun _ => mach_err w7 (by rw [st, if_pos hd]) (by decide), fun h => nz h rfl⟩
  rw [if_neg hd]
  rw [if_neg hd] at st
  obtain ⟨L2, e2, ht2⟩ := tk_more h (wordN_tl hwd)
  injection e2 with _ e2
  subst e2
  rw [mach_go w7 st]
  by_cases hk : kindT (tok (nxt r)) = 0
  · rw [if_pos hk]
    obtain ⟨L3, rfl⟩ := tk_head ht2
    refine ⟨fun _ => mach_err (by decide) ?_ (by decide), fun h => nz h rfl⟩
    unfold stepP
    rw [if_neg (by decide), if_neg (by decide), if_neg (by decide), if_neg (by decide), if_pos rfl, if_pos hk]
  · rw [if_neg hk]
    obtain ⟨L3, rfl, ht3⟩ := tk_more ht2 (kind_tok hk)
    refine ⟨fun h => absurd rfl h, fun _ => ⟨L3, ht3, mach_go (by decide) ?_, by simp, by omega⟩⟩
    unfold stepP
    rw [if_neg (by decide), if_neg (by decide), if_neg (by decide), if_neg (by decide), if_pos rfl, if_neg hk, setK_app]
/-- Behind the closing bracket. -/
theorem end_mach {r : List Nat} {L : List (List Nat)} {n : ByteArray} {A : Atts} (h : Tk r L) : Same (mach L 7 n A) n (if r = [] then (0, r, A) else (24, r, A)) := by
  obtain ⟨L1, rfl⟩ := tk_head h
  by_cases hr : r = []
  · rw [if_pos hr]
    unfold mach
    rw [if_pos ⟨rfl, hr⟩]
    exact ⟨rfl, rfl, fun _ => rfl⟩
  · rw [if_neg hr]
    unfold mach
    have st : (stepP 7 n A r).2.1 = 24 := rfl
    rw [if_neg (fun h => hr h.2), if_pos (by rw [st]; decide), st]
    exact ⟨rfl, rfl, fun h => nz h rfl⟩
theorem loop_mach {n : ByteArray} : ∀ (k : Nat) (r : List Nat) (A : Atts) (L : List (List Nat)), Tk r L → A.length ≤ 16 → k + A.length = 17 → (A = [] → Same (mach L 3 n A) n (loopP k r A)) ∧ (A ≠ [] → Same (mach L 6 n A) n (loopP k r A))
  | 0, r, A, L, h, hA, hk => by omega
  | k + 1, r, A, L, h, hA, hk => by
    have s3 : tl r = [41] → stepP 3 n A r = (7, 0, n, A) := fun e => by unfold stepP; rw [if_neg (by decide), if_neg (by decide), if_neg (by decide), if_pos (.inl rfl), if_pos ⟨rfl, e⟩]
    have s6 : stepP 6 n A r = if tl r = [44] then (4, 0, n, A) else if tl r = [41] then (7, 0, n, A) else (0, 24, n, A) := by unfold stepP; rw [if_neg (by decide), if_neg (by decide), if_neg (by decide), if_neg (by decide), if_neg (by decide), if_pos rfl]
    rw [loopP]
    by_cases h41 : tl r = [41]
    · rw [if_pos h41]
      obtain ⟨L1, rfl, ht⟩ := tk_more h (by rw [h41]; decide)
      refine ⟨fun _ => ?_, fun _ => ?_⟩
      · rw [mach_go (by decide) (s3 h41)]; exact end_mach ht
      · rw [mach_go (by decide) (by rw [s6, if_neg (by rw [h41]; decide), if_pos h41])]; exact end_mach ht
    rw [if_neg h41]
    refine ⟨fun e => ?_, fun e => ?_⟩
    · rw [if_pos e]
      obtain ⟨g1, g2⟩ := attr_mach (n := n) h (.inl rfl) (fun _ => h41) hA
      by_cases ha : (attrP r A).1 = 0
      · rw [if_pos ha]
        obtain ⟨L', t', e', l', l16⟩ := g2 ha
        rw [e']
        exact (loop_mach k _ _ L' t' (by omega) (by omega)).2 (fun e0 => by rw [e0] at l'; simp at l')
      · rw [if_neg ha]; exact g1 ha
    · rw [if_neg e]
      by_cases h44 : tl r = [44]
      · rw [if_pos h44]
        obtain ⟨L1, rfl, ht⟩ := tk_more h (by rw [h44]; decide)
        rw [mach_go (by decide) (by rw [s6, if_pos h44])]
        obtain ⟨g1, g2⟩ := attr_mach (n := n) ht (.inr rfl) (fun h => absurd h (by decide)) hA
        by_cases ha : (attrP (nxt r) A).1 = 0
        · rw [if_pos ha]
          obtain ⟨L', t', e', l', l16⟩ := g2 ha
          rw [e']
          exact (loop_mach k _ _ L' t' (by omega) (by omega)).2 (fun e0 => by rw [e0] at l'; simp at l')
        · rw [if_neg ha]; exact g1 ha
      · rw [if_neg h44]
        obtain ⟨L1, rfl⟩ := tk_head h
        exact mach_err (by decide) (by rw [s6, if_neg h44, if_neg h41]) (by decide)
def Same4 (p q : Int × List Nat × ByteArray × Atts) : Prop := p.1 = q.1 ∧ p.2.1 = q.2.1 ∧ (q.1 = 0 → p.2.2 = q.2.2)
theorem err4 {r : List Nat} {L : List (List Nat)} {w : Nat} {n n' : ByteArray} {A A' : Atts} {e : Int} (hw : w ≠ 7) (he : (stepP w n A r).2.1 = e) (h0 : e ≠ 0) : Same4 (mach (r :: L) w n A) (e, r, n', A') := by
  unfold mach
  rw [if_neg (fun h => hw h.1), if_pos (by rw [he]; exact h0), he]
  exact ⟨rfl, rfl, fun h => absurd h h0⟩
theorem Same.four {p : Int × List Nat × ByteArray × Atts} {n : ByteArray} {q : Int × List Nat × Atts} (h : Same p n q) : Same4 p (q.1, q.2.1, n, q.2.2) := ⟨h.1, h.2.1, h.2.2⟩
theorem decl_mach {b : List Nat} {L : List (List Nat)} (h : Tk (skipB b) L) : Same4 (mach L 0 E []) (declP b) := by
  unfold declP
  simp only []
  obtain ⟨L1, e1⟩ := tk_head h
  by_cases h0 : tl (skipB b) ≠ [84, 89, 80, 69]
  · rw [if_pos h0, e1]
    exact err4 (by decide) (by unfold stepP; rw [if_pos rfl, if_neg h0]) (by decide)
  rw [if_neg h0]
  have h0 : tl (skipB b) = [84, 89, 80, 69] := Decidable.not_not.1 h0
  obtain ⟨L2, e2, t2⟩ := tk_more h (by rw [h0]; decide)
  rw [e2, mach_go (w' := 1) (n' := E) (A' := []) (by decide) (by unfold stepP; rw [if_pos rfl, if_pos h0])]
  obtain ⟨L3, e3⟩ := tk_head t2
  by_cases hw : wordN (nxt (skipB b)) = false
  · rw [if_pos hw, e3]
    exact err4 (by decide) (by unfold stepP; rw [if_neg (by decide), if_pos rfl, if_neg (by rw [hw]; decide)]) (by decide)
  rw [if_neg hw]
  have hw : wordN (nxt (skipB b)) = true := by simpa using hw
  by_cases hn : nm (tok (nxt (skipB b))) = false
  · rw [if_pos hn, e3]
    exact err4 (by decide) (by unfold stepP; rw [if_neg (by decide), if_pos rfl, if_pos hw, if_neg (by rw [hn]; decide)]) (by decide)
  rw [if_neg hn]
  have hn : nm (tok (nxt (skipB b))) = true := by simpa using hn
  obtain ⟨L4, e4, t4⟩ := tk_more t2 (wordN_tl hw)
  rw [e4, mach_go (w' := 2) (n' := tok (nxt (skipB b))) (A' := []) (by decide) (by unfold stepP; rw [if_neg (by decide), if_pos rfl, if_pos hw, if_pos hn])]
  obtain ⟨L5, e5⟩ := tk_head t4
  by_cases h2 : tl (nxt (nxt (skipB b))) ≠ [40]
  · rw [if_pos h2, e5]
    exact err4 (by decide) (by unfold stepP; rw [if_neg (by decide), if_neg (by decide), if_pos rfl, if_neg h2]) (by decide)
  rw [if_neg h2]
  have h2 : tl (nxt (nxt (skipB b))) = [40] := Decidable.not_not.1 h2
  obtain ⟨L6, e6, t6⟩ := tk_more t4 (by rw [h2]; decide)
  rw [e6, mach_go (w' := 3) (n' := tok (nxt (skipB b))) (A' := []) (by decide) (by unfold stepP; rw [if_neg (by decide), if_neg (by decide), if_pos rfl, if_pos h2])]
  generalize nxt (nxt (nxt (skipB b))) = r6 at t6 ⊢
  generalize tok (nxt (skipB b)) = n6
  have h3 : Same (mach L6 3 n6 []) n6 (loopP 17 r6 []) := (loop_mach (n := n6) 17 r6 [] L6 t6 (Nat.zero_le _) (Nat.add_zero _)).1 (Eq.refl _)
  generalize loopP 17 r6 [] = q at h3 ⊢
  exact h3.four
end Go.Hw
