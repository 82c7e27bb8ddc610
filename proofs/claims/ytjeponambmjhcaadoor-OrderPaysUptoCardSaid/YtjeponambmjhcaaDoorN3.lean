/- What the log holds of the gate. Own work of this session. -/
import Derived.Test.YtjeponambmjhcaaDoorN2
set_option linter.unusedVariables false
namespace Go.Hw
open Go

/-- The gate's events and the log's ways that have not gone, one for one. -/
structure LK (C : List NE) (W : List WY) (Z : List (NE × WY)) : Prop where
  c : Z.map Prod.fst = C
  w : Z.map Prod.snd = W.filter fun w => !w.gone
  e : ∀ z ∈ Z, z.1.e = z.2.evt
  o : Z.Pairwise fun x y => x.1.num < y.1.num ∧ x.2.step < y.2.step

def zins (x : NE × WY) : List (NE × WY) → List (NE × WY)
  | [] => [x]
  | y :: l => if nlt x.1 y.1 then x :: y :: l else y :: zins x l
def zsort : List (NE × WY) → List (NE × WY)
  | [] => []
  | x :: l => zins x (zsort l)
theorem zins_fst (x : NE × WY) : ∀ l, (zins x l).map Prod.fst = ins x.1 (l.map Prod.fst)
  | [] => rfl
  | y :: l => by
    unfold zins
    show _ = (if nlt x.1 y.1 then x.1 :: y.1 :: l.map Prod.fst else y.1 :: ins x.1 (l.map Prod.fst))
    split
    · rfl
    · rw [List.map_cons, zins_fst x l]
theorem zsort_fst : ∀ l, (zsort l).map Prod.fst = isort (l.map Prod.fst)
  | [] => rfl
  | x :: l => by
    show (zins x (zsort l)).map Prod.fst = ins x.1 (isort (l.map Prod.fst))
    rw [zins_fst, zsort_fst l]
theorem zins_perm (x : NE × WY) : ∀ l, (zins x l).Perm (x :: l)
  | [] => List.Perm.refl _
  | y :: l => by
    unfold zins
    split
    · exact List.Perm.refl _
    · exact ((zins_perm x l).cons y).trans (List.Perm.swap _ _ _)
theorem zsort_perm : ∀ l, (zsort l).Perm l
  | [] => List.Perm.refl _
  | x :: l => (zins_perm x _).trans ((zsort_perm l).cons x)

theorem LK.steps {C : List NE} {W : List WY} {Z : List (NE × WY)} (h : LK C W Z) {x y : NE × WY} (hx : x ∈ Z) (hy : y ∈ Z) (hn : x.1.num < y.1.num) : x.2.step < y.2.step := by
  obtain ⟨i, hi, rfl⟩ := List.getElem_of_mem hx
  obtain ⟨j, hj, rfl⟩ := List.getElem_of_mem hy
  rcases Nat.lt_trichotomy i j with h1 | h1 | h1
  · exact (List.pairwise_iff_getElem.1 h.o i j hi hj h1).2
  · subst h1; omega
  · have := (List.pairwise_iff_getElem.1 h.o j i hj hi h1).1; omega

def zout (m : Int) (Z : List (NE × WY)) : List (NE × WY) := zsort (Z.filter fun z => decide (z.1.e.tm ≤ m))
def wout (m : Int) (Z : List (NE × WY)) : List WY := (zout m Z).map Prod.snd

theorem zout_mem {m : Int} {Z : List (NE × WY)} {z : NE × WY} : z ∈ zout m Z ↔ z ∈ Z ∧ z.1.e.tm ≤ m := by
  unfold zout
  rw [(zsort_perm _).mem_iff, List.mem_filter]
  simp

theorem LK.out {C : List NE} {W : List WY} {Z : List (NE × WY)} (h : LK C W Z) (m : Int) : (zout m Z).map Prod.fst = out m C := by
  unfold zout Hw.out
  rw [zsort_fst, ← h.c, List.filter_map]
  rfl

theorem LK.evs {C : List NE} {W : List WY} {Z : List (NE × WY)} (h : LK C W Z) (m : Int) : (Hw.out m C).map NE.e = (wout m Z).map WY.evt := by
  rw [← h.out, wout, List.map_map, List.map_map]
  refine List.map_congr_left fun z hz => ?_
  exact h.e z (zout_mem.1 hz).1

theorem LK.mem {C : List NE} {W : List WY} {Z : List (NE × WY)} (h : LK C W Z) {z : NE × WY} (hz : z ∈ Z) : z.2 ∈ W ∧ z.2.gone = false := by
  have : z.2 ∈ W.filter fun w => !w.gone := by rw [← h.w]; exact List.mem_map_of_mem hz
  have := List.mem_filter.1 this
  exact ⟨this.1, by simpa using this.2⟩

theorem LK.dis {C : List NE} {W : List WY} {Z : List (NE × WY)} (h : LK C W Z) : C.Pairwise dis := by
  rw [← h.c, List.pairwise_map]
  exact h.o.imp fun {x y} hxy => by unfold Hw.dis; omega

theorem LK.sorted {C : List NE} {W : List WY} {Z : List (NE × WY)} (h : LK C W Z) (m : Int) : (wout m Z).Pairwise wlt := by
  have h1 : (Hw.out m C).Pairwise nlt := isort_sorted (h.dis.filter _)
  rw [← h.out, List.pairwise_map] at h1
  rw [wout, List.pairwise_map]
  refine List.Pairwise.imp_of_mem (fun {x y} hx hy hxy => ?_) h1
  have hx := (zout_mem.1 hx).1
  have hy := (zout_mem.1 hy).1
  have ex := congrArg EV.tm (h.e x hx)
  have ey := congrArg EV.tm (h.e y hy)
  have e1 : x.2.evt.tm = x.2.tm := rfl
  have e2 : y.2.evt.tm = y.2.tm := rfl
  unfold nlt at hxy
  unfold wlt
  rcases hxy with hxy | ⟨he, hn⟩
  · left; omega
  · right
    exact ⟨by omega, h.steps hx hy hn⟩

theorem step_inj {W : List WY} (inc : W.Pairwise fun x y => x.step < y.step) {x y : WY} (hx : x ∈ W) (hy : y ∈ W) (h : x.step = y.step) : x = y := by
  obtain ⟨i, hi, rfl⟩ := List.getElem_of_mem hx
  obtain ⟨j, hj, rfl⟩ := List.getElem_of_mem hy
  rcases Nat.lt_trichotomy i j with h1 | h1 | h1
  · have := List.pairwise_iff_getElem.1 inc i j hi hj h1; omega
  · subst h1; rfl
  · have := List.pairwise_iff_getElem.1 inc j i hj hi h1; omega

theorem marked_filter (W ws : List WY) : (marked W ws).filter (fun w => !w.gone) = W.filter fun w => !w.gone && decide (w.step ∉ ws.map WY.step) := by
  unfold marked
  induction W with
  | nil => rfl
  | cons w W ih =>
    rw [List.map_cons, List.filter_cons, List.filter_cons, ih]
    by_cases h : w.step ∈ ws.map WY.step
    · rw [if_pos h]
      simp [WY.go, h]
    · rw [if_neg h]
      simp [h]

/-- Behind an outgoing. -/
theorem LK.gone {C : List NE} {W : List WY} {Z : List (NE × WY)} (h : LK C W Z) (inc : W.Pairwise fun x y => x.step < y.step) (m : Int) : LK (rest m C) (marked W (wout m Z)) (Z.filter fun z => decide (m < z.1.e.tm)) := by
  refine ⟨?_, ?_, fun z hz => h.e z (List.mem_filter.1 hz).1, h.o.filter _⟩
  · rw [rest, ← h.c, List.filter_map]; rfl
  · rw [marked_filter]
    have e1 : (Z.filter fun z => decide (m < z.1.e.tm)) = Z.filter ((fun w : WY => decide (m < w.tm)) ∘ Prod.snd) := by
      refine List.filter_congr fun z hz => ?_
      have : z.1.e.tm = z.2.tm := congrArg EV.tm (h.e z hz)
      simp [this]
    rw [e1, ← List.filter_map, h.w, List.filter_filter]
    refine List.filter_congr fun w hw => ?_
    cases hg : w.gone with
    | true => simp
    | false =>
      have hzw : w ∈ Z.map Prod.snd := by rw [h.w]; exact List.mem_filter.2 ⟨hw, by simp [hg]⟩
      obtain ⟨z, hz, rfl⟩ := List.mem_map.1 hzw
      clear hzw
      have ez : z.1.e.tm = z.2.tm := congrArg EV.tm (h.e z hz)
      have : (m < z.2.tm) ↔ z.2.step ∉ (wout m Z).map WY.step := by
        constructor
        · intro hlt hmem
          obtain ⟨y, hy, hys⟩ := List.mem_map.1 hmem
          obtain ⟨z', hz', rfl⟩ := List.mem_map.1 hy
          have hz'' := zout_mem.1 hz'
          have := step_inj inc (h.mem hz''.1).1 (h.mem hz).1 hys
          have ez' : z'.1.e.tm = z'.2.tm := congrArg EV.tm (h.e z' hz''.1)
          rw [this] at ez'
          have := hz''.2
          omega
        · intro hn
          apply Decidable.byContradiction
          intro hle
          exact hn (List.mem_map_of_mem (List.mem_map_of_mem (zout_mem.2 ⟨hz, by omega⟩)))
      simp [this]

theorem LK.snoc {C : List NE} {W : List WY} {Z : List (NE × WY)} (h : LK C W Z) {n : Int} {i : Nat} {tm : Int} (hn : ∀ x ∈ C, x.num < n) (hi : ∀ w ∈ W, w.step < i) : LK (C ++ [⟨n, ⟨T i, tm, []⟩⟩]) (W ++ [⟨i, tm, false⟩]) (Z ++ [(⟨n, ⟨T i, tm, []⟩⟩, ⟨i, tm, false⟩)]) := by
  refine ⟨by rw [List.map_append, h.c]; rfl, by rw [List.map_append, h.w, List.filter_append]; rfl, fun z hz => ?_, ?_⟩
  · rcases List.mem_append.1 hz with hz | hz
    · exact h.e z hz
    · rw [List.mem_singleton] at hz
      subst hz; rfl
  · rw [List.pairwise_append]
    refine ⟨h.o, List.pairwise_singleton _ _, fun x hx y hy => ?_⟩
    rw [List.mem_singleton] at hy
    subst hy
    exact ⟨hn x.1 (by rw [← h.c]; exact List.mem_map_of_mem hx), hi x.2 (h.mem hx).1⟩

/-- The log on the heap. -/
structure LG (H : Hp) (lg : Nat) (sl : Sl) (W : List WY) (st tm : Int) (any : Bool) (i : Nat) : Prop where
  row : ∃ gn, Row H lg 46 [Sl.v sl, .int .i64 st, .int .i64 tm, .bool gn, .bool any]
  lst : Lst wF H sl W
  inc : W.Pairwise fun x y => x.step < y.step
  stp : ∀ w ∈ W, w.step < i
  len : W.length ≤ i

theorem LG.kp {H H' : Hp} {lg : Nat} {sl : Sl} {W : List WY} {st tm : Int} {any : Bool} {i : Nat} {S : Nat → Prop} (h : LG H lg sl W st tm any i) (k : Kp S H H') (hl : ¬ S lg) (hs : ∀ b, sl.at b → ¬ S b) : LG H' lg sl W st tm any i := by
  obtain ⟨⟨gn, r⟩, l, a, b, c⟩ := h
  exact ⟨⟨gn, k.row r hl⟩, l.kp k hs, a, b, c⟩
theorem LG.no {H H' : Hp} {lg : Nat} {sl : Sl} {W : List WY} {st tm : Int} {any : Bool} {i : Nat} (h : LG H lg sl W st tm any i) (k : Kp No H H') : LG H' lg sl W st tm any i := h.kp k id fun _ _ => id
theorem LG.kpP {H H' : Hp} {lg : Nat} {sl : Sl} {W : List WY} {st tm : Int} {any : Bool} {i : Nat} {g hb : Nat} {gs : Sl} {s : St} {L : List HC} (h : LG H lg sl W st tm any i) (p : PL H g hb gs s L) (k : Kp (fp g hb gs) H H') : LG H' lg sl W st tm any i := by
  obtain ⟨gn, r⟩ := h.row
  refine h.kp k (fun hf => ?_) fun b hb hf => ?_
  · rcases hf with h' | h' | h'
    · exact r.ne_type p.row (by decide) h'
    · exact r.ne_type p.hrow (by decide) h'
    · exact p.lst.ne r (by decide) h'
  · rcases hf with h' | h' | h'
    · exact h.lst.ne p.row (by decide) (h' ▸ hb)
    · exact h.lst.ne p.hrow (by decide) (h' ▸ hb)
    · exact h.lst.disj p.lst (by decide) hb h'
theorem PL.kpL {H H' : Hp} {lg : Nat} {sl : Sl} {W : List WY} {st tm : Int} {any : Bool} {i : Nat} {g hb : Nat} {gs : Sl} {s : St} {L : List HC} (p : PL H g hb gs s L) (h : LG H lg sl W st tm any i) (k : Kp (fun b => b = lg ∨ sl.at b) H H') : PL H' g hb gs s L := by
  obtain ⟨gn, r⟩ := h.row
  refine p.kp k (fun b hf hS => ?_) fun b l hS rr => ?_
  · rcases hS with e | hS
    · subst e
      rcases hf with h' | h' | h'
      · exact r.ne_type p.row (by decide) h'
      · exact r.ne_type p.hrow (by decide) h'
      · exact p.lst.ne r (by decide) h'
    · rcases hf with h' | h' | h'
      · exact h.lst.ne p.row (by decide) (h' ▸ hS)
      · exact h.lst.ne p.hrow (by decide) (h' ▸ hS)
      · exact h.lst.disj p.lst (by decide) hS h'
  · rcases hS with e | hS
    · exact rr.ne_type r (by decide) e
    · exact h.lst.ne rr (by decide) hS

/-- What goes out is told to the log. -/
theorem emit {H : Hp} {lg : Nat} {sl es : Sl} {C : List NE} {W : List WY} {Z : List (NE × WY)} {st tm m : Int} {any : Bool} {i : Nat} {Q : Bool → Hp → Prop} (h : LG H lg sl W st tm any i) (hi : i ≤ 1048576) (lk : LK C W Z) (ha : Ans H es ((out m C).map NE.e)) (hl : C.length ≤ 8192)
    (hla : any = true → ∀ z ∈ Z, ¬ (z.2.tm < tm ∨ z.2.tm = tm ∧ (z.2.step : Int) < st)) (hT : ∀ H', Kp (fun b => b = lg ∨ sl.at b) H H' → TabH H')
    (hQ : ∀ H' W' Z' st' tm' any', LG H' lg sl W' st' tm' any' i → LK (rest m C) W' Z' → Kp (fun b => b = lg ∨ sl.at b) H H' → ((st' = st ∧ tm' = tm ∧ any' = any) ∨ (any' = true ∧ tm' ≤ m ∧ st' < i)) → Q true H') : F15 (some ⟨lg, 0, none⟩) es m H Q := by
  obtain ⟨gn, r⟩ := h.row
  obtain ⟨E, he, hv, hev⟩ := ha
  have hlen := h.len
  have hz : ∀ w ∈ wout m Z, ∃ z ∈ Z, z.2 = w ∧ z.1.e.tm ≤ m := fun w hw => by
    obtain ⟨z, hz, rfl⟩ := List.mem_map.1 hw
    exact ⟨z, (zout_mem.1 hz).1, rfl, (zout_mem.1 hz).2⟩
  have hwl : (wout m Z).length ≤ 8192 := by
    have h1 : (wout m Z).length = (out m C).length := by rw [wout, List.length_map, ← lk.out, List.length_map]
    have := out_len m C
    omega
  refine c15 r h.lst (by omega) (fun w hw => by have := h.stp w hw; omega) h.inc he (hev.trans (lk.evs m)) (by omega) (fun w hw => ?_) (lk.sorted m) (fun w hw => ?_) (fun hany w hw => ?_) hT fun H' st' tm' gn' any' r' l' k' hlast => ?_
  · obtain ⟨z, hz, rfl, _⟩ := hz w hw
    exact lk.mem hz
  · obtain ⟨z, hz, rfl, hm⟩ := hz w hw
    have : z.1.e.tm = z.2.tm := congrArg EV.tm (lk.e z hz)
    omega
  · obtain ⟨z, hz, rfl, _⟩ := hz w hw
    exact hla hany z hz
  · refine hQ H' _ _ st' tm' any' ⟨⟨gn', r'⟩, l', marked_inc h.inc, fun w hw => ?_, by rw [marked_len]; exact h.len⟩ (lk.gone h.inc m) k' ?_
    · obtain ⟨x, hx, rfl⟩ := List.mem_map.1 hw
      have := h.stp x hx
      split
      · exact this
      · exact this
    · rcases hlast with ⟨_, e1, e2, e3⟩ | ⟨w, hw, e1, e2, e3⟩
      · exact .inl ⟨e1, e2, e3⟩
      · obtain ⟨z, hz, rfl, hm⟩ := hz w hw
        have : z.1.e.tm = z.2.tm := congrArg EV.tm (lk.e z hz)
        have := h.stp z.2 (lk.mem hz).1
        exact .inr ⟨e3, by omega, by omega⟩

end Go.Hw
