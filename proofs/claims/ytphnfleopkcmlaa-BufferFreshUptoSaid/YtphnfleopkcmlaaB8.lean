/- Buffer: a run by its handle, Drop. Own work of this session. -/
import Derived.Test.YtphnfleopkcmlaaB7
set_option linter.unusedVariables false
namespace Go.Hw
open Go

theorem Lst.cut0 {α : Type} {t k : Nat} {F : Fmt α t k} {H : Hp} {s : Sl} {L : List α} (h : Lst F H s L) {n : Nat} (hn : n ≤ L.length) : Lst F H (Sl.cut s k 0 n s.c) (L.take n) ∧ ∀ b, (Sl.cut s k 0 n s.c).at b → s.at b := by
  have hsn := h.n
  rcases h.own with ⟨rfl, h0⟩ | ⟨b, sp, h1, h2, h3, h4, h5, h6⟩
  · have hL : L.length = 0 := by rw [← hsn]; rfl
    obtain rfl := List.eq_nil_of_length_eq_zero hL
    obtain rfl : n = 0 := by simpa using hn
    exact ⟨Lst.nil F H, fun b hb => hb⟩
  · have e : Sl.cut s k 0 n s.c = ⟨Option.some ⟨b, 0, none⟩, n, s.c⟩ := by
      unfold Sl.cut
      rw [h1]
      simp only [Option.map_some, add_mk, Nat.zero_mul, Nat.add_zero, Nat.sub_zero, ite_self]
    rw [e]
    refine ⟨⟨.inr ⟨b, (L.drop n).flatMap F.f ++ sp, rfl, ?_, ?_, ?_, ?_, h6⟩⟩, fun c hc => h1.trans hc⟩
    · rw [← List.append_assoc, ← List.flatMap_append, List.take_append_drop]; exact h2
    · rw [fl_len F.len, List.length_take, Nat.min_eq_left hn]
    · rw [← List.append_assoc, ← List.flatMap_append, List.take_append_drop]; exact h4
    · show n ≤ s.c; omega

def atI {α : Type} (f : Nat → Option α) (i : Int) : Option α := if i < 0 then none else f i.toNat

/-- A handle's run. -/
theorem c38 {H : Hp} {g : Nat} {a b c : Value} {rs : Sl} {R : List (Option (Nat × Ch))} {i : Int} {Q : Option Addr → Hp → Prop} (r : Row H g 71 [a, b, c, Sl.v rs]) (rl : RdL pF H rs (R.map rp)) (hl : R.length ≤ 1048576) (hQ : Q (rp (atI (fnOf R) i)) H) : F38 (some ⟨g, 0, none⟩) i H Q := by
  have hn := rl.n
  rw [List.length_map] at hn
  unfold atI at hQ
  refine ⟨fun hh => ⟨fun _ => ?_, fun hh => by cases hh⟩, fun hh => ⟨_, rfl, rs, r.cell_of (i := 3) rfl, fun hh2 => ?_, fun hh2 => ⟨_, rfl, rs, r.cell_of (i := 3) rfl, ?_⟩⟩⟩
  · rw [if_pos (of_decide_eq_true hh)] at hQ; exact hQ
  · have h1 := of_decide_eq_false hh
    have h2 := of_decide_eq_true hh2
    rw [if_neg h1] at hQ
    have e : fnOf R i.toNat = none := by
      unfold fnOf
      rw [List.getElem?_eq_none (by omega)]; rfl
    rw [e] at hQ
    exact hQ
  · have h1 := of_decide_eq_false hh
    have h2 := of_decide_eq_false hh2
    rw [if_neg h1] at hQ
    have hlt : i.toNat < R.length := by omega
    obtain ⟨p, hp, _, cp⟩ := rl.get (i := i.toNat) (x := rp R[i.toNat]) (by rw [List.getElem?_map, List.getElem?_eq_getElem hlt]; rfl)
    refine ⟨p, hp, by omega, by omega, _, cp.1, ?_⟩
    have e : fnOf R i.toNat = R[i.toNat] := by
      unfold fnOf
      rw [List.getElem?_eq_getElem hlt]; rfl
    rw [e] at hQ
    exact hQ

theorem fnOf_app_none {α : Type} (L : List (Option α)) : fnOf (L ++ [none]) = fnOf L := by
  funext i
  unfold fnOf
  rw [List.getElem?_append]
  split
  · rfl
  · rename_i h
    rw [List.getElem?_eq_none (l := L) (by omega)]
    by_cases h0 : i - L.length = 0
    · rw [h0]; rfl
    · rw [List.getElem?_eq_none (by simp; omega)]
theorem fnOf_set {α : Type} (R : List (Option α)) (i : Nat) (x : Option α) (h : i < R.length) : fnOf (R.set i x) = upd (fnOf R) i x := by
  funext j
  simp only [fnOf, upd, List.getElem?_set]
  by_cases hj : j = i
  · subst hj; simp [h]
  · rw [if_neg (fun e => hj e.symm), if_neg hj]
theorem rows_app_none (L : List (Option (Nat × Ch))) : rows (L ++ [none]) = rows L := by
  unfold rows
  rw [List.map_append]
  exact fnOf_app_none _
theorem rows_at (R : List (Option (Nat × Ch))) (i : Int) : atI (rows R) i = (atI (fnOf R) i).map fun p => p.2.marks := by
  unfold atI rows
  split
  · rfl
  · rw [fnOf_map]
theorem ends_app_none (L : List (Option (Nat × Ch))) : ends (L ++ [none]) = ends L := by
  funext n
  simp [ends, List.countP_append]

section
variable {F : Nat → Prop} {H : Hp} {g n : Nat} {st : Int} {f : Fn}

/-- Runs at the end are cut off. -/
theorem c16_loop {raised nb : Nat} {N : ML Mk (Option Nat)} {A : List Ch} {hl : Nat → Nat} {rs : Sl} {R : List (Option (Nat × Ch))} {Q : Int → Hp → Prop} (b : BJ F H g st n raised nb N A hl rs R) (hn : n ≤ 1000000) (hQ : ∀ H', BI F H' g st n (rows R) → Kp F H H' → Q 0 H') :
    F16_L1 Q (some ⟨g, 0, none⟩) (R.length : Int) H := by
  intro X hX
  suffices G : ∀ (d : Nat) (H' : Hp) (rs' : Sl) (R' : List (Option (Nat × Ch))), R'.length = d → BJ F H' g st n raised nb N A hl rs' R' → rows R' = rows R → Kp F H H' → X (R'.length : Int) H' from G R.length H rs R rfl b rfl (Kp.refl _ _)
  intro d
  induction d with
  | zero =>
    intro H' rs' R' hd b' he k
    refine hX _ _ ⟨fun hh => absurd (of_decide_eq_true hh) (by omega), fun _ => hQ H' ⟨_, _, _, _, _, _, _, b', he.symm⟩ k⟩
  | succ d ih =>
    intro H' rs' R' hd b' he k
    have hlen := b'.rlen
    have hrn := b'.rl.n
    rw [List.length_map] at hrn
    obtain ⟨L, x, rfl⟩ : ∃ L x, R' = L ++ [x] := ⟨R'.dropLast, R'.getLast (by intro h; rw [h] at hd; simp at hd), (List.dropLast_concat_getLast _).symm⟩
    have hL : L.length = d := by simpa using hd
    have hw : IntKind.i64.wrap (((L ++ [x]).length : Int) - 1) = (d : Int) := by rw [wr (by omega) (by omega)]; omega
    have hx : ((L ++ [x]).map rp)[d]? = some (rp x) := by simp [← hL]
    obtain ⟨p, hp, _, cp⟩ := b'.rl.rd.get hx
    refine hX _ _ ⟨fun _ => ?_, fun hh => absurd (of_decide_eq_false hh) (by omega)⟩
    rw [hw]
    refine ⟨_, rfl, rs', b'.row.cell_of (i := 3) rfl, p, hp, by omega, by omega, rp x, cp.1, fun hh => ?_, fun hh => hQ H' ⟨_, _, _, _, _, _, _, b', he.symm⟩ k⟩
    have hxn : x = none := by
      cases x with
      | none => rfl
      | some _ => cases hh
    subst hxn
    obtain ⟨hl1, hl2⟩ := b'.rl.cut0 (n := d) (by simp; omega)
    have hc : rs'.n ≤ rs'.c := by
      rcases b'.rl.own with ⟨h0, _⟩ | ⟨_, _, _, _, _, _, g5, g6⟩
      · rw [h0]; decide
      · exact g5
    refine ⟨_, rfl, rs', b'.row.cell_of (i := 3) rfl, by omega, Nat.zero_le _, ?_, Nat.le_refl _, _, rfl, b'.row.some (i := 3) (by simp), b'.row.frz 3, fun H57 e57 => ?_⟩
    · show d ≤ _; omega
    have htake : ((L ++ [none]).map rp).take d = L.map rp := by rw [← hL]; simp
    have e57 : H57 = setc H' ⟨g, 3, none⟩ (Sl.v (Sl.cut rs' 1 0 d rs'.c)) := e57
    rw [htake] at hl1
    have r57 : Row H57 g 71 [.int .i64 st, .int .i64 raised, .map (some nb), Sl.v (Sl.cut rs' 1 0 d rs'.c)] := b'.row.set' (i := 3) e57
    have k57 : Kp (fun b => b = g) H' H57 := (Kp.refl _ _).set' e57 (.inl rfl)
    have := ih H57 (Sl.cut rs' 1 0 d rs'.c) L hL ⟨r57, b'.fg, b'.st1, b'.rz, b'.wi.keep k57 fun b hb _ => ⟨71, _, hb ▸ b'.row, by decide, by decide⟩, b'.full, (by rw [← ends_app_none]; exact b'.wp), b'.bd, hl1.kp k57 fun b hb hh => (b'.rl.row (hl2 b hb)).elim fun _ r => r.ne_type b'.row (by decide) hh, fun b hb => b'.rf b (hl2 b hb), (by simp at hlen; omega),
      fun q hq => ⟨(b'.rn q (by simp [hq])).1, k57.row (b'.rn q (by simp [hq])).2 fun hh => (b'.rn q (by simp [hq])).2.ne_type b'.row (by decide) hh⟩, fun q hq => b'.ra q (by simp [hq])⟩ (by rw [← he, rows_app_none]) (k.trans k57 fun b hb => .inl (hb ▸ b'.fg))
    rw [hL] at this
    exact this

/-- Drop. -/
theorem c16 {i : Int} {Q : Int → Hp → Prop} (h : BI F H g st n f) (hn : n ≤ 1000000) (q0 : atI f i = none → Q 130 H) (q1 : ∀ l, atI f i = some l → ∀ H', BI F H' g st n (upd f i.toNat none) → Kp F H H' → Q 0 H') : F16 (some ⟨g, 0, none⟩) i H Q := by
  obtain ⟨raised, nb, N, A, hl, rs, R, b, rfl⟩ := h
  rw [rows_at] at q0 q1
  have hrl := b.rlen
  refine c38 b.row b.rl.rd (by omega) ?_
  cases ha : atI (fnOf R) i with
  | none =>
    refine ⟨fun _ => q0 (by rw [ha]; rfl), fun hh => by cases hh⟩
  | some p =>
    have hi : ¬ i < 0 ∧ R[i.toNat]? = some (some p) := by
      unfold atI at ha
      split at ha
      · cases ha
      · rename_i h0
        refine ⟨h0, ?_⟩
        unfold fnOf at ha
        cases hr : R[i.toNat]? with
        | none => rw [hr] at ha; cases ha
        | some x =>
          rw [hr] at ha
          exact congrArg some ha
    obtain ⟨h0, hi⟩ := hi
    have hlt := (List.getElem?_eq_some_iff.1 hi).1
    have hmem : some p ∈ R := List.mem_of_getElem? hi
    have hp := (b.rn p hmem).2
    have hA := b.ra p hmem
    have hends : ends R = plus (ends (R.set i.toNat none)) (upOf (p.2.hd :: p.2.tl)) := by
      funext k
      have := countP_set (fun x : Option (Nat × Ch) => decide (x.map (·.2.hd.num) = some k)) R i.toNat none (some p) hi
      simp only [ends, plus, upOf]
      simp only [Option.map_some, Option.map_none, decide_eq_true_eq] at this
      simpa using this.symm
    refine ⟨fun hh => (by cases hh), fun _ => ⟨_, rfl, _, _, hp.cells (o := 0) (i := 0) rfl, _, rfl, p.2.hd.sl, hp.cell_of (i := 2) rfl, ?_⟩⟩
    refine c41 (cur := p.2.hd :: p.2.tl) b.row b.wi b.full (by rw [← hends]; exact b.wp) (fun x t e => by injection e with e1 e2; subst e1 e2; exact hA) (fun c hc => by have := (b.bd c hc).2.2.2.2; omega) ?_
    intro H14 N' A' hl' r14 w14 f14 wp14 sub le k14 kr14 kn
    have rl14 : Lst pF H14 rs (R.map rp) := by
      refine ⟨?_⟩
      rcases b.rl.own with h | ⟨bb, sp, h1, h2, h3⟩
      · exact .inl h
      · exact .inr ⟨bb, sp, h1, kr14 _ _ _ h2 (by decide), h3⟩
    obtain ⟨a, ha1, hsa, hin', hc, hz, hset⟩ := rl14.set1 (i := i.toNat) (c := 0) (x := rp (some p)) (x' := none) (v := .pointer none) (by rw [List.getElem?_map, hi]; rfl) (by decide) rfl
    have ea : ((a.add (i.toNat * 1)).add 0) = a.add (i.toNat * 1) := by rw [add_add]; rfl
    rw [ea] at hc hz hset
    have hrn := b.rl.n
    rw [List.length_map] at hrn
    refine ⟨_, rfl, rs, r14.cell_of (i := 3) rfl, a, ha1, by omega, by omega, hc, hz, fun H24 e24 => ?_⟩
    obtain ⟨l24, k24⟩ := hset H24 e24
    have hS : ∀ b, rs.at b → F b → ∃ t l, Row H14 b t l ∧ t ≠ 79 ∧ t ≠ 3 := fun b hb _ => (rl14.row hb).elim fun _ r => ⟨80, _, r, by decide, by decide⟩
    have hnr : ∀ b t l, t ≠ 80 → Row H14 b t l → ¬ rs.at b := fun b t l hne hr hb => (rl14.row hb).elim fun _ hr' => hr.ne_type hr' hne rfl
    have r24 := k24.row r14 (hnr _ _ _ (by decide) r14)
    refine ⟨_, rfl, rs, r24.cell_of (i := 3) rfl, ?_⟩
    have hsub : ∀ q, some q ∈ R.set i.toNat none → some q ∈ R := fun q hq => by
      rcases List.mem_or_eq_of_mem_set hq with h | h
      · exact h
      · cases h
    have b24 : BJ F H24 g st n raised nb N' A' hl' rs (R.set i.toNat none) := by
      refine ⟨r24, b.fg, b.st1, b.rz, w14.keep k24 hS, f14, wp14, fun c hc => ?_, ?_, b.rf, by rw [List.length_set]; exact hrl, fun q hq => ?_, fun q hq => ?_⟩
      · have h1 := b.bd c (sub c hc)
        exact ⟨h1.1, h1.2.1, h1.2.2.1, h1.2.2.2.1, Nat.le_trans (le c hc) h1.2.2.2.2⟩
      · rw [List.map_set]; exact l24
      · have h1 := b.rn q (hsub q hq)
        have h2 := kr14 _ _ _ h1.2 (by decide)
        exact ⟨h1.1, k24.row h2 (hnr _ _ _ (by decide) h2)⟩
      · refine kn _ (b.ra q (hsub q hq)) ?_
        refine List.countP_pos_iff.2 ⟨some q, hq, ?_⟩
        simp
    have hlr : ((rs.n : Nat) : Int) = ((R.set i.toNat none).length : Int) := by rw [List.length_set, hrn]
    rw [hlr]
    refine c16_loop b24 hn fun H' hB hk => q1 p.2.marks (by rw [ha]; rfl) H' ?_ ((k14.trans k24 fun b hb => .inl (‹BJ F H g st n raised nb N A hl rs R›.rf b hb)).trans hk fun _ h => .inl h)
    have : rows (R.set i.toNat none) = upd (rows R) i.toNat none := by
      unfold rows
      rw [List.map_set]
      exact fnOf_set _ _ _ (by rw [List.length_map]; exact hlt)
    rw [← this]; exact hB
end
end Go.Hw
