/- BufferWay: the whole law. Own work of this session. -/
import Derived.Test.YtphnfleopkcmlaaL7
set_option linter.unusedVariables false
namespace Go.Hw
open Go

def uF : Fmt Int 5 1 := ⟨fun i => [.int .u8 i], fun _ => rfl, by intro x v hv; simp at hv; rcases hv with rfl; rfl, by decide⟩

/-- The one run, its row; others that grew from it. -/
structure WS (H0 H : Hp) (g n : Nat) (f : Fn) (F : Nat → Prop) (rsl : Sl) (W : List Mk) (osl : Sl) (O : List Nat) : Prop where
  bi : BI F H g 8 n f
  lo : ∀ b, F b → H0.size ≤ b
  kp : Kp No H0 H
  rl : Lst mF H rsl W
  ra : ∀ b, rsl.at b → H0.size ≤ b ∧ ¬ F b
  ol : Lst iF H osl (ints O)
  oa : ∀ b, osl.at b → H0.size ≤ b ∧ ¬ F b
structure FP (f : Fn) (h : Nat) (R : List Mk) (O : List Nat) : Prop where
  one : f h = some R
  all : ∀ i, f i ≠ none → i = h ∨ i ∈ O
  o : ∀ i ∈ O, f i ≠ none
  nd : O.Nodup
  nh : h ∉ O

section
variable {H0 H H' : Hp} {g n n' : Nat} {f f' : Fn} {F F' : Nat → Prop} {rsl osl : Sl} {W : List Mk} {O : List Nat} {h : Nat} {R : List Mk}
theorem WS.op (w : WS H0 H g n f F rsl W osl O) (b' : BI F' H' g 8 n' f') (hF : ∀ x, F' x → Ext F H.size H'.size x) (k : Kp F H H') : WS H0 H' g n' f' F' rsl W osl O := by
  have := w.kp.size
  refine ⟨b', fun b hb => ?_, w.kp.trans k fun b hb => .inr (w.lo b hb), w.rl.kp k fun b hb => (w.ra b hb).2, fun b hb => ⟨(w.ra b hb).1, fun hh => ?_⟩, w.ol.kp k fun b hb => (w.oa b hb).2, fun b hb => ⟨(w.oa b hb).1, fun hh => ?_⟩⟩
  · rcases hF b hb with hb | hb
    · exact w.lo b hb
    · omega
  · rcases hF b hh with hh | hh
    · exact (w.ra b hb).2 hh
    · have := w.rl.lt hb; omega
  · rcases hF b hh with hh | hh
    · exact (w.oa b hb).2 hh
    · have := w.ol.lt hb; omega
theorem WS.no (w : WS H0 H g n f F rsl W osl O) (k : Kp No H H') : WS H0 H' g n f F rsl W osl O := w.op (w.bi.kp k fun _ _ => id) (fun _ h => .inl h) (k.dec fun _ h => h.elim)
theorem FP.add (p : FP f h R O) {j : Nat} (hj : IsLeast f j) (x : List Mk) : FP (upd f j (some x)) h R (O ++ [j]) := by
  have hne : j ≠ h := fun e => by have := hj.1; rw [e, p.one] at this; cases this
  have hno : j ∉ O := fun e => p.o j e hj.1
  refine ⟨?_, fun i hi => ?_, fun i hi => ?_, ?_, ?_⟩
  · unfold upd
    rw [if_neg (Ne.symm hne)]; exact p.one
  · unfold upd at hi
    split at hi
    · rename_i e
      exact .inr (by rw [e]; simp)
    · rcases p.all i hi with h | h
      · exact .inl h
      · exact .inr (List.mem_append_left _ h)
  · unfold upd
    split
    · simp
    · rename_i e
      rcases List.mem_append.1 hi with h | h
      · exact p.o i h
      · simp at h; exact absurd h e
  · rw [List.nodup_append]
    refine ⟨p.nd, by simp, fun a ha b hb => ?_⟩
    simp at hb
    subst hb
    exact fun e => hno (e ▸ ha)
  · rw [List.mem_append, List.mem_singleton]
    rintro (h | h)
    · exact p.nh h
    · exact hne h.symm
theorem FP.dropLast {h' : Nat} (p : FP f h R (O ++ [h'])) : FP (upd f h' none) h R O := by
  have hnd := p.nd
  rw [List.nodup_append] at hnd
  have hno : h' ∉ O := fun e => hnd.2.2 h' e h' (by simp) rfl
  have hne : h ≠ h' := fun e => p.nh (by rw [e]; simp)
  refine ⟨?_, fun i hi => ?_, fun i hi => ?_, hnd.1, fun e => p.nh (List.mem_append_left _ e)⟩
  · unfold upd
    rw [if_neg hne]; exact p.one
  · unfold upd at hi
    split at hi
    · exact absurd rfl hi
    · rename_i e
      rcases p.all i hi with h | h
      · exact .inl h
      · rcases List.mem_append.1 h with h | h
        · exact .inr h
        · simp at h; exact absurd h e
  · unfold upd
    rw [if_neg (fun e : i = h' => hno (e ▸ hi))]
    exact p.o i (List.mem_append_left _ hi)
theorem FP.swap (p : FP f h R O) {j : Nat} {x : List Mk} (hj : f j = some x) (hO : O = [j]) : FP (upd f h none) j x [] := by
  subst hO
  have hne : j ≠ h := fun e => p.nh (by rw [← e]; simp)
  refine ⟨?_, fun i hi => ?_, fun i hi => (by cases hi), List.nodup_nil, fun e => by cases e⟩
  · unfold upd
    rw [if_neg hne]; exact hj
  · unfold upd at hi
    split at hi
    · exact absurd rfl hi
    · rename_i e
      rcases p.all i hi with h | h
      · exact absurd h e
      · simp at h; exact .inl h
theorem FP.perm {O' : List Nat} (p : FP f h R O) (e : O.Perm O') : FP f h R O' :=
  ⟨p.one, fun i hi => (p.all i hi).imp id fun h => e.mem_iff.1 h, fun i hi => p.o i (e.mem_iff.2 hi), e.nodup_iff.1 p.nd, fun hh => p.nh (e.mem_iff.2 hh)⟩

theorem rise_nodup {W : List Mk} (h : W.Pairwise fun a b => a.2 < b.2) : W.Nodup := h.imp fun h e => by rw [e] at h; omega

/-- The others are dropped, then the one ahead. -/
theorem c6_L7 {Q : Bool → Hp → Prop} {X1 : Sl → Int → Int → Hp → Prop} {ssl nsl : Sl} {m : Mk} {j i : Nat} (w : WS H0 H g n f F rsl (W ++ [m]) osl O) (p : FP f h W.reverse ([j] ++ O)) (hj : f j = some (m :: W.reverse)) (hn : n ≤ 2000) (hi : i ≤ 1000) (hO : O.length ≤ 4) (hnd : (W ++ [m]).Nodup) (hWl : W.length ≤ 1000)
    (hX : ∀ H' f' F', WS H0 H' g n f' F' rsl (W ++ [m]) Sl.nil [] → FP f' j (W ++ [m]).reverse [] → X1 rsl (j : Int) ((i + 1 : Nat) : Int) H') : F6_L7 Q X1 ssl nsl (some ⟨g, 0, none⟩) rsl (h : Int) (i : Int) osl (j : Int) 0 H := by
  have hon := w.ol.n
  have hon : osl.n = O.length := by simpa [ints] using hon
  intro X hX7
  suffices G : ∀ (P : List Nat) (k : Nat) (f : Fn) (F : Nat → Prop) (H : Hp), P.length + k = O.length → P = O.take P.length → WS H0 H g n f F rsl (W ++ [m]) osl O → FP f h W.reverse ([j] ++ P) → f j = some (m :: W.reverse) → X (k : Int) H from
    G O 0 f F H (by omega) (by simp) w p hj
  intro P
  induction hP : P.length generalizing P with
  | zero =>
    intro k f F H hk _ w p hj
    obtain rfl := List.eq_nil_of_length_eq_zero hP
    refine hX7 _ _ ⟨fun hh => absurd (of_decide_eq_true hh) (by omega), fun _ => ?_⟩
    have hf : atI f (h : Int) = some W.reverse := by rw [atI_nat]; exact p.one
    refine c16 w.bi (by omega) (fun hh => by rw [hf] at hh; cases hh) fun l hl H193 b193 k193 => ?_
    have w193 := w.op b193 (fun _ h => .inl h) k193
    have hh : ((h : Int)).toNat = h := rfl
    rw [hh] at w193
    have p' := p.swap hj rfl
    have hfj : atI (upd f h none) (j : Int) = some (m :: W.reverse) := by rw [atI_nat]; exact p'.one
    refine c22 w193.bi (by omega) (fun hh => by rw [hfj] at hh; cases hh) fun l hl hll H196 s hs hsa k196 => ?_
    rw [hfj] at hl
    injection hl with hl
    subst hl
    have w196 := w193.no k196
    have hrev : (m :: W.reverse).reverse = W ++ [m] := by simp
    rw [hrev] at hs
    refine ⟨fun hh => absurd rfl (of_decide_eq_true hh), fun _ => ⟨fun hh => absurd rfl (of_decide_eq_true hh), fun _ => c23 hs.rd w196.rl.rd (by simp; omega) (by simp; omega) ?_⟩⟩
    rw [decide_eq_true rfl]
    refine ⟨fun hh => (by cases hh), fun _ => c19 w196.bi fun D hD hDm => ?_⟩
    have hrn := w196.rl.n
    have hDl : D.length = rsl.n := by
      rw [hrn]
      refine nodup_len hD hnd fun x => (hDm x).trans ⟨fun ⟨i, l, hi, hm⟩ => ?_, fun hm => ⟨j, _, p'.one, ?_⟩⟩
      · rcases p'.all i (by rw [hi]; simp) with e | e
        · rw [e, p'.one] at hi
          injection hi with hi
          rw [← hi] at hm
          simp at hm ⊢
          exact hm.symm
        · cases e
      · simp at hm ⊢
        exact hm.symm
    rw [hDl]
    refine ⟨fun hh => absurd rfl (of_decide_eq_true hh), fun _ => c21 w196.bi (by omega) fun H221 r lr hra k221 => ?_⟩
    have hrl : (runsOf (upd f h none) n).length = 1 := by
      refine nodup_len (runsOf_nodup _ _) (E := [j]) (by simp) fun x => ⟨fun hx => ?_, fun hx => ?_⟩
      · have := (runsOf_mem.1 hx).2
        rcases p'.all x (by intro e; rw [e] at this; cases this) with e | e
        · simp [e]
        · cases e
      · simp at hx
        subst hx
        refine runsOf_mem.2 ⟨?_, by rw [p'.one]; rfl⟩
        by_cases hx : x < n
        · exact hx
        · have := w196.bi.big (i := x) (by omega)
          rw [p'.one] at this
          cases this
    have hr1 : r.n = 1 := by have := lr.n; simp [ints] at this; omega
    rw [hr1]
    refine ⟨fun hh => (by cases hh), fun _ => ?_⟩
    rw [wr (by omega) (by omega)]
    have w221 := w196.no k221
    exact hX H221 _ _ ⟨w221.bi, w221.lo, w221.kp, w221.rl, w221.ra, Lst.nil _ _, fun b hb => (by cases hb)⟩ (by rw [← hrev, List.reverse_reverse]; exact p')
  | succ d ih =>
    intro k f F H hk hPt w p hj
    obtain ⟨P0, o, rfl⟩ : ∃ P0 o, P = P0 ++ [o] := ⟨P.dropLast, P.getLast (by intro e; rw [e] at hP; cases hP), (List.dropLast_concat_getLast _).symm⟩
    have hP0 : P0.length = d := by simpa using hP
    have go : O[d]? = some o := by
      have := congrArg (fun l : List Nat => l[d]?) hPt
      simp only [List.getElem?_take, if_pos (show d < d + 1 by omega)] at this
      rw [← this, ← hP0]
      simp
    have gi' : (ints O)[d]? = some (o : Int) := by rw [List.getElem?_map, go]; rfl
    have hd : d < O.length := (List.getElem?_eq_some_iff.1 go).1
    obtain ⟨q, hq, _, cq⟩ := w.ol.rd.get gi'
    have hw : IntKind.i64.wrap (IntKind.i64.wrap ((osl.n : Int) - 1) - (k : Int)) = (d : Int) := by
      rw [wr (x := (osl.n : Int) - 1) (by omega) (by omega), wr (by omega) (by omega)]; omega
    have hfo : f o ≠ none := p.o o (by simp)
    refine hX7 _ _ ⟨fun _ => ?_, fun hh => absurd (of_decide_eq_false hh) (by omega)⟩
    rw [hw]
    refine ⟨q, hq, by omega, by omega, _, cq.1, c16 w.bi (by omega) (fun hh => absurd (by rw [atI_nat] at hh; exact hh) hfo) fun l hl H189 b189 k189 => ⟨fun hh => absurd rfl (of_decide_eq_true hh), fun _ => ?_⟩⟩
    have hh : ((o : Int)).toNat = o := rfl
    rw [hh] at b189
    rw [wr (by omega) (by omega)]
    have p' : FP (upd f o none) h W.reverse ([j] ++ P0) := by
      refine FP.dropLast (O := [j] ++ P0) (h' := o) ?_
      rw [List.append_assoc]; exact p
    have hoj : o ≠ j := fun e => by
      have := p.nd
      rw [List.nodup_append] at this
      exact this.2.2 j (by simp) o (by simp) e.symm
    refine ih P0 hP0 (k + 1) _ _ H189 (by omega) ?_ (w.op b189 (fun _ h => .inl h) k189) p' (by unfold upd; rw [if_neg (Ne.symm hoj)]; exact hj)
    have := congrArg (List.take d) hPt
    rw [List.take_take, ← hP0, List.take_left, Nat.min_eq_left (Nat.le_succ _), hP0] at this
    exact this

/-- One step: others grow, then the next. -/
theorem c6_L5 {Q : Bool → Hp → Prop} {X1 : Sl → Int → Int → Hp → Prop} {ssl nsl : Sl} {NL : List Int} {last m : Mk} {W' : List Mk} {i b1 b2 : Nat} (hnsl : RdL uF H0 nsl NL) (hnl : NL.length ≤ 2000000) (hnw : ∀ x ∈ NL, 0 ≤ x ∧ x ≤ 255) (w : WS H0 H g n f F rsl (W' ++ [last]) Sl.nil []) (p : FP f h (last :: W'.reverse) []) (hn : n ≤ 1000) (hi : i ≤ 1000)
    (hb1 : Row H b1 32 [.int .i64 last.1, .int .i64 last.2]) (hb2 : Row H b2 32 [.int .i64 m.1, .int .i64 m.2]) (nb1 : ¬ F b1 ∧ ¬ rsl.at b1) (nb2 : ¬ F b2 ∧ ¬ rsl.at b2) (hm : (m.1 = last.1 ∨ m.1 = last.1 + 1) ∧ m.1 < 8 ∧ last.2 < m.2) (hl2 : 0 ≤ last.2 ∧ last.2 ≤ 1000000) (hm0 : 0 ≤ m.1)
    (hri : (W' ++ [last]).Pairwise fun a b => a.2 < b.2) (hWl : W'.length ≤ 900)
    (hX : ∀ H' f' F' j r, WS H0 H' g (n + 5) f' F' r ((W' ++ [last]) ++ [m]) Sl.nil [] → FP f' j (m :: (W' ++ [last]).reverse) [] → X1 r (j : Int) ((i + 1 : Nat) : Int) H') : F6_L5 Q X1 ssl nsl (some ⟨g, 0, none⟩) rsl (h : Int) (i : Int) ⟨b1, 0, none⟩ ⟨b2, 0, none⟩ Sl.nil 0 H := by
  have hnn := hnsl.n
  intro X hX5
  suffices G : ∀ (d j : Nat) (osl : Sl) (O : List Nat) (f : Fn) (F : Nat → Prop) (H : Hp), j + d = 4 → O.length = j → WS H0 H g (n + j) f F rsl (W' ++ [last]) osl O → FP f h (last :: W'.reverse) O → Row H b1 32 [.int .i64 last.1, .int .i64 last.2] → Row H b2 32 [.int .i64 m.1, .int .i64 m.2] → (¬ F b1 ∧ ¬ rsl.at b1) → (¬ F b2 ∧ ¬ rsl.at b2) → X osl (j : Int) H from
    G 4 0 Sl.nil [] f F H (by omega) rfl w p hb1 hb2 nb1 nb2
  have hWr : (W' ++ [last]).reverse = last :: W'.reverse := by simp
  have four : ∀ (j : Nat) (osl : Sl) (O : List Nat) (f : Fn) (F : Nat → Prop) (H : Hp), j ≤ 4 → O.length = j → WS H0 H g (n + j) f F rsl (W' ++ [last]) osl O → FP f h (last :: W'.reverse) O → Row H b2 32 [.int .i64 m.1, .int .i64 m.2] → (¬ F b2 ∧ ¬ rsl.at b2) → F6_4 Q X1 ssl nsl (some ⟨g, 0, none⟩) rsl (h : Int) (i : Int) ⟨b2, 0, none⟩ osl H := by
    intro j osl O f F H hj hO w p hb2 nb2
    have hf : atI f (h : Int) = some (last :: W'.reverse) := by rw [atI_nat]; exact p.one
    refine ⟨_, _, hb2.all, c14 (m := m) w.bi (by omega) (fun hh => by rw [hf] at hh; cases hh) (fun l ls hl hbad => ?_) fun l ls hl hbad H153 k hk b153 k153 => ⟨fun hh => absurd rfl (of_decide_eq_true hh), fun _ => ?_⟩⟩
    · rw [hf] at hl
      injection hl with hl
      injection hl with h1 h2
      subst h1
      unfold bad at hbad
      omega
    rw [hf] at hl
    injection hl with hl
    injection hl with h1 h2
    subst h1 h2
    have w153 := w.op b153 (fun _ h => h) k153
    have hb153 := k153.row hb2 nb2.1
    refine ⟨_, _, hb153.all, fun H161 e161 => ?_⟩
    have k161 : Kp No H153 H161 := (Kp.refl No _).push' e161
    have s161 := size_push' e161
    have bx : Row H161 H153.size 32 (mF.f m) := Row.new' e161
    have w161 := w153.no k161
    refine w161.rl.append1 bx rfl (by simp; omega) (by simp; omega) fun r H163 l163 k163 hs163 => ?_
    have hsz := w161.kp.size
    have hrF : ∀ b, rsl.at b → ¬ _ := fun b hb => (w161.ra b hb).2
    refine c6_L7 (n := n + j + 1) (O := O) (W := W' ++ [last]) ⟨w161.bi.kp k163 fun b hb hh => (w161.ra b hh).2 hb, w161.lo, w161.kp.trans k163 fun b hb => .inr (w161.ra b hb).1, l163, fun b hb => ?_, w161.ol.kp k163 fun b hb hh => (w161.ol.row hb).elim fun _ h1 => (w161.rl.row hh).elim fun _ h2 => h1.ne_type h2 (by decide) rfl, w161.oa⟩ ?_ ?_ (by omega) hi (by omega) ?_ (by simp; omega) fun H' f' F' w' p' => hX H' f' F' k r (w'.op (w'.bi.more (by omega)) (fun _ h => .inl h) (Kp.refl _ _)) (by rw [List.reverse_append] at p'; exact p')
    · rcases hs163 b hb with hb | hb
      · exact w161.ra b hb
      · refine ⟨by omega, fun hh => ?_⟩
        have := b153.lt b hh
        omega
    · rw [hWr]
      exact (p.add hk _).perm List.perm_append_comm
    · rw [hWr]
      unfold upd
      rw [if_pos rfl]
    · refine rise_nodup ?_
      rw [List.pairwise_append]
      refine ⟨hri, by simp, fun a ha b hb => ?_⟩
      simp at hb
      subst hb
      rcases List.mem_append.1 ha with ha | ha
      · have := (List.pairwise_append.1 hri).2.2 a ha last (by simp)
        omega
      · simp at ha
        rw [ha]; exact hm.2.2
  intro d
  induction d with
  | zero =>
    intro j osl O f F H hj hO w p hb1 hb2 nb1 nb2
    have f4 := four j osl O f F H (by omega) hO w p hb2 nb2
    exact hX5 _ _ _ ⟨fun _ => ⟨fun hh => absurd (of_decide_eq_true hh) (by omega), fun _ => f4⟩, fun _ => f4⟩
  | succ d ih =>
    intro j osl O f F H hj hO w p hb1 hb2 nb1 nb2
    have f4 := four j osl O f F H (by omega) hO w p hb2 nb2
    refine hX5 _ _ _ ⟨fun hh => ⟨fun _ => ⟨_, _, hb2.all, fun H119 e119 => ?_⟩, fun _ => f4⟩, fun _ => f4⟩
    have hjl := of_decide_eq_true hh
    have hjl : j < NL.length := by omega
    have gj : NL[j]? = some NL[j] := List.getElem?_eq_getElem hjl
    have hu := hnw _ (List.getElem_mem hjl)
    generalize NL[j] = u at gj hu
    have k119 : Kp No H H119 := (Kp.refl No _).push' e119
    have s119 := size_push' e119
    have z119 : Row H119 H.size 32 [.int .i64 0, .int .i64 0] := Row.new' e119
    refine ⟨z119.mayall, fun H121 e121 => ?_⟩
    have s121 := size_sets' e121
    have x121 : Row H121 H.size 32 [.int .i64 m.1, .int .i64 m.2] := z119.fill' e121 rfl
    have k121 : Kp No H H121 := k119.trans ((Kp.refl (fun b => b = H.size) _).sets' e121 (.inl rfl)) fun _ hb => .inr (by omega)
    have w121 := w.no k121
    obtain ⟨q, hq, _, cq⟩ := (hnsl.kp0 w121.kp).get gj
    refine ⟨last.2, (k121.row hb1 id).cell_of (i := 1) rfl, q, hq, by omega, by omega, u, cq.1, x121.some (i := 1) (by simp), x121.frz 1, fun H132 e132 => ?_⟩
    have hmod : 0 ≤ Int.tmod u 4 ∧ Int.tmod u 4 < 4 := ⟨Int.tmod_nonneg _ hu.1, Int.tmod_lt_of_pos _ (by decide)⟩
    have hval : IntKind.i64.wrap (IntKind.i64.wrap (last.2 + 1) + Int.tmod (IntKind.i64.wrap u) 4) = last.2 + 1 + Int.tmod u 4 := by
      rw [wr (x := u) (by omega) (by omega), wr (x := last.2 + 1) (by omega) (by omega), wr (by omega) (by omega)]
    rw [hval] at e132
    have s132 := size_set' e132
    have x132 : Row H132 H.size 32 [.int .i64 m.1, .int .i64 (last.2 + 1 + Int.tmod u 4)] := x121.set' (i := 1) e132
    have k132 : Kp No H H132 := k121.trans ((Kp.refl (fun b => b = H.size) _).set' e132 (.inl rfl)) fun _ hb => .inr (by omega)
    have w132 := w.no k132
    have hf : atI f (h : Int) = some (last :: W'.reverse) := by rw [atI_nat]; exact p.one
    refine ⟨_, _, x132.all, c14 (m := (m.1, last.2 + 1 + Int.tmod u 4)) w132.bi (by omega) (fun hh => by rw [hf] at hh; cases hh) (fun l ls hl hbad => ?_) fun l ls hl hbad H139 k hk b139 k139 => ⟨fun hh => absurd rfl (of_decide_eq_true hh), fun _ H144 e144 => ?_⟩⟩
    · rw [hf] at hl
      injection hl with hl
      injection hl with h1 h2
      subst h1
      unfold bad at hbad
      simp only at hbad
      omega
    · have w139 := w132.op b139 (fun _ h => h) k139
      have k144 : Kp No H139 H144 := (Kp.refl No _).push' e144
      have s144 := size_push' e144
      have s139 := k139.size
      have bx : Row H144 H139.size 3 (iF.f (k : Int)) := Row.new' e144
      have w144 := w139.no k144
      refine w144.ol.append1 bx rfl (by simp [ints]; omega) (by simp [ints]; omega) fun r H146 l146 k146 hs146 => ?_
      have hsz := w144.kp.size
      rw [wr (by omega) (by omega)]
      have hn3 : ∀ b l, Row H144 b 32 l → ¬ osl.at b := fun b l hr hh => (w144.ol.row hh).elim fun _ h2 => hr.ne_type h2 (by decide) rfl
      have hr1 : Row H144 b1 32 [.int .i64 last.1, .int .i64 last.2] := k144.row (k139.row (k132.row hb1 id) nb1.1) id
      have hr2 : Row H144 b2 32 [.int .i64 m.1, .int .i64 m.2] := k144.row (k139.row (k132.row hb2 id) nb2.1) id
      have hbl1 := hb1.lt
      have hbl2 := hb2.lt
      have sk := k132.size
      refine ih (j + 1) r (O ++ [k]) _ _ H146 (by omega) (by simp; omega) ⟨w144.bi.kp k146 fun b hb hh => (w144.oa b hh).2 hb, w144.lo, w144.kp.trans k146 fun b hb => .inr (w144.oa b hb).1, w144.rl.kp k146 fun b hb => (w144.rl.row hb).elim fun _ h1 => hn3 _ _ h1, w144.ra, by simpa [ints] using l146, fun b hb => ?_⟩ (p.add hk _) (k146.row hr1 (hn3 _ _ hr1)) (k146.row hr2 (hn3 _ _ hr2)) ⟨fun hh => ?_, nb1.2⟩ ⟨fun hh => ?_, nb2.2⟩
      · rcases hs146 b hb with hb | hb
        · exact w144.oa b hb
        · refine ⟨by omega, fun hh => ?_⟩
          have := b139.lt b hh
          omega
      · rcases hh with hh | hh
        · exact nb1.1 hh
        · omega
      · rcases hh with hh | hh
        · exact nb2.1 hh
        · omega
end
end Go.Hw
