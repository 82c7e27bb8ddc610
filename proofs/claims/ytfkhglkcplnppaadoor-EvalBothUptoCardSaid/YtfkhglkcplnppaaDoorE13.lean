/- EvalSums. Own work of this session. -/
import Derived.Test.YtfkhglkcplnppaaDoorE12
import Derived.Test.YtfkhglkcplnppaaDoorE10
set_option linter.unusedVariables false
namespace Go.Hw
open Go

theorem top_fn (m : EnvM) (o : Int) (v : ByteArray) (p : Int) (a : ByteArray) : topP m (fnE o v p a) .nil = aggP m (fnE o v p a) := by
  unfold topP
  rw [if_neg (by decide), if_neg (by decide)]
  unfold evalP ev1
  rw [if_neg (show ¬ (fnE o v p a).k = 1 from (by decide : ¬ (3 : Int) = 1)), if_neg (show ¬ (fnE o v p a).k = 2 from (by decide : ¬ (3 : Int) = 2)), if_pos (show (fnE o v p a).k = 3 from rfl)]
theorem top_ref (m : EnvM) (v : ByteArray) (p : Int) (a : ByteArray) : topP m (refE v p a) .nil = if (eventP m v p).2 ≠ 0 then (zeroV, (eventP m v p).2) else attrP m.types (eventP m v p).1 a := by
  unfold topP
  rw [if_neg (by decide), if_neg (by decide)]
  unfold evalP ev1
  rw [if_neg (show ¬ (refE v p a).k = 1 from (by decide : ¬ (2 : Int) = 1)), if_pos (show (refE v p a).k = 2 from rfl)]
  rfl

/-- The law's sums so far. -/
def goS : Nat → Int × Int × Int → List Int → Int × Int × Int
  | _, st, [] => st
  | i, (s, l, m), x :: t => goS (i + 1) (IntKind.i64.wrap (s + x), (if i = 0 ∨ x < l then x else l), (if i = 0 ∨ m < x then x else m)) t
def comp (o : Int) (st : Int × Int × Int) : Int := if o = 2 then st.1 else if o = 3 then st.2.1 else st.2.2
def in64 (x : Int) : Prop := -9223372036854775808 ≤ x ∧ x ≤ 9223372036854775807
theorem agg_go {o : Int} (ho : o = 2 ∨ o = 3 ∨ o = 4) : ∀ (l : List Int) (i : Nat) (st : Int × Int × Int), (i = 0 → st.1 = 0) → (∀ x ∈ l, in64 x) → aggGo tyT S_x o i (comp o st) (evsF i l) = (0, comp o (goS i st l))
  | [], i, st, _, _ => rfl
  | x :: l, i, (s, lo, hi), h0, hx => by
    have ih := agg_go ho l (i + 1) (IntKind.i64.wrap (s + x), (if i = 0 ∨ x < lo then x else lo), (if i = 0 ∨ hi < x then x else hi)) (fun h => by omega) fun y hy => hx y (List.mem_cons_of_mem _ hy)
    obtain ⟨x1, x2⟩ := hx x (List.mem_cons_self ..)
    show (if (attrP tyT (evM i x S_s) S_x).2 ≠ 0 then _ else if (attrP tyT (evM i x S_s) S_x).1.k ≠ 1 then _ else aggGo tyT S_x o (i + 1) (if i = 0 then (attrP tyT (evM i x S_s) S_x).1.n else joinP o (comp o (s, lo, hi)) (attrP tyT (evM i x S_s) S_x).1.n) (evsF (i + 1) l)) = _
    rw [attr_x, if_neg (fun h => h rfl), if_neg (fun h => h rfl)]
    show aggGo tyT S_x o (i + 1) (if i = 0 then x else joinP o (comp o (s, lo, hi)) x) (evsF (i + 1) l) = (0, comp o (goS (i + 1) _ l))
    rw [← ih]
    congr 1
    by_cases hi0 : i = 0
    · rw [if_pos hi0]
      have := h0 hi0
      simp only [] at this
      rcases ho with rfl | rfl | rfl
      · show x = IntKind.i64.wrap (s + x)
        rw [this, Int.zero_add, wr x1 x2]
      · show x = if i = 0 ∨ x < lo then x else lo
        rw [if_pos (.inl hi0)]
      · show x = if i = 0 ∨ hi < x then x else hi
        rw [if_pos (.inl hi0)]
    · rw [if_neg hi0]
      rcases ho with rfl | rfl | rfl
      · rfl
      · show (if x < lo then x else lo) = if i = 0 ∨ x < lo then x else lo
        by_cases h : x < lo
        · rw [if_pos h, if_pos (.inr h)]
        · rw [if_neg h, if_neg (fun h' => h'.elim hi0 h)]
      · show (if hi < x then x else hi) = if i = 0 ∨ hi < x then x else hi
        by_cases h : hi < x
        · rw [if_pos h, if_pos (.inr h)]
        · rw [if_neg h, if_neg (fun h' => h'.elim hi0 h)]

def smM (NS : List Int) (now : Int) : EnvM := ⟨[S_a, S_b], [[evM 0 1 E], evsF 0 NS], S_b, evM 99 now S_n, tyT⟩
theorem sfi_a : ([S_a, S_b].findIdx? fun x => seq S_a x) = some 0 := by kernel_rfl
theorem sfi_b : ([S_a, S_b].findIdx? fun x => seq S_b x) = some 1 := by kernel_rfl
theorem sfi_z : ([S_a, S_b].findIdx? fun x => seq S_z x) = none := by kernel_rfl
section
variable {NS : List Int} {now : Int}
theorem sb_a : boundP (smM NS now) S_a = some [evM 0 1 E] := by unfold boundP smM; simp only [sfi_a]; rfl
theorem sb_b : boundP (smM NS now) S_b = some (evsF 0 NS) := by unfold boundP smM; simp only [sfi_b]; rfl
theorem sb_z : boundP (smM NS now) S_z = none := by unfold boundP smM; simp only [sfi_z]; rfl
theorem st_b : takeP (smM NS now) S_b = true := by
  have h : seq S_b E = false := by kernel_rfl
  unfold takeP; rw [h]; exact seq_self _
theorem st_a : takeP (smM NS now) S_a = false := by
  have h : seq S_a E = false := by kernel_rfl
  have h2 : seq S_a S_b = false := by kernel_rfl
  unfold takeP; rw [h]; exact h2
theorem agg_mid {m : EnvM} {o p : Int} {v a : ByteArray} {l : List EvM} (h1 : 1 ≤ o) (h4 : o ≤ 4) (hp : p = 6 ∨ p = 7) (hb : boundP m v = some l) (ht : ¬ (p = 7 ∧ takeP m v = false)) :
    aggP m (fnE o v p a) = if o = 1 then (numV l.length, 0) else if (aggGo m.types a o 0 0 l).1 ≠ 0 then (zeroV, (aggGo m.types a o 0 0 l).1) else if l.length = 0 ∧ o ≠ 2 then (zeroV, 110) else (numV (aggGo m.types a o 0 0 l).2, 0) := by
  have hb' : boundP m (fnE o v p a).v = some l := hb
  unfold aggP
  rw [if_neg (show ¬ (fnE o v p a).o < 1 by show ¬ o < 1; omega), if_neg (show ¬ 4 < (fnE o v p a).o by show ¬ 4 < o; omega), if_neg (show ¬ ((fnE o v p a).p ≠ 6 ∧ (fnE o v p a).p ≠ 7) by show ¬ (p ≠ 6 ∧ p ≠ 7); omega), hb']
  exact if_neg ht
theorem agg_out {m : EnvM} {o p : Int} {v a : ByteArray} (h1 : 1 ≤ o) (h4 : o ≤ 4) (hp : p = 6 ∨ p = 7) (h : boundP m v = none ∨ (p = 7 ∧ takeP m v = false)) : aggP m (fnE o v p a) = (zeroV, 110) := by
  unfold aggP
  rw [if_neg (show ¬ (fnE o v p a).o < 1 by show ¬ o < 1; omega), if_neg (show ¬ 4 < (fnE o v p a).o by show ¬ 4 < o; omega), if_neg (show ¬ ((fnE o v p a).p ≠ 6 ∧ (fnE o v p a).p ≠ 7) by show ¬ (p ≠ 6 ∧ p ≠ 7); omega)]
  cases hb : boundP m (fnE o v p a).v with
  | none => rfl
  | some l =>
    rcases h with h | h
    · have hb : boundP m v = some l := hb
      rw [h] at hb; cases hb
    · exact if_pos h
theorem ntk {k : Int} : ¬ (k = 7 ∧ takeP (smM NS now) S_b = false) := fun h => by rw [st_b] at h; exact absurd h.2 (by decide)
theorem s_count {k : Int} (hk : k = 6 ∨ k = 7) (a : ByteArray) : topP (smM NS now) (fnE 1 S_b k a) .nil = (numV NS.length, 0) := by
  rw [top_fn, agg_mid (by omega) (by omega) hk sb_b ntk, if_pos rfl, evsF_len]
theorem s_fn {o k : Int} (ho : o = 2 ∨ o = 3 ∨ o = 4) (hk : k = 6 ∨ k = 7) (hx : ∀ x ∈ NS, in64 x) (hne : o = 2 ∨ NS ≠ []) : topP (smM NS now) (fnE o S_b k S_x) .nil = (numV (comp o (goS 0 (0, 0, 0) NS)), 0) := by
  have hg := agg_go ho NS 0 (0, 0, 0) (fun _ => rfl) hx
  rw [show comp o (0, 0, 0) = 0 by unfold comp; split <;> (try split) <;> rfl] at hg
  rw [top_fn, agg_mid (by omega) (by omega) hk sb_b ntk, if_neg (show ¬ o = 1 by omega), show (smM NS now).types = tyT from rfl, hg, if_neg (fun h => h rfl), if_neg (fun h => by
    rw [evsF_len] at h
    rcases hne with hne | hne
    · exact h.2 hne
    · exact hne (List.eq_nil_of_length_eq_zero h.1))]
theorem s_none {o k : Int} (ho : o = 3 ∨ o = 4) (hk : k = 6 ∨ k = 7) (hn : NS = []) : topP (smM NS now) (fnE o S_b k S_x) .nil = (zeroV, 110) := by
  subst hn
  rw [top_fn, agg_mid (by omega) (by omega) hk sb_b ntk, if_neg (show ¬ o = 1 by omega), if_neg (show ¬ ((aggGo (smM [] now).types S_x o 0 0 (evsF 0 [])).1 ≠ 0) from fun h => h rfl), if_pos ⟨rfl, by omega⟩]
theorem s_kind {k : Int} (hk : k = 6 ∨ k = 7) (hne : NS ≠ []) : topP (smM NS now) (fnE 2 S_b k S_s) .nil = (zeroV, 10) := by
  obtain ⟨x, t, rfl⟩ := List.exists_cons_of_ne_nil hne
  have hg : aggGo tyT S_s 2 0 0 (evsF 0 (x :: t)) = (10, 0) := by
    show (if (attrP tyT (evM 0 x S_s) S_s).2 ≠ 0 then _ else if (attrP tyT (evM 0 x S_s) S_s).1.k ≠ 1 then ((10 : Int), (0 : Int)) else _) = _
    rw [attr_s 0 x (s := S_s) (by decide), if_neg (fun h => h rfl), if_pos (by decide)]
  rw [top_fn, agg_mid (by omega) (by omega) hk sb_b ntk, if_neg (show ¬ (2 : Int) = 1 by decide), show (smM (x :: t) now).types = tyT from rfl, hg, if_pos (show ((10 : Int), (0 : Int)).1 ≠ 0 by decide)]
theorem s_a7 (a : ByteArray) : topP (smM NS now) (fnE 1 S_a 7 a) .nil = (zeroV, 110) := by
  rw [top_fn, agg_out (by omega) (by omega) (.inr rfl) (.inr ⟨rfl, st_a⟩)]
theorem s_z6 (a : ByteArray) : topP (smM NS now) (fnE 1 S_z 6 a) .nil = (zeroV, 110) := by
  rw [top_fn, agg_out (by omega) (by omega) (.inl rfl) (.inl sb_z)]
end
end Go.Hw
