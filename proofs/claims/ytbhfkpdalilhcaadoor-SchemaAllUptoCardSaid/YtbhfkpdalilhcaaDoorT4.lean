/- Values; what is wrong with an event. Own work of this session. -/
import Derived.Test.YtbhfkpdalilhcaaDoorT3
set_option linter.unusedVariables false
namespace Go.Hw
open Go

/-- A value. -/
structure VT where
  k : Int
  n : Int
  s : ByteArray
  b : Bool
def vF : Fmt VT 35 4 := ⟨fun x => [.int .i64 x.k, .int .i64 x.n, .string x.s, .bool x.b], fun _ => rfl, by
  intro x v hv
  simp only [List.mem_cons, List.not_mem_nil, or_false] at hv
  rcases hv with rfl | rfl | rfl | rfl <;> rfl, by decide⟩
abbrev E : ByteArray := ⟨#[]⟩
/-- May the value be? -/
def vld (v : VT) : Bool := if v.k = 1 then seq v.s E && !v.b else if v.k = 2 then decide (v.n = 0) && !v.b && decide (v.s.size ≤ 256) else if v.k = 3 then decide (v.n = 0) && seq v.s E else false
def cutS (s : ByteArray) : ByteArray := if 256 < s.size then s.extract 0 256 else s
def valOf (k n : Int) (s : ByteArray) : VT := if k = 1 then ⟨1, n, E, false⟩ else if k = 2 then ⟨2, 0, cutS s, false⟩ else ⟨3, 0, E, decide (Int.tmod n 2 ≠ 0)⟩
theorem valOf_ok {k n : Int} {s : ByteArray} (h1 : 1 ≤ k) (h2 : k ≤ 3) : (valOf k n s).k = k ∧ vld (valOf k n s) = true := by
  have : k = 1 ∨ k = 2 ∨ k = 3 := by omega
  rcases this with rfl | rfl | rfl
  · refine ⟨rfl, ?_⟩
    show (seq E E && !false) = true
    rw [seq_refl]; rfl
  · refine ⟨rfl, ?_⟩
    show (decide ((0 : Int) = 0) && !false && decide ((cutS s).size ≤ 256)) = true
    rw [decide_eq_true (show (cutS s).size ≤ 256 from by
      unfold cutS
      split
      · rw [ByteArray.size_extract]; omega
      · omega)]
    rfl
  · refine ⟨rfl, ?_⟩
    show (decide ((0 : Int) = 0) && seq E E) = true
    rw [seq_refl]; rfl

section
variable {H : Hp}

theorem c56 {n : Int} {Q : Int → Int → ByteArray → Bool → Hp → Prop} (hQ : ∀ H', Kp No H H' → Q 1 n E false H') : F56 n H Q := by
  intro H1 e1
  have r1 := Row.new' e1
  refine ⟨r1.mayw (by decide), fun H3 e3 => ?_⟩
  have r3 : Row H3 H.size 35 [.int .i64 1, .int .i64 n, .string E, .bool false] := r1.fill' e3 rfl
  exact ⟨1, n, E, false, r3.all, hQ H3 (((Kp.refl No H).push' e1).sets' e3 (.inr (Nat.le_refl _)))⟩
theorem c57 {s : ByteArray} {Q : Int → Int → ByteArray → Bool → Hp → Prop} (hQ : ∀ H', Kp No H H' → Q 2 0 s false H') : F57 s H Q := by
  intro H1 e1
  have r1 := Row.new' e1
  refine ⟨r1.mayw (by decide), fun H3 e3 => ?_⟩
  have r3 : Row H3 H.size 35 [.int .i64 2, .int .i64 0, .string s, .bool false] := r1.fill' e3 rfl
  exact ⟨2, 0, s, false, r3.all, hQ H3 (((Kp.refl No H).push' e1).sets' e3 (.inr (Nat.le_refl _)))⟩
theorem c58 {b : Bool} {Q : Int → Int → ByteArray → Bool → Hp → Prop} (hQ : ∀ H', Kp No H H' → Q 3 0 E b H') : F58 b H Q := by
  intro H1 e1
  have r1 := Row.new' e1
  refine ⟨r1.mayw (by decide), fun H3 e3 => ?_⟩
  have r3 : Row H3 H.size 35 [.int .i64 3, .int .i64 0, .string E, .bool b] := r1.fill' e3 rfl
  exact ⟨3, 0, E, b, r3.all, hQ H3 (((Kp.refl No H).push' e1).sets' e3 (.inr (Nat.le_refl _)))⟩

theorem c27 {v : VT} {Q : Bool → Hp → Prop} (hQ : ∀ H', Kp No H H' → Q (vld v) H') : F27 v.k v.n v.s v.b H Q := by
  obtain ⟨k, n, s, b⟩ := v
  intro H1 e1
  have k1 := (Kp.refl No H).push' e1
  have r1 : Row H1 H.size 35 [.int .i64 k, .int .i64 n, .string s, .bool b] := Row.new' e1
  have fin : ∀ {y : Bool} {H' : Hp}, Kp No H1 H' → y = vld ⟨k, n, s, b⟩ → Q y H' := fun kk hy => hy ▸ hQ _ (k1.trans kk fun _ h => h.elim)
  have bb : (b == false) = !b := by cases b <;> rfl
  refine ⟨k, r1.cell_of (i := 0) rfl, fun h1 => ?_, fun h1 => ⟨fun h2 => ?_, fun h2 => ⟨fun h3 => ?_, fun h3 => fin (Kp.refl _ _) ?_⟩⟩⟩
  · obtain rfl := of_decide_eq_true h1
    refine ⟨_, _, _, _, r1.all, n, r1.cell_of (i := 1) rfl, c56 fun H13 k13 => ⟨(k13.row r1 id).all, fin k13 ?_⟩⟩
    show (decide ((1 : Int) = 1) && (decide (n = n) && (seq s E && (b == false)))) = (seq s E && !b)
    rw [bb]; simp
  · obtain rfl := of_decide_eq_true h2
    refine ⟨_, _, _, _, r1.all, s, r1.cell_of (i := 2) rfl, c57 fun H28 k28 => ⟨(k28.row r1 id).all, fun h => ⟨s, (k28.row r1 id).cell_of (i := 2) rfl, fin k28 ?_⟩, fun h => fin k28 ?_⟩⟩
    · show decide ((s.size : Int) ≤ 256) = (decide (n = 0) && !b && decide (s.size ≤ 256))
      have h : (decide ((2 : Int) = 2) && (decide (n = 0) && (seq s s && (b == false)))) = true := h
      rw [bb, seq_refl] at h
      have h : (decide (n = 0) && !b) = true := by simpa using h
      rw [h]
      simp
      omega
    · show false = (decide (n = 0) && !b && decide (s.size ≤ 256))
      have h : (decide ((2 : Int) = 2) && (decide (n = 0) && (seq s s && (b == false)))) = false := h
      rw [bb, seq_refl] at h
      have h : (decide (n = 0) && !b) = false := by simpa using h
      rw [h]; rfl
  · obtain rfl := of_decide_eq_true h3
    refine ⟨_, _, _, _, r1.all, b, r1.cell_of (i := 3) rfl, c58 fun H47 k47 => ⟨(k47.row r1 id).all, fin k47 ?_⟩⟩
    show (decide ((3 : Int) = 3) && (decide (n = 0) && (seq s E && (b == b)))) = (decide (n = 0) && seq s E)
    simp
  · unfold vld
    rw [if_neg (of_decide_eq_false h1), if_neg (of_decide_eq_false h2), if_neg (of_decide_eq_false h3)]

/-! ## events -/
def chkL : List VT → List (ByteArray × Int) → Int
  | v :: V, a :: A => if v.k ≠ a.2 then 10 else if vld v = false then 12 else chkL V A
  | _, _ => 0
def chk (time : Int) (V : List VT) (A : List (ByteArray × Int)) : Int := if time < 0 ∨ 4611686018427387904 < time then 23 else if V.length ≠ A.length then 22 else chkL V A

theorem c11 {cb mr c : Nat} {L : ML ByteArray (ByteArray × Sl)} {ty : ByteArray} {time : Int} {vs : Sl} {V : List VT} {Q : Int → Hp → Prop} (hcb : Row H cb 72 [.map (some mr)]) (hm : mapAt mk9 mv27 H (some mr) L c) (hV : RdL vF H vs V) (hl : V.length ≤ 4611686018427387904)
    (q0 : mget L ty = none → ∀ H', Kp No H H' → Q 21 H') (q1 : ∀ n' asl, mget L ty = some (n', asl) → ∃ A, RdL aF H asl A ∧ ∀ H', Kp No H H' → Q (chk time V A) H') : F11 (some ⟨cb, 0, none⟩) ty time vs H Q := by
  intro H1 e1
  have k1 := (Kp.refl No H).push' e1
  have s1 := size_push' e1
  have o1 : Row H1 H.size 33 [.string ty, .int .i64 time, Sl.v vs] := Row.new' e1
  have c1 := k1.row hcb id
  have m1 := hm.kp k1 id
  refine ⟨_, rfl, some mr, c1.cell_of (i := 0) rfl, ty, o1.cell_of (i := 0) rfl, L, c, MapK.of m1, fun H12 e12 => ?_⟩
  have k12 : Kp No H1 H12 := (Kp.refl No _).push' e12
  have s12 := size_push' e12
  have r12 := Row.new' e12
  have o12 := k12.row o1 id
  refine ⟨MapK.of (m1.kp k12 id), o12.cell_of (i := 0) rfl, (k12.row c1 id).cell_of (i := 0) rfl, r12.mayw (by decide), fun H17 e17 => ?_⟩
  have k17 : Kp No H1 H17 := k12.sets' e17 (.inr (Nat.le_refl _))
  have kk17 : Kp No H H17 := k1.trans k17 fun _ h => h.elim
  have o17 := k17.row o1 id
  have s17 := size_sets' e17
  cases hg : mget L ty with
  | none =>
    exact ⟨fun _ => q0 hg H17 kk17, fun h => (by cases h)⟩
  | some p =>
    obtain ⟨n', asl⟩ := p
    rw [hg] at e17
    have t17 : Row H17 H1.size 27 [.string n', Sl.v asl] := r12.fill' e17 rfl
    obtain ⟨A, hA, hQ⟩ := q1 n' asl hg
    unfold chk at hQ
    have hVn := hV.n
    have hAn := hA.n
    refine ⟨fun h => (by cases h), fun _ => ⟨time, o17.cell_of (i := 1) rfl, ?_⟩⟩
    have one : ∀ y : Bool, (y = true ↔ (time < 0 ∨ 4611686018427387904 < time)) → F11_1 Q ⟨H.size, 0, none⟩ ⟨H1.size, 0, none⟩ y H17 := fun y hy => by
      refine ⟨fun hh => ?_, fun hh => ⟨vs, o17.cell_of (i := 2) rfl, asl, t17.cell_of (i := 1) rfl, fun hne => ?_, fun hne => ⟨vs, o17.cell_of (i := 2) rfl, ?_⟩⟩⟩
      · rw [if_pos (hy.1 hh)] at hQ
        exact hQ H17 kk17
      · rw [if_neg (fun h => by rw [hy.2 h] at hh; cases hh), if_pos (by have := of_decide_eq_true hne; omega)] at hQ
        exact hQ H17 kk17
      · have hlen : V.length = A.length := by
          by_cases e : V.length = A.length
          · exact e
          · exact absurd (show ((vs.n : Nat) : Int) ≠ ((asl.n : Nat) : Int) by omega) (of_decide_eq_false hne)
        rw [if_neg (fun h => by rw [hy.2 h] at hh; cases hh), if_neg (by omega)] at hQ
        generalize hR : chkL V A = R at hQ
        intro X hX
        suffices G : ∀ (d i : Nat) (H' : Hp), i + d = V.length → chkL (V.drop i) (A.drop i) = R → Kp No H17 H' → X (i : Int) H' from G V.length 0 H17 (by omega) hR (Kp.refl _ _)
        intro d
        induction d with
        | zero =>
          intro i H' hi ha k
          rw [List.drop_eq_nil_of_le (by omega)] at ha
          refine hX _ _ ⟨fun hh => absurd (of_decide_eq_true hh) (by omega), fun _ => ?_⟩
          have := hQ H' (kk17.trans k fun _ h => h.elim)
          rw [← ha] at this
          exact this
        | succ d ih =>
          intro i H' hi ha k
          have hiv : i < V.length := by omega
          have hia : i < A.length := by omega
          have gv : V[i]? = some (V[i]'hiv) := List.getElem?_eq_getElem hiv
          have ga : A[i]? = some (A[i]'hia) := List.getElem?_eq_getElem hia
          rw [List.drop_eq_getElem_cons hiv, List.drop_eq_getElem_cons hia] at ha
          generalize V[i]'hiv = v at gv ha
          generalize A[i]'hia = a at ga ha
          unfold chkL at ha
          have kk : Kp No H H' := kk17.trans k fun _ h => h.elim
          obtain ⟨b, hb, hbn, cb'⟩ := (hV.kp0 kk).get gv
          refine hX _ _ ⟨fun _ => ⟨b, hb, by omega, by omega, v.k, v.n, v.s, v.b, cb', fun H52 e52 => ?_⟩, fun hh => absurd (of_decide_eq_false hh) (by omega)⟩
          have k52 : Kp No H' H52 := (Kp.refl No _).push' e52
          have r52 := Row.new' e52
          refine ⟨r52.mayw (by decide), fun H54 e54 => ?_⟩
          have x54 : Row H54 H'.size 35 [.int .i64 v.k, .int .i64 v.n, .string v.s, .bool v.b] := r52.fill' e54 rfl
          have k54 : Kp No H' H54 := k52.sets' e54 (.inr (Nat.le_refl _))
          have kk54 : Kp No H H54 := kk.trans k54 fun _ h => h.elim
          have t54 := (k.trans k54 fun _ h => h.elim).row t17 id
          obtain ⟨g, hg', hgn, cg⟩ := (hA.kp0 kk54).get ga
          refine ⟨v.k, x54.cell_of (i := 0) rfl, asl, t54.cell_of (i := 1) rfl, g, hg', by omega, by omega, a.2, ?_, fun h1 => ?_, fun h1 => ⟨v.k, v.n, v.s, v.b, x54.all, c27 fun H73 k73 => ⟨fun h2 => ?_, fun h2 => ?_⟩⟩⟩
          · rw [show ((i : Int)).toNat = i from by omega]
            exact cg.2.1
          · rw [if_pos (of_decide_eq_true h1)] at ha
            rw [← ha] at hQ
            exact hQ H54 kk54
          · rw [if_neg (of_decide_eq_false h1), if_pos (notT h2)] at ha
            rw [← ha] at hQ
            exact hQ H73 (kk54.trans k73 fun _ h => h.elim)
          · rw [if_neg (of_decide_eq_false h1), if_neg (by rw [notF h2]; decide)] at ha
            rw [wr (by omega) (by omega)]
            exact ih (i + 1) H73 (by omega) ha ((k.trans k54 fun _ h => h.elim).trans k73 fun _ h => h.elim)
    refine ⟨fun h => one true ⟨fun _ => .inl (of_decide_eq_true h), fun _ => rfl⟩, fun h => ⟨time, o17.cell_of (i := 1) rfl, one _ ⟨fun h2 => .inr (of_decide_eq_true h2), fun h2 => decide_eq_true ?_⟩⟩⟩
    have := of_decide_eq_false h
    omega
end
end Go.Hw
