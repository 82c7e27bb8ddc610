/- value: what may be; compared; what an operation wants; carried out. Own work of this session. -/
import Derived.Test.YtkdjcmfmflljlaaDoorWalkC
import Derived.Test.YtkdjcmfmflljlaaDoorHwJ
import Derived.Lib.Strings
set_option linter.unusedVariables false
namespace Go.Hw
open Go

abbrev No : Nat → Prop := fun _ => False
abbrev E : ByteArray := ByteArray.mk #[]
theorem Kp.no2 {H H' H'' : Hp} (k : Kp No H H') (k' : Kp No H' H'') : Kp No H H'' := k.trans k' fun b hb => .inl hb
theorem seq_self (s : ByteArray) : seq s s = true := by unfold seq; simp

/-- A value. -/
structure VT where
  k : Int
  n : Int
  s : ByteArray
  b : Bool
def vF : Fmt VT 25 4 := ⟨fun v => [.int .i64 v.k, .int .i64 v.n, .string v.s, .bool v.b], fun _ => rfl, by
  intro x v hv
  simp only [List.mem_cons, List.not_mem_nil, or_false] at hv
  rcases hv with rfl | rfl | rfl | rfl <;> rfl, by decide⟩
abbrev VT.row (v : VT) : List Value := [.int .i64 v.k, .int .i64 v.n, .string v.s, .bool v.b]
def numV (n : Int) : VT := ⟨1, n, E, false⟩
def truthV (b : Bool) : VT := ⟨3, 0, E, b⟩
def zeroV : VT := ⟨0, 0, E, false⟩

section
variable {H H0 : Hp} {b : Nat} {l : List Value}

/-- A value is laid into its box and handed back. -/
theorem ret4 {K : Int → Int → ByteArray → Bool → Hp → Prop} (r : Row H b 25 l) (hl : l.length = 4) (v : VT) (hK : ∀ H', Row H' b 25 v.row → Kp (fun x => x = b) H H' → K v.k v.n v.s v.b H') :
    mayw H ⟨b, 0, none⟩ 4 0 ∧ ∀ H' : Hp, H' = sets H ⟨b, 0, none⟩ [(.int .i64 v.k), (.int .i64 v.n), (.string v.s), (.bool v.b)] 0 →
      (∃ (x6 : Int) (x7 : Int) (x8 : ByteArray) (x9 : Bool), cells H' ⟨b, 0, none⟩ [(.int .i64 x6), (.int .i64 x7), (.string x8), (.bool x9)] 0 ∧ (K x6 x7 x8 x9 H')) := by
  refine ⟨r.mayw (by omega), fun H' e => ?_⟩
  have r' : Row H' b 25 v.row := r.fill' e (by simp [hl])
  exact ⟨_, _, _, _, r'.all, hK H' r' ((Kp.refl _ _).sets' e (.inl rfl))⟩
theorem Kp.box {H' : Hp} (k : Kp No H0 H) (k' : Kp (fun x => x = b) H H') (hb : H0.size ≤ b) : Kp No H0 H' := k.trans k' fun x hx => .inr (by omega)

theorem c31 {p0 : Int} {Q : Int → Int → ByteArray → Bool → Hp → Prop} (hQ : ∀ H', Kp No H H' → Q 1 p0 E false H') : F31 p0 H Q := by
  intro H1 e1
  exact ret4 (Row.new' e1) rfl ⟨1, p0, E, false⟩ fun H' _ k => hQ H' (((Kp.refl No H).push' e1).box k (Nat.le_refl _))
theorem c32 {p0 : ByteArray} {Q : Int → Int → ByteArray → Bool → Hp → Prop} (hQ : ∀ H', Kp No H H' → Q 2 0 p0 false H') : F32 p0 H Q := by
  intro H1 e1
  exact ret4 (Row.new' e1) rfl ⟨2, 0, p0, false⟩ fun H' _ k => hQ H' (((Kp.refl No H).push' e1).box k (Nat.le_refl _))
theorem c33 {p0 : Bool} {Q : Int → Int → ByteArray → Bool → Hp → Prop} (hQ : ∀ H', Kp No H H' → Q 3 0 E p0 H') : F33 p0 H Q := by
  intro H1 e1
  exact ret4 (Row.new' e1) rfl ⟨3, 0, E, p0⟩ fun H' _ k => hQ H' (((Kp.refl No H).push' e1).box k (Nat.le_refl _))

/-- May it be? -/
def vld (v : VT) : Bool :=
  if v.k = 1 then decide (v.k = 1) && (decide (v.n = v.n) && (seq v.s E && (v.b == false)))
  else if v.k = 2 then (if (decide (v.k = 2) && (decide (v.n = 0) && (seq v.s v.s && (v.b == false)))) = true then decide ((v.s.size : Int) ≤ 256) else false)
  else if v.k = 3 then decide (v.k = 3) && (decide (v.n = 0) && (seq v.s E && (v.b == v.b))) else false
theorem c13 {v : VT} {Q : Bool → Hp → Prop} (hQ : ∀ H', Kp No H H' → Q (vld v) H') : F13 v.k v.n v.s v.b H Q := by
  intro H1 e1
  have k1 : Kp No H H1 := (Kp.refl _ _).push' e1
  have r1 : Row H1 H.size 25 v.row := Row.new' e1
  have c : ∀ {H' : Hp}, Row H' H.size 25 v.row → ∀ {i : Nat} {x : Value}, v.row[i]? = some x → cell H' (Addr.add ⟨H.size, 0, none⟩ i) = some x := by
    intro H' r i x h
    rw [add_mk, Nat.zero_add]; exact r.cell_of h
  refine ⟨v.k, r1.cell_of rfl, fun h1 => ⟨v.k, v.n, v.s, v.b, r1.all, v.n, c r1 rfl, c31 fun H' k => ?_⟩, fun h1 => ⟨fun h2 => ⟨v.k, v.n, v.s, v.b, r1.all, v.s, c r1 rfl, c32 fun H' k => ?_⟩, fun h2 => ⟨fun h3 => ⟨v.k, v.n, v.s, v.b, r1.all, v.b, c r1 rfl, c33 fun H' k => ?_⟩, fun h3 => ?_⟩⟩⟩
  · have r2 := k.row r1 id
    refine ⟨r2.all, ?_⟩
    have := hQ H' (k1.no2 k)
    rw [vld, if_pos (of_decide_eq_true h1)] at this
    exact this
  · have r2 := k.row r1 id
    have := hQ H' (k1.no2 k)
    rw [vld, if_neg (of_decide_eq_false h1), if_pos (of_decide_eq_true h2)] at this
    refine ⟨r2.all, fun h => ⟨v.s, c r2 rfl, ?_⟩, fun h => ?_⟩
    · rw [if_pos h] at this; exact this
    · rw [if_neg (by rw [h]; decide)] at this; exact this
  · have r2 := k.row r1 id
    refine ⟨r2.all, ?_⟩
    have := hQ H' (k1.no2 k)
    rw [vld, if_neg (of_decide_eq_false h1), if_neg (of_decide_eq_false h2), if_pos (of_decide_eq_true h3)] at this
    exact this
  · have := hQ H1 k1
    rw [vld, if_neg (of_decide_eq_false h1), if_neg (of_decide_eq_false h2), if_neg (of_decide_eq_false h3)] at this
    exact this

/-! ## compared -/
def cmpI (a b : Int) : Int := if a < b then -1 else if b < a then 1 else 0
def cmpT (a b : ByteArray) : Int := if slt a b = true then -1 else if (!(slt a b) && !(seq a b)) = true then 1 else 0
def bitB (b : Bool) : Int := if b = true then 1 else 0
def orI : List Int → Int
  | [] => 0
  | x :: l => if x ≠ 0 then x else orI l
theorem c63 {p0 p1 : Int} {Q : Int → Hp → Prop} (hQ : Q (cmpI p0 p1) H) : F63 p0 p1 H Q := by
  have e : ∀ p : Int, decide (p ≠ p) = false := fun p => decide_eq_false (fun h => h rfl)
  refine ⟨fun h => ?_, fun _ => ⟨fun h => ?_, fun _ => ⟨fun h => ?_, fun h => ⟨fun h' => ?_, fun h' => ?_⟩⟩⟩⟩
  · rw [e] at h; cases h
  · rw [e] at h; cases h
  · rw [cmpI, if_pos (of_decide_eq_true h)] at hQ; exact hQ
  · rw [cmpI, if_neg (of_decide_eq_false h), if_pos (of_decide_eq_true h')] at hQ; exact hQ
  · rw [cmpI, if_neg (of_decide_eq_false h), if_neg (of_decide_eq_false h')] at hQ; exact hQ
theorem c64 {p0 p1 : Int} {Q : Int → Hp → Prop} (hQ : Q (cmpI p0 p1) H) : F64 p0 p1 H Q := by
  have e : ∀ p : Int, decide (p ≠ p) = false := fun p => decide_eq_false (fun h => h rfl)
  refine ⟨fun h => ?_, fun _ => ⟨fun h => ?_, fun _ => ⟨fun h => ?_, fun h => ⟨fun h' => ?_, fun h' => ?_⟩⟩⟩⟩
  · rw [e] at h; cases h
  · rw [e] at h; cases h
  · rw [cmpI, if_pos (of_decide_eq_true h)] at hQ; exact hQ
  · rw [cmpI, if_neg (of_decide_eq_false h), if_pos (of_decide_eq_true h')] at hQ; exact hQ
  · rw [cmpI, if_neg (of_decide_eq_false h), if_neg (of_decide_eq_false h')] at hQ; exact hQ
theorem c65 {p0 p1 : ByteArray} {Q : Int → Hp → Prop} (hQ : Q (cmpT p0 p1) H) : F65 p0 p1 H Q := by
  refine ⟨fun h => ?_, fun _ => ⟨fun h => ?_, fun _ => ⟨fun h => ?_, fun h => ⟨fun h' => ?_, fun h' => ?_⟩⟩⟩⟩
  · rw [seq_self] at h; cases h
  · rw [seq_self] at h; cases h
  · rw [cmpT, if_pos h] at hQ; exact hQ
  · rw [cmpT, if_neg (by rw [h]; decide), if_pos h'] at hQ; exact hQ
  · rw [cmpT, if_neg (by rw [h]; decide), if_neg (by rw [h']; decide)] at hQ; exact hQ
theorem c66 {p0 : Bool} {Q : Int → Hp → Prop} (hQ : Q (bitB p0) H) : F66 p0 H Q := ⟨fun h => by rw [h] at hQ; exact hQ, fun h => by rw [h] at hQ; exact hQ⟩
def iF : Fmt Int 3 1 := ⟨fun x => [.int .i64 x], fun _ => rfl, by intro x v hv; simp at hv; rcases hv with rfl; rfl, by decide⟩
theorem c62 {L : List Int} {sl : Sl} {Q : Int → Hp → Prop} (h : RdL iF H sl L) (hl : L.length ≤ 4194304) (hQ : Q (orI L) H) : F62 sl H Q := by
  have hn := h.n
  intro X hX
  suffices G : ∀ (d i : Nat), i + d = L.length → (∀ j x, j < i → L[j]? = some x → x = 0) → X (i : Int) H from G L.length 0 (by omega) (fun j x h => by omega)
  have orI_eq : ∀ (l : List Int) (i : Nat), (∀ j x, j < i → l[j]? = some x → x = 0) → orI l = orI (l.drop i) := by
    intro l
    induction l with
    | nil => intro i _; simp
    | cons a l ih =>
      intro i hi
      cases i with
      | zero => rfl
      | succ i =>
        have : a = 0 := hi 0 a (by omega) rfl
        subst this
        rw [List.drop_succ_cons]
        show (if (0 : Int) ≠ 0 then 0 else orI l) = _
        rw [if_neg (by simp)]
        exact ih i fun j x hj hx => hi (j + 1) x (by omega) (by simpa using hx)
  intro d
  induction d with
  | zero =>
    intro i hi h0
    refine hX _ _ ⟨fun hh => absurd (of_decide_eq_true hh) (by omega), fun _ => ?_⟩
    rw [orI_eq L i h0, List.drop_of_length_le (by omega)] at hQ
    exact hQ
  | succ d ih =>
    intro i hi h0
    have gx : L[i]? = some (L[i]'(by omega)) := List.getElem?_eq_getElem (by omega)
    have dr : L.drop i = L[i]'(by omega) :: L.drop (i + 1) := List.drop_eq_getElem_cons (by omega)
    generalize L[i]'(by omega) = x at gx dr
    obtain ⟨p, hp, hpn, cp⟩ := h.get gx
    have cp0 : cell H (Addr.add p (i * 1)) = some (.int .i64 x) := by
      have := cp.1
      rwa [add_add, Nat.add_zero] at this
    refine hX _ _ ⟨fun _ => ⟨p, hp, by omega, by omega, x, by rw [show ((i : Int)).toNat = i from by omega]; exact cp0, fun hh => ?_, fun hh => ?_⟩, fun hh => absurd (of_decide_eq_false hh) (by omega)⟩
    · have hx : x ≠ 0 := of_decide_eq_true hh
      rw [orI_eq L i h0, dr] at hQ
      have : orI (x :: L.drop (i + 1)) = x := if_pos hx
      rw [this] at hQ
      exact hQ
    · have hx : x = 0 := by
        have := of_decide_eq_false hh
        omega
      rw [wr (by omega) (by omega)]
      refine ih (i + 1) (by omega) fun j y hj hy => ?_
      by_cases e : j = i
      · subst e; rw [gx] at hy; injection hy with hy; omega
      · exact h0 j y (by omega) hy
def cmpV (a b : VT) : Int := orI [cmpI a.k b.k, cmpI a.n b.n, cmpT a.s b.s, cmpI (bitB a.b) (bitB b.b)]
theorem c55 {a b : VT} {Q : Int → Hp → Prop} (hQ : ∀ H', Kp No H H' → Q (cmpV a b) H') : F55 a.k a.n a.s a.b b.k b.n b.s b.b H Q := by
  intro H1 e1 H3 e3
  have k1 : Kp No H H1 := (Kp.refl _ _).push' e1
  have k3 : Kp No H H3 := k1.push' e3
  have r1 : Row H3 H.size 25 a.row := (Row.new' e1).push' e3
  have r2 : Row H3 H1.size 25 b.row := Row.new' e3
  have c : ∀ {p : Nat} {v : VT}, Row H3 p 25 v.row → ∀ {i : Nat} {x : Value}, v.row[i]? = some x → cell H3 (Addr.add ⟨p, 0, none⟩ i) = some x := by
    intro p v r i x h
    rw [add_mk, Nat.zero_add]; exact r.cell_of h
  refine ⟨a.k, r1.cell_of rfl, b.k, r2.cell_of rfl, a.n, c r1 rfl, b.n, c r2 rfl, a.s, c r1 rfl, b.s, c r2 rfl, a.b, c r1 rfl, b.b, c r2 rfl, ?_⟩
  refine c63 ⟨c r2 rfl, c r1 rfl, c r2 rfl, c r1 rfl, c r2 rfl, c r1 rfl, ?_⟩
  refine c64 ⟨c r2 rfl, c r1 rfl, c r2 rfl, c r1 rfl, ?_⟩
  refine c65 ⟨c r2 rfl, c r1 rfl, ?_⟩
  refine c66 ⟨c r2 rfl, ?_⟩
  refine c66 (c63 fun H52 e52 => ?_)
  have r5 := Row.new' e52
  refine c62 (L := [cmpI a.k b.k, cmpI a.n b.n, cmpT a.s b.s, cmpI (bitB a.b) (bitB b.b)]) (Row.rdl (F := iF) (L := [cmpI a.k b.k, cmpI a.n b.n, cmpT a.s b.s, cmpI (bitB a.b) (bitB b.b)]) (n := 4) r5 rfl 4) (by simp) (hQ _ (k3.push' e52))
end
end Go.Hw
