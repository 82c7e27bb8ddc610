/- value: what may be; compared; what an operation wants; carried out. value: operations carried out. Own work of this session. -/
import Derived.Test.YtfkhglkcplnppaaDoorWalkD
import Derived.Test.YtfkhglkcplnppaaDoorHwJ
import Derived.Lib.Strings
set_option linter.unusedVariables false
namespace Go.Hw
open Go

abbrev No : Nat → Prop := fun _ => False
abbrev E : ByteArray := ByteArray.mk #[]
theorem Kp.no2 {H H' H'' : Hp} (k : Kp No H H') (k' : Kp No H' H'') : Kp No H H'' := k.trans k' fun b hb => .inl hb
theorem seq_self (s : ByteArray) : seq s s = true := by unfold seq; simp

structure VT where
 k : Int
 n : Int
 s : ByteArray
 b : Bool
def vF : Fmt VT 38 4 := ⟨fun v => [.int .i64 v.k, .int .i64 v.n, .string v.s, .bool v.b], fun _ => rfl, by
 intro x v hv
 simp only [List.mem_cons, List.not_mem_nil, or_false] at hv
 rcases hv with rfl | rfl | rfl | rfl <;> rfl, by decide⟩
abbrev VT.row (v : VT) : List Value := [.int .i64 v.k, .int .i64 v.n, .string v.s, .bool v.b]
def numV (n : Int) : VT := ⟨1, n, E, false⟩
def truthV (b : Bool) : VT := ⟨3, 0, E, b⟩
def zeroV : VT := ⟨0, 0, E, false⟩

section
variable {H H0 : Hp} {b : Nat} {l : List Value}

theorem ret4 {K : Int → Int → ByteArray → Bool → Hp → Prop} (r : Row H b 38 l) (hl : l.length = 4) (v : VT) (hK : ∀ H', Row H' b 38 v.row → Kp (fun x => x = b) H H' → K v.k v.n v.s v.b H') :
  mayw H ⟨b, 0, none⟩ 4 0 ∧ ∀ H' : Hp, H' = sets H ⟨b, 0, none⟩ [(.int .i64 v.k), (.int .i64 v.n), (.string v.s), (.bool v.b)] 0 →
   (∃ (x6 : Int) (x7 : Int) (x8 : ByteArray) (x9 : Bool), cells H' ⟨b, 0, none⟩ [(.int .i64 x6), (.int .i64 x7), (.string x8), (.bool x9)] 0 ∧ (K x6 x7 x8 x9 H')) := by
 refine ⟨r.mayw (by omega), fun H' e => ?_⟩
 have r' : Row H' b 38 v.row := r.fill' e (by simp [hl])
 exact ⟨_, _, _, _, r'.all, hK H' r' ((Kp.refl _ _).sets' e (.inl rfl))⟩
theorem Kp.box {H' : Hp} (k : Kp No H0 H) (k' : Kp (fun x => x = b) H H') (hb : H0.size ≤ b) : Kp No H0 H' := k.trans k' fun x hx => .inr (by omega)

theorem c60 {p0 : Int} {Q : Int → Int → ByteArray → Bool → Hp → Prop} (hQ : ∀ H', Kp No H H' → Q 1 p0 E false H') : F60 p0 H Q := by
 intro H1 e1
 exact ret4 (Row.new' e1) rfl ⟨1, p0, E, false⟩ fun H' _ k => hQ H' (((Kp.refl No H).push' e1).box k (Nat.le_refl _))
theorem c61 {p0 : ByteArray} {Q : Int → Int → ByteArray → Bool → Hp → Prop} (hQ : ∀ H', Kp No H H' → Q 2 0 p0 false H') : F61 p0 H Q := by
 intro H1 e1
 exact ret4 (Row.new' e1) rfl ⟨2, 0, p0, false⟩ fun H' _ k => hQ H' (((Kp.refl No H).push' e1).box k (Nat.le_refl _))
theorem c62 {p0 : Bool} {Q : Int → Int → ByteArray → Bool → Hp → Prop} (hQ : ∀ H', Kp No H H' → Q 3 0 E p0 H') : F62 p0 H Q := by
 intro H1 e1
 exact ret4 (Row.new' e1) rfl ⟨3, 0, E, p0⟩ fun H' _ k => hQ H' (((Kp.refl No H).push' e1).box k (Nat.le_refl _))

def vld (v : VT) : Bool :=
 if v.k = 1 then decide (v.k = 1) && (decide (v.n = v.n) && (seq v.s E && (v.b == false)))
 else if v.k = 2 then (if (decide (v.k = 2) && (decide (v.n = 0) && (seq v.s v.s && (v.b == false)))) = true then decide ((v.s.size : Int) ≤ 256) else false)
 else if v.k = 3 then decide (v.k = 3) && (decide (v.n = 0) && (seq v.s E && (v.b == v.b))) else false
theorem c46 {v : VT} {Q : Bool → Hp → Prop} (hQ : ∀ H', Kp No H H' → Q (vld v) H') : F46 v.k v.n v.s v.b H Q := by
 intro H1 e1
 have k1 : Kp No H H1 := (Kp.refl _ _).push' e1
 have r1 : Row H1 H.size 38 v.row := Row.new' e1
 have c : ∀ {H' : Hp}, Row H' H.size 38 v.row → ∀ {i : Nat} {x : Value}, v.row[i]? = some x → cell H' (Addr.add ⟨H.size, 0, none⟩ i) = some x := by
  intro H' r i x h
  rw [add_mk, Nat.zero_add]; exact r.cell_of h
 refine ⟨v.k, r1.cell_of rfl, fun h1 => ⟨v.k, v.n, v.s, v.b, r1.all, v.n, c r1 rfl, c60 fun H' k => ?_⟩, fun h1 => ⟨fun h2 => ⟨v.k, v.n, v.s, v.b, r1.all, v.s, c r1 rfl, c61 fun H' k => ?_⟩, fun h2 => ⟨fun h3 => ⟨v.k, v.n, v.s, v.b, r1.all, v.b, c r1 rfl, c62 fun H' k => ?_⟩, fun h3 => ?_⟩⟩⟩
 ·have r2 := k.row r1 id
  refine ⟨r2.all, ?_⟩
  have := hQ H' (k1.no2 k)
  rw [vld, if_pos (of_decide_eq_true h1)] at this
  exact this
 ·have r2 := k.row r1 id
  have := hQ H' (k1.no2 k)
  rw [vld, if_neg (of_decide_eq_false h1), if_pos (of_decide_eq_true h2)] at this
  refine ⟨r2.all, fun h => ⟨v.s, c r2 rfl, ?_⟩, fun h => ?_⟩
  ·rw [if_pos h] at this; exact this
  ·rw [if_neg (by rw [h]; decide)] at this; exact this
 ·have r2 := k.row r1 id
  refine ⟨r2.all, ?_⟩
  have := hQ H' (k1.no2 k)
  rw [vld, if_neg (of_decide_eq_false h1), if_neg (of_decide_eq_false h2), if_pos (of_decide_eq_true h3)] at this
  exact this
 ·have := hQ H1 k1
  rw [vld, if_neg (of_decide_eq_false h1), if_neg (of_decide_eq_false h2), if_neg (of_decide_eq_false h3)] at this
  exact this

def cmpI (a b : Int) : Int := if a < b then -1 else if b < a then 1 else 0
def cmpT (a b : ByteArray) : Int := if slt a b = true then -1 else if (!(slt a b) && !(seq a b)) = true then 1 else 0
def bitB (b : Bool) : Int := if b = true then 1 else 0
def orI : List Int → Int
 | [] => 0
 | x :: l => if x ≠ 0 then x else orI l
theorem c84 {p0 p1 : Int} {Q : Int → Hp → Prop} (hQ : Q (cmpI p0 p1) H) : F84 p0 p1 H Q := by
 have e : ∀ p : Int, decide (p ≠ p) = false := fun p => decide_eq_false (fun h => h rfl)
 refine ⟨fun h => ?_, fun _ => ⟨fun h => ?_, fun _ => ⟨fun h => ?_, fun h => ⟨fun h' => ?_, fun h' => ?_⟩⟩⟩⟩
 ·rw [e] at h; cases h
 ·rw [e] at h; cases h
 ·rw [cmpI, if_pos (of_decide_eq_true h)] at hQ; exact hQ
 ·rw [cmpI, if_neg (of_decide_eq_false h), if_pos (of_decide_eq_true h')] at hQ; exact hQ
 ·rw [cmpI, if_neg (of_decide_eq_false h), if_neg (of_decide_eq_false h')] at hQ; exact hQ
theorem c85 {p0 p1 : Int} {Q : Int → Hp → Prop} (hQ : Q (cmpI p0 p1) H) : F85 p0 p1 H Q := by
 have e : ∀ p : Int, decide (p ≠ p) = false := fun p => decide_eq_false (fun h => h rfl)
 refine ⟨fun h => ?_, fun _ => ⟨fun h => ?_, fun _ => ⟨fun h => ?_, fun h => ⟨fun h' => ?_, fun h' => ?_⟩⟩⟩⟩
 ·rw [e] at h; cases h
 ·rw [e] at h; cases h
 ·rw [cmpI, if_pos (of_decide_eq_true h)] at hQ; exact hQ
 ·rw [cmpI, if_neg (of_decide_eq_false h), if_pos (of_decide_eq_true h')] at hQ; exact hQ
 ·rw [cmpI, if_neg (of_decide_eq_false h), if_neg (of_decide_eq_false h')] at hQ; exact hQ
theorem c86 {p0 p1 : ByteArray} {Q : Int → Hp → Prop} (hQ : Q (cmpT p0 p1) H) : F86 p0 p1 H Q := by
 refine ⟨fun h => ?_, fun _ => ⟨fun h => ?_, fun _ => ⟨fun h => ?_, fun h => ⟨fun h' => ?_, fun h' => ?_⟩⟩⟩⟩
 ·rw [seq_self] at h; cases h
 ·rw [seq_self] at h; cases h
 ·rw [cmpT, if_pos h] at hQ; exact hQ
 ·rw [cmpT, if_neg (by rw [h]; decide), if_pos h'] at hQ; exact hQ
 ·rw [cmpT, if_neg (by rw [h]; decide), if_neg (by rw [h']; decide)] at hQ; exact hQ
theorem c87 {p0 : Bool} {Q : Int → Hp → Prop} (hQ : Q (bitB p0) H) : F87 p0 H Q := ⟨fun h => by rw [h] at hQ; exact hQ, fun h => by rw [h] at hQ; exact hQ⟩
def iF : Fmt Int 3 1 := ⟨fun x => [.int .i64 x], fun _ => rfl, by intro x v hv; simp at hv; rcases hv with rfl; rfl, by decide⟩
theorem c83 {L : List Int} {sl : Sl} {Q : Int → Hp → Prop} (h : RdL iF H sl L) (hl : L.length ≤ 4194304) (hQ : Q (orI L) H) : F83 sl H Q := by
 have hn := h.n
 intro X hX
 suffices G : ∀ (d i : Nat), i + d = L.length → (∀ j x, j < i → L[j]? = some x → x = 0) → X (i : Int) H from G L.length 0 (by omega) (fun j x h => by omega)
 have orI_eq : ∀ (l : List Int) (i : Nat), (∀ j x, j < i → l[j]? = some x → x = 0) → orI l = orI (l.drop i) := by
  intro l
  induction l with
  | nil => intro i _; simp
  | cons a l ih =>
   intro i hi
   cases i with
   | zero => rfl
   | succ i =>
    have : a = 0 := hi 0 a (by omega) rfl
    subst this
    rw [List.drop_succ_cons]
    show (if (0 : Int) ≠ 0 then 0 else orI l) = _
    rw [if_neg (by simp)]
    exact ih i fun j x hj hx => hi (j + 1) x (by omega) (by simpa using hx)
 intro d
 induction d with
 | zero =>
  intro i hi h0
  refine hX _ _ ⟨fun hh => absurd (of_decide_eq_true hh) (by omega), fun _ => ?_⟩
  rw [orI_eq L i h0, List.drop_of_length_le (by omega)] at hQ
  exact hQ
 | succ d ih =>
  intro i hi h0
  have gx : L[i]? = some (L[i]'(by omega)) := List.getElem?_eq_getElem (by omega)
  have dr : L.drop i = L[i]'(by omega) :: L.drop (i + 1) := List.drop_eq_getElem_cons (by omega)
  generalize L[i]'(by omega) = x at gx dr
  obtain ⟨p, hp, hpn, cp⟩ := h.get gx
  have cp0 : cell H (Addr.add p (i * 1)) = some (.int .i64 x) := by
   have := cp.1
   rwa [add_add, Nat.add_zero] at this
  refine hX _ _ ⟨fun _ => ⟨p, hp, by omega, by omega, x, by rw [show ((i : Int)).toNat = i from by omega]; exact cp0, fun hh => ?_, fun hh => ?_⟩, fun hh => absurd (of_decide_eq_false hh) (by omega)⟩
  ·have hx : x ≠ 0 := of_decide_eq_true hh
   rw [orI_eq L i h0, dr] at hQ
   have : orI (x :: L.drop (i + 1)) = x := if_pos hx
   rw [this] at hQ
   exact hQ
  ·have hx : x = 0 := by
    have := of_decide_eq_false hh
    omega
   rw [wr (by omega) (by omega)]
   refine ih (i + 1) (by omega) fun j y hj hy => ?_
   by_cases e : j = i
   ·subst e; rw [gx] at hy; injection hy with hy; omega
   ·exact h0 j y (by omega) hy
def cmpV (a b : VT) : Int := orI [cmpI a.k b.k, cmpI a.n b.n, cmpT a.s b.s, cmpI (bitB a.b) (bitB b.b)]
theorem c82 {a b : VT} {Q : Int → Hp → Prop} (hQ : ∀ H', Kp No H H' → Q (cmpV a b) H') : F82 a.k a.n a.s a.b b.k b.n b.s b.b H Q := by
 intro H1 e1 H3 e3
 have k1 : Kp No H H1 := (Kp.refl _ _).push' e1
 have k3 : Kp No H H3 := k1.push' e3
 have r1 : Row H3 H.size 38 a.row := (Row.new' e1).push' e3
 have r2 : Row H3 H1.size 38 b.row := Row.new' e3
 have c : ∀ {p : Nat} {v : VT}, Row H3 p 38 v.row → ∀ {i : Nat} {x : Value}, v.row[i]? = some x → cell H3 (Addr.add ⟨p, 0, none⟩ i) = some x := by
  intro p v r i x h
  rw [add_mk, Nat.zero_add]; exact r.cell_of h
 refine ⟨a.k, r1.cell_of rfl, b.k, r2.cell_of rfl, a.n, c r1 rfl, b.n, c r2 rfl, a.s, c r1 rfl, b.s, c r2 rfl, a.b, c r1 rfl, b.b, c r2 rfl, ?_⟩
 refine c84 ⟨c r2 rfl, c r1 rfl, c r2 rfl, c r1 rfl, c r2 rfl, c r1 rfl, ?_⟩
 refine c85 ⟨c r2 rfl, c r1 rfl, c r2 rfl, c r1 rfl, ?_⟩
 refine c86 ⟨c r2 rfl, c r1 rfl, ?_⟩
 refine c87 ⟨c r2 rfl, ?_⟩
 refine c87 (c84 fun H52 e52 => ?_)
 have r5 := Row.new' e52
 refine c83 (L := [cmpI a.k b.k, cmpI a.n b.n, cmpT a.s b.s, cmpI (bitB a.b) (bitB b.b)]) (Row.rdl (F := iF) (L := [cmpI a.k b.k, cmpI a.n b.n, cmpT a.s b.s, cmpI (bitB a.b) (bitB b.b)]) (n := 4) r5 rfl 4) (by simp) (hQ _ (k3.push' e52))
end

def wantsL : List Int := [0, 1, 2, 1, 1, 1, 3, 3, 4, 4, 4, 4, 2, 2]
def WantsH (H : Hp) : Prop := cells H ⟨0, 0, none⟩ (wantsL.map (Value.int .i64)) 0
theorem WantsH.size {H : Hp} (h : WantsH H) : 0 < H.size := cells_block (a := ⟨0, 0, none⟩) h (by decide)
theorem WantsH.kp {S : Nat → Prop} {H H' : Hp} (h : WantsH H) (k : Kp S H H') (h0 : ¬ S 0) : WantsH H' := k.cells h.size h0 h
theorem WantsH.no {H H' : Hp} (h : WantsH H) (k : Kp No H H') : WantsH H' := h.kp k id

def relP (op : Int) (a b : VT) : Bool :=
 if op = 11 then (if decide (0 < cmpV a b) = true then true else decide (cmpV a b = 0))
 else if op = 6 then decide (cmpV a b = 0)
 else if op = 9 then (if decide (cmpV a b = 0) = true then true else decide (cmpV a b < 0))
 else if op = 8 then decide (cmpV a b < 0)
 else if op = 7 then decide (cmpV a b ≠ 0)
 else if op = 10 then decide (0 < cmpV a b)
 else if op = 12 then (if a.b = true then b.b else false)
 else if op = 13 then (if a.b = true then true else b.b) else false
def fitK (w k : Int) : Bool := if w = 1 then decide (k = 1) else if w = 2 then decide (k = 3) else if w = 4 then decide (k ≠ 3) else true
def fitsP (w : Int) (v : VT) (L : List VT) : Bool := if (L.all fun x => decide (x.k = v.k)) = true then fitK w v.k else false
def wantOf (op : Int) : Int := (wantsL[op.toNat]?).getD 0
def refusP (op lo hi : Int) (v : VT) (L : List VT) : Int :=
 if op < lo then 11 else if hi < op then 11 else if (L.all vld) = true then (if fitsP (wantOf op) v L = true then 0 else 10) else 12
def unP (op : Int) (v : VT) : VT × Int := if refusP op 1 2 v [v] ≠ 0 then (zeroV, refusP op 1 2 v [v]) else if op = 1 then (numV (IntKind.i64.wrap (0 - v.n)), 0) else (truthV (!v.b), 0)
def binP (op : Int) (a b : VT) : VT × Int :=
 if refusP op 3 13 a [a, b] ≠ 0 then (zeroV, refusP op 3 13 a [a, b])
 else if op = 3 then (numV (IntKind.i64.wrap (a.n + b.n)), 0)
 else if op = 4 then (numV (IntKind.i64.wrap (a.n - b.n)), 0)
 else if op = 5 then (numV (IntKind.i64.wrap (a.n * b.n)), 0)
 else (truthV (relP op a b), 0)

section
variable {H : Hp}
theorem rowc {b : Nat} {l : List Value} {t : Nat} (r : Row H b t l) {i : Nat} {x : Value} (h : l[i]? = some x) : cell H (Addr.add ⟨b, 0, none⟩ i) = some x := by
 rw [add_mk, Nat.zero_add]; exact r.cell_of h

theorem c73 {op : Int} {a b : VT} {Q : Bool → Hp → Prop} (hQ : ∀ H', Kp No H H' → Q (relP op a b) H') : F73 op a.k a.n a.s a.b b.k b.n b.s b.b H Q := by
 intro H1 e1 H3 e3
 have k1 : Kp No H H1 := (Kp.refl _ _).push' e1
 have k3 : Kp No H H3 := k1.push' e3
 have r1 : Row H3 H.size 38 a.row := (Row.new' e1).push' e3
 have r2 : Row H3 H1.size 38 b.row := Row.new' e3
 refine ⟨a.k, a.n, a.s, a.b, r1.all, b.k, b.n, b.s, b.b, r2.all, c82 fun H15 k15 => ?_⟩
 have q := hQ H15 (k3.no2 k15)
 have r1 := k15.row r1 id
 have r2 := k15.row r2 id
 refine ⟨fun h => ?_, fun h1 => ⟨fun h => ?_, fun h2 => ⟨fun h => ?_, fun h3 => ⟨fun h => ?_, fun h4 => ⟨fun h => ?_, fun h5 => ⟨fun h => ?_, fun h6 => ⟨fun h => ?_, fun h7 => ⟨fun h => ?_, fun h8 => ?_⟩⟩⟩⟩⟩⟩⟩⟩ <;> unfold relP at q
 ·rw [if_pos (of_decide_eq_true h)] at q
  refine ⟨fun h' => ?_, fun h' => ?_⟩
  ·rw [if_pos h'] at q; exact q
  ·rw [if_neg (by rw [h']; decide)] at q; exact q
 ·rw [if_neg (of_decide_eq_false h1), if_pos (of_decide_eq_true h)] at q
  exact ⟨fun h' => (by cases h'), fun _ => q⟩
 ·rw [if_neg (of_decide_eq_false h1), if_neg (of_decide_eq_false h2), if_pos (of_decide_eq_true h)] at q
  refine ⟨fun h' => ?_, fun h' => ?_⟩
  ·rw [if_pos h'] at q; exact q
  ·rw [if_neg (by rw [h']; decide)] at q; exact q
 ·rw [if_neg (of_decide_eq_false h1), if_neg (of_decide_eq_false h2), if_neg (of_decide_eq_false h3), if_pos (of_decide_eq_true h)] at q
  exact ⟨fun h' => (by cases h'), fun _ => q⟩
 ·rw [if_neg (of_decide_eq_false h1), if_neg (of_decide_eq_false h2), if_neg (of_decide_eq_false h3), if_neg (of_decide_eq_false h4), if_pos (of_decide_eq_true h)] at q
  exact q
 ·rw [if_neg (of_decide_eq_false h1), if_neg (of_decide_eq_false h2), if_neg (of_decide_eq_false h3), if_neg (of_decide_eq_false h4), if_neg (of_decide_eq_false h5), if_pos (of_decide_eq_true h)] at q
  exact q
 ·rw [if_neg (of_decide_eq_false h1), if_neg (of_decide_eq_false h2), if_neg (of_decide_eq_false h3), if_neg (of_decide_eq_false h4), if_neg (of_decide_eq_false h5), if_neg (of_decide_eq_false h6), if_pos (of_decide_eq_true h)] at q
  refine ⟨a.b, rowc r1 rfl, fun h' => ⟨b.b, rowc r2 rfl, ?_⟩, fun h' => ?_⟩
  ·rw [if_pos h'] at q; exact q
  ·rw [if_neg (by rw [h']; decide)] at q; exact q
 ·rw [if_neg (of_decide_eq_false h1), if_neg (of_decide_eq_false h2), if_neg (of_decide_eq_false h3), if_neg (of_decide_eq_false h4), if_neg (of_decide_eq_false h5), if_neg (of_decide_eq_false h6), if_neg (of_decide_eq_false h7), if_pos (of_decide_eq_true h)] at q
  refine ⟨a.b, rowc r1 rfl, fun h' => ?_, fun h' => ⟨b.b, rowc r2 rfl, ?_⟩⟩
  ·rw [if_pos h'] at q; exact q
  ·rw [if_neg (by rw [h']; decide)] at q; exact q
 ·rw [if_neg (of_decide_eq_false h1), if_neg (of_decide_eq_false h2), if_neg (of_decide_eq_false h3), if_neg (of_decide_eq_false h4), if_neg (of_decide_eq_false h5), if_neg (of_decide_eq_false h6), if_neg (of_decide_eq_false h7), if_neg (of_decide_eq_false h8)] at q
  exact q

theorem all_take {α : Type} (f : α → Bool) (L : List α) (i : Nat) (x : α) (hx : L[i]? = some x) (h : (L.take i).all f = true) : (L.take (i + 1)).all f = f x := by
 rw [List.take_add_one, hx]
 simp [h]
theorem all_false {α : Type} (f : α → Bool) (L : List α) (i : Nat) (x : α) (hx : L[i]? = some x) (h : f x = false) : L.all f = false := by
 rw [Bool.eq_false_iff]
 intro e
 rw [List.all_eq_true] at e
 rw [e x (List.mem_of_getElem? hx)] at h
 cases h

theorem c81 {w : Int} {sl : Sl} {v : VT} {L : List VT} {Q : Bool → Hp → Prop} (h : RdL vF H sl L) (h0 : L[0]? = some v) (hl : L.length ≤ 4194304) (hQ : ∀ H', Kp No H H' → Q (fitsP w v L) H') : F81 w sl H Q := by
 have hn := h.n
 have l0 : 0 < L.length := (List.getElem?_eq_some_iff.1 h0).1
 obtain ⟨p, hp, hpn, cp⟩ := h.get h0
 have cp0 : cell H (Addr.add p (0 * 4)) = some (.int .i64 v.k) := by
  have := cp.1
  rwa [add_add, Nat.add_zero] at this
 refine ⟨p, hp, by omega, by omega, v.k, cp0, ?_⟩
 intro X hX
 suffices G : ∀ (d i : Nat) (H' : Hp), i + d = L.length → ((L.take i).all fun x => decide (x.k = v.k)) = true → Kp No H H' → X (i : Int) H' from G L.length 0 H (by omega) (by simp) (Kp.refl _ _)
 intro d
 induction d with
 | zero =>
  intro i H' hi ha k
  rw [List.take_of_length_le (by omega)] at ha
  have q := hQ H' k
  rw [fitsP, if_pos ha] at q
  unfold fitK at q
  refine hX _ _ ⟨fun hh => absurd (of_decide_eq_true hh) (by omega), fun _ => ⟨fun h1 => ?_, fun h1 => ⟨fun h2 => ?_, fun h2 => ⟨fun h3 => ?_, fun h3 => ?_⟩⟩⟩⟩
  ·rw [if_pos (of_decide_eq_true h1)] at q; exact q
  ·rw [if_neg (of_decide_eq_false h1), if_pos (of_decide_eq_true h2)] at q; exact q
  ·rw [if_neg (of_decide_eq_false h1), if_neg (of_decide_eq_false h2), if_pos (of_decide_eq_true h3)] at q; exact q
  ·rw [if_neg (of_decide_eq_false h1), if_neg (of_decide_eq_false h2), if_neg (of_decide_eq_false h3)] at q; exact q
 | succ d ih =>
  intro i H' hi ha k
  have gx : L[i]? = some (L[i]'(by omega)) := List.getElem?_eq_getElem (by omega)
  generalize L[i]'(by omega) = x at gx
  obtain ⟨p, hp, hpn, cp⟩ := (h.kp0 k).get gx
  have it : ((i : Int)).toNat = i := by omega
  refine hX _ _ ⟨fun _ => ⟨p, hp, by omega, by omega, x.k, x.n, x.s, x.b, by rw [it]; exact cp, fun H24 e24 => ?_⟩, fun hh => absurd (of_decide_eq_false hh) (by omega)⟩
  have k24 := k.push' e24
  have r24 := Row.new' e24
  refine ⟨r24.mayw (by simp), fun H26 e26 => ?_⟩
  have r26 : Row H26 H'.size 38 x.row := r24.fill' e26 rfl
  have k26 : Kp No H H26 := k24.sets' e26 (.inr k.size)
  refine ⟨x.k, r26.cell_of rfl, fun hh => ?_, fun hh => ?_⟩
  ·have q := hQ H26 k26
   rw [fitsP, if_neg (by rw [all_false _ _ _ _ gx (decide_eq_false (of_decide_eq_true hh))]; decide)] at q
   exact q
  ·rw [wr (by omega) (by omega)]
   have hk : x.k = v.k := Decidable.of_not_not (of_decide_eq_false hh)
   exact ih (i + 1) H26 (by omega) (by rw [all_take _ _ _ _ gx ha]; exact decide_eq_true hk) k26

theorem c72 {op lo hi : Int} {sl : Sl} {v : VT} {L : List VT} {Q : Int → Hp → Prop} (hw : WantsH H) (h : RdL vF H sl L) (h0 : L[0]? = some v) (hl : L.length ≤ 4194304) (b1 : 1 ≤ lo) (b2 : hi ≤ 13)
  (hQ : ∀ H', Kp No H H' → Q (refusP op lo hi v L) H') : F72 op lo hi sl H Q := by
 have hn := h.n
 have q11 : op < lo ∨ hi < op → Q 11 H := fun ho => by
  have q := hQ H (Kp.refl _ _)
  unfold refusP at q
  by_cases h1 : op < lo
  ·rw [if_pos h1] at q; exact q
  ·rw [if_neg h1, if_pos (ho.resolve_left h1)] at q; exact q
 have main : ¬ op < lo → ¬ hi < op → F72_L3 Q op sl sl (sl.n : Int) 0 H := by
  intro o1 o2 X hX
  have un : ∀ H', Kp No H H' → Q (if (L.all vld) = true then (if fitsP (wantOf op) v L = true then 0 else 10) else 12) H' := fun H' k => by
   have q := hQ H' k
   unfold refusP at q
   rw [if_neg o1, if_neg o2] at q
   exact q
  suffices G : ∀ (d i : Nat) (H' : Hp), i + d = L.length → ((L.take i).all vld) = true → Kp No H H' → X (i : Int) H' from G L.length 0 H (by omega) (by simp) (Kp.refl _ _)
  intro d
  induction d with
  | zero =>
   intro i H' hi' ha k
   rw [List.take_of_length_le (by omega)] at ha
   obtain ⟨m, rfl⟩ : ∃ m : Nat, op = (m : Int) := ⟨op.toNat, by omega⟩
   have hm : m < wantsL.length := by show m < 14; omega
   have cw : cell H' (Addr.add ⟨0, 0, none⟩ (((m : Int)).toNat * 1)) = some (.int .i64 (wantOf (m : Int))) := by
    have := (cells_iff.1 (hw.no k)) m (.int .i64 (wantsL[m]'hm)) (by simp [hm])
    rw [Nat.zero_add] at this
    rw [Nat.mul_one, show ((m : Int)).toNat = m from by omega, this, wantOf, show ((m : Int)).toNat = m from by omega, List.getElem?_eq_getElem hm]
    rfl
   refine hX _ _ ⟨fun hh => absurd (of_decide_eq_true hh) (by omega), fun _ => ⟨by omega, by omega, wantOf (m : Int), cw, c81 (h.kp0 k) h0 hl fun H42 k42 => ⟨fun hh => ?_, fun hh => ?_⟩⟩⟩
   ·have q := un H42 (k.no2 k42)
    rw [if_pos ha, if_neg (by intro e; rw [e] at hh; cases hh)] at q
    exact q
   ·have q := un H42 (k.no2 k42)
    rw [if_pos ha, if_pos (by cases e : fitsP (wantOf (m : Int)) v L; rw [e] at hh; cases hh; rfl)] at q
    exact q
  | succ d ih =>
   intro i H' hi' ha k
   have gx : L[i]? = some (L[i]'(by omega)) := List.getElem?_eq_getElem (by omega)
   generalize L[i]'(by omega) = x at gx
   obtain ⟨p, hp, hpn, cp⟩ := (h.kp0 k).get gx
   have it : ((i : Int)).toNat = i := by omega
   refine hX _ _ ⟨fun _ => ⟨p, hp, by omega, by omega, x.k, x.n, x.s, x.b, by rw [it]; exact cp, fun H24 e24 => ?_⟩, fun hh => absurd (of_decide_eq_false hh) (by omega)⟩
   have k24 := k.push' e24
   have r24 := Row.new' e24
   refine ⟨r24.mayw (by simp), fun H26 e26 => ?_⟩
   have r26 : Row H26 H'.size 38 x.row := r24.fill' e26 rfl
   have k26 : Kp No H H26 := k24.sets' e26 (.inr k.size)
   refine ⟨x.k, x.n, x.s, x.b, r26.all, c46 fun H34 k34 => ⟨fun hh => ?_, fun hh => ?_⟩⟩
   ·have q := un H34 (k26.no2 k34)
    rw [if_neg (by rw [all_false _ _ _ _ gx (by simpa using hh)]; decide)] at q
    exact q
   ·rw [wr (by omega) (by omega)]
    exact ih (i + 1) H34 (by omega) (by rw [all_take _ _ _ _ gx ha]; simpa using hh) (k26.no2 k34)
 refine ⟨fun hh => ⟨fun _ => q11 (.inl (of_decide_eq_true hh)), fun h => (by cases h)⟩, fun hh => ⟨fun h2 => q11 (.inr (of_decide_eq_true h2)), fun h2 => main (of_decide_eq_false hh) (of_decide_eq_false h2)⟩⟩

theorem c58 {op : Int} {v : VT} {Q : Int → Int → ByteArray → Bool → Int → Hp → Prop} (hw : WantsH H) (hQ : ∀ H', Kp No H H' → Q (unP op v).1.k (unP op v).1.n (unP op v).1.s (unP op v).1.b (unP op v).2 H') : F58 op v.k v.n v.s v.b H Q := by
 intro H1 e1 H3 e3
 have k1 : Kp No H H1 := (Kp.refl _ _).push' e1
 have k3 : Kp No H H3 := k1.push' e3
 have r1 : Row H3 H.size 38 v.row := (Row.new' e1).push' e3
 have r2 : Row H3 H1.size 38 zeroV.row := Row.new' e3
 refine ⟨v.k, v.n, v.s, v.b, r1.all, fun H10 e10 => ?_⟩
 have k10 : Kp No H H10 := k3.push' e10
 have r10 : Row H10 H3.size 38 v.row := Row.new' e10
 refine c72 (v := v) (hw.no k10) (Row.rdl1 (F := vF) r10) rfl (by simp) (by omega) (by omega) fun H12 k12 => ?_
 have kk := k10.no2 k12
 have r1 := k12.row (r1.push' e10) id
 have r2 := k12.row (r2.push' e10) id
 have s1 := size_push' e1
 unfold unP at hQ
 refine ⟨fun hh => ?_, fun hh => ⟨fun h1 => ?_, fun h1 => ?_⟩⟩
 ·refine ret4 r2 rfl zeroV fun H' _ k => ?_
  have q := hQ H' (kk.box k (by omega))
  rw [if_pos (of_decide_eq_true hh)] at q
  exact q
 ·refine ⟨v.n, rowc r1 rfl, c60 fun H27 k27 => ?_⟩
  refine ret4 (k27.row r2 id) rfl (numV (IntKind.i64.wrap (0 - v.n))) fun H' _ k => ?_
  have q := hQ H' ((kk.no2 k27).box k (by omega))
  rw [if_neg (of_decide_eq_false hh), if_pos (of_decide_eq_true h1)] at q
  exact q
 ·refine ⟨v.b, rowc r1 rfl, c62 fun H27 k27 => ?_⟩
  refine ret4 (k27.row r2 id) rfl (truthV (!v.b)) fun H' _ k => ?_
  have q := hQ H' ((kk.no2 k27).box k (by omega))
  rw [if_neg (of_decide_eq_false hh), if_neg (of_decide_eq_false h1)] at q
  exact q

theorem c59 {op : Int} {a b : VT} {Q : Int → Int → ByteArray → Bool → Int → Hp → Prop} (hw : WantsH H) (hQ : ∀ H', Kp No H H' → Q (binP op a b).1.k (binP op a b).1.n (binP op a b).1.s (binP op a b).1.b (binP op a b).2 H') :
  F59 op a.k a.n a.s a.b b.k b.n b.s b.b H Q := by
 intro H1 e1 H3 e3 H5 e5
 have k1 : Kp No H H1 := (Kp.refl _ _).push' e1
 have k3 : Kp No H H3 := k1.push' e3
 have k5 : Kp No H H5 := k3.push' e5
 have r1 : Row H5 H.size 38 a.row := ((Row.new' e1).push' e3).push' e5
 have r2 : Row H5 H1.size 38 b.row := (Row.new' e3).push' e5
 have r3 : Row H5 H3.size 38 zeroV.row := Row.new' e5
 refine ⟨a.k, a.n, a.s, a.b, r1.all, b.k, b.n, b.s, b.b, r2.all, fun H10 e10 => ?_⟩
 have k10 : Kp No H H10 := k5.push' e10
 have r10 : Row H10 H5.size 38 ([a, b].flatMap vF.f) := Row.new' e10
 refine c72 (v := a) (L := [a, b]) (hw.no k10) (Row.rdl (F := vF) (L := [a, b]) (n := 2) r10 rfl 2) rfl (by simp) (by omega) (by omega) fun H12 k12 => ?_
 have kk := k10.no2 k12
 have r1 := k12.row (r1.push' e10) id
 have r2 := k12.row (r2.push' e10) id
 have r3 := k12.row (r3.push' e10) id
 have s1 := size_push' e1
 have s3 := size_push' e3
 unfold binP at hQ
 refine ⟨fun hh => ?_, fun hh => ⟨fun h1 => ?_, fun h1 => ⟨fun h2 => ?_, fun h2 => ⟨fun h3 => ?_, fun h3 => ?_⟩⟩⟩⟩
 ·refine ret4 r3 rfl zeroV fun H' _ k => ?_
  have q := hQ H' (kk.box k (by omega))
  rw [if_pos (of_decide_eq_true hh)] at q
  exact q
 ·refine ⟨a.n, rowc r1 rfl, b.n, rowc r2 rfl, c60 fun H27 k27 => ?_⟩
  refine ret4 (k27.row r3 id) rfl (numV (IntKind.i64.wrap (a.n + b.n))) fun H' _ k => ?_
  have q := hQ H' ((kk.no2 k27).box k (by omega))
  rw [if_neg (of_decide_eq_false hh), if_pos (of_decide_eq_true h1)] at q
  exact q
 ·refine ⟨a.n, rowc r1 rfl, b.n, rowc r2 rfl, c60 fun H27 k27 => ?_⟩
  refine ret4 (k27.row r3 id) rfl (numV (IntKind.i64.wrap (a.n - b.n))) fun H' _ k => ?_
  have q := hQ H' ((kk.no2 k27).box k (by omega))
  rw [if_neg (of_decide_eq_false hh), if_neg (of_decide_eq_false h1), if_pos (of_decide_eq_true h2)] at q
  exact q
 ·refine ⟨a.n, rowc r1 rfl, b.n, rowc r2 rfl, c60 fun H27 k27 => ?_⟩
  refine ret4 (k27.row r3 id) rfl (numV (IntKind.i64.wrap (a.n * b.n))) fun H' _ k => ?_
  have q := hQ H' ((kk.no2 k27).box k (by omega))
  rw [if_neg (of_decide_eq_false hh), if_neg (of_decide_eq_false h1), if_neg (of_decide_eq_false h2), if_pos (of_decide_eq_true h3)] at q
  exact q
 ·refine ⟨a.k, a.n, a.s, a.b, r1.all, b.k, b.n, b.s, b.b, r2.all, c73 fun H98 k98 => c62 fun H27 k27 => ?_⟩
  have k27 := k98.no2 k27
  refine ret4 (k27.row r3 id) rfl (truthV (relP op a b)) fun H' _ k => ?_
  have q := hQ H' ((kk.no2 k27).box k (by omega))
  rw [if_neg (of_decide_eq_false hh), if_neg (of_decide_eq_false h1), if_neg (of_decide_eq_false h2), if_neg (of_decide_eq_false h3)] at q
  exact q
end
end Go.Hw
