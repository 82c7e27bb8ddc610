/- The document's operations on two values. The document's own measure of an expression. The document's functions over events. The document's functions over events: the walk. The document's functions over events: what is collected; the whole. Own work of this session. -/
import Derived.Test.YtfkhglkcplnppaaDoorR1
set_option linter.unusedVariables false
namespace Go.Hw
open Go

def belowP (a b : VT) : Bool := decide (a.n < b.n) || slt a.s b.s
def misP (o : Int) (a b : VT) : Prop := a.k ≠ b.k ∨ (o ≤ 5 ∧ a.k ≠ 1) ∨ (8 ≤ o ∧ o ≤ 11 ∧ a.k = 3) ∨ (12 ≤ o ∧ a.k ≠ 3)
theorem below_cmp {a b : VT} (ha : vld a = true) (hb : vld b = true) (hk : a.k = b.k) (h3 : a.k ≠ 3) : belowP a b = decide (cmpV a b < 0) := by
 have hsl : slt E E = false := slt_irrefl E
 unfold belowP
 rcases vld_cases ha with h1 | h1 | h1 <;> rcases vld_cases hb with h2 | h2 | h2 <;> rw [h1, h2] at hk <;> first | cases hk | skip
 ·generalize a.n = x, b.n = y at h1 h2; subst h1 h2
  rw [cmpV_num]
  simp only [numV, hsl, Bool.or_false]
  by_cases h : x < y
  ·rw [decide_eq_true h, decide_eq_true ((cmpI_neg _ _).2 h)]
  ·rw [decide_eq_false h, decide_eq_false (fun g => h ((cmpI_neg _ _).1 g))]
 ·generalize a.s = x, b.s = y at h1 h2; subst h1 h2
  rw [cmpV_str]
  simp only [Int.lt_irrefl, decide_false, Bool.false_or]
  cases h : slt x y with
  | true => exact (decide_eq_true ((cmpT_neg _ _).2 h)).symm
  | false => exact (decide_eq_false (fun g => by rw [(cmpT_neg _ _).1 g] at h; cases h)).symm
 ·rw [h1] at h3; exact absurd rfl h3
theorem same_cmp {a b : VT} (ha : vld a = true) (hb : vld b = true) (hk : a.k = b.k) : (decide (a.k = b.k) && (decide (a.n = b.n) && (seq a.s b.s && (a.b == b.b)))) = decide (cmpV a b = 0) := by
 have hs := (cmpV_sign ha hb hk).2
 have hd : seq a.s b.s = decide (a.s = b.s) := seq_dec'' _ _
 rw [hd]
 by_cases e : a = b
 ·rw [decide_eq_true (hs.2 e)]; subst e; simp
 ·rw [decide_eq_false (fun h => e (hs.1 h))]
  cases g : (decide (a.k = b.k) && (decide (a.n = b.n) && (decide (a.s = b.s) && (a.b == b.b)))) with
  | false => rfl
  | true =>
   simp only [Bool.and_eq_true, decide_eq_true_eq, beq_iff_eq] at g
   obtain ⟨g1, g2, g3, g4⟩ := g
   refine absurd ?_ e
   obtain ⟨k, n, s, t⟩ := a; obtain ⟨k', n', s', t'⟩ := b
   simp only at g1 g2 g3 g4
   subst g1 g2 g3 g4; rfl
theorem bin_bad {o : Int} {a b : VT} (h : o < 3 ∨ 13 < o) : binP o a b = (zeroV, 11) := by
 have e : refusP o 3 13 a [a, b] = 11 := by
  unfold refusP
  by_cases g : o < 3
  ·rw [if_pos g]
  ·rw [if_neg g, if_pos (by omega)]
 unfold binP
 rw [e, if_pos (by decide)]
theorem bin_ok {o : Int} {a b : VT} (ha : vld a = true) (hb : vld b = true) (ho : 3 ≤ o ∧ o ≤ 13) :
  (misP o a b → binP o a b = (zeroV, 10)) ∧ (¬ misP o a b → binP o a b = if o = 3 then (numV (IntKind.i64.wrap (a.n + b.n)), 0) else if o = 4 then (numV (IntKind.i64.wrap (a.n - b.n)), 0) else if o = 5 then (numV (IntKind.i64.wrap (a.n * b.n)), 0) else (truthV (relP o a b), 0)) := by
 have hall : ([a, b].all vld) = true := by simp [ha, hb]
 have e1 : (([a, b] : List VT).all fun x => decide (x.k = a.k)) = decide (b.k = a.k) := by simp
 have hw : wantOf o = if o ≤ 5 then 1 else if o ≤ 7 then 3 else if o ≤ 11 then 4 else 2 := by
  have : o = 3 ∨ o = 4 ∨ o = 5 ∨ o = 6 ∨ o = 7 ∨ o = 8 ∨ o = 9 ∨ o = 10 ∨ o = 11 ∨ o = 12 ∨ o = 13 := by omega
  rcases this with rfl | rfl | rfl | rfl | rfl | rfl | rfl | rfl | rfl | rfl | rfl <;> rfl
 have hf : fitsP (wantOf o) a [a, b] = true ↔ ¬ misP o a b := by
  unfold fitsP misP
  rw [e1, hw]
  by_cases hk : b.k = a.k
  ·rw [if_pos (decide_eq_true hk)]
   unfold fitK
   by_cases h5 : o ≤ 5
   ·rw [if_pos h5, if_pos rfl, decide_eq_true_iff]; omega
   ·rw [if_neg h5]
    by_cases h7 : o ≤ 7
    ·rw [if_pos h7, if_neg (by decide), if_neg (by decide), if_neg (by decide)]
     simp only [true_iff]; omega
    ·rw [if_neg h7]
     by_cases h11 : o ≤ 11
     ·rw [if_pos h11, if_neg (by decide), if_neg (by decide), if_pos rfl, decide_eq_true_iff]; omega
     ·rw [if_neg h11, if_neg (by decide), if_pos rfl, decide_eq_true_iff]; omega
  ·rw [if_neg (by rw [decide_eq_false hk]; decide)]
   constructor
   ·intro h; cases h
   ·intro h; exact absurd (.inl fun e => hk e.symm) h
 have hr : refusP o 3 13 a [a, b] = if fitsP (wantOf o) a [a, b] = true then 0 else 10 := by
  unfold refusP
  rw [if_neg (by omega), if_neg (by omega), if_pos hall]
 unfold binP
 rw [hr]
 refine ⟨fun h => ?_, fun h => ?_⟩
 ·rw [if_neg (fun g => (hf.1 g) h), if_pos (by decide)]
 ·rw [if_pos (hf.2 h), if_neg (fun h => h rfl)]
section
variable {H H0 : Hp}
theorem c66 {o : Int} {a b : VT} {Q : Int → Int → ByteArray → Bool → Int → Hp → Prop} (ha : vld a = true) (hb : vld b = true) (hQ : ∀ H', Kp No H H' → Q (binP o a b).1.k (binP o a b).1.n (binP o a b).1.s (binP o a b).1.b (binP o a b).2 H') : F66 o a.k a.n a.s a.b b.k b.n b.s b.b H Q := by
 intro H1 e1 H3 e3 H5 e5
 have k1 : Kp No H H1 := (Kp.refl _ _).push' e1
 have k3 : Kp No H H3 := k1.push' e3
 have k5 : Kp No H H5 := k3.push' e5
 have r1 : Row H5 H.size 38 a.row := ((Row.new' e1).push' e3).push' e5
 have r2 : Row H5 H1.size 38 b.row := (Row.new' e3).push' e5
 have r3 : Row H5 H3.size 38 zeroV.row := Row.new' e5
 have s1 := size_push' e1
 have s3 := size_push' e3
 have out : ∀ {Hx : Hp} (w : VT) (n : Int), Kp No H5 Hx → binP o a b = (w, n) → mayw Hx ⟨H3.size, 0, none⟩ 4 0 ∧ ∀ H' : Hp, H' = sets Hx ⟨H3.size, 0, none⟩ [(.int .i64 w.k), (.int .i64 w.n), (.string w.s), (.bool w.b)] 0 →
   (∃ (x6 : Int) (x7 : Int) (x8 : ByteArray) (x9 : Bool), cells H' ⟨H3.size, 0, none⟩ [(.int .i64 x6), (.int .i64 x7), (.string x8), (.bool x9)] 0 ∧ (Q x6 x7 x8 x9 n H')) := fun {Hx} w n k e => by
  refine ret4 (K := fun a b c d H' => Q a b c d n H') (k.row r3 id) rfl w fun H' _ k' => ?_
  have q := hQ H' ((k5.no2 k).box k' (by omega))
  rw [e] at q
  exact q
 have f2 : (3 ≤ o ∧ o ≤ 13) → ∀ c, (c = true ↔ misP o a b) → F66_2 Q o ⟨H.size, 0, none⟩ ⟨H1.size, 0, none⟩ ⟨H3.size, 0, none⟩ c H5 := fun ho c hc => by
  obtain ⟨b1, b2⟩ := bin_ok ha hb ho
  refine ⟨fun g => out zeroV 10 (Kp.refl _ _) (b1 (hc.1 g)), fun g => ?_⟩
  have hm : ¬ misP o a b := fun h => by rw [hc.2 h] at g; cases g
  have e := b2 hm
  unfold misP at hm
  have hk : a.k = b.k := by omega
  have tr : ∀ {Hx : Hp} (t : Bool), Kp No H5 Hx → 6 ≤ o → relP o a b = t → mayw Hx ⟨H3.size, 0, none⟩ 4 0 ∧ ∀ H' : Hp, H' = sets Hx ⟨H3.size, 0, none⟩ [(.int .i64 3), (.int .i64 0), (.string E), (.bool t)] 0 →
    (∃ (x6 : Int) (x7 : Int) (x8 : ByteArray) (x9 : Bool), cells H' ⟨H3.size, 0, none⟩ [(.int .i64 x6), (.int .i64 x7), (.string x8), (.bool x9)] 0 ∧ (Q x6 x7 x8 x9 0 H')) := fun {Hx} t k h6 ht =>
   out (truthV t) 0 k (by rw [e, if_neg (by omega), if_neg (by omega), if_neg (by omega), ht])
  have lt1 := fun h3 => below_cmp ha hb hk h3
  have lt2 := fun h3 => below_cmp hb ha hk.symm (by rw [← hk]; exact h3)
  have sg := (cmpV_sign ha hb hk).1
  have sg2 := (cmpV_sign hb ha hk.symm).1
  refine ⟨fun g3 => ⟨_, rowc (i := 1) r1 rfl, _, rowc (i := 1) r2 rfl, c47 fun H94 k94 => out (numV (IntKind.i64.wrap (a.n + b.n))) 0 k94 (by rw [e, if_pos (of_decide_eq_true g3)])⟩, fun g3 => ⟨fun g4 => ⟨_, rowc (i := 1) r1 rfl, _, rowc (i := 1) r2 rfl, c47 fun H94 k94 => out (numV (IntKind.i64.wrap (a.n - b.n))) 0 k94 (by rw [e, if_neg (of_decide_eq_false g3), if_pos (of_decide_eq_true g4)])⟩, fun g4 => ⟨fun g5 => ⟨_, rowc (i := 1) r1 rfl, _, rowc (i := 1) r2 rfl, c47 fun H94 k94 => out (numV (IntKind.i64.wrap (a.n * b.n))) 0 k94 (by rw [e, if_neg (of_decide_eq_false g3), if_neg (of_decide_eq_false g4), if_pos (of_decide_eq_true g5)])⟩, fun g5 => ?_⟩⟩⟩
  have g3 := of_decide_eq_false g3
  have g4 := of_decide_eq_false g4
  have g5 := of_decide_eq_false g5
  refine ⟨fun g6 => ⟨_, _, _, _, r1.all, _, _, _, _, r2.all, c52 fun H94 k94 => tr _ k94 (by omega) ?_⟩, fun g6 => ⟨fun g7 => ⟨_, _, _, _, r1.all, _, _, _, _, r2.all, c52 fun H94 k94 => tr _ k94 (by omega) ?_⟩, fun g7 => ⟨fun g8 => ⟨_, _, _, _, r1.all, _, _, _, _, r2.all, c76 fun H93 k93 => c52 fun H94 k94 => tr _ (k93.no2 k94) (by omega) ?_⟩, fun g8 => ⟨fun g9 => ⟨_, _, _, _, r2.all, _, _, _, _, r1.all, c76 fun H93 k93 => c52 fun H94 k94 => tr _ (k93.no2 k94) (by omega) ?_⟩, fun g9 => ⟨fun g10 => ⟨_, _, _, _, r2.all, _, _, _, _, r1.all, c76 fun H93 k93 => c52 fun H94 k94 => tr _ (k93.no2 k94) (by omega) ?_⟩, fun g10 => ⟨fun g11 => ⟨_, _, _, _, r1.all, _, _, _, _, r2.all, c76 fun H93 k93 => c52 fun H94 k94 => tr _ (k93.no2 k94) (by omega) ?_⟩, fun g11 => ⟨fun g12 => ⟨_, rowc (i := 3) r1 rfl, fun hx => ⟨_, rowc (i := 3) r2 rfl, c52 fun H94 k94 => tr _ k94 (by omega) ?_⟩, fun hx => c52 fun H94 k94 => tr _ k94 (by omega) ?_⟩, fun g12 => ⟨_, rowc (i := 3) r1 rfl, fun hx => c52 fun H94 k94 => tr _ k94 (by omega) ?_, fun hx => ⟨_, rowc (i := 3) r2 rfl, c52 fun H94 k94 => tr _ k94 (by omega) ?_⟩⟩⟩⟩⟩⟩⟩⟩⟩
  ·rw [of_decide_eq_true g6, same_cmp ha hb hk]; rfl
  ·rw [of_decide_eq_true g7, same_cmp ha hb hk]
   show decide (cmpV a b ≠ 0) = _
   by_cases z : cmpV a b = 0 <;> simp [z]
  ·have := of_decide_eq_true g8
   rw [this]
   exact (lt1 (by omega)).symm
  ·have := of_decide_eq_true g9
   have h3 : a.k ≠ 3 := by omega
   have l := lt2 h3
   unfold belowP at l
   rw [this, l]
   show (if decide (cmpV a b = 0) = true then true else decide (cmpV a b < 0)) = _
   by_cases z : cmpV a b = 0
   ·rw [if_pos (decide_eq_true z), decide_eq_false (by omega)]; rfl
   ·rw [if_neg (by rw [decide_eq_false z]; decide)]
    by_cases y : cmpV a b < 0
    ·rw [decide_eq_true y, decide_eq_false (by omega)]; rfl
    ·rw [decide_eq_false y, decide_eq_true (by omega)]; rfl
  ·have := of_decide_eq_true g10
   have h3 : a.k ≠ 3 := by omega
   have l := lt2 h3
   unfold belowP at l
   rw [this, l]
   show decide (0 < cmpV a b) = _
   by_cases y : 0 < cmpV a b
   ·rw [decide_eq_true y, decide_eq_true (by omega)]
   ·rw [decide_eq_false y, decide_eq_false (by omega)]
  ·have := of_decide_eq_true g11
   have h3 : a.k ≠ 3 := by omega
   have l := lt1 h3
   unfold belowP at l
   rw [this, l]
   show (if decide (0 < cmpV a b) = true then true else decide (cmpV a b = 0)) = _
   by_cases y : 0 < cmpV a b
   ·rw [if_pos (decide_eq_true y), decide_eq_false (by omega)]; rfl
   ·rw [if_neg (by rw [decide_eq_false y]; decide)]
    by_cases z : cmpV a b = 0
    ·rw [decide_eq_true z, decide_eq_false (by omega)]; rfl
    ·rw [decide_eq_false z, decide_eq_true (by omega)]; rfl
  ·rw [of_decide_eq_true g12]
   show (if a.b = true then b.b else false) = _
   rw [if_pos hx]
  ·rw [of_decide_eq_true g12]
   show (if a.b = true then b.b else false) = _
   rw [if_neg (by rw [hx]; decide)]
  all_goals
   have g6 := of_decide_eq_false g6
   have g7 := of_decide_eq_false g7
   have g8 := of_decide_eq_false g8
   have g9 := of_decide_eq_false g9
   have g10 := of_decide_eq_false g10
   have g11 := of_decide_eq_false g11
   have g12 := of_decide_eq_false g12
   have e13 : o = 13 := by omega
   rw [e13]
   show (if a.b = true then true else b.b) = _
  ·rw [if_pos hx]
  ·rw [if_neg (by rw [hx]; decide)]
 have f1 : ∀ c, (c = true ↔ o < 3 ∨ 13 < o) → F66_1 Q o ⟨H.size, 0, none⟩ ⟨H1.size, 0, none⟩ ⟨H3.size, 0, none⟩ c H5 := fun c hc => by
  refine ⟨fun g => out zeroV 11 (Kp.refl _ _) (bin_bad (hc.1 g)), fun g => ⟨_, r1.cell_of (i := 0) rfl, _, r2.cell_of (i := 0) rfl, ?_⟩⟩
  have ho : 3 ≤ o ∧ o ≤ 13 := by
   have : ¬ (o < 3 ∨ 13 < o) := fun h => by rw [hc.2 h] at g; cases g
   omega
  have f2 := f2 ho
  unfold misP at f2
  have ca : cell H5 ⟨H.size, 0, none⟩ = some (.int .i64 a.k) := r1.cell_of (i := 0) rfl
  generalize F66_2 Q o ⟨H.size, 0, none⟩ ⟨H1.size, 0, none⟩ ⟨H3.size, 0, none⟩ = G at f2 ⊢
  clear out hc e1 e3 e5 k1 k3 k5 r2 r3 s1 s3 hQ ha hb
  repeat' first
   | (refine f2 _ ?_; simp only [decide_eq_true_eq, decide_eq_false_iff_not, ne_eq, Decidable.not_not, true_iff, Bool.false_eq_true, false_iff] at *; omega)
   | (refine And.intro (fun _ => ?_) (fun _ => ?_))
   | (refine ⟨_, ca, ?_⟩)
 refine ⟨fun g => f1 _ ?_, fun g => f1 _ ?_⟩
 ·simp only [decide_eq_true_eq] at g; simp only [true_iff]; omega
 ·simp only [decide_eq_false_iff_not] at g
  rw [decide_eq_true_iff]; omega
end

def Fo.dep : Fo → Nat
 | .nil => 0
 | .cons _ k s => max (k.dep + 1) s.dep
theorem Fo.dep_le : ∀ f : Fo, f.dep ≤ f.nodes
 | .nil => Nat.le_refl _
 | .cons _ k s => by have := k.dep_le; have := s.dep_le; simp only [Fo.dep, Fo.nodes]; omega
theorem Fo.deep_dep : ∀ (f : Fo) (d : Int), 0 ≤ d → (f.dep = 0 → f.deep d = 0) ∧ (f.dep ≠ 0 → f.deep d = d + f.dep - 1)
 | .nil, d, _ => ⟨fun _ => rfl, fun h => absurd rfl h⟩
 | .cons _ k s, d, h => by
  have h1 := k.deep_dep (d + 1) (by omega)
  have h2 := s.deep_dep d h
  refine ⟨fun e => ?_, fun _ => ?_⟩
  ·simp only [Fo.dep] at e; omega
  ·simp only [Fo.deep, Fo.dep]
   rcases Nat.eq_zero_or_pos k.dep with e1 | e1 <;> rcases Nat.eq_zero_or_pos s.dep with e2 | e2
   ·rw [h1.1 e1, h2.1 e2, e1, e2]; omega
   ·rw [h1.1 e1, h2.2 (by omega), e1]; omega
   ·rw [h1.2 (by omega), h2.1 e2, e2]; omega
   ·rw [h1.2 (by omega), h2.2 (by omega)]; omega
theorem Fo.len_le : ∀ f : Fo, f.len ≤ f.nodes
 | .nil => Nat.le_refl _
 | .cons _ k s => by have := s.len_le; simp only [Fo.len, Fo.nodes]; omega
section
variable {X : Int → Int → Int → Int → ByteArray → Bool → ByteArray → Int → ByteArray → Sl → Hp → (Int → Int → Hp → Prop) → Prop} {B : Nat}
theorem meas_loop (hX : ∀ (p0 p1 p2 p3 : Int) (p4 : ByteArray) (p5 : Bool) (p6 : ByteArray) (p7 : Int) (p8 : ByteArray) (p9 : Sl) (H : Hp) (Q : Int → Int → Hp → Prop), F50b X p0 p1 p2 p3 p4 p5 p6 p7 p8 p9 H Q → X p0 p1 p2 p3 p4 p5 p6 p7 p8 p9 H Q) :
  ∀ (f : Fo) {q : Sl} {r : ER} {b i n d : Nat} {H : Hp} {Q : Int → Int → Hp → Prop} {X2 : Int → Int → Int → Hp → Prop}, (∀ y3 y4 y5 H_2, F50_L2b X Q X2 ⟨b, 0, none⟩ y3 y4 y5 H_2 → X2 y3 y4 y5 H_2) → FoH B H q.b i f → q.n = i + f.len → Row H b 41 (r.row q) → n + f.nodes ≤ 1099511627776 → d ≤ 1099511627776 →
   (∀ H', Kp No H H' → Q ((n + f.nodes : Nat) : Int) ((max d f.dep + 1 : Nat) : Int) H') → q.n ≤ 1099511627776 → X2 n d i H := by
 intro f
 induction f with
 | nil =>
  intro q r b i n d H Q X2 h2 hf hn hr hb hd hQ hi
  simp only [Fo.len] at hn
  refine h2 _ _ _ _ ⟨q, rowc (i := 9) hr rfl, fun h => absurd (of_decide_eq_true h) (by omega), fun _ => ?_⟩
  have := hQ H (Kp.refl _ _)
  simp only [Fo.nodes, Fo.dep, Nat.add_zero, Nat.max_zero] at this
  unfold F50_1
  rw [wr (by omega) (by omega)]
  rw [show ((d : Int) + 1) = ((d + 1 : Nat) : Int) by omega]
  exact this
 | cons r' kd s ihk ihs =>
  intro q r b i n d H Q X2 h2 hf hn hr hb hd hQ hi
  obtain ⟨a, q', ea, hab, hc, hqn, hfk, hfs⟩ := hf
  simp only [Fo.len] at hn
  simp only [Fo.nodes] at hb hQ
  simp only [Fo.dep] at hQ
  have dk := kd.dep_le
  have en : ((i : Nat) : Int).toNat = i := by omega
  refine h2 _ _ _ _ ⟨q, rowc (i := 9) hr rfl, fun _ => ⟨q, rowc (i := 9) hr rfl, a, ea, by omega, by omega, _, _, _, _, _, _, _, _, _, _, by rw [en]; exact hc, ?_⟩, fun h => absurd (of_decide_eq_false h) (by omega)⟩
  refine hX _ _ _ _ _ _ _ _ _ _ _ _ fun H1 e1 => ?_
  have k1 : Kp No H H1 := (Kp.refl _ _).push' e1
  have r1 : Row H1 H.size 41 (r'.row q') := Row.new' e1
  intro X2' hX2'
  refine ihk (n := 1) (d := 0) (i := 0) hX2' (hfk.kp k1 fun _ _ => id) (by omega) r1 (by omega) (by omega) (fun H27 k27 => ?_) (by have := kd.len_le; omega)
  rw [wr (by omega) (by omega)]
  have ed : (if (d : Int) < ((max 0 kd.dep + 1 : Nat) : Int) then ((max 0 kd.dep + 1 : Nat) : Int) else (d : Int)) = ((max d (kd.dep + 1) : Nat) : Int) := by split <;> omega
  rw [ed, wr (x := (i : Int) + 1) (by omega) (by omega), show ((n : Int) + ((1 + kd.nodes : Nat) : Int)) = ((n + (1 + kd.nodes) : Nat) : Int) by omega, show ((i : Int) + 1) = ((i + 1 : Nat) : Int) by omega]
  have kk := k1.no2 k27
  refine ihs (r := r) h2 (hfs.kp kk fun _ _ => id) (by omega) (kk.row hr id) (by omega) (by omega) (fun H' k' => ?_) hi
  have := hQ H' (kk.no2 k')
  rw [show n + (1 + kd.nodes) + s.nodes = n + (1 + kd.nodes + s.nodes) by omega, show max (max d (kd.dep + 1)) s.dep = max d (max (kd.dep + 1) s.dep) by omega]
  exact this
end
theorem c50 {H : Hp} {B : Nat} {r : ER} {q : Sl} {kd : Fo} {Q : Int → Int → Hp → Prop} (hf : FoH B H q.b 0 kd) (hn : q.n = kd.len) (hb : kd.nodes ≤ 1000000000) (hQ : ∀ H', Kp No H H' → Q ((1 + kd.nodes : Nat) : Int) ((kd.dep + 1 : Nat) : Int) H') : F50 r.k r.o r.vk r.vi r.vs r.vb r.v r.p r.a q H Q := by
 intro X hX
 refine hX _ _ _ _ _ _ _ _ _ _ _ _ fun H1 e1 => ?_
 have k1 : Kp No H H1 := (Kp.refl _ _).push' e1
 have r1 : Row H1 H.size 41 (r.row q) := Row.new' e1
 intro X2 hX2
 have hl := kd.len_le
 refine meas_loop hX kd (n := 1) (d := 0) (i := 0) hX2 (hf.kp k1 fun _ _ => id) (by omega) r1 (by omega) (by omega) (fun H27 k27 => ?_) (by omega)
 have := hQ H27 (k1.no2 k27)
 rw [show max 0 kd.dep + 1 = kd.dep + 1 by omega]
 exact this

def RngE (e : EvM) : Prop := (-9223372036854775808 ≤ e.time ∧ e.time ≤ 9223372036854775807) ∧ ∀ v ∈ e.vals, -9223372036854775808 ≤ v.n ∧ v.n ≤ 9223372036854775807
theorem attr_rng {T : List TyM} {e : EvM} {a : ByteArray} (h : RngE e) : -9223372036854775808 ≤ (attrP T e a).1.n ∧ (attrP T e a).1.n ≤ 9223372036854775807 := by
 have z : -9223372036854775808 ≤ zeroV.n ∧ zeroV.n ≤ 9223372036854775807 := by decide
 unfold attrP
 split
 ·exact h.1
 ·split
  ·exact z
  ·split
   ·exact z
   ·split
    ·exact z
    ·rename_i v hv
     split
     ·exact z
     ·split
      ·exact h.2 v (List.mem_of_getElem? hv)
      ·exact z
def nsP (T : List TyM) (a : ByteArray) : List EvM → Int × List Int
 | [] => (0, [])
 | x :: l => if (attrP T x a).2 ≠ 0 then ((attrP T x a).2, []) else if (attrP T x a).1.k ≠ 1 then (10, []) else ((nsP T a l).1, (attrP T x a).1.n :: (nsP T a l).2)
def stepN (o : Int) (i : Nat) (n x : Int) : Int := if o = 2 then IntKind.i64.wrap (n + x) else if i = 0 then x else if o = 3 then (if x < n then x else n) else if n < x then x else n
def foldN (o : Int) : Nat → Int → List Int → Int
 | _, n, [] => n
 | i, n, x :: l => foldN o (i + 1) (stepN o i n x) l
theorem agg_ns {T : List TyM} {a : ByteArray} {o : Int} (ho : 2 ≤ o ∧ o ≤ 4) : ∀ (l : List EvM) (i : Nat) (n : Int), (∀ e ∈ l, RngE e) → (i = 0 → n = 0) → (aggGo T a o i n l).1 = (nsP T a l).1 ∧ ((nsP T a l).1 = 0 → (aggGo T a o i n l).2 = foldN o i n (nsP T a l).2)
 | [], i, n, _, _ => ⟨rfl, fun _ => rfl⟩
 | x :: l, i, n, hr, hn => by
  simp only [aggGo, nsP]
  by_cases h1 : (attrP T x a).2 ≠ 0
  ·rw [if_pos h1, if_pos h1]
   exact ⟨rfl, fun h => absurd h h1⟩
  ·rw [if_neg h1, if_neg h1]
   by_cases h2 : (attrP T x a).1.k ≠ 1
   ·rw [if_pos h2, if_pos h2]
    exact ⟨rfl, fun h => by cases h⟩
   ·rw [if_neg h2, if_neg h2]
    have hx := attr_rng (T := T) (a := a) (hr x (List.mem_cons_self ..))
    generalize (attrP T x a).1.n = v at hx
    have es : (if i = 0 then v else joinP o n v) = stepN o i n v := by
     unfold stepN joinP
     by_cases i0 : i = 0
     ·rw [if_pos i0, if_pos i0, hn i0, Int.zero_add, wr hx.1 hx.2]; split <;> rfl
     ·rw [if_neg i0, if_neg i0]
    rw [es]
    obtain ⟨g1, g2⟩ := agg_ns (T := T) (a := a) ho l (i + 1) (stepN o i n v) (fun e he => hr e (List.mem_cons_of_mem _ he)) (fun h => by omega)
    exact ⟨g1, fun h => g2 h⟩

def jF : Fmt Int 2 1 := ⟨fun x => [.int .i64 x], fun _ => rfl, by intro x v hv; simp at hv; rcases hv with rfl; rfl, by decide⟩
section
variable {H H0 : Hp} {p0 p1 : Sl} {p2 p3 : ByteArray} {p4 : Int} {p5 p6 : Sl} {m : EnvM}
theorem c64_L8 {r : ER} {q : Sl} {eb rb : Nat} {sl : Sl} {L : List Int} {Q : Int → Int → ByteArray → Bool → Int → Hp → Prop} (r1 : Row H eb 41 (r.row q)) (hs : RdL jF H sl L) (hl : L.length ≤ 4194304) (ho : 2 ≤ r.o ∧ r.o ≤ 4) (hQ : F64_7 Q ⟨rb, 0, none⟩ (foldN r.o 0 0 L) H) : F64_L8 Q ⟨eb, 0, none⟩ ⟨rb, 0, none⟩ sl 0 0 H := by
 have hn := hs.n
 intro X hX
 suffices G : ∀ (d i : Nat) (n : Int), i + d = L.length → foldN r.o i n (L.drop i) = foldN r.o 0 0 L → X n i H from G _ 0 0 (Nat.zero_add _) rfl
 intro d
 induction d with
 | zero =>
  intro i n hi hf
  refine hX _ _ _ ⟨fun h => absurd (of_decide_eq_true h) (by omega), fun _ => ?_⟩
  rw [List.drop_of_length_le (by omega)] at hf
  rw [← hf] at hQ; exact hQ
 | succ d ih =>
  intro i n hi hf
  obtain ⟨x, gx⟩ : ∃ x, L[i]? = some x := ⟨_, List.getElem?_eq_getElem (by omega)⟩
  obtain ⟨hlt, ex⟩ := List.getElem?_eq_some_iff.1 gx
  rw [List.drop_eq_getElem_cons hlt, ex] at hf
  obtain ⟨a, ea, han, ca⟩ := hs.get gx
  have en : ((i : Nat) : Int).toNat = i := by omega
  have rd : ∃ a, sl.b = some a ∧ (0 : Int) ≤ i ∧ (i : Int) < (sl.n : Int) ∧ cell H (Addr.add a ((i : Int).toNat * 1)) = some (.int .i64 x) := ⟨a, ea, by omega, by omega, by rw [en]; exact ca.1⟩
  have next : ∀ v, v = stepN r.o i n x → F64_9 Q X ⟨eb, 0, none⟩ ⟨rb, 0, none⟩ sl i v H := fun v hv => by
   unfold F64_9
   rw [wr (by omega) (by omega), show ((i : Int) + 1) = ((i + 1 : Nat) : Int) by omega]
   refine ih (i + 1) v (by omega) ?_
   rw [hv]; exact hf
  have ten : ∀ b, (b = true → stepN r.o i n x = x) → (b = false → stepN r.o i n x = n) → F64_10 Q X ⟨eb, 0, none⟩ ⟨rb, 0, none⟩ sl n i b H := fun b h1 h2 => by
   refine ⟨fun g => ?_, fun g => next _ (h2 g).symm⟩
   obtain ⟨a, e1, e2, e3, e4⟩ := rd
   exact ⟨a, e1, e2, e3, x, e4, next _ (h1 g).symm⟩
  obtain ⟨a, e1, e2, e3, e4⟩ := rd
  unfold stepN at next ten
  refine hX _ _ _ ⟨fun _ => ⟨_, rowc (i := 1) r1 rfl, fun o2 => ⟨a, e1, e2, e3, x, e4, next _ (by rw [if_pos (of_decide_eq_true o2)])⟩, fun o2 => ?_⟩, fun h => absurd (of_decide_eq_false h) (by omega)⟩
  have o2 := of_decide_eq_false o2
  simp only [if_neg o2] at ten
  refine ⟨fun i0 => ten true (fun _ => by rw [if_pos (by have := of_decide_eq_true i0; omega)]) (fun h => by cases h), fun i0 => ?_⟩
  have i0 : ¬ i = 0 := by have := of_decide_eq_false i0; omega
  simp only [if_neg i0] at ten
  have last : r.o ≠ 3 → ∃ x279 : Int, cell H (Addr.add ⟨eb, 0, none⟩ 1) = some (iv x279) ∧ (
    ((decide (x279 = 4)) = true → (∃ a282 : Addr, (sl).b = some a282 ∧ (0 : Int) ≤ i ∧ (i : Int) < ((sl).n : Int) ∧ (
    ∃ x287 : Int, cell H (Addr.add a282 ((i : Int).toNat * 1)) = some (iv x287) ∧ (
    F64_10 Q X ⟨eb, 0, none⟩ ⟨rb, 0, none⟩ sl n i (decide (n < x287)) H)))) ∧
    ((decide (x279 = 4)) = false → (F64_10 Q X ⟨eb, 0, none⟩ ⟨rb, 0, none⟩ sl n i false H))) := fun o3 => by
   refine ⟨_, rowc (i := 1) r1 rfl, fun o4 => ⟨a, e1, e2, e3, x, e4, ten _ (fun g => ?_) (fun g => ?_)⟩, fun o4 => absurd (of_decide_eq_false o4) (by omega)⟩
   ·rw [if_neg o3, if_pos (of_decide_eq_true g)]
   ·rw [if_neg o3, if_neg (of_decide_eq_false g)]
  refine ⟨_, rowc (i := 1) r1 rfl, fun o3 => ⟨a, e1, e2, e3, x, e4, fun g => ?_, fun g => ?_⟩, fun o3 => last (of_decide_eq_false o3)⟩
  ·exact ten true (fun _ => by rw [if_pos (of_decide_eq_true o3), if_pos (of_decide_eq_true g)]) (fun h => by cases h)
  ·have o3 := of_decide_eq_true o3
   refine ⟨_, rowc (i := 1) r1 rfl, fun o4 => absurd (of_decide_eq_true o4) (by omega), fun o4 => ten false (fun h => by cases h) (fun _ => by rw [if_pos o3, if_neg (of_decide_eq_false g)])⟩
end

section
variable {H H0 : Hp} {p0 p1 : Sl} {p2 p3 : ByteArray} {p4 : Int} {p5 p6 : Sl} {m : EnvM}
def FailQ (Q : Int → Int → ByteArray → Bool → Int → Hp → Prop) (rb zb : Nat) (n : Int) (H : Hp) : Prop :=
 ∃ (x43 x44 : Int) (x45 : ByteArray) (x46 : Bool), cells H ⟨zb, 0, none⟩ (vR x43 x44 x45 x46) 0 ∧ (
 mayw H ⟨rb, 0, none⟩ 4 0 ∧ ∀ H173 : Hp, H173 = sets H ⟨rb, 0, none⟩ (vR x43 x44 x45 x46) 0 → (
 ∃ (x176 x177 : Int) (x178 : ByteArray) (x179 : Bool), cells H173 ⟨rb, 0, none⟩ (vR x176 x177 x178 x179) 0 ∧ (
 Q x176 x177 x178 x179 n H173)))
theorem c64_L4 {r : ER} {q : Sl} {eb vb rb zb : Nat} {s : Sl} {l : List EvM} {Q : Int → Int → ByteArray → Bool → Int → Hp → Prop} (r1 : Row H eb 41 (r.row q)) (r2 : Row H vb 43 (envRow p0 p1 p2 p3 p4 p5 p6)) (hs : EvsH H s l) (ht : TysH H p6 m.types)
  (hE : ∀ H' n, (nsP m.types r.a l).1 = n → n ≠ 0 → Kp No H H' → FailQ Q rb zb n H') (hQ : ∀ ns H', (nsP m.types r.a l).1 = 0 → Lst jF H' ns (nsP m.types r.a l).2 → Kp No H H' → F64_3 Q ⟨eb, 0, none⟩ ⟨rb, 0, none⟩ ⟨zb, 0, none⟩ ns H') :
  F64_L4 Q ⟨eb, 0, none⟩ ⟨vb, 0, none⟩ ⟨rb, 0, none⟩ ⟨zb, 0, none⟩ s Sl.nil 0 H := by
 obtain ⟨R, hR, hRl, hRe⟩ := hs.rows
 have hn := hR.n
 have sm : l.length ≤ 4194304 := hs.small
 intro X hX
 suffices G : ∀ (d i : Nat) (ns : Sl) (pre : List Int) H', i + d = l.length → pre.length = i → nsP m.types r.a l = ((nsP m.types r.a (l.drop i)).1, pre ++ (nsP m.types r.a (l.drop i)).2) → Lst jF H' ns pre → (∀ b, ns.at b → H.size ≤ b) → Kp No H H' → X ns i H' from
  G _ 0 Sl.nil [] H (Nat.zero_add _) rfl rfl (Lst.nil _ _) (fun b hb => by cases hb) (Kp.refl _ _)
 intro d
 induction d with
 | zero =>
  intro i ns pre H' hi hp he lns bns k
  rw [List.drop_of_length_le (by omega)] at he
  simp only [nsP, List.append_nil] at he
  exact hX _ _ _ ⟨fun h => absurd (of_decide_eq_true h) (by omega), fun _ => hQ ns H' (by rw [he]) (by rw [he]; exact lns) k⟩
 | succ d ih =>
  intro i ns pre H' hi hp he lns bns k
  obtain ⟨x, gx⟩ : ∃ x, R[i]? = some x := ⟨_, List.getElem?_eq_getElem (by omega)⟩
  obtain ⟨e, ge⟩ : ∃ e, l[i]? = some e := ⟨_, List.getElem?_eq_getElem (by omega)⟩
  obtain ⟨y1, y2, y3⟩ := hRe i x e gx ge
  obtain ⟨hlt, ee⟩ := List.getElem?_eq_some_iff.1 ge
  rw [List.drop_eq_getElem_cons hlt, ee] at he
  simp only [nsP] at he
  obtain ⟨a, ea, han, ca⟩ := (hR.kp0 k).get gx
  have en : ((i : Nat) : Int).toNat = i := by omega
  have r1' := k.row r1 id
  have r2' := k.row r2 id
  have five : ∀ (bb : Nat) (H2 : Hp), Kp No H' H2 → Row H2 bb 38 (attrP m.types e r.a).1.row → F64_5 Q X ⟨eb, 0, none⟩ ⟨vb, 0, none⟩ ⟨rb, 0, none⟩ ⟨zb, 0, none⟩ s ns i ⟨bb, 0, none⟩ (attrP m.types e r.a).2 H2 := fun bb H2 k2 rb2 => by
   refine ⟨fun h => ?_, fun h => ⟨_, rb2.cell_of (i := 0) rfl, fun g => ?_, fun g => ⟨_, rowc (i := 1) rb2 rfl, fun H198 e198 => ?_⟩⟩⟩
   ·have h := of_decide_eq_true h
    rw [if_pos h] at he
    exact hE H2 _ (by rw [he]) h (k.no2 k2)
   ·have h := of_decide_eq_false h
    have g := of_decide_eq_true g
    rw [if_neg h, if_pos g] at he
    exact hE H2 10 (by rw [he]) (by decide) (k.no2 k2)
   ·have h := of_decide_eq_false h
    have g := of_decide_eq_false g
    rw [if_neg h, if_neg g] at he
    have k198 : Kp No H2 H198 := (Kp.refl _ _).push' e198
    have b198 : Row H198 H2.size 2 (jF.f (attrP m.types e r.a).1.n) := Row.new' e198
    have kA := k2.no2 k198
    refine (lns.kp kA fun _ _ => id).append1 b198 rfl (by omega) (by omega) fun r202 H200 l200 k200 b200 => ?_
    rw [wr (by omega) (by omega), show ((i : Int) + 1) = ((i + 1 : Nat) : Int) by omega]
    refine ih (i + 1) r202 _ H200 (by omega) (by rw [List.length_append, List.length_singleton]; omega) ?_ l200 (fun b hb => ?_) ((k.no2 kA).trans k200 fun b hb => .inr (bns b hb))
    ·rw [he, List.append_assoc]; rfl
    ·rcases b200 b hb with z | z
     ·exact bns b z
     ·have := (k.no2 kA).size; omega
  refine hX _ _ _ ⟨fun _ => ⟨a, ea, by omega, by omega, x.1, x.2.1, x.2.2, by rw [en]; exact ca, _, rowc (i := 8) r1' rfl, _, rowc (i := 6) r2' rfl, ?_, fun H151 e151 => ?_⟩, fun h => absurd (of_decide_eq_false h) (by omega)⟩
  ·rw [y1, y2]
   refine c29 (y3.kp0 k) (ht.no k) fun H137 k137 H144 e144 => ?_
   have k144 : Kp No H137 H144 := (Kp.refl _ _).push' e144
   have y144 : Row H144 H137.size 38 zeroV.row := Row.new' e144
   refine ⟨y144.mayw (by simp), fun H146 e146 => ?_⟩
   have y146 : Row H146 H137.size 38 (attrP m.types e r.a).1.row := y144.fill' e146 rfl
   have k146 : Kp No H137 H146 := k144.box ((Kp.refl _ _).sets' e146 (.inl rfl)) (Nat.le_refl _)
   exact five _ H146 (k137.no2 k146) y146
  ·have k151 : Kp No H' H151 := (Kp.refl _ _).push' e151
   have y151 : Row H151 H'.size 38 zeroV.row := Row.new' e151
   obtain ⟨a', ea', _, ca'⟩ := (hR.kp0 (k.no2 k151)).get gx
   rw [ea] at ea'; cases ea'
   refine ⟨rowc (i := 6) (k151.row r2' id) rfl, rowc (i := 8) (k151.row r1' id) rfl, by rw [en]; exact ca', ?_⟩
   rw [y1, y2]
   refine c29 (y3.kp0 (k.no2 k151)) (ht.no (k.no2 k151)) fun H156 k156 => ?_
   have y156 := k156.row y151 id
   refine ⟨y156.mayw (by simp), fun H163 e163 => ?_⟩
   have y163 : Row H163 H'.size 38 (attrP m.types e r.a).1.row := y156.fill' e163 rfl
   have k163 : Kp No H' H163 := (k151.no2 k156).box ((Kp.refl _ _).sets' e163 (.inl rfl)) (Nat.le_refl _)
   exact five _ H163 k163 y163
end
end Go.Hw
