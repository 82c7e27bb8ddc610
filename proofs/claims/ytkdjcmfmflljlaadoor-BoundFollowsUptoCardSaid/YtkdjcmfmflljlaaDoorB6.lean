/- Groups; a system's kinds, what counts. A system in memory: a reference's kind, which leaves count. Own work of this session. -/
import Derived.Test.YtkdjcmfmflljlaaDoorB5
set_option linter.unusedVariables false
namespace Go.Hw
open Go

/-! ## groups -/
def rootN (G : List Nat) : Nat → Nat → Nat
  | 0, i => i
  | n + 1, i => if G.getD i 0 = i then i else rootN G n (G.getD i 0)
def root (G : List Nat) (i : Nat) : Nat := rootN G i i
def GOk (G : List Nat) : Prop := ∀ i, i < G.length → G.getD i 0 ≤ i
def tieP (G : List Nat) (i j : Nat) : List Nat := G.set (max (root G i) (root G j)) (min (root G i) (root G j))
theorem rootN_le {G : List Nat} (h : GOk G) : ∀ n i, i < G.length → rootN G n i ≤ i
  | 0, i, _ => Nat.le_refl _
  | n + 1, i, hi => by
    unfold rootN
    split
    · exact Nat.le_refl _
    · have := h i hi
      exact Nat.le_trans (rootN_le h n _ (by omega)) this
theorem root_le {G : List Nat} (h : GOk G) {i : Nat} (hi : i < G.length) : root G i ≤ i := rootN_le h i i hi
/-- Fuel. -/
theorem rootN_more {G : List Nat} (h : GOk G) : ∀ n m i, i < G.length → i ≤ n → i ≤ m → rootN G n i = rootN G m i
  | 0, 0, i, _, _, _ => rfl
  | 0, m + 1, i, hi, h0, _ => by
    obtain rfl : i = 0 := by omega
    have := h 0 hi
    simp only [rootN]
    rw [if_pos (by omega)]
  | n + 1, 0, i, hi, _, h0 => by
    obtain rfl : i = 0 := by omega
    have := h 0 hi
    simp only [rootN]
    rw [if_pos (by omega)]
  | n + 1, m + 1, i, hi, h1, h2 => by
    unfold rootN
    split
    · rfl
    · have := h i hi
      exact rootN_more h n m _ (by omega) (by omega) (by omega)
theorem root_step {G : List Nat} (h : GOk G) {i : Nat} (hi : i < G.length) : root G i = if G.getD i 0 = i then i else root G (G.getD i 0) := by
  unfold root
  cases i with
  | zero => have := h 0 hi; simp only [rootN]; rw [if_pos (by omega)]
  | succ i =>
    rw [rootN]
    split
    · rfl
    · have := h _ hi
      exact rootN_more h _ _ _ (by omega) (by omega) (Nat.le_refl _)
theorem root_fix {G : List Nat} (h : GOk G) : ∀ n i, i ≤ n → i < G.length → G.getD (root G i) 0 = root G i
  | n, i, hn, hi => by
    rw [root_step h hi]
    split
    · assumption
    · have := h i hi
      cases n with
      | zero => omega
      | succ n => exact root_fix h n _ (by omega) (by omega)
theorem GOk.tie {G : List Nat} (h : GOk G) {i j : Nat} (hi : i < G.length) (hj : j < G.length) : GOk (tieP G i j) := fun x hx => by
  unfold tieP at *
  rw [List.length_set] at hx
  rw [List.getD_eq_getElem?_getD, List.getElem?_set]
  split
  · rename_i e
    rw [if_pos (by omega)]
    simp only [Option.getD_some]
    omega
  · rw [← List.getD_eq_getElem?_getD]; exact h x hx
theorem tie_len (G : List Nat) (i j : Nat) : (tieP G i j).length = G.length := List.length_set
theorem root_tie {G : List Nat} (h : GOk G) {i j : Nat} (hi : i < G.length) (hj : j < G.length) : ∀ n x, x ≤ n → x < G.length →
    root (tieP G i j) x = if root G x = max (root G i) (root G j) then min (root G i) (root G j) else root G x
  | n, x, hn, hx => by
    have h' := h.tie hi hj
    have ia := root_le h hi
    have ja := root_le h hj
    have fa := root_fix h i i (Nat.le_refl _) hi
    have fb := root_fix h j j (Nat.le_refl _) hj
    have hx' : x < (tieP G i j).length := by rw [tie_len]; exact hx
    have key : (tieP G i j).getD x 0 = if x = max (root G i) (root G j) then min (root G i) (root G j) else G.getD x 0 := by
      unfold tieP
      rw [List.getD_eq_getElem?_getD, List.getElem?_set]
      by_cases e : max (root G i) (root G j) = x
      · rw [if_pos e, if_pos (by omega), if_pos e.symm]; rfl
      · rw [if_neg e, if_neg (Ne.symm e), ← List.getD_eq_getElem?_getD]
    have fm : G.getD (min (root G i) (root G j)) 0 = min (root G i) (root G j) := by
      rcases Nat.le_total (root G i) (root G j) with e | e
      · rw [Nat.min_eq_left e]; exact fa
      · rw [Nat.min_eq_right e]; exact fb
    have fM : G.getD (max (root G i) (root G j)) 0 = max (root G i) (root G j) := by
      rcases Nat.le_total (root G i) (root G j) with e | e
      · rw [Nat.max_eq_right e]; exact fb
      · rw [Nat.max_eq_left e]; exact fa
    rw [root_step h' hx', key]
    by_cases e : x = max (root G i) (root G j)
    · rw [if_pos e]
      have rx : root G x = x := by rw [root_step h hx, if_pos (by rw [e]; exact fM)]
      rw [rx, if_pos e]
      split
      · rename_i e2; omega
      · have hm : min (root G i) (root G j) < (tieP G i j).length := by rw [tie_len]; omega
        rw [root_step h' hm]
        have : (tieP G i j).getD (min (root G i) (root G j)) 0 = min (root G i) (root G j) := by
          unfold tieP
          rw [List.getD_eq_getElem?_getD, List.getElem?_set]
          split
          · rename_i e3
            rw [if_pos (by omega)]
            rfl
          · rw [← List.getD_eq_getElem?_getD]; exact fm
        rw [if_pos this]
    · rw [if_neg e]
      by_cases e1 : G.getD x 0 = x
      · rw [if_pos e1]
        have rx : root G x = x := by rw [root_step h hx, if_pos e1]
        rw [rx, if_neg e]
      · rw [if_neg e1]
        have hlt := h x hx
        have rx : root G x = root G (G.getD x 0) := by rw [root_step h hx, if_neg e1]
        cases n with
        | zero => omega
        | succ n => rw [root_tie h hi hj n _ (by omega) (by omega), rx]
theorem GOk.range (n : Nat) : GOk (List.range n) := fun i hi => by
  rw [List.length_range] at hi
  rw [List.getD_eq_getElem?_getD, List.getElem?_range hi]
  exact Nat.le_refl _
theorem root_range {n i : Nat} (h : i < n) : root (List.range n) i = i := by
  have e : (List.range n).getD i 0 = i := by rw [List.getD_eq_getElem?_getD, List.getElem?_range h]; rfl
  rw [root_step (GOk.range n) (by rw [List.length_range]; exact h), if_pos e]

def natL (G : List Nat) : List Int := G.map fun (n : Nat) => (n : Int)
theorem natL_get {G : List Nat} {i : Nat} (h : i < G.length) : (natL G)[i]? = some ((G.getD i 0 : Nat) : Int) := by
  unfold natL
  rw [List.getElem?_map, List.getElem?_eq_getElem h, List.getD_eq_getElem?_getD, List.getElem?_eq_getElem h]
  rfl
theorem natL_len (G : List Nat) : (natL G).length = G.length := List.length_map _
/-- Groups in memory. -/
structure GH (H : Hp) (g : Nat) (s : Sl) (G : List Nat) : Prop where
  row : Row H g 121 [Sl.v s]
  l : Lst iF H s (natL G)
  ok : GOk G
theorem GH.kp {S : Nat → Prop} {H H' : Hp} {g : Nat} {s : Sl} {G : List Nat} (h : GH H g s G) (k : Kp S H H') (h1 : ¬ S g) (h2 : ∀ b, s.at b → ¬ S b) : GH H' g s G := ⟨k.row h.row h1, h.l.kp k h2, h.ok⟩
theorem GH.no {H H' : Hp} {g : Nat} {s : Sl} {G : List Nat} (h : GH H g s G) (k : Kp No H H') : GH H' g s G := h.kp k id fun _ _ => id

section
variable {H H0 : Hp}
theorem c48 {g : Nat} {s : Sl} {G : List Nat} {i : Nat} {Q : Int → Hp → Prop} (h : GH H g s G) (hi : i < G.length) (hQ : Q (root G i) H) : F48 (some ⟨g, 0, none⟩) i H Q := by
  intro X hX
  suffices ∀ n i, i ≤ n → i < G.length → Q (root G i) H → X i H from this i i (Nat.le_refl _) hi hQ
  intro n
  induction n with
  | zero =>
    intro i hn hi hQ
    obtain ⟨a, ea, han, ca⟩ := h.l.rd.get (natL_get hi)
    have hle := h.ok i hi
    have c0 := h.row.cell_of (i := 0) rfl
    refine hX _ _ ⟨_, rfl, s, c0, a, ea, by omega, by omega, _, by rw [show ((i : Int)).toNat = i from by omega]; exact ca.1, fun hh => absurd (of_decide_eq_true hh) (by omega), fun hh => ?_⟩
    rw [root_step h.ok hi, if_pos (by omega)] at hQ
    exact hQ
  | succ n ih =>
    intro i hn hi hQ
    obtain ⟨a, ea, han, ca⟩ := h.l.rd.get (natL_get hi)
    have hle := h.ok i hi
    have c0 := h.row.cell_of (i := 0) rfl
    have hn' : i < s.n := han
    refine hX _ _ ⟨_, rfl, s, c0, a, ea, by omega, by omega, _, by rw [show ((i : Int)).toNat = i from by omega]; exact ca.1, fun hh => ⟨_, rfl, s, c0, a, ea, by omega, by omega, _, by rw [show ((i : Int)).toNat = i from by omega]; exact ca.1, ?_⟩, fun hh => ?_⟩
    · have := of_decide_eq_true hh
      rw [root_step h.ok hi, if_neg (by omega)] at hQ
      exact ih _ (by omega) (by omega) hQ
    · have := of_decide_eq_false hh
      rw [root_step h.ok hi, if_pos (by omega)] at hQ
      exact hQ
theorem ifmax (a b : Nat) : (if (a : Int) < (b : Int) then (b : Int) else (a : Int)) = ((max a b : Nat) : Int) := by
  split <;> omega
theorem ifmin (a b : Nat) : (if (b : Int) < (a : Int) then (b : Int) else (a : Int)) = ((min a b : Nat) : Int) := by
  split <;> omega
theorem c57 {g : Nat} {s : Sl} {G : List Nat} {i j : Nat} {Q : Hp → Prop} (h : GH H g s G) (hi : i < G.length) (hj : j < G.length)
    (hQ : ∀ H', GH H' g s (tieP G i j) → Kp s.at H H' → Q H') : F57 (some ⟨g, 0, none⟩) i j H Q := by
  refine c48 h hi (c48 h hj ⟨_, rfl, s, h.row.cell_of (i := 0) rfl, ?_⟩)
  rw [ifmax, ifmin]
  have ia := root_le h.ok hi
  have ja := root_le h.ok hj
  obtain ⟨a, ea, ab, han, hm, hw⟩ := h.l.set (i := max (root G i) (root G j)) (by rw [natL_len]; omega) ((min (root G i) (root G j) : Nat) : Int)
  refine ⟨a, ea, by omega, by omega, ?_, ?_, fun H15 e15 => ?_⟩
  · exact (hm.1).1
  · exact (hm.1).2
  · obtain ⟨l', k'⟩ := hw H15 e15
    refine hQ H15 ⟨k'.row h.row (fun hb => ?_), ?_, h.ok.tie hi hj⟩ k'
    · exact h.l.ne h.row (by decide) hb
    · have : natL (tieP G i j) = (natL G).set (max (root G i) (root G j)) ((min (root G i) (root G j) : Nat) : Int) := by unfold natL tieP; rw [List.map_set]
      rw [this]; exact l'
theorem c56 {n : Nat} {Q : Option Addr → Hp → Prop} (hn : n ≤ 100000) (hQ : ∀ g s H', GH H' g s (List.range n) → H.size ≤ g → (∀ b, s.at b → H.size ≤ b) → Kp No H H' → Q (some ⟨g, 0, none⟩) H') : F56 n H Q := by
  intro H1 e1
  have k1 : Kp No H H1 := (Kp.refl No H).push' e1
  have x1 : Row H1 H.size 121 [Sl.v Sl.nil] := Row.new' e1
  have s1 := size_push' e1
  intro X hX
  suffices ∀ d i s H', i + d = n → GH H' H.size s (List.range i) → (∀ b, s.at b → H.size ≤ b) → Kp No H H' → X i H' from this n 0 Sl.nil H1 (by omega) ⟨x1, Lst.nil _ _, GOk.range 0⟩ (fun b hb => by cases hb) k1
  intro d
  induction d with
  | zero => intro i s H' hi h hb k; exact hX _ _ ⟨fun hh => absurd (of_decide_eq_true hh) (by omega), fun _ => hQ _ _ _ (by rw [show n = i by omega]; exact h) (Nat.le_refl _) hb k⟩
  | succ d ih =>
    intro i s H' hi h hb k
    refine hX _ _ ⟨fun _ => ⟨s, h.row.cell_of (i := 0) rfl, fun H10 e10 => ?_⟩, fun hh => absurd (of_decide_eq_false hh) (by omega)⟩
    have k10 : Kp No H' H10 := (Kp.refl _ _).push' e10
    have b10 : Row H10 H'.size 3 (iF.f (i : Int)) := Row.new' e10
    have g10 := h.no k10
    have s10 := size_push' e10
    have hl := natL_len (List.range i)
    rw [List.length_range] at hl
    refine g10.l.append1 b10 rfl (by rw [hl]; omega) (by rw [hl]; omega) fun r14 H12 l12 k12 b12 => ?_
    have x12 := k12.row g10.row fun hh => g10.l.ne g10.row (by decide) hh
    refine ⟨x12.some (by simp), x12.frz 0, fun H15 e15 => ?_⟩
    have k15 : Kp (fun x => x = H.size) H12 H15 := (Kp.refl _ _).set' e15 (.inl rfl)
    rw [wr (by omega) (by omega), show ((i : Int) + 1) = ((i + 1 : Nat) : Int) by omega]
    have kz := k.size
    refine ih (i + 1) r14 H15 (by omega) ⟨(x12.set' (i := 0) e15), ?_, GOk.range _⟩ (fun b hb' => ?_) ?_
    · have e : natL (List.range (i + 1)) = natL (List.range i) ++ [(i : Int)] := by unfold natL; rw [List.range_succ, List.map_append]; rfl
      rw [e]
      exact l12.kp k15 fun b hb' e => by subst e; exact l12.ne x12 (by decide) hb'
    · rcases b12 b hb' with h | h
      · exact hb b h
      · omega
    · exact ((k.no2 k10).trans k12 fun b hb' => .inr (hb b hb')).trans k15 fun b e => .inr (by omega)
end

structure Leaf where
  o : Int
  a : Nat
  b : Nat
  two : Bool
  v : VT
def leafF : Fmt Leaf 80 8 := ⟨fun l => [.int .i64 l.o, .int .i64 l.a, .int .i64 l.b, .bool l.two, .int .i64 l.v.k, .int .i64 l.v.n, .string l.v.s, .bool l.v.b], fun _ => rfl, by
  intro x v hv
  simp only [List.mem_cons, List.not_mem_nil, or_false] at hv
  rcases hv with rfl | rfl | rfl | rfl | rfl | rfl | rfl | rfl <;> rfl, by decide⟩
def rdF : Fmt (Sl × Bool) 68 2 := ⟨fun x => [Sl.v x.1, .bool x.2], fun _ => rfl, by
  intro x v hv
  simp only [List.mem_cons, List.not_mem_nil, or_false] at hv
  rcases hv with rfl | rfl <;> rfl, by decide⟩
structure Sys where
  refs : List ER
  conds : List (List Leaf × Bool)
  G : List Nat
  K : List Int
/-- Conditions read, in memory. -/
structure CdH (H : Hp) (cs : Sl) (W : List ((Sl × Bool) × (List Leaf × Bool))) : Prop where
  l : RdL rdF H cs (W.map Prod.fst)
  x : ∀ w ∈ W, w.1.2 = w.2.2 ∧ RdL leafF H w.1.1 w.2.1
theorem CdH.no {H H' : Hp} {cs : Sl} {W : List ((Sl × Bool) × (List Leaf × Bool))} (h : CdH H cs W) (k : Kp No H H') : CdH H' cs W := ⟨h.l.kp0 k, fun w hw => ⟨(h.x w hw).1, (h.x w hw).2.kp0 k⟩⟩
structure SyH (H : Hp) (p : Nat) (S : Sys) : Prop where
  ex : ∃ rs cs ks gs : Sl, ∃ g : Nat, ∃ R : List (ER × Sl), ∃ W : List ((Sl × Bool) × (List Leaf × Bool)), Row H p 66 [Sl.v rs, Sl.v cs, .pointer (some ⟨g, 0, none⟩), Sl.v ks] ∧
    RdL eF H rs R ∧ R.map Prod.fst = S.refs ∧ (∀ x ∈ R, x.2.n = 0) ∧ CdH H cs W ∧ W.map Prod.snd = S.conds ∧ GH H g gs S.G ∧ RdL iF H ks S.K ∧ S.G.length = S.refs.length ∧ S.K.length = S.refs.length ∧ S.refs.length ≤ 100000
theorem SyH.no {H H' : Hp} {p : Nat} {S : Sys} (h : SyH H p S) (k : Kp No H H') : SyH H' p S := by
  obtain ⟨rs, cs, ks, gs, g, R, W, h1, h2, h3, h4, h5, h6, h7, h8, h9⟩ := h.ex
  exact ⟨rs, cs, ks, gs, g, R, W, k.row h1 id, h2.kp0 k, h3, h4, h5.no k, h6, h7.no k, h8.kp0 k, h9⟩

def kindP (S : Sys) (i : Nat) : Int := if S.K.getD (root S.G i) 0 = 4 then 2 else if S.K.getD (root S.G i) 0 = 8 then 3 else 1
def countsP (S : Sys) (l : Leaf) : Bool := !l.two || (decide (l.o = 6) || decide (kindP S l.a = 1))
def oddP (k : Int) : Bool := decide (andB .i64 k (IntKind.i64.wrap (k - 1)) ≠ 0)
section
variable {H H0 : Hp} {p : Nat} {S : Sys}
theorem c44 {i : Nat} {Q : Int → Hp → Prop} (h : SyH H p S) (hi : i < S.refs.length) (hQ : Q (kindP S i) H) : F44 (some ⟨p, 0, none⟩) i H Q := by
  obtain ⟨rs, cs, ks, gs, g, R, W, h1, h2, h3, h4, h5, h6, h7, h8, h9, h10, h11⟩ := h.ex
  have hr := root_le h7.ok (show i < S.G.length by omega)
  have gk : S.K[root S.G i]? = some (S.K.getD (root S.G i) 0) := by rw [List.getD_eq_getElem?_getD, List.getElem?_eq_getElem (by omega)]; rfl
  obtain ⟨a, ea, han, ca⟩ := h8.get gk
  refine ⟨_, rfl, _, rowc (i := 3) h1 rfl, _, rfl, _, rowc (i := 2) h1 rfl, c48 h7 (by omega) ⟨rowc (i := 3) h1 rfl, a, ea, by omega, by omega, _, by rw [show (((root S.G i : Nat) : Int)).toNat = root S.G i from by omega]; exact ca.1, fun hk => ?_, fun hk => ⟨fun hk2 => ?_, fun hk2 => ?_⟩⟩⟩
  · rw [kindP, if_pos (of_decide_eq_true hk)] at hQ; exact hQ
  · rw [kindP, if_neg (of_decide_eq_false hk), if_pos (of_decide_eq_true hk2)] at hQ; exact hQ
  · rw [kindP, if_neg (of_decide_eq_false hk), if_neg (of_decide_eq_false hk2)] at hQ; exact hQ
theorem c43 {l : Leaf} {Q : Bool → Hp → Prop} (h : SyH H p S) (hi : l.a < S.refs.length) (hQ : ∀ H', Kp No H H' → Q (countsP S l) H') :
    F43 (some ⟨p, 0, none⟩) l.o l.a l.b l.two l.v.k l.v.n l.v.s l.v.b H Q := by
  intro H1 e1
  have k1 : Kp No H H1 := (Kp.refl No H).push' e1
  have x1 : Row H1 H.size 80 (leafF.f l) := Row.new' e1
  have hq := hQ H1 k1
  refine ⟨_, rowc (i := 3) x1 rfl, fun h2 => ?_, fun h2 => ⟨_, x1.cell_of (i := 0) rfl, fun h6 => ?_, fun h6 => ⟨_, rowc (i := 1) x1 rfl, c44 (h.no k1) hi ?_⟩⟩⟩
  · rw [countsP, h2] at hq; exact hq
  · rw [countsP, h2, h6] at hq; exact hq
  · rw [countsP, h2, h6] at hq; exact hq
theorem c25 {sl : Sl} {al : Bool} {L : List Leaf} {Q : Sl → Bool → Hp → Prop} (h : SyH H p S) (hl : RdL leafF H sl L) (hL : L.length ≤ 100000) (hi : ∀ l ∈ L, l.a < S.refs.length)
    (hQ : ∀ r H', Lst leafF H' r (L.filter (countsP S)) → (∀ b, r.at b → H.size ≤ b) → Kp No H H' → Q r (al && L.all (countsP S)) H') : F25 (some ⟨p, 0, none⟩) sl al H Q := by
  intro H1 e1
  have k1 : Kp No H H1 := (Kp.refl No H).push' e1
  have x1 : Row H1 H.size 68 [Sl.v sl, .bool al] := Row.new' e1
  have s1 := size_push' e1
  refine ⟨_, rowc (i := 1) x1 rfl, _, x1.cell_of (i := 0) rfl, ?_⟩
  have hn := hl.n
  intro X hX
  suffices ∀ d i r H', i + d = L.length → Lst leafF H' r ((L.take i).filter (countsP S)) → (∀ b, r.at b → H.size ≤ b) → Kp No H H' → X r (al && (L.take i).all (countsP S)) i H' from by
    have := this L.length 0 Sl.nil H1 (by omega) (Lst.nil _ _) (fun b hb => by cases hb) k1
    simpa using this
  intro d
  induction d with
  | zero =>
    intro i r H' hi' hr hb k
    refine hX _ _ _ _ ⟨fun hh => absurd (of_decide_eq_true hh) (by omega), fun _ => ?_⟩
    rw [List.take_of_length_le (by omega)] at hr ⊢
    exact hQ r H' hr hb k
  | succ d ih =>
    intro i r H' hi' hr hb k
    have g : L[i]? = some (L[i]'(by omega)) := List.getElem?_eq_getElem (by omega)
    have htk : L.take (i + 1) = L.take i ++ [L[i]'(by omega)] := by simp
    have hm : L[i]'(by omega) ∈ L := List.getElem_mem _
    generalize L[i]'(by omega) = l at g htk hm
    have hl' := hl.kp0 k
    obtain ⟨a, ea, han, ca⟩ := hl'.get g
    have kz := k.size
    have hln : ((L.take i).filter (countsP S)).length ≤ 100000 := by have := List.length_filter_le (countsP S) (L.take i); rw [List.length_take] at this; omega
    refine hX _ _ _ _ ⟨fun _ => ⟨a, ea, by omega, by omega, _, _, _, _, _, _, _, _, by rw [show ((i : Int)).toNat = i from by omega]; exact ca, fun H31 e31 => ?_⟩, fun hh => absurd (of_decide_eq_false hh) (by omega)⟩
    have k31 : Kp No H' H31 := (Kp.refl _ _).push' e31
    have y31 : Row H31 H'.size 80 (leafF.f ⟨0, 0, 0, false, zeroV⟩) := Row.new' e31
    refine ⟨y31.mayw (by simp [leafF]), fun H33 e33 => ?_⟩
    have y33 : Row H33 H'.size 80 (leafF.f l) := y31.fill' e33 rfl
    have k33 : Kp No H' H33 := k31.box ((Kp.refl _ _).sets' e33 (.inl rfl)) (Nat.le_refl _)
    refine ⟨_, _, _, _, _, _, _, _, y33.all, c43 (h.no (k.no2 k33)) (hi l hm) fun H45 k45 => ⟨fun hc => ?_, fun hc => ?_⟩⟩
    · have y45 := k45.row y33 id
      have kk := k33.no2 k45
      refine ⟨_, _, _, _, _, _, _, _, y45.all, fun H58 e58 => ?_⟩
      have k58 : Kp No H45 H58 := (Kp.refl _ _).push' e58
      have b58 : Row H58 H45.size 80 (leafF.f l) := Row.new' e58
      have s58 := size_push' e58
      have s45 := kk.size
      refine (hr.kp (kk.no2 k58) fun _ _ => id).append1 b58 rfl (by omega) (by omega) fun r62 H60 l60 k60 b60 => ?_
      unfold F25_3
      rw [wr (by omega) (by omega), show ((i : Int) + 1) = ((i + 1 : Nat) : Int) by omega]
      have e : (al && (L.take i).all (countsP S)) = (al && (L.take (i + 1)).all (countsP S)) := by rw [htk, List.all_append]; simp [hc]
      rw [e]
      refine ih (i + 1) r62 H60 (by omega) ?_ (fun b hb' => ?_) ((k.no2 (kk.no2 k58)).trans k60 fun b hb' => .inr (hb b hb'))
      · rw [htk, List.filter_append]; simpa [hc] using l60
      · rcases b60 b hb' with h | h
        · exact hb b h
        · omega
    · unfold F25_3
      rw [wr (by omega) (by omega), show ((i : Int) + 1) = ((i + 1 : Nat) : Int) by omega]
      have e : false = (al && (L.take (i + 1)).all (countsP S)) := by rw [htk, List.all_append]; simp [hc]
      rw [e]
      have kk := k33.no2 k45
      refine ih (i + 1) r H45 (by omega) ?_ hb (k.no2 kk)
      rw [htk, List.filter_append]
      have := hr.kp kk fun _ _ => id
      simpa [hc] using this
theorem c24 {Q : Bool → Hp → Prop} (h : SyH H p S) (hQ : Q (S.K.any oddP) H) : F24 (some ⟨p, 0, none⟩) H Q := by
  obtain ⟨rs, cs, ks, gs, g, R, W, h1, h2, h3, h4, h5, h6, h7, h8, h9, h10, h11⟩ := h.ex
  refine ⟨_, rfl, _, rowc (i := 3) h1 rfl, ?_⟩
  have hn := h8.n
  intro X hX
  suffices ∀ d i, i + d = S.K.length → (S.K.take i).any oddP = false → X i H from this _ 0 (Nat.zero_add _) (by simp)
  intro d
  induction d with
  | zero =>
    intro i hi hf
    refine hX _ _ ⟨fun hh => absurd (of_decide_eq_true hh) (by omega), fun _ => ?_⟩
    rw [List.take_of_length_le (by omega)] at hf
    rw [hf] at hQ; exact hQ
  | succ d ih =>
    intro i hi hf
    have g : S.K[i]? = some (S.K[i]'(by omega)) := List.getElem?_eq_getElem (by omega)
    have htk : S.K.take (i + 1) = S.K.take i ++ [S.K[i]'(by omega)] := by simp
    have hm : S.K[i]'(by omega) ∈ S.K := List.getElem_mem _
    generalize S.K[i]'(by omega) = x at g htk hm
    obtain ⟨a, ea, han, ca⟩ := h8.get g
    refine hX _ _ ⟨fun _ => ⟨a, ea, by omega, by omega, _, by rw [show ((i : Int)).toNat = i from by omega]; exact ca.1, fun hc => ?_, fun hc => ?_⟩, fun hh => absurd (of_decide_eq_false hh) (by omega)⟩
    · rw [show S.K.any oddP = true from List.any_eq_true.2 ⟨x, hm, hc⟩] at hQ
      exact hQ
    · rw [wr (by omega) (by omega), show ((i : Int) + 1) = ((i + 1 : Nat) : Int) by omega]
      refine ih (i + 1) (by omega) ?_
      rw [htk, List.any_append, hf]
      simpa [oddP] using hc
end
end Go.Hw
