/- The hand: expressions. The hand: expressions laid; are they as they were? Own work of this session. -/
import Derived.Test.YtfkhglkcplnppaaDoorK7
set_option linter.unusedVariables false
namespace Go.Hw
open Go

def erF : Fmt (ER × Sl) 41 10 := ⟨fun x => x.1.row x.2, fun _ => rfl, by
 intro x v hv
 simp only [List.mem_cons, List.not_mem_nil, or_false] at hv
 rcases hv with rfl | rfl | rfl | rfl | rfl | rfl | rfl | rfl | rfl | rfl <;> rfl, by decide⟩
def xMk (i : Nat) : List Value := eR (IntKind.i64.wrap (77 + (i : Int))) 0 0 0 bE false bE 0 bE Sl.nil
theorem xMk_len (i : Nat) : (xMk i).length = 10 := rfl
def Fo.heads : Fo → List ER
 | .nil => []
 | .cons r _ s => r :: s.heads
theorem Fo.heads_len : ∀ f : Fo, f.heads.length = f.len
 | .nil => rfl
 | .cons _ _ s => by simp only [Fo.heads, Fo.len, List.length_cons, s.heads_len]
def LK (A : Nat → Prop) (H : Hp) : Fo → List Sl → Prop
 | .nil, qs => qs = []
 | .cons _ k s, qs => ∃ q qs', qs = q :: qs' ∧ (∃ (b c : Nat) (ks : List Sl), q = Sl.mk (some ⟨b, 0, none⟩) k.len c ∧ A b ∧ k.len < c ∧ c ≤ 9223372036854775807 ∧ ks.length = k.len ∧ Row H b 41 ((k.heads.zip ks).flatMap erF.f ++ mks xMk k.len (c - k.len)) ∧ LK A H k ks) ∧ LK A H s qs'
def LX (A : Nat → Prop) (H : Hp) (q : Sl) (k : Fo) : Prop :=
 ∃ (b c : Nat) (ks : List Sl), q = Sl.mk (some ⟨b, 0, none⟩) k.len c ∧ A b ∧ k.len < c ∧ c ≤ 9223372036854775807 ∧ ks.length = k.len ∧ Row H b 41 ((k.heads.zip ks).flatMap erF.f ++ mks xMk k.len (c - k.len)) ∧ LK A H k ks
section
variable {H H' : Hp} {A A' : Nat → Prop} {hb : Nat}
theorem LK.step {Z : Nat → Prop} (k : Kp Z H H') (hA : ∀ b l, Row H b 41 l → A b → ¬ Z b ∧ A' b) : ∀ {f : Fo} {qs : List Sl}, LK A H f qs → LK A' H' f qs
 | .nil, _, h => h
 | .cons _ kd s, _, ⟨q, qs', e, ⟨b, c, ks, h1, h2, h3, h4, h5, h6, h7⟩, h8⟩ => ⟨q, qs', e, ⟨b, c, ks, h1, (hA b _ h6 h2).2, h3, h4, h5, k.row h6 (hA b _ h6 h2).1, h7.step k hA⟩, h8.step k hA⟩
theorem LX.step {Z : Nat → Prop} {q : Sl} {f : Fo} (k : Kp Z H H') (hA : ∀ b l, Row H b 41 l → A b → ¬ Z b ∧ A' b) (h : LX A H q f) : LX A' H' q f := by
 obtain ⟨b, c, ks, h1, h2, h3, h4, h5, h6, h7⟩ := h
 exact ⟨b, c, ks, h1, (hA b _ h6 h2).2, h3, h4, h5, k.row h6 (hA b _ h6 h2).1, h7.step k hA⟩
theorem LK.foA : ∀ {f : Fo} {qs : List Sl} {b i : Nat} {pre : List (ER × Sl)} {rest : List Value}, LK A H f qs → Row H b 41 ((pre ++ f.heads.zip qs).flatMap erF.f ++ rest) → pre.length = i → FoA (fun _ => True) H (some ⟨b, 0, none⟩) i f
 | .nil, _, _, _, _, _, _, _, _ => trivial
 | .cons r k s, _, b, i, pre, rest, ⟨q, qs', e, ⟨b', c', ks, h1, h2, h3, h4, h5, h6, h7⟩, h8⟩, hr, hp => by
  subst e
  have hz : (Fo.cons r k s).heads.zip (q :: qs') = (r, q) :: s.heads.zip qs' := rfl
  rw [hz] at hr
  refine ⟨⟨b, 0, none⟩, q, rfl, trivial, ?_, by rw [h1], ?_, h8.foA (pre := pre ++ [(r, q)]) (rest := rest) (by rw [List.append_assoc]; exact hr) (by rw [List.length_append, hp]; rfl)⟩
  ·rw [add_mk]
   refine hr.cells ?_
   rw [Nat.zero_add, Nat.add_zero]
   refine lk_lo erF (x := (r, q)) ?_
   rw [List.getElem?_append_right (by omega), hp, Nat.sub_self]; rfl
  ·rw [h1]
   exact h7.foA (pre := []) (rest := mks xMk k.len (c' - k.len)) h6 rfl
theorem LX.ex {q : Sl} {f : Fo} (h : LX A H q f) : Ex (fun _ => True) H q f := by
 obtain ⟨b, c, ks, rfl, h2, h3, h4, h5, h6, h7⟩ := h
 exact ⟨rfl, h7.foA (pre := []) h6 rfl⟩
theorem FoA.step {Z : Nat → Prop} (k : Kp Z H H') (hA : ∀ b, b < H.size → A b → ¬ Z b ∧ A' b) : ∀ {f : Fo} {p : Option Addr} {i : Nat}, FoA A H p i f → FoA A' H' p i f
 | .nil, _, _, _ => trivial
 | .cons r kd s, p, i, ⟨a, q, e, hb, hc, hn, h1, h2⟩ => by
  have hl := cells_block hc (fun h => by cases h)
  rw [ablk] at hl
  exact ⟨a, q, e, (hA _ hl hb).2, k.cells (by rw [ablk]; exact hl) (by rw [ablk]; exact (hA _ hl hb).1) hc, hn, FoA.step k hA h1, FoA.step k hA h2⟩
theorem FoA.cells : ∀ {f : Fo} {p : Option Addr} {i : Nat}, FoA A H p i f → f.len ≠ 0 → ∃ (a : Addr) (qs : List Sl), p = some a ∧ qs.length = f.len ∧ Go.Hw.cells H (a.add (i * 10)) ((f.heads.zip qs).flatMap erF.f) 0
 | .nil, _, _, _, h => absurd rfl h
 | .cons r kd s, p, i, ⟨a, q, e, hb, hc, hn, h1, h2⟩, _ => by
  by_cases hs : s.len = 0
  ·refine ⟨a, [q], e, by simp only [Fo.len, List.length_cons, List.length_nil]; omega, ?_⟩
   have : s = .nil := by cases s with
    | nil => rfl
    | cons _ _ _ => simp only [Fo.len] at hs; omega
   subst this
   show Go.Hw.cells H (a.add (i * 10)) (r.row q ++ []) 0
   rw [List.append_nil]; exact hc
  ·obtain ⟨a', qs, e', hl, hcs⟩ := FoA.cells h2 hs
   rw [e] at e'; injection e' with e'; subst e'
   refine ⟨a, q :: qs, e, by simp only [Fo.len, List.length_cons]; omega, ?_⟩
   show Go.Hw.cells H (a.add (i * 10)) (r.row q ++ (s.heads.zip qs).flatMap erF.f) 0
   rw [cells_iff] at hc hcs ⊢
   intro j v hj
   by_cases hjl : j < 10
   ·rw [List.getElem?_append_left (by exact hjl)] at hj
    exact hc j v hj
   ·rw [List.getElem?_append_right (by show 10 ≤ j; omega)] at hj
    have := hcs (j - 10) v hj
    rw [add_add] at this ⊢
    rw [show (i + 1) * 10 + (0 + (j - 10)) = i * 10 + (0 + j) from by omega] at this
    exact this
theorem FoA.rd {f : Fo} {q : Sl} (h : FoA A H q.b 0 f) (hn : q.n = f.len) : ∃ qs : List Sl, qs.length = f.len ∧ RdL erF H q (f.heads.zip qs) := by
 by_cases hf : f.len = 0
 ·have : f = .nil := by cases f with
   | nil => rfl
   | cons _ _ _ => simp only [Fo.len] at hf; omega
  subst this
  refine ⟨[], rfl, hn, ?_⟩
  show rds H q.b []
  unfold rds
  cases q.b <;> trivial
 ·obtain ⟨a, qs, e, hl, hc⟩ := h.cells hf
  refine ⟨qs, hl, by rw [List.length_zip, f.heads_len, hl, Nat.min_self]; exact hn, ?_⟩
  unfold rds
  rw [e]
  have ea : a.add (0 * 10) = a := by obtain ⟨b, o, x⟩ := a; cases x <;> simp [Addr.add]
  rw [ea] at hc; exact hc

abbrev X31 := Option Addr → Sl → Hp → (Sl → Hp → Prop) → Prop
def W31 (X : X31) (hb : Nat) (f : Fo) : Prop := ∀ (H : Hp) (h : Hd) (S : List Sl) (q : Sl) (Q : Sl → Hp → Prop), Row H hb 32 h.row → Pool 39 41 10 H h.px S → h.nx ≤ S.length → S.length ≤ 1099511627776 → h.nx + 1 + f.nodes ≤ 1099511627776 → q.n = f.len →
 FoA (fun b => ¬ Fr hb h.px S h.nx b) H q.b 0 f → f.nodes ≤ 4194304 →
 (∀ s H' P' S' n', Row H' hb 32 { h with px := P', nx := n' }.row → Pool 39 41 10 H' P' S' → n' = h.nx + 1 + f.nodes → n' ≤ S'.length → S'.length ≤ max S.length n' → Adv hb H h.px S h.nx H' P' S' n' →
  LX (fun b => ¬ Fr hb P' S' n' b ∧ (Fr hb h.px S h.nx b ∨ H.size ≤ b)) H' s f → Q s H') → X (some ⟨hb, 0, none⟩) q H Q
def A31 (X : X31) (hb : Nat) : Fo → Prop
 | .nil => True
 | .cons _ k s => W31 X hb k ∧ A31 X hb s
theorem zip_cons (r : ER) (k s : Fo) (q : Sl) (qs : List Sl) : (Fo.cons r k s).heads.zip (q :: qs) = (r, q) :: s.heads.zip qs := rfl
theorem kids_loop {X : X31} {Q : Sl → Hp → Prop} {X6 : Int → Hp → Prop} {C : Hp → Prop} {p1 : Sl} {n b c : Nat} {h : Hd} {tail : List Value} (hX6 : ∀ (y : Int) (H : Hp), F31_L6b X Q X6 (some ⟨hb, 0, none⟩) p1 (n : Int) (Sl.mk (some ⟨b, 0, none⟩) c c) y H → X6 y H) (hpn : p1.n = n) (hnc : n < c) (hn4 : n ≤ 4194304)
  (hC : ∀ H, C H → F31_5 X Q (n : Int) (Sl.mk (some ⟨b, 0, none⟩) c c) H) :
  ∀ (g : Fo), A31 X hb g → ∀ (i : Nat) (V : List (ER × Sl)) (qg : List Sl) (H' : Hp) (P' : Sl) (S' : List Sl) (x' : Nat), i + g.len = n → V.length = i → qg.length = g.len → g.nodes ≤ 4194304 → Row H' b 41 ((V ++ g.heads.zip qg).flatMap erF.f ++ tail) → Row H' hb 32 { h with px := P', nx := x' }.row →
   Pool 39 41 10 H' P' S' → x' ≤ S'.length → S'.length ≤ 1099511627776 → x' + g.nodes ≤ 1099511627776 → FoA (fun b' => ¬ Fr hb P' S' x' b' ∧ b' ≠ b) H' p1.b i g → ¬ Fr hb P' S' x' b →
   (∀ (H'' : Hp) (P'' : Sl) (S'' : List Sl) (x'' : Nat) (kg : List Sl), Row H'' b 41 ((V ++ g.heads.zip kg).flatMap erF.f ++ tail) → kg.length = g.len → LK (fun b' => ¬ Fr hb P'' S'' x'' b' ∧ b' ≠ b ∧ (Fr hb P' S' x' b' ∨ H'.size ≤ b')) H'' g kg → Row H'' hb 32 { h with px := P'', nx := x'' }.row →
    Pool 39 41 10 H'' P'' S'' → x'' = x' + g.nodes → x'' ≤ S''.length → S''.length ≤ max S'.length x'' → Kp (fun b' => Fr hb P' S' x' b' ∨ b' = b) H' H'' → (∀ b', Fr hb P'' S'' x'' b' → Fr hb P' S' x' b' ∨ H'.size ≤ b') → (∀ b', Fr hb P'' S'' 0 b' → Fr hb P' S' 0 b' ∨ H'.size ≤ b') → C H'') → X6 (i : Int) H' := by
 intro g
 induction g with
 | nil =>
  intro _ i V qg H' P' S' x' hi hV hqg hgn hrow hr hp hx hS hM hf nb hq
  simp only [Fo.len] at hi hqg
  have : qg = [] := List.length_eq_zero_iff.1 hqg
  subst this
  refine hX6 _ _ ⟨fun g => absurd (of_decide_eq_true g) (by omega), fun _ => hC _ (hq H' P' S' x' [] hrow rfl rfl hr hp rfl hx (by omega) (Kp.refl _ _) (fun b h => .inl h) fun b h => .inl h)⟩
 | cons r k s _ ih =>
  intro ⟨wk, wks⟩ i V qg H' P' S' x' hi hV hqg hgn hrow hr hp hx hS hM hf nb hq
  obtain ⟨a, q, ea, hA, hc, hqn, hfk, hfs⟩ := hf
  simp only [Fo.len] at hi hqg
  simp only [Fo.nodes] at hM hgn
  obtain ⟨q0, qs, rfl⟩ : ∃ q0 qs, qg = q0 :: qs := by
   match qg, hqg with
   | q0 :: qs, _ => exact ⟨q0, qs, rfl⟩
  have hqs : qs.length = s.len := by simpa using hqg
  rw [zip_cons] at hrow
  have it : ((i : Nat) : Int).toNat = i := by omega
  have bl := hrow.lt
  refine hX6 _ _ ⟨fun _ => ⟨a, ea, by omega, by omega, q, ?_, ?_⟩, fun g => absurd (of_decide_eq_false g) (by omega)⟩
  ·rw [it]
   exact cellz1 (cells_sub (i := 9) (m := [Sl.v q]) hc rfl)
  refine wk H' { h with px := P', nx := x' } S' q _ hr hp hx hS (by show x' + 1 + k.nodes ≤ _; omega) hqn (hfk.step (Kp.refl No H') fun b _ h => ⟨id, h.1⟩) (by omega) fun s1 H1 P1 S1 x1 hr1 hp1 ex1 hx1 hS1 g1 lx1 => ?_
  have ex1 : x1 = x' + 1 + k.nodes := ex1
  have hS1 : S1.length ≤ max S'.length x1 := hS1
  have g1s := g1.k.size
  have row1 := g1.k.row hrow nb
  have hlV := fl_len erF.len V
  have hl2 := fl_len erF.len (V ++ (r, q0) :: s.heads.zip qs)
  refine ⟨⟨b, 0, none⟩, rfl, by omega, by show (i : Int) < (c : Int); omega, ?_⟩
  rw [it, add_mk, add_mk, Nat.zero_add]
  have hlt : i * 10 + 9 < ((V ++ (r, q0) :: s.heads.zip qs).flatMap erF.f ++ tail).length := by
   rw [List.length_append, hl2, List.length_append, List.length_cons]; omega
  refine ⟨row1.some hlt, row1.frz _, fun H2 e2 => ?_⟩
  have row2 : Row H2 b 41 ((V ++ (r, s1) :: s.heads.zip qs).flatMap erF.f ++ tail) := by
   have := set_mid (F := erF) (c := 9) (i := i) (x := (r, q0)) (x' := (r, s1)) row1 (by rw [List.getElem?_append_right (by omega), hV, Nat.sub_self]; rfl) (by decide) rfl e2
   rw [List.set_append_right _ _ (by omega), hV, Nat.sub_self, List.set_cons_zero] at this
   exact this
  have k2 : Kp (fun x => x = b) H1 H2 := (Kp.refl (fun x => x = b) H1).set' e2 (.inl rfl)
  have nb1 : ¬ Fr hb P1 S1 x1 b := fun hf => (g1.f b hf).elim nb fun h => by omega
  have hbne : b ≠ hb := fun e => nb (.inl e)
  have hr2 := k2.row hr1 fun e => hbne e.symm
  have hp2 : Pool 39 41 10 H2 P1 S1 := ⟨hp1.lst.kp k2 fun b' h e => by
    obtain ⟨sp, h⟩ := hp1.lst.row h
    subst e; exact absurd (h.inj row1).2 (by decide), fun j s' hs => by
    by_cases hj : x1 ≤ j
    ·exact (hp1.own j s' hs).kp k2 fun b' h e => nb1 (.inr (.inr ⟨j, s', hj, hs, e ▸ h⟩))
    ·-- its own place: the row is as long as it was
     obtain ⟨l, o⟩ := hp1.own j s' hs
     rcases o with ⟨rfl, rfl⟩ | ⟨b', sp, g1, g2, g3, g4, g5⟩
     ·exact Slot.nil _ _ _
     ·by_cases e : b' = b
      ·subst e
       have e1 := (g2.inj row1).1
       have hl3 : ((V ++ (r, s1) :: s.heads.zip qs).flatMap erF.f ++ tail).length = (l ++ sp).length := by
        rw [e1, List.length_append, List.length_append, fl_len erF.len, fl_len erF.len]; simp
       refine ⟨((V ++ (r, s1) :: s.heads.zip qs).flatMap erF.f ++ tail).take (s'.n * 10), .inr ⟨b', ((V ++ (r, s1) :: s.heads.zip qs).flatMap erF.f ++ tail).drop (s'.n * 10), g1, by rw [List.take_append_drop]; exact row2, ?_, by rw [List.take_append_drop, hl3]; exact g4, g5⟩⟩
       rw [List.length_take, hl3, g4]
       exact Nat.min_eq_left (Nat.mul_le_mul_right _ g5.1)
      ·exact ⟨l, .inr ⟨b', sp, g1, k2.row g2 e, g3, g4, g5⟩⟩, hp1.dis⟩
  rw [wr (by omega) (by omega), show ((i : Int) + 1) = ((i + 1 : Nat) : Int) by omega]
  have hk12 : Kp (fun b' => Fr hb P' S' x' b' ∨ b' = b) H' H2 := (g1.k.mono fun b _ h => .inl h).trans k2 fun b' e => .inl (.inr e)
  refine ih wks (i + 1) (V ++ [(r, s1)]) qs H2 P1 S1 x1 (by omega) (by rw [List.length_append, hV]; rfl) hqs (by omega) (by rw [List.append_assoc]; exact row2) hr2 hp2 hx1 (by omega) (by omega) (hfs.step hk12 fun b' hl h => ⟨fun h' => h'.elim h.1 h.2, fun hf => (g1.f b' hf).elim h.1 fun h => by omega, h.2⟩) nb1 fun H'' P'' S'' x'' kg row3 hkg lk3 hr3 hp3 ex3 hx3 hS3 k3 f3 z3 => ?_
  refine hq H'' P'' S'' x'' (s1 :: kg) (by rw [zip_cons]; rw [List.append_assoc] at row3; exact row3) (by simp only [Fo.len, List.length_cons]; omega) ⟨s1, kg, rfl, ?_, ?_⟩ hr3 hp3 (by simp only [Fo.nodes]; omega) hx3 (by omega) ?_ (fun b' hf => ?_) (fun b' hf => ?_)
  ·have s2 := k2.size
   refine LX.step (H := H1) ((k2.mono (T := fun b' => Fr hb P1 S1 x1 b' ∨ b' = b) fun b' _ e => .inr e).trans k3 fun b' h => .inl h) (fun b' l hl h => ?_) lx1
   have hl := hl.lt
   have hne : b' ≠ b := fun e => by subst e; exact h.2.elim nb fun h => by omega
   exact ⟨fun hz => hz.elim h.1 hne, fun hf => (f3 b' hf).elim h.1 fun h => by omega, hne, h.2⟩
  ·have s2 := k2.size
   exact lk3.step (Kp.refl No _) fun b' l hl h => ⟨id, h.1, h.2.1, h.2.2.elim (fun h => (g1.f b' h)) fun h => .inr (by omega)⟩
  ·exact hk12.trans k3 fun b' h => h.elim (fun h => (g1.f b' h).imp .inl id) fun h => .inl (.inr h)
  ·have s2 := k2.size
   exact (f3 b' hf).elim (fun h => g1.f b' h) fun h => .inr (by omega)
  ·have s2 := k2.size
   exact (z3 b' hf).elim (fun h => g1.z b' h) fun h => .inr (by omega)
end

def zE : ER := ⟨0, 0, 0, 0, bE, false, bE, 0, bE⟩
section
variable {X : X31} {hb : Nat}
theorem step31 (hX : ∀ (p0 : Option Addr) (p1 : Sl) (H : Hp) (Q : Sl → Hp → Prop), F31b X p0 p1 H Q → X p0 p1 H Q) {f : Fo} (hA : A31 X hb f) : W31 X hb f := by
 intro H h S q Q hr p hx hS hM hqn hf hfn hQ
 refine hX _ _ _ _ ?_
 obtain ⟨qs, hqs, hrd⟩ := hf.rd hqn
 obtain ⟨qb, qn, qc⟩ := q
 simp only at hqn
 subst hqn
 have hl := f.len_le
 have hz : (f.heads.zip qs).length = f.len := by rw [List.length_zip, f.heads_len, hqs, Nat.min_self]
 have src : ∀ H', Kp (Fr1 hb h.px S h.nx) H H' → RdL erF H' ⟨qb, f.len, qc⟩ (f.heads.zip qs) := fun H' k => by
  cases f with
  | nil => exact ⟨hrd.n, by show rds H' qb []; unfold rds; cases qb <;> trivial⟩
  | cons r kd s =>
   refine hrd.kp k fun a ha => ?_
   obtain ⟨a', q', ea, hAa, _⟩ := hf
   have ea : qb = some a' := ea
   have ha : qb = some a := ha
   rw [ea] at ha; injection ha with ha; subst ha
   exact fun h => hAa h.fr
 show GrabG (fun a => a) (fun a => a.add 7) 39 41 10 120 (erF.f (zE, Sl.nil)).toArray (some ⟨hb, 0, none⟩) ⟨qb, f.len, qc⟩ (fun x s H62 => F31_L4 X Q (some ⟨hb, 0, none⟩) ⟨qb, f.len, qc⟩ x (f.len : Int) s (f.len : Int) H62) H
 refine grab (fi := 0) (ci := 7) hr rfl (by rw [add_mk, Nat.zero_add]) rfl rfl (by decide) p (by decide) (by decide) (by decide) hx hS src (by rw [hz]; omega) (by rw [hz]; omega) fun b c sp H1 P1 S1 r1 l1 hg hc hmx hrow hlen hk hbs hP => ?_
 rw [hz] at hc
 have hfl := fl_len erF.len (f.heads.zip qs)
 rw [List.length_append, hfl, hz] at hlen
 intro X4 hX4
 refine fill xMk xMk_len (n0 := 0) (b := b) (c := c) (k := 10) (t := 41) (s := Sl.mk (some ⟨b, 0, none⟩) c c) rfl rfl hmx (C := F31_3 X Q (some ⟨hb, 0, none⟩) ⟨qb, f.len, qc⟩ (h.nx : Int) (f.len : Int) (Sl.mk (some ⟨b, 0, none⟩) c c)) (fun y H _ g => hX4 _ _ g) (c - f.len) f.len ((f.heads.zip qs).flatMap erF.f) sp H1 (Nat.zero_le _) (by omega) (by rw [hfl, hz]) (by rw [Nat.sub_mul]; omega) hrow fun H2 r2 k2 => ?_
 have kt2 : KT [41] H1 H2 := KT.of k2 fun b' h => ⟨41, _, by simp, h ▸ hrow⟩
 have r2h := kt2.row r1 (by decide)
 have l2 := kt2.lst l1 (by decide)
 obtain ⟨a, ha, h0, h1, hsome, hfrz, hst⟩ := store l2 hg.lt (Sl.mk (some ⟨b, 0, none⟩) c c)
 refine ⟨_, rfl, P1, r2h.cell_of (i := 0) rfl, a, ha, h0, h1, hsome, hfrz, fun H3 e3 => ?_⟩
 obtain ⟨l3, k3⟩ := hst H3 e3
 have kt3 : KT [39] H2 H3 := KT.of k3 fun b' h => by obtain ⟨sp, h⟩ := l2.row h; exact ⟨39, _, by simp, h⟩
 have r3h : Row H3 hb 32 { h with px := P1, nx := h.nx + 1 }.row := kt3.row r2h (by decide)
 have r3 := kt3.row r2 (by decide)
 have kf : Kp (Fr1 hb h.px S h.nx) H H3 := (hk.trans k2 fun b' e => by subst e; exact hbs.imp (fun h => .inr (.inr h)) id).trans k3 fun b' h => (hP b' h).imp (fun h => .inr (.inl h)) id
 obtain ⟨p3, f3, nf, f0⟩ := p.upd hr (by decide) (by decide) hg l3 r3 (by rw [List.length_append, hfl, hz, mks_len xMk_len, ← Nat.add_mul]; congr 1; omega) hmx kf (fun _ h => .inl h) hbs hP
 have s3 := kf.size
 have b3 := r3.lt
 have hgl := hg.len
 have hbF : Fr hb h.px S h.nx b ∨ H.size ≤ b := hbs.imp (fun ⟨s, h1, h2⟩ => .inr (.inr ⟨h.nx, s, Nat.le_refl _, h1, h2⟩)) id
 intro X6 hX6
 refine kids_loop (C := fun H => Q (Sl.mk (some ⟨b, 0, none⟩) f.len c) H) (h := h) hX6 rfl hc (by omega) (fun H hq => ⟨by omega, by omega, by show ((f.len : Int)).toNat ≤ c; omega, Nat.le_refl _, by rw [show ((f.len : Int)).toNat = f.len from by omega, cutN]; exact hq⟩) f hA 0 [] qs H3 P1 _ (h.nx + 1) (by omega) rfl hqs hfn r3 r3h p3 (by rw [List.length_set]; exact hg.lt) (by rw [List.length_set]; omega) (by omega) (hf.step kf fun b' hl h => ⟨fun hz => h hz.fr, fun hf => (f3 b' hf).elim (fun g => h (g.le (Nat.le_succ _))) fun g => by omega, fun e => by subst e; exact hbF.elim h fun g => by omega⟩) nf fun H'' P'' S'' x'' kg row4 hkg lk4 hr4 hp4 ex4 hx4 hS4 k4 f4 z4 => ?_
 rw [List.length_set] at hS4
 refine hQ _ H'' P'' S'' x'' hr4 hp4 (by omega) hx4 (by omega) ⟨(kf.mono fun b _ h => h.fr).trans k4 fun b' h => ?_, fun b' hf => ?_, fun b' hf => ?_⟩ ⟨b, c, kg, rfl, ⟨fun hf => (f4 b hf).elim nf fun g => by omega, hbF⟩, hc, hmx, hkg, row4, lk4.step (Kp.refl No _) fun b' l hl h => ⟨id, h.1, ?_⟩⟩
 ·rcases h with h | h
  ·exact (f3 b' h).imp (fun g => g.le (Nat.le_succ _)) id
  ·subst h; exact hbF
 ·exact (f4 b' hf).elim (fun g => (f3 b' g).imp (fun g => g.le (Nat.le_succ _)) id) fun g => .inr (by omega)
 ·exact (z4 b' hf).elim (f0 b') fun g => .inr (by omega)
 ·exact h.2.2.elim (fun g => (f3 b' g).imp (fun g => g.le (Nat.le_succ _)) id) fun g => .inr (by omega)
end
theorem c31 {H : Hp} {hb : Nat} {h : Hd} {S : List Sl} {q : Sl} {f : Fo} {Q : Sl → Hp → Prop} (hr : Row H hb 32 h.row) (p : Pool 39 41 10 H h.px S) (hx : h.nx ≤ S.length) (hS : S.length ≤ 1099511627776) (hM : h.nx + 1 + f.nodes ≤ 1099511627776) (hn : q.n = f.len)
  (hf : FoA (fun b => ¬ Fr hb h.px S h.nx b) H q.b 0 f) (hfn : f.nodes ≤ 4194304)
  (hQ : ∀ s H' P' S' n', Row H' hb 32 { h with px := P', nx := n' }.row → Pool 39 41 10 H' P' S' → n' = h.nx + 1 + f.nodes → n' ≤ S'.length → S'.length ≤ max S.length n' → Adv hb H h.px S h.nx H' P' S' n' →
   LX (fun b => ¬ Fr hb P' S' n' b) H' s f → Q s H') : F31 (some ⟨hb, 0, none⟩) q H Q := by
 intro X hX
 have all : ∀ f : Fo, W31 X hb f ∧ A31 X hb f := by
  intro f
  induction f with
  | nil => exact ⟨step31 hX trivial, trivial⟩
  | cons r k s ihk ihs => exact ⟨step31 hX ⟨ihk.1, ihs.2⟩, ihk.1, ihs.2⟩
 refine (all f).1 H h S q Q hr p hx hS hM hn hf hfn fun s H' P' S' n' g1 g2 g3 g4 g5 g6 g7 => hQ s H' P' S' n' g1 g2 g3 g4 g5 g6 (g7.step (Kp.refl No _) fun b l _ h => ⟨id, h.1⟩)

abbrev X33 := Sl → Sl → Hp → (Bool → Hp → Prop) → Prop
def W33 (X : X33) (f : Fo) : Prop := ∀ (H : Hp) (q s : Sl) (Q : Bool → Hp → Prop), Ex (fun _ => True) H q f → LX (fun _ => True) H s f → f.nodes ≤ 4194304 → (∀ H', Kp No H H' → Q true H') → X q s H Q
def A33 (X : X33) : Fo → Prop
 | .nil => True
 | .cons _ k s => W33 X k ∧ A33 X s
section
variable {X : X33} {H : Hp} {Q : Bool → Hp → Prop} {q s : Sl} {n : Nat}
theorem rows33 {X5 : Int → Hp → Prop} {b : Nat} {tail : List Value} (hX : ∀ p0 p1 H Q, F33b X p0 p1 H Q → X p0 p1 H Q) (hX5 : ∀ (y : Int) (H : Hp), F33_L5b X Q X5 q s (n : Int) y H → X5 y H) (hsb : s.b = some ⟨b, 0, none⟩) (hsn : s.n = n) (hqn : q.n = n) (hn4 : n ≤ 4194304) (hQ : ∀ H', Kp No H H' → Q true H') :
  ∀ (g : Fo), A33 X g → ∀ (i : Nat) (V : List (ER × Sl)) (kg : List Sl) (H' : Hp), i + g.len = n → V.length = i → g.nodes ≤ 4194304 → Row H' b 41 ((V ++ g.heads.zip kg).flatMap erF.f ++ tail) → FoA (fun _ => True) H' q.b i g → LK (fun _ => True) H' g kg → Kp No H H' → X5 (i : Int) H' := by
 intro g
 induction g with
 | nil =>
  intro _ i V kg H' hi hV hgn hrow hf lk k
  simp only [Fo.len] at hi
  exact hX5 _ _ ⟨fun g => absurd (of_decide_eq_true g) (by omega), fun _ => hQ H' k⟩
 | cons r kd sf _ ih =>
  intro ⟨wk, wks⟩ i V kg H' hi hV hgn hrow ⟨a, q0, ea, _, hc, hqn0, hfk, hfs⟩ ⟨s1, kg', ekg, lx1, lks⟩ k
  subst ekg
  simp only [Fo.len] at hi
  simp only [Fo.nodes] at hgn
  rw [zip_cons] at hrow
  have it : ((i : Nat) : Int).toNat = i := by omega
  have hal : (a.add (i * 10)).block < H'.size := cells_block hc (fun h => by cases h)
  have ca : ∀ {Hx}, Kp No H' Hx → cells Hx (a.add ((i : Int).toNat * 10)) (r.row q0) 0 := fun kx => by rw [it]; exact kx.cells hal id hc
  have cb : ∀ {Hx}, Kp No H' Hx → cells Hx ((⟨b, 0, none⟩ : Addr).add ((i : Int).toNat * 10)) (r.row s1) 0 := fun kx => by
   rw [it, add_mk]
   refine (kx.row hrow id).cells ?_
   rw [Nat.zero_add, Nat.add_zero]
   exact lk_lo erF (x := (r, s1)) (by rw [List.getElem?_append_right (by omega), hV, Nat.sub_self]; rfl)
  have ver : (!(decide (r.vk = r.vk) && (decide (r.vi = r.vi) && (seq r.vs r.vs && (r.vb == r.vb))))) = false := by simp [seq_self]
  have six : ∀ (wa wb : Nat) (Hx : Hp), Row Hx wa 41 (r.row q0) → Row Hx wb 41 (r.row s1) → Kp No H' Hx → F33_6 X Q X5 q s (n : Int) (i : Int) ⟨wa, 0, none⟩ ⟨wb, 0, none⟩ Hx := fun wa wb Hx ra rb kx => by
   refine ⟨_, ra.cell_of (i := 0) rfl, _, rb.cell_of (i := 0) rfl, fun g => absurd rfl (of_decide_eq_true g), fun _ => ⟨_, rowc (i := 1) ra rfl, _, rowc (i := 1) rb rfl, fun g => absurd rfl (of_decide_eq_true g), fun _ => ⟨r.vk, r.vi, r.vs, r.vb, rowcs (i := 2) (m := [.int .i64 r.vk, .int .i64 r.vi, .string r.vs, .bool r.vb]) ra rfl, r.vk, r.vi, r.vs, r.vb, rowcs (i := 2) (m := [.int .i64 r.vk, .int .i64 r.vi, .string r.vs, .bool r.vb]) rb rfl, fun g => ?_, fun _ => ⟨_, rowc (i := 6) ra rfl, _, rowc (i := 6) rb rfl, fun g => ?_, fun _ => ⟨_, rowc (i := 7) ra rfl, _, rowc (i := 7) rb rfl, fun g => absurd rfl (of_decide_eq_true g), fun _ => ⟨_, rowc (i := 8) ra rfl, _, rowc (i := 8) rb rfl, fun g => ?_, fun _ => ⟨q0, rowc (i := 9) ra rfl, s1, rowc (i := 9) rb rfl, ?_⟩⟩⟩⟩⟩⟩⟩
   ·rw [ver] at g; cases g
   ·rw [seq_self] at g; cases g
   ·rw [seq_self] at g; cases g
   ·refine wk Hx q0 s1 _ ⟨hqn0, hfk.step kx fun _ _ _ => ⟨id, trivial⟩⟩ (LX.step kx (fun _ _ _ _ => ⟨id, trivial⟩) lx1) (by omega) fun H192 k192 => ⟨fun h => (by cases h), fun _ => ?_⟩
    have kk := kx.no2 k192
    rw [wr (by omega) (by omega), show ((i : Int) + 1) = ((i + 1 : Nat) : Int) by omega]
    exact ih wks (i + 1) (V ++ [(r, s1)]) kg' H192 (by omega) (by rw [List.length_append, hV]; rfl) (by omega) (by rw [List.append_assoc]; exact kk.row hrow id) (hfs.step kk fun _ _ _ => ⟨id, trivial⟩) (lks.step kk fun _ _ _ _ => ⟨id, trivial⟩) (k.no2 kk)
  refine hX5 _ _ ⟨fun _ => ⟨a, ea, by omega, by omega, _, _, _, _, _, _, _, _, _, _, ca (Kp.refl _ _), _, hsb, by omega, by omega, _, _, _, _, _, _, _, _, _, _, cb (Kp.refl _ _), fun H109 e109 => ?_, fun H126 e126 => ?_⟩, fun g => absurd (of_decide_eq_false g) (by omega)⟩
  ·have k109 : Kp No H' H109 := (Kp.refl _ _).push' e109
   have s109 := size_push' e109
   refine ⟨cb k109, ca k109, fun H113 e113 => ?_⟩
   have k113 := k109.push' e113
   have ra := (Row.new' e109).push' e113
   have rb := Row.new' e113
   refine ⟨cb k113, ca k113, ra.mayw (by simp), fun H117 e117 => ?_⟩
   have k117 : Kp No H' H117 := k113.sets' e117 (.inr (Nat.le_refl _))
   have ra2 := ra.fill' e117 rfl
   have rb2 := rb.sets_ne' e117 (by show H109.size ≠ H'.size; omega)
   refine ⟨cb k117, rb2.mayw (by simp), fun H121 e121 => ?_⟩
   exact six _ _ H121 (ra2.sets_ne' e121 (by show H'.size ≠ H109.size; omega)) (rb2.fill' e121 rfl) (k117.sets' e121 (.inr (by show H'.size ≤ H109.size; omega)))
  ·have k126 : Kp No H' H126 := (Kp.refl _ _).push' e126
   have s126 := size_push' e126
   refine ⟨cb k126, ca k126, fun H130 e130 => ?_⟩
   have k130 := k126.push' e130
   have rb := (Row.new' e126).push' e130
   have ra := Row.new' e130
   refine ⟨cb k130, ca k130, ra.mayw (by simp), fun H134 e134 => ?_⟩
   have k134 : Kp No H' H134 := k130.sets' e134 (.inr (by show H'.size ≤ H126.size; omega))
   have ra2 := ra.fill' e134 rfl
   have rb2 := rb.sets_ne' e134 (by show H'.size ≠ H126.size; omega)
   refine ⟨cb k134, rb2.mayw (by simp), fun H138 e138 => ?_⟩
   exact six _ _ H138 (ra2.sets_ne' e138 (by show H126.size ≠ H'.size; omega)) (rb2.fill' e138 rfl) (k134.sets' e138 (.inr (Nat.le_refl _)))
theorem step33 (hX : ∀ p0 p1 H Q, F33b X p0 p1 H Q → X p0 p1 H Q) {f : Fo} (hA : A33 X f) : W33 X f := by
 intro H q s Q hex hlx hfn hQ
 refine hX _ _ _ _ ?_
 have hqn := hex.n
 have hl := f.len_le
 obtain ⟨b, c, ks, rfl, _, hc, hmx, hks, hrow, lk⟩ := hlx
 have hz : (f.heads.zip ks).length = f.len := by rw [List.length_zip, f.heads_len, hks, Nat.min_self]
 have go : F33_1 X Q q (Sl.mk (some ⟨b, 0, none⟩) f.len c) (q.n : Int) false H := by
  refine ⟨fun h => (by cases h), fun _ => ⟨Int.natCast_nonneg _, Nat.zero_le _, by show (c : Int).toNat ≤ c; omega, Nat.le_refl _, ?_⟩⟩
  show F33_L3 X Q q (Sl.mk (some ⟨b, 0, none⟩) f.len c) (q.n : Int) (Sl.cut (Sl.mk (some ⟨b, 0, none⟩) f.len c) 10 0 ((c : Int).toNat) c) (q.n : Int) H
  have ec : Sl.cut (Sl.mk (some ⟨b, 0, none⟩) f.len c) 10 0 ((c : Int).toNat) c = Sl.mk (some ⟨b, 0, none⟩) c c := by
   rw [show ((c : Int)).toNat = c from by omega]
   unfold Sl.cut
   rw [if_neg (by omega)]; rfl
  rw [ec, hqn]
  intro X3 hX3
  suffices G : ∀ (d i : Nat) (H' : Hp), f.len ≤ i → i + d = c → Kp No H H' → X3 (i : Int) H' from G (c - f.len) f.len H (Nat.le_refl _) (by omega) (Kp.refl _ _)
  intro d
  induction d with
  | zero =>
   intro i H' hfi hi k
   refine hX3 _ _ ⟨fun g => absurd (of_decide_eq_true g) (by show ¬ (i : Int) < (c : Int); omega), fun _ => ?_⟩
   intro X5 hX5
   exact rows33 hX hX5 rfl rfl hqn (by omega) hQ f hA 0 [] ks H' (by omega) rfl hfn (k.row hrow id) (hex.f.step k fun _ _ _ => ⟨id, trivial⟩) (lk.step k fun _ _ _ _ => ⟨id, trivial⟩) k
  | succ d ih =>
   intro i H' hfi hi k
   have it : ((i : Nat) : Int).toNat = i := by omega
   refine hX3 _ _ ⟨fun _ => ⟨_, rfl, by omega, by show (i : Int) < (c : Int); omega, IntKind.i64.wrap (77 + (i : Int)), 0, 0, 0, bE, false, bE, 0, bE, Sl.nil, ?_, fun H36 e36 => ?_⟩, fun g => absurd (of_decide_eq_false g) (by show ¬ ¬ (i : Int) < (c : Int); omega)⟩
   ·rw [it, add_mk]
    refine (k.row hrow id).cells ?_
    rw [Nat.zero_add, Nat.add_zero, ← hz]
    exact lk_hi erF xMk_len (by omega) (by omega)
   have k36 := k.push' e36
   have r36 := Row.new' e36
   refine ⟨r36.mayw (by simp), fun H38 e38 => ?_⟩
   have r38 : Row H38 H'.size 41 (xMk i) := r36.fill' e38 rfl
   have k38 : Kp No H H38 := k36.sets' e38 (.inr k.size)
   refine ⟨_, r38.cell_of (i := 0) rfl, fun g => absurd rfl (of_decide_eq_true g), fun _ => ⟨_, rowc (i := 1) r38 rfl, fun g => absurd rfl (of_decide_eq_true g), fun _ => ⟨_, rowc (i := 6) r38 rfl, fun g => ?_, fun _ => ⟨_, rowc (i := 7) r38 rfl, fun g => absurd rfl (of_decide_eq_true g), fun _ => ⟨_, rowc (i := 8) r38 rfl, fun g => ?_, fun _ => ⟨Sl.nil, rowc (i := 9) r38 rfl, ?_⟩⟩⟩⟩⟩⟩
   ·rw [seq_self] at g; cases g
   ·rw [seq_self] at g; cases g
   ·refine ⟨fun g => absurd rfl (of_decide_eq_true g), fun _ => ?_⟩
    rw [wr (by omega) (by omega), show ((i : Int) + 1) = ((i + 1 : Nat) : Int) by omega]
    exact ih (i + 1) H38 (by omega) (by omega) k38
 refine ⟨fun g => absurd (of_decide_eq_true g) (by show ¬ ((f.len : Int) ≠ (q.n : Int)); omega), fun _ => ?_⟩
 rw [show decide (((Sl.mk (some ⟨b, 0, none⟩) f.len c).c : Int) ≤ (q.n : Int)) = false from decide_eq_false (by show ¬ ((c : Int) ≤ (q.n : Int)); omega)]
 exact go
end
theorem c33 {H : Hp} {A0 A : Nat → Prop} {q s : Sl} {f : Fo} {Q : Bool → Hp → Prop} (hex : Ex A0 H q f) (hlx : LX A H s f) (hfn : f.nodes ≤ 4194304) (hQ : ∀ H', Kp No H H' → Q true H') : F33 q s H Q := by
 intro X hX
 have all : ∀ f : Fo, W33 X f ∧ A33 X f := by
  intro f
  induction f with
  | nil => exact ⟨step33 hX trivial, trivial⟩
  | cons r k s ihk ihs => exact ⟨step33 hX ⟨ihk.1, ihs.2⟩, ihk.1, ihs.2⟩
 exact (all f).1 H q s Q ⟨hex.n, hex.f.step (Kp.refl No _) fun _ _ _ => ⟨id, trivial⟩⟩ (hlx.step (Kp.refl No _) fun _ _ _ _ => ⟨id, trivial⟩) hfn hQ
end Go.Hw
