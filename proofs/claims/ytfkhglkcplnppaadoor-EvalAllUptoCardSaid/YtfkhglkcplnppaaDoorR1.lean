/- The document's own attributes. The document's references: what is bound, the event that is meant. Values that may be, and their order. The document's references' values; operations on one value. Own work of this session. -/
import Derived.Test.YtfkhglkcplnppaaDoorE9
set_option linter.unusedVariables false
namespace Go.Hw
open Go

section
variable {H H0 : Hp}
theorem c47 {p0 : Int} {Q : Int → Int → ByteArray → Bool → Hp → Prop} (hQ : ∀ H', Kp No H H' → Q 1 p0 E false H') : F47 p0 H Q := by
 intro H1 e1
 exact ret4 (Row.new' e1) rfl ⟨1, p0, E, false⟩ fun H' _ k => hQ H' (((Kp.refl No H).push' e1).box k (Nat.le_refl _))
theorem c52 {p0 : Bool} {Q : Int → Int → ByteArray → Bool → Hp → Prop} (hQ : ∀ H', Kp No H H' → Q 3 0 E p0 H') : F52 p0 H Q := by
 intro H1 e1
 exact ret4 (Row.new' e1) rfl ⟨3, 0, E, p0⟩ fun H' _ k => hQ H' (((Kp.refl No H).push' e1).box k (Nat.le_refl _))
theorem c48 {v : VT} {Q : Bool → Hp → Prop} (hQ : ∀ H', Kp No H H' → Q (vld v) H') : F48 v.k v.n v.s v.b H Q := by
 intro H1 e1
 have k1 : Kp No H H1 := (Kp.refl _ _).push' e1
 have r1 : Row H1 H.size 38 v.row := Row.new' e1
 have hq := hQ H1 k1
 obtain ⟨k, n, s, b⟩ := v
 unfold vld at hq
 simp only at hq
 refine ⟨_, r1.cell_of rfl, fun h1 => ⟨_, rowc (i := 2) r1 rfl, fun h2 => ⟨_, rowc (i := 3) r1 rfl, ?_⟩, fun h2 => ?_⟩, fun h1 => ⟨fun h2 => ⟨_, rowc (i := 1) r1 rfl, fun h3 => ⟨_, rowc (i := 3) r1 rfl, fun h4 => ⟨_, rowc (i := 2) r1 rfl, ?_⟩, fun h4 => ?_⟩, fun h3 => ?_⟩, fun h2 => ⟨fun h3 => ⟨_, rowc (i := 1) r1 rfl, fun h4 => ⟨_, rowc (i := 2) r1 rfl, ?_⟩, fun h4 => ?_⟩, fun h3 => ?_⟩⟩⟩
 ·rw [if_pos (of_decide_eq_true h1), h1, show seq s E = true from h2] at hq
  cases b <;> simpa using hq
 ·rw [if_pos (of_decide_eq_true h1), h1, show seq s E = false from h2] at hq
  simpa using hq
 ·have h1 := of_decide_eq_false h1
  have e2 := of_decide_eq_true h2
  have e3 := of_decide_eq_true h3
  rw [if_neg h1, if_pos e2] at hq
  simp only at e2 e3
  subst e2 e3
  have hb : b = false := by simpa using h4
  subst hb
  rw [if_pos (by rw [show seq s s = true from (seq_dec s s).trans (decide_eq_true rfl)]; rfl)] at hq
  exact hq
 ·have h1 := of_decide_eq_false h1
  have hb : b = true := by simpa using h4
  subst hb
  rw [if_neg h1, if_pos (of_decide_eq_true h2), if_neg (by simp)] at hq
  exact hq
 ·have h1 := of_decide_eq_false h1
  rw [if_neg h1, if_pos (of_decide_eq_true h2), if_neg (by rw [h3]; simp)] at hq
  exact hq
 ·have h1 := of_decide_eq_false h1
  have h2 := of_decide_eq_false h2
  rw [if_neg h1, if_neg h2, if_pos (of_decide_eq_true h3), h3, h4] at hq
  simpa using hq
 ·have h1 := of_decide_eq_false h1
  have h2 := of_decide_eq_false h2
  rw [if_neg h1, if_neg h2, if_pos (of_decide_eq_true h3), h4] at hq
  simpa using hq
 ·have h1 := of_decide_eq_false h1
  have h2 := of_decide_eq_false h2
  rw [if_neg h1, if_neg h2, if_neg (of_decide_eq_false h3)] at hq
  exact hq
theorem c29 {ev : EvM} {vals : Sl} {name : ByteArray} {ts : Sl} {T : List TyM} {Q : Int → Int → ByteArray → Bool → Int → Hp → Prop} (hv : RdL vF H vals ev.vals) (ht : TysH H ts T)
  (hQ : ∀ H', Kp No H H' → Q (attrP T ev name).1.k (attrP T ev name).1.n (attrP T ev name).1.s (attrP T ev name).1.b (attrP T ev name).2 H') : F29 ev.ty ev.time vals name ts H Q := by
 intro H1 e1 H3 e3 H5 e5
 have k1 : Kp No H H1 := (Kp.refl _ _).push' e1
 have k3 : Kp No H H3 := k1.push' e3
 have k5 : Kp No H H5 := k3.push' e5
 have r1 : Row H5 H.size 36 [.string ev.ty, .int .i64 ev.time, Sl.v vals] := ((Row.new' e1).push' e3).push' e5
 have r3 : Row H5 H1.size 38 zeroV.row := (Row.new' e3).push' e5
 have r5 : Row H5 H3.size 38 zeroV.row := Row.new' e5
 have s1 := size_push' e1
 have out : ∀ {Hx : Hp} (v : VT) (n : Int), Kp No H5 Hx → attrP T ev name = (v, n) → mayw Hx ⟨H1.size, 0, none⟩ 4 0 ∧ ∀ H' : Hp, H' = sets Hx ⟨H1.size, 0, none⟩ [(.int .i64 v.k), (.int .i64 v.n), (.string v.s), (.bool v.b)] 0 →
   (∃ (x6 : Int) (x7 : Int) (x8 : ByteArray) (x9 : Bool), cells H' ⟨H1.size, 0, none⟩ [(.int .i64 x6), (.int .i64 x7), (.string x8), (.bool x9)] 0 ∧ (Q x6 x7 x8 x9 n H')) := fun {Hx} v n k e => by
  refine ret4 (K := fun a b c d H' => Q a b c d n H') (k.row r3 id) rfl v fun H' _ k' => ?_
  have q := hQ H' ((k5.no2 k).box k' (by omega))
  rw [e] at q
  exact q
 unfold attrP at out
 refine ⟨fun hh => ⟨ev.time, rowc r1 rfl, c47 fun H10 k10 => out (numV ev.time) 0 k10 (by rw [if_pos hh])⟩, fun hh => ?_⟩
 rw [if_neg (by rw [hh]; decide)] at out
 obtain ⟨R, hR, hRl, hRt⟩ := (ht.no k5).rows
 have hRn := hR.n
 have tsm : T.length ≤ 4194304 := ht.small
 have hvn := hv.n
 intro X hX
 suffices G : ∀ (d i : Nat) H', i + d = T.length → (∀ (j : Nat) (t : TyM), j < i → T[j]? = some t → seq t.1 ev.ty = false) → Kp No H5 H' → X i H' from G _ 0 H5 (Nat.zero_add _) (fun j t h => by omega) (Kp.refl _ _)
 intro d
 induction d with
 | zero =>
  intro i H' hi h0 k
  refine hX _ _ ⟨fun h => absurd (of_decide_eq_true h) (by omega), fun _ => ⟨_, _, _, _, (k.row r5 id).all, out zeroV 21 k ?_⟩⟩
  rw [fnone fun j x hj hx => h0 j x (by omega) hx]
 | succ d ih =>
  intro i H' hi h0 k
  obtain ⟨r, gr⟩ : ∃ r, R[i]? = some r := ⟨_, List.getElem?_eq_getElem (by omega)⟩
  obtain ⟨t, gt⟩ : ∃ t, T[i]? = some t := ⟨_, List.getElem?_eq_getElem (by omega)⟩
  obtain ⟨er, hA, hAl⟩ := hRt i r t gr gt
  have hAl' : t.2.length ≤ 4194304 := hAl
  obtain ⟨p, hp, hpn, cp⟩ := (hR.kp0 k).get gr
  have it : ((i : Int)).toNat = i := by omega
  refine hX _ _ ⟨fun _ => ⟨p, hp, by omega, by omega, r.1, by rw [it]; exact cp.1, ev.ty, (k.row r1 id).cell_of (i := 0) rfl, fun hne => ?_, fun heq => ⟨p, hp, by omega, by omega, r.2, by rw [it]; exact cp.2.1, ?_⟩⟩, fun h => absurd (of_decide_eq_false h) (by omega)⟩
  ·have hne : seq t.1 ev.ty = false := by rw [← er]; simpa using hne
   rw [wr (by omega) (by omega), show ((i : Int) + 1) = ((i + 1 : Nat) : Int) by omega]
   refine ih (i + 1) H' (by omega) (fun j y hj hy => ?_) k
   by_cases e : j = i
   ·subst e; rw [gt] at hy; injection hy with hy; rw [← hy]; exact hne
   ·exact h0 j y (by omega) hy
  ·have heq : seq t.1 ev.ty = true := by rw [← er]; simpa using heq
   rw [fsome gt heq h0] at out
   simp only [gt, Option.getD_some] at out
   have hAn := hA.n
   intro X4 hX4
   suffices G : ∀ (d' j : Nat) H'', j + d' = t.2.length → (∀ (m : Nat) (a : ByteArray × Int), m < j → t.2[m]? = some a → seq a.1 name = false) → Kp No H5 H'' → X4 j H'' from G _ 0 H' (Nat.zero_add _) (fun m a h => by omega) k
   intro d'
   induction d' with
   | zero =>
    intro j H'' hj h1 k'
    refine hX4 _ _ ⟨fun h => absurd (of_decide_eq_true h) (by omega), fun _ => ⟨_, _, _, _, (k'.row r5 id).all, out zeroV 82 k' ?_⟩⟩
    rw [fnone fun m x hm hx => h1 m x (by omega) hx]
   | succ d' ih' =>
    intro j H'' hj h1 k'
    obtain ⟨a, ga⟩ : ∃ a, t.2[j]? = some a := ⟨_, List.getElem?_eq_getElem (by omega)⟩
    obtain ⟨q, hq, hqn, cq⟩ := (hA.kp0 k').get ga
    have jt : ((j : Int)).toNat = j := by omega
    have r1' := k'.row r1 id
    have hv' := hv.kp0 (k5.no2 k')
    refine hX4 _ _ ⟨fun _ => ⟨q, hq, by omega, by omega, a.1, by rw [jt]; exact cq.1, fun hne => ?_, fun heq' => ⟨vals, rowc r1' rfl, fun hle => ⟨_, _, _, _, (k'.row r5 id).all, out zeroV 22 k' ?_⟩, fun hgt => ⟨vals, rowc r1' rfl, ?_⟩⟩⟩, fun h => absurd (of_decide_eq_false h) (by omega)⟩
    ·have hne : seq a.1 name = false := by simpa using hne
     rw [wr (by omega) (by omega), show ((j : Int) + 1) = ((j + 1 : Nat) : Int) by omega]
     refine ih' (j + 1) H'' (by omega) (fun m y hm hy => ?_) k'
     by_cases e : m = j
     ·subst e; rw [ga] at hy; injection hy with hy; rw [← hy]; exact hne
     ·exact h1 m y (by omega) hy
    ·have hle := of_decide_eq_true hle
     rw [fsome ga (by simpa using heq') h1]
     simp only []
     rw [List.getElem?_eq_none (by omega)]
    ·have hgt := of_decide_eq_false hgt
     rw [fsome ga (by simpa using heq') h1] at out
     simp only [ga, Option.getD_some] at out
     obtain ⟨v, gv⟩ : ∃ v, ev.vals[j]? = some v := ⟨_, List.getElem?_eq_getElem (by omega)⟩
     rw [gv] at out
     simp only [] at out
     obtain ⟨pv, hpv, hpvn, cv⟩ := hv'.get gv
     refine ⟨pv, hpv, by omega, by omega, v.k, by rw [jt]; exact cv.1, q, hq, by omega, by omega, a.2, by rw [jt]; exact cq.2.1, fun hk => ⟨_, _, _, _, (k'.row r5 id).all, out zeroV 10 k' ?_⟩, fun hk => ⟨vals, rowc r1' rfl, pv, hpv, by omega, by omega, _, _, _, _, by rw [jt]; exact cv, c48 fun H119 k119 => ⟨fun hvd => ⟨_, _, _, _, ((k'.no2 k119).row r5 id).all, out zeroV 12 (k'.no2 k119) ?_⟩, fun hvd => ?_⟩⟩⟩
     ·rw [if_pos (of_decide_eq_true hk)]
     ·rw [if_neg (of_decide_eq_false hk), if_neg (by simpa using hvd)]
     ·obtain ⟨pv2, hpv2, _, cv2⟩ := (hv.kp0 (k5.no2 (k'.no2 k119))).get gv
      rw [hpv] at hpv2; cases hpv2
      refine ⟨vals, rowc (k119.row r1' id) rfl, pv, hpv, by omega, by omega, _, _, _, _, by rw [jt]; exact cv2, out v 0 (k'.no2 k119) ?_⟩
      rw [if_neg (of_decide_eq_false hk), if_pos (by simpa using hvd)]
end

theorem rowcs {H : Hp} {b t i : Nat} {l m : List Value} (h : Row H b t l) (e : (l.drop i).take m.length = m) : cells H (Addr.add ⟨b, 0, none⟩ i) m 0 := by
 rw [add_mk]; exact h.cells (by rw [Nat.add_zero, Nat.zero_add]; exact e)
theorem seq_comm (a b : ByteArray) : seq a b = seq b a := by
 have h1 : seq a b = decide (a = b) := seq_dec a b
 have h2 : seq b a = decide (b = a) := seq_dec b a
 rw [h1, h2]
 by_cases e : a = b
 ·subst e; rfl
 ·rw [decide_eq_false e, decide_eq_false (fun h => e h.symm)]
theorem seq_true {a b : ByteArray} : seq a b = true ↔ a = b := by
 have h1 : seq a b = decide (a = b) := seq_dec a b
 rw [h1, decide_eq_true_iff]
structure EnvC (H : Hp) (p0 p1 : Sl) (p2 p3 : ByteArray) (p4 : Int) (p5 p6 : Sl) (m : EnvM) : Prop where
 h : EnvH H p0 p1 p2 p3 p4 p5 p6 m
 b : ∃ L : List Sl, RdL slF H p1 L ∧ L.length = m.bound.length ∧ ∀ (i : Nat) (s : Sl) (evs : List EvM), L[i]? = some s → m.bound[i]? = some evs → EvsH H s evs ∧ s.n ≤ s.c
section
variable {H H0 : Hp} {p0 p1 : Sl} {p2 p3 : ByteArray} {p4 : Int} {p5 p6 : Sl} {m : EnvM}
theorem EnvC.no {H' : Hp} (h : EnvC H p0 p1 p2 p3 p4 p5 p6 m) (k : Kp No H H') : EnvC H' p0 p1 p2 p3 p4 p5 p6 m := by
 obtain ⟨L, h1, h2, h3⟩ := h.b
 exact ⟨h.h.no k, L, h1.kp0 k, h2, fun i s e hs he => ⟨(h3 i s e hs he).1.no k, (h3 i s e hs he).2⟩⟩
theorem c75 {name : ByteArray} {Q : Sl → Bool → Hp → Prop} (h : EnvC H p0 p1 p2 p3 p4 p5 p6 m) (q0 : ∀ H', boundP m name = none → Kp No H H' → Q Sl.nil false H')
  (q1 : ∀ s l H', boundP m name = some l → EvsH H s l → s.n ≤ s.c → Kp No H H' → Q s true H') : F75 p0 p1 p2 p3 p4 p5 p6 name H Q := by
 intro H1 e1
 have k1 : Kp No H H1 := (Kp.refl _ _).push' e1
 have r1 : Row H1 H.size 43 (envRow p0 p1 p2 p3 p4 p5 p6) := Row.new' e1
 have h1 := h.no k1
 obtain ⟨L, hL, hLl, hLb⟩ := h1.b
 obtain ⟨L0, hL0, hLl0, hLb0⟩ := h.b
 have hn0 := hL0.n
 have hv := h1.h.vars
 have hvn := hv.n
 have vs : m.vars.length ≤ 4194304 := h.h.vs
 intro X hX
 suffices G : ∀ (d i : Nat), i + d = m.vars.length → (∀ (j : Nat) (x : ByteArray), j < i → m.vars[j]? = some x → seq name x = false) → X (i : Int) H1 from G _ 0 (Nat.zero_add _) (fun j x h => by omega)
 intro d
 induction d with
 | zero =>
  intro i hi h0
  refine hX _ _ ⟨p0, r1.cell_of rfl, fun hh => absurd (of_decide_eq_true hh) (by omega), fun _ => q0 H1 ?_ k1⟩
  unfold boundP
  rw [fnone fun j x hj hx => h0 j x (by omega) hx]; rfl
 | succ d ih =>
  intro i hi h0
  obtain ⟨x, gx⟩ : ∃ x, m.vars[i]? = some x := ⟨_, List.getElem?_eq_getElem (by omega)⟩
  obtain ⟨p, hp, hpn, cp⟩ := hv.get gx
  have it : ((i : Int)).toNat = i := by omega
  refine hX _ _ ⟨p0, r1.cell_of rfl, fun _ => ⟨p0, r1.cell_of rfl, p, hp, by omega, by omega, x, by rw [it]; exact cp.1, fun heq => ?_, fun hne => ?_⟩, fun hh => absurd (of_decide_eq_false hh) (by omega)⟩
  ·have e : boundP m name = m.bound[i]? := by unfold boundP; rw [fsome gx (by rw [seq_comm]; exact heq) h0]; rfl
   refine ⟨p1, rowc (i := 1) r1 rfl, fun hh => ?_, fun hh => ?_⟩
   ·have hh := of_decide_eq_true hh
    obtain ⟨s, gs⟩ : ∃ s, L0[i]? = some s := ⟨_, List.getElem?_eq_getElem (by omega)⟩
    obtain ⟨l, gl⟩ : ∃ l, m.bound[i]? = some l := ⟨_, List.getElem?_eq_getElem (by omega)⟩
    obtain ⟨p, hp, hpn, cp⟩ := (hL0.kp0 k1).get gs
    exact ⟨p1, rowc (i := 1) r1 rfl, p, hp, by omega, by omega, s, by rw [it]; exact cp.1, q1 s l H1 (e.trans gl) (hLb0 i s l gs gl).1 (hLb0 i s l gs gl).2 k1⟩
   ·have hh := of_decide_eq_false hh
    exact q0 H1 (by rw [e, List.getElem?_eq_none (by omega)]) k1
  ·rw [wr (by omega) (by omega), show ((i : Int) + 1) = ((i + 1 : Nat) : Int) by omega]
   refine ih (i + 1) (by omega) fun j y hj hy => ?_
   by_cases e : j = i
   ·subst e; rw [gx] at hy; injection hy with hy; rw [← hy, seq_comm]; exact hne
   ·exact h0 j y (by omega) hy
def One (H : Hp) (s : Sl) (o : EvM × Int) : Prop := (o.2 = 110 ∧ s.n = 0) ∨ (o.2 = 0 ∧ s.n = 1 ∧ ∃ a vs, s.b = some a ∧ cells H a [.string o.1.ty, .int .i64 o.1.time, Sl.v vs] 0 ∧ RdL vF H vs o.1.vals)
theorem take_it (m : EnvM) (v : ByteArray) : (if seq v m.it = true then !(seq m.it E) else false) = takeP m v := by
 unfold takeP
 by_cases e : seq v m.it = true
 ·rw [if_pos e, ← seq_true.1 e]
  by_cases g : seq v E = true
  ·rw [g]; rfl
  ·rw [show seq v E = false by simpa using g]
   show true = _
   rw [if_pos (show (!false) = true from rfl)]
   exact (seq_self v).symm
 ·rw [if_neg e]
  split
  ·simpa using e
  ·rfl
theorem c74 {r : ER} {q : Sl} {Q : Sl → Hp → Prop} (h : EnvC H p0 p1 p2 p3 p4 p5 p6 m) (hp : 1 ≤ r.p ∧ r.p ≤ 5) (hQ : ∀ s H', One H' s (eventP m r.v r.p) → Kp No H H' → Q s H') :
  F74 r.k r.o r.vk r.vi r.vs r.vb r.v r.p r.a q p0 p1 p2 p3 p4 p5 p6 H Q := by
 intro H1 e1 H3 e3
 have k1 : Kp No H H1 := (Kp.refl _ _).push' e1
 have k3 : Kp No H H3 := k1.push' e3
 have r1 : Row H3 H.size 41 (r.row q) := (Row.new' e1).push' e3
 have r2 : Row H3 H1.size 43 (envRow p0 p1 p2 p3 p4 p5 p6) := Row.new' e3
 have eit := h.h.it
 subst eit
 have main : ∀ (s : Sl) (l : List EvM) (H15 : Hp), (boundP m r.v).getD [] = l → EvsH H15 s l → s.n ≤ s.c → Kp No H3 H15 → ∀ b, b = takeP m r.v → F74_1 Q ⟨H.size, 0, none⟩ ⟨H1.size, 0, none⟩ s (s.n : Int) b H15 := fun s l H15 hl hs hc k b hb => by
  obtain ⟨R, hR, hRl, hRe⟩ := hs.rows
  have hn := hR.n
  have hsm : l.length ≤ 4194304 := hs.small
  have r1' := k.row r1 id
  have r2' := k.row r2 id
  have hq := fun s H' (ho : One H' s (eventP m r.v r.p)) (k' : Kp No H15 H') => hQ s H' ho (k3.no2 (k.no2 k'))
  have nil : (eventP m r.v r.p).2 = 110 → Q Sl.nil H15 := fun e => hq Sl.nil H15 (.inl ⟨e, rfl⟩) (Kp.refl _ _)
  unfold eventP at hq nil
  rw [hl] at hq nil
  have z110 : ∀ i, l.length = 0 → (atP l i).2 = 110 := fun i e => by unfold atP; rw [List.getElem?_eq_none (by omega)]
  have at0 : ∀ i, i < l.length → ∃ e, l[i]? = some e ∧ atP l i = (e, 0) := fun i hi => by
   obtain ⟨e, ge⟩ : ∃ e, l[i]? = some e := ⟨_, List.getElem?_eq_getElem hi⟩
   exact ⟨e, ge, by unfold atP; rw [ge]⟩
  have one : ∀ (i : Nat) (s' : Sl), i < l.length → s'.n = 1 → (∀ a, s.b = some a → s'.b = some (a.add (i * 3))) → One H15 s' (atP l i) := fun i s' hi h1 hb => by
   obtain ⟨e, ge, ea⟩ := at0 i hi
   obtain ⟨x, gx⟩ : ∃ x, R[i]? = some x := ⟨_, List.getElem?_eq_getElem (by omega)⟩
   obtain ⟨y1, y2, y3⟩ := hRe i x e gx ge
   obtain ⟨a, ha, _, ca⟩ := hR.get gx
   rw [ea]
   refine .inr ⟨rfl, h1, a.add (i * 3), x.2.2, hb a ha, ?_, y3⟩
   rw [← y1, ← y2]; exact ca
  refine ⟨_, rowc (i := 7) r1' rfl, fun h2 => ⟨fun ht => ?_, fun ht => ?_⟩, fun h2 => ?_⟩
  ·have h2 := of_decide_eq_true h2
   refine ⟨_, _, _, rowcs (i := 3) (m := [.string p3, .int .i64 p4, Sl.v p5]) r2' rfl, fun H40 e40 => ?_⟩
   have k40 : Kp No H15 H40 := (Kp.refl _ _).push' e40
   have y40 : Row H40 H15.size 36 [.string p3, .int .i64 p4, Sl.v p5] := Row.new' e40
   refine hq _ H40 ?_ k40
   rw [if_pos h2, if_pos (by rw [← hb]; exact ht)]
   refine .inr ⟨rfl, rfl, _, p5, rfl, ?_, (h.no (k3.no2 (k.no2 k40))).h.nvals⟩
   rw [← h.h.nty, ← h.h.ntime]
   exact y40.all
  ·have h2 := of_decide_eq_true h2
   refine nil ?_
   rw [if_pos h2, if_neg (by rw [← hb, ht]; decide)]
  ·have h2 := of_decide_eq_false h2
   rw [if_neg h2] at nil
   simp only [if_neg h2] at hq
   have c2 : ∀ b2, (b2 = true → (l.length = 0 ∨ (r.p = 3 ∧ takeP m r.v = false))) → (b2 = false → l.length ≠ 0 ∧ (r.p = 3 → takeP m r.v = true)) → F74_2 Q ⟨H.size, 0, none⟩ s (s.n : Int) b2 H15 := fun b2 g1 g2 => by
    refine ⟨fun g => nil ?_, fun g => ?_⟩
    ·rcases g1 g with e | ⟨e, e2⟩
     ·by_cases p3 : r.p = 3
      ·rw [if_pos p3]; split
       ·exact z110 _ e
       ·rfl
      ·rw [if_neg p3]
       by_cases p5 : r.p = 5
       ·rw [if_pos p5]; exact z110 _ e
       ·rw [if_neg p5]
        by_cases p1 : r.p = 1
        ·rw [if_pos p1]; exact z110 _ e
        ·rw [if_neg p1, if_pos (by omega)]; exact z110 _ e
     ·rw [if_pos e, if_neg (by rw [e2]; decide)]
    ·obtain ⟨g3, g4⟩ := g2 g
     have ew : IntKind.i64.wrap ((s.n : Int) - 1) = ((l.length - 1 : Nat) : Int) := by rw [wr (by omega) (by omega)]; omega
     have lastc : (r.p = 3 ∨ r.p = 5) → F74_3 Q s (s.n : Int) true H15 := fun h35 => by
      refine ⟨fun _ => ?_, fun h => (by cases h)⟩
      rw [ew]
      refine ⟨by omega, by omega, hc, Nat.le_refl _, hq _ H15 ?_ (Kp.refl _ _)⟩
      have := one (l.length - 1) (Sl.cut s 3 (((l.length - 1 : Nat) : Int).toNat) s.n s.c) (by omega) (by show s.n - ((l.length - 1 : Nat) : Int).toNat = 1; omega) (fun a ha => by
       show (if s.c = ((l.length - 1 : Nat) : Int).toNat then s.b else s.b.map (·.add (((l.length - 1 : Nat) : Int).toNat * 3))) = _
       rw [if_neg (by omega), ha, show ((l.length - 1 : Nat) : Int).toNat = l.length - 1 by omega]; rfl)
      rcases h35 with e | e
      ·rw [if_pos e, if_pos (g4 e)]; exact this
      ·rw [if_neg (by omega), if_pos e]; exact this
     refine ⟨_, rowc (i := 7) r1' rfl, fun h3 => lastc (.inl (of_decide_eq_true h3)), fun h3 => ⟨_, rowc (i := 7) r1' rfl, ?_⟩⟩
     have h3 := of_decide_eq_false h3
     cases h5 : decide (r.p = 5) with
     | true => exact lastc (.inr (of_decide_eq_true h5))
     | false =>
      have h5 := of_decide_eq_false h5
      refine ⟨fun h => (by cases h), fun _ => ⟨Nat.zero_le _, by show 1 ≤ s.c; omega, Nat.le_refl _, hq _ H15 ?_ (Kp.refl _ _)⟩⟩
      have := one 0 (Sl.cut s 3 0 (1 : Int).toNat s.c) (by omega) rfl (fun a ha => by
       show (if s.c = 0 then s.b else s.b.map (·.add (0 * 3))) = _
       rw [if_neg (by omega), ha]; rfl)
      rw [if_neg h3, if_neg h5]
      by_cases p1 : r.p = 1
      ·rw [if_pos p1]; exact this
      ·rw [if_neg p1, if_pos (by omega)]; exact this
   refine ⟨fun h0 => c2 true (fun _ => .inl (by have := of_decide_eq_true h0; omega)) (fun h => by cases h), fun h0 => ⟨_, rowc (i := 7) r1' rfl, fun h3 => c2 _ (fun g => .inr ⟨of_decide_eq_true h3, by rw [← hb]; simpa using g⟩) (fun g => ⟨by have := of_decide_eq_false h0; omega, fun _ => by rw [← hb]; simpa using g⟩), fun h3 => c2 false (fun h => by cases h) (fun _ => ⟨by have := of_decide_eq_false h0; omega, fun e => absurd e (of_decide_eq_false h3)⟩)⟩⟩
 refine ⟨_, _, _, _, _, _, _, r2.all, _, rowc (i := 6) r1 rfl, c75 (h.no k3) (fun H15 hb k => ?_) fun s l H15 hb hs hc k => ?_⟩
 ·refine ⟨_, rowc (i := 6) (k.row r1 id) rfl, _, rowc (i := 2) (k.row r2 id) rfl, fun g => ⟨_, rowc (i := 2) (k.row r2 id) rfl, ?_⟩, fun g => ?_⟩
  ·exact main Sl.nil [] H15 (by rw [hb]; rfl) ⟨Nat.zero_le _, [], RdL.nil _ _, rfl, fun i r e h => by simp at h⟩ (Nat.le_refl _) k _ (by rw [← take_it, if_pos g])
  ·exact main Sl.nil [] H15 (by rw [hb]; rfl) ⟨Nat.zero_le _, [], RdL.nil _ _, rfl, fun i r e h => by simp at h⟩ (Nat.le_refl _) k _ (by rw [← take_it, if_neg (by rw [g]; decide)])
 ·refine ⟨_, rowc (i := 6) (k.row r1 id) rfl, _, rowc (i := 2) (k.row r2 id) rfl, fun g => ⟨_, rowc (i := 2) (k.row r2 id) rfl, ?_⟩, fun g => ?_⟩
  ·exact main s l H15 (by rw [hb]; rfl) (hs.no k) hc k _ (by rw [← take_it, if_pos g])
  ·exact main s l H15 (by rw [hb]; rfl) (hs.no k) hc k _ (by rw [← take_it, if_neg (by rw [g]; decide)])
end
theorem seq_dec'' (a b : ByteArray) : seq a b = decide (a = b) := seq_dec a b
theorem vld_cases {a : VT} (h : vld a = true) : a = numV a.n ∨ (a = ⟨2, 0, a.s, false⟩) ∨ a = truthV a.b := by
 obtain ⟨k, n, s, b⟩ := a
 unfold vld at h
 simp only [seq_dec''] at h
 split at h
 ·rename_i hk
  simp at h hk
  obtain ⟨h1, h2⟩ := h
  left
  simp [numV, hk, h2]
 ·split at h
  ·rename_i hk
   simp at h hk
   right; left
   simp [hk, h]
  ·split at h
   ·rename_i hk
    simp at h hk
    right; right
    simp [truthV, hk, h]
   ·cases h
theorem bl_irrefl : ∀ a : List UInt8, Op.bytesLess a a = false
 | [] => rfl
 | x :: a => by simp [Op.bytesLess, bl_irrefl a]
theorem bl_trans : ∀ {a b c : List UInt8}, Op.bytesLess a b = true → Op.bytesLess b c = true → Op.bytesLess a c = true
 | _, _, [], _, h => by simp [Op.bytesLess] at h
 | _, [], _ :: _, h, _ => by simp [Op.bytesLess] at h
 | [], _ :: _, _ :: _, _, _ => rfl
 | x :: a, y :: b, z :: c, h, g => by
  simp only [Op.bytesLess, Bool.or_eq_true, decide_eq_true_eq, Bool.and_eq_true, beq_iff_eq] at *
  rcases h with h | ⟨rfl, h⟩
  ·rcases g with g | ⟨rfl, g⟩
   ·exact .inl (UInt8.lt_trans h g)
   ·exact .inl h
  ·rcases g with g | ⟨rfl, g⟩
   ·exact .inl g
   ·exact .inr ⟨rfl, bl_trans h g⟩
theorem bl_total : ∀ {a b : List UInt8}, Op.bytesLess a b = false → Op.bytesLess b a = false → a = b
 | [], [], _, _ => rfl
 | [], _ :: _, h, _ => by simp [Op.bytesLess] at h
 | _ :: _, [], _, h => by simp [Op.bytesLess] at h
 | x :: a, y :: b, h, g => by
  simp only [Op.bytesLess, Bool.or_eq_false_iff, decide_eq_false_iff_not, Bool.and_eq_false_imp, beq_iff_eq] at *
  obtain ⟨h1, h2⟩ := h
  obtain ⟨g1, g2⟩ := g
  have e : x = y := by
   apply UInt8.toNat_inj.1
   rw [UInt8.lt_iff_toNat_lt] at h1 g1
   omega
  subst e
  rw [bl_total (h2 rfl) (g2 rfl)]
theorem slt_irrefl (a : ByteArray) : slt a a = false := bl_irrefl _
theorem slt_trans {a b c : ByteArray} (h : slt a b = true) (g : slt b c = true) : slt a c = true := bl_trans h g
theorem slt_total {a b : ByteArray} (h : slt a b = false) (g : slt b a = false) : a = b := by
 have := bl_total h g
 have e := seq_dec'' a b
 unfold seq at e
 rw [this] at e
 simpa using e.symm
theorem slt_asymm {a b : ByteArray} (h : slt a b = true) : slt b a = false := by
 cases g : slt b a with
 | false => rfl
 | true => have := slt_trans h g; rw [slt_irrefl] at this; cases this
theorem cmpT_neg (a b : ByteArray) : cmpT a b < 0 ↔ slt a b = true := by
 unfold cmpT
 split
 ·rename_i h; simp [h]
 ·split <;> simp_all
theorem cmpT_zero (a b : ByteArray) : cmpT a b = 0 ↔ a = b := by
 unfold cmpT
 split
 ·rename_i h
  constructor
  ·intro h; cases h
  ·rintro rfl; rw [slt_irrefl] at h; cases h
 ·split
  ·rename_i h
   simp only [seq_dec'', Bool.and_eq_true, Bool.not_eq_true', decide_eq_false_iff_not] at h
   exact ⟨fun h => (by cases h), fun e => absurd e h.2⟩
  ·rename_i h1 h2
   simp only [seq_dec'', Bool.and_eq_true, Bool.not_eq_true', decide_eq_false_iff_not, not_and, Decidable.not_not] at h2
   exact ⟨fun _ => h2 (by simpa using h1), fun _ => rfl⟩
theorem cmpT_pos (a b : ByteArray) : 0 < cmpT a b ↔ slt b a = true := by
 constructor
 ·intro h
  cases g : slt b a with
  | true => rfl
  | false =>
   cases g2 : slt a b with
   | true => have := (cmpT_neg a b).2 g2; omega
   | false => have := (cmpT_zero a b).2 (slt_total g2 g); omega
 ·intro h
  have h1 : ¬ cmpT a b < 0 := fun g => by have := slt_asymm ((cmpT_neg a b).1 g); rw [h] at this; cases this
  have h2 : ¬ cmpT a b = 0 := fun g => by have := (cmpT_zero a b).1 g; subst this; rw [slt_irrefl] at h; cases h
  omega
theorem cmpI_neg (a b : Int) : cmpI a b < 0 ↔ a < b := by unfold cmpI; split <;> (try split) <;> omega
theorem cmpI_zero (a b : Int) : cmpI a b = 0 ↔ a = b := by unfold cmpI; split <;> (try split) <;> omega
theorem cmpI_pos (a b : Int) : 0 < cmpI a b ↔ b < a := by unfold cmpI; split <;> (try split) <;> omega
theorem cmpI_self (a : Int) : cmpI a a = 0 := (cmpI_zero a a).2 rfl
theorem cmpT_self (a : ByteArray) : cmpT a a = 0 := (cmpT_zero a a).2 rfl
theorem cmpV_num (x y : Int) : cmpV (numV x) (numV y) = cmpI x y := by
 simp only [cmpV, numV, cmpI_self, cmpT_self, orI, ne_eq, not_true, if_false]
 split
 ·rfl
 ·omega
theorem cmpV_str (s t : ByteArray) : cmpV ⟨2, 0, s, false⟩ ⟨2, 0, t, false⟩ = cmpT s t := by
 simp only [cmpV, cmpI_self, orI, ne_eq, not_true, if_false]
 split
 ·rfl
 ·omega
theorem cmpV_bool (s t : Bool) : cmpV (truthV s) (truthV t) = cmpI (bitB s) (bitB t) := by
 simp only [cmpV, truthV, cmpI_self, cmpT_self, orI, ne_eq, not_true, if_false]
 by_cases h : cmpI (bitB s) (bitB t) = 0 <;> simp [h]
theorem cmpV_sign {a b : VT} (ha : vld a = true) (hb : vld b = true) (hk : a.k = b.k) : (cmpV a b < 0 ↔ 0 < cmpV b a) ∧ (cmpV a b = 0 ↔ a = b) := by
 rcases vld_cases ha with h1 | h1 | h1 <;> rcases vld_cases hb with h2 | h2 | h2 <;> rw [h1, h2] at hk <;> first | cases hk | skip
 ·generalize a.n = x, b.n = y at h1 h2; subst h1 h2; rw [cmpV_num, cmpV_num, cmpI_neg, cmpI_pos, cmpI_zero]
  refine ⟨Iff.rfl, fun h => by rw [h], fun h => congrArg VT.n h⟩
 ·generalize a.s = x, b.s = y at h1 h2; subst h1 h2; rw [cmpV_str, cmpV_str, cmpT_neg, cmpT_pos, cmpT_zero]
  refine ⟨Iff.rfl, fun h => by rw [h], fun h => congrArg VT.s h⟩
 ·generalize a.b = x, b.b = y at h1 h2; subst h1 h2; rw [cmpV_bool, cmpV_bool, cmpI_neg, cmpI_pos, cmpI_zero]
  refine ⟨Iff.rfl, fun h => ?_, fun h => by rw [show x = y from congrArg VT.b h]⟩
  cases x <;> cases y <;> first | rfl | cases h

def refP (m : EnvM) (r : ER) : VT × Int := if (eventP m r.v r.p).2 ≠ 0 then (zeroV, (eventP m r.v r.p).2) else attrP m.types (eventP m r.v r.p).1 r.a
theorem un_ok {o : Int} {v : VT} (hv : vld v = true) : unP o v = if o ≠ 1 ∧ o ≠ 2 then (zeroV, 11) else if o = 1 ∧ v.k = 1 then (numV (IntKind.i64.wrap (0 - v.n)), 0) else if o = 2 ∧ v.k = 3 then (truthV (!v.b), 0) else (zeroV, 10) := by
 have ha : ([v].all vld) = true := by simp [hv]
 have hf : ∀ w, fitsP w v [v] = fitK w v.k := fun w => by unfold fitsP; simp
 unfold unP
 by_cases o1 : o = 1
 ·subst o1
  have e : refusP 1 1 2 v [v] = if v.k = 1 then 0 else 10 := by
   unfold refusP
   rw [if_neg (by decide), if_neg (by decide), if_pos ha, hf, show wantOf 1 = 1 from rfl]
   simp only [fitK]
   by_cases k : v.k = 1 <;> simp [k]
  rw [e, if_neg (show ¬ ((1 : Int) ≠ 1 ∧ (1 : Int) ≠ 2) from fun h => h.1 rfl)]
  by_cases k : v.k = 1
  ·rw [if_pos k, if_neg (fun h => h rfl), if_pos rfl, if_pos ⟨rfl, k⟩]
  ·rw [if_neg k, if_pos (by decide), if_neg (fun h => k h.2), if_neg (fun h => absurd h.1 (by decide))]
 ·by_cases o2 : o = 2
  ·subst o2
   have e : refusP 2 1 2 v [v] = if v.k = 3 then 0 else 10 := by
    unfold refusP
    rw [if_neg (by decide), if_neg (by decide), if_pos ha, hf, show wantOf 2 = 2 from rfl]
    simp only [fitK]
    by_cases k : v.k = 3 <;> simp [k]
   rw [e, if_neg (show ¬ ((2 : Int) ≠ 1 ∧ (2 : Int) ≠ 2) from fun h => h.2 rfl), if_neg (show ¬ ((2 : Int) = 1 ∧ v.k = 1) from fun h => absurd h.1 (by decide))]
   by_cases k : v.k = 3
   ·rw [if_pos k, if_neg (fun h => h rfl), if_neg (by decide), if_pos ⟨rfl, k⟩]
   ·rw [if_neg k, if_pos (by decide), if_neg (fun h => k h.2)]
  ·have e : refusP o 1 2 v [v] = 11 := by
    unfold refusP
    by_cases h : o < 1
    ·rw [if_pos h]
    ·rw [if_neg h, if_pos (by omega)]
   rw [e, if_pos (by decide), if_pos ⟨o1, o2⟩]
section
variable {H H0 : Hp} {p0 p1 : Sl} {p2 p3 : ByteArray} {p4 : Int} {p5 p6 : Sl} {m : EnvM}
theorem c63 {r : ER} {q : Sl} {Q : Int → Int → ByteArray → Bool → Int → Hp → Prop} (h : EnvC H p0 p1 p2 p3 p4 p5 p6 m)
  (hQ : ∀ H', Kp No H H' → Q (refP m r).1.k (refP m r).1.n (refP m r).1.s (refP m r).1.b (refP m r).2 H') : F63 r.k r.o r.vk r.vi r.vs r.vb r.v r.p r.a q p0 p1 p2 p3 p4 p5 p6 H Q := by
 intro H1 e1 H3 e3 H5 e5
 have k1 : Kp No H H1 := (Kp.refl _ _).push' e1
 have k3 : Kp No H H3 := k1.push' e3
 have k5 : Kp No H H5 := k3.push' e5
 have r1 : Row H5 H.size 41 (r.row q) := ((Row.new' e1).push' e3).push' e5
 have r2 : Row H5 H1.size 43 (envRow p0 p1 p2 p3 p4 p5 p6) := (Row.new' e3).push' e5
 have r3 : Row H5 H3.size 38 zeroV.row := Row.new' e5
 have s1 := size_push' e1
 have s3 := size_push' e3
 have out : ∀ {Hx : Hp} (v : VT) (n : Int), Kp No H5 Hx → refP m r = (v, n) → mayw Hx ⟨H3.size, 0, none⟩ 4 0 ∧ ∀ H' : Hp, H' = sets Hx ⟨H3.size, 0, none⟩ [(.int .i64 v.k), (.int .i64 v.n), (.string v.s), (.bool v.b)] 0 →
   (∃ (x6 : Int) (x7 : Int) (x8 : ByteArray) (x9 : Bool), cells H' ⟨H3.size, 0, none⟩ [(.int .i64 x6), (.int .i64 x7), (.string x8), (.bool x9)] 0 ∧ (Q x6 x7 x8 x9 n H')) := fun {Hx} v n k e => by
  refine ret4 (K := fun a b c d H' => Q a b c d n H') (k.row r3 id) rfl v fun H' _ k' => ?_
  have q := hQ H' ((k5.no2 k).box k' (by omega))
  rw [e] at q
  exact q
 have bad : ¬ (1 ≤ r.p ∧ r.p ≤ 5) → F63_1 Q ⟨H.size, 0, none⟩ ⟨H1.size, 0, none⟩ ⟨H3.size, 0, none⟩ true H5 := fun hp => by
  refine ⟨fun _ => out zeroV 60 (Kp.refl _ _) ?_, fun h => (by cases h)⟩
  have e : eventP m r.v r.p = (zeroE, 60) := by
   unfold eventP
   rw [if_neg (by omega), if_neg (by omega), if_neg (by omega), if_neg (by omega), if_neg (by omega)]
  unfold refP
  rw [e, if_pos (by decide)]
 have good : (1 ≤ r.p ∧ r.p ≤ 5) → F63_1 Q ⟨H.size, 0, none⟩ ⟨H1.size, 0, none⟩ ⟨H3.size, 0, none⟩ false H5 := fun hp => by
  refine ⟨fun h => (by cases h), fun _ => ⟨_, _, _, _, _, _, _, _, _, _, r1.all, _, _, _, _, _, _, _, r2.all, c74 (r := r) (h.no k5) hp fun s H45 ho k => ⟨fun hz => out zeroV 110 k ?_, fun hz => ?_⟩⟩⟩
  ·have hz := of_decide_eq_true hz
   rcases ho with ⟨e, _⟩ | ⟨_, e, _⟩
   ·unfold refP; rw [e, if_pos (by decide)]
   ·omega
  ·have hz := of_decide_eq_false hz
   rcases ho with ⟨_, e⟩ | ⟨e0, e, a, vs, ha, ca, hvs⟩
   ·omega
   ·refine ⟨a, ha, Int.le_refl _, by omega, _, _, _, ca, _, rowc (i := 8) (k.row r1 id) rfl, _, rowc (i := 6) (k.row r2 id) rfl, c29 hvs (h.no (k5.no2 k)).h.types fun H69 k69 => ?_⟩
    refine out _ _ (k.no2 k69) ?_
    unfold refP
    rw [e0, if_neg (fun h => h rfl)]
 refine ⟨_, rowc (i := 7) r1 rfl, fun h1 => bad (fun g => by have := of_decide_eq_true h1; omega), fun h1 => ⟨_, rowc (i := 7) r1 rfl, ?_⟩⟩
 have h1 := of_decide_eq_false h1
 cases h5 : decide ((5 : Int) < r.p) with
 | true => exact bad fun g => by have := of_decide_eq_true h5; omega
 | false => exact good ⟨by omega, by have := of_decide_eq_false h5; omega⟩
theorem c65 {o : Int} {v : VT} {Q : Int → Int → ByteArray → Bool → Int → Hp → Prop} (hv : vld v = true) (hQ : ∀ H', Kp No H H' → Q (unP o v).1.k (unP o v).1.n (unP o v).1.s (unP o v).1.b (unP o v).2 H') : F65 o v.k v.n v.s v.b H Q := by
 intro H1 e1 H3 e3
 have k1 : Kp No H H1 := (Kp.refl _ _).push' e1
 have k3 : Kp No H H3 := k1.push' e3
 have r1 : Row H3 H.size 38 v.row := (Row.new' e1).push' e3
 have r3 : Row H3 H1.size 38 zeroV.row := Row.new' e3
 have s1 := size_push' e1
 have out : ∀ {Hx : Hp} (w : VT) (n : Int), Kp No H3 Hx → unP o v = (w, n) → mayw Hx ⟨H1.size, 0, none⟩ 4 0 ∧ ∀ H' : Hp, H' = sets Hx ⟨H1.size, 0, none⟩ [(.int .i64 w.k), (.int .i64 w.n), (.string w.s), (.bool w.b)] 0 →
   (∃ (x6 : Int) (x7 : Int) (x8 : ByteArray) (x9 : Bool), cells H' ⟨H1.size, 0, none⟩ [(.int .i64 x6), (.int .i64 x7), (.string x8), (.bool x9)] 0 ∧ (Q x6 x7 x8 x9 n H')) := fun {Hx} w n k e => by
  refine ret4 (K := fun a b c d H' => Q a b c d n H') (k.row r3 id) rfl w fun H' _ k' => ?_
  have q := hQ H' ((k3.no2 k).box k' (by omega))
  rw [e] at q
  exact q
 rw [un_ok hv] at out
 have s3 : ∀ b, (o = 1 ∨ o = 2) → ¬ (o = 1 ∧ v.k = 1) → (b = true ↔ o = 2 ∧ v.k = 3) → F65_3 Q ⟨H.size, 0, none⟩ ⟨H1.size, 0, none⟩ b H3 := fun b ho h1 hb => by
  rw [if_neg (by omega), if_neg h1] at out
  refine ⟨fun g => ⟨_, rowc (i := 3) r1 rfl, c52 fun H55 k55 => out (truthV (!v.b)) 0 k55 ?_⟩, fun g => out zeroV 10 (Kp.refl _ _) ?_⟩
  ·rw [if_pos (hb.1 g)]
  ·rw [if_neg (fun h => by rw [hb.2 h] at g; cases g)]
 have s2 : ∀ b, (o = 1 ∨ o = 2) → (b = true ↔ o = 1 ∧ v.k = 1) → F65_2 Q o ⟨H.size, 0, none⟩ ⟨H1.size, 0, none⟩ b H3 := fun b ho hb => by
  refine ⟨fun g => ⟨_, rowc (i := 1) r1 rfl, c47 fun H31 k31 => out (numV (IntKind.i64.wrap (0 - v.n))) 0 k31 ?_⟩, fun g => ?_⟩
  ·rw [if_neg (by omega), if_pos (hb.1 g)]
  ·have hn : ¬ (o = 1 ∧ v.k = 1) := fun h => by rw [hb.2 h] at g; cases g
   refine ⟨fun g2 => ⟨_, r1.cell_of (i := 0) rfl, s3 _ ho hn ?_⟩, fun g2 => s3 _ ho hn ?_⟩
   ·rw [decide_eq_true_iff]; exact ⟨fun h => ⟨of_decide_eq_true g2, h⟩, fun h => h.2⟩
   ·exact ⟨fun h => (by cases h), fun h => absurd h.1 (of_decide_eq_false g2)⟩
 have s1' : ∀ b, (b = true ↔ o ≠ 1 ∧ o ≠ 2) → F65_1 Q o ⟨H.size, 0, none⟩ ⟨H1.size, 0, none⟩ b H3 := fun b hb => by
  refine ⟨fun g => out zeroV 11 (Kp.refl _ _) (by rw [if_pos (hb.1 g)]), fun g => ?_⟩
  have ho : o = 1 ∨ o = 2 := by
   have : ¬ (o ≠ 1 ∧ o ≠ 2) := fun h => by rw [hb.2 h] at g; cases g
   omega
  refine ⟨fun g2 => ⟨_, r1.cell_of (i := 0) rfl, s2 _ ho ?_⟩, fun g2 => s2 _ ho ?_⟩
  ·rw [decide_eq_true_iff]; exact ⟨fun h => ⟨of_decide_eq_true g2, h⟩, fun h => h.2⟩
  ·exact ⟨fun h => (by cases h), fun h => absurd h.1 (of_decide_eq_false g2)⟩
 refine ⟨fun g => s1' _ ?_, fun g => s1' _ ?_⟩
 ·rw [decide_eq_true_iff]; exact ⟨fun h => ⟨of_decide_eq_true g, h⟩, fun h => h.2⟩
 ·exact ⟨fun h => (by cases h), fun h => absurd h.1 (of_decide_eq_false g)⟩
theorem c76 {a b : VT} {Q : Bool → Hp → Prop} (hQ : ∀ H', Kp No H H' → Q (decide (a.n < b.n) || slt a.s b.s) H') : F76 a.k a.n a.s a.b b.k b.n b.s b.b H Q := by
 intro H1 e1 H3 e3
 have k1 : Kp No H H1 := (Kp.refl _ _).push' e1
 have k3 : Kp No H H3 := k1.push' e3
 have r1 : Row H3 H.size 38 a.row := (Row.new' e1).push' e3
 have r2 : Row H3 H1.size 38 b.row := Row.new' e3
 have hq := hQ H3 k3
 refine ⟨_, rowc (i := 1) r1 rfl, _, rowc (i := 1) r2 rfl, fun g => ?_, fun g => ⟨_, rowc (i := 2) r1 rfl, _, rowc (i := 2) r2 rfl, ?_⟩⟩
 ·rw [g, Bool.true_or] at hq; exact hq
 ·rw [g, Bool.false_or] at hq; exact hq
end
end Go.Hw
