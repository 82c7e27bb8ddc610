/- The document's functions over events: one. The document's worth of an expression. The document's Eval, Holds. Own work of this session. -/
import Derived.Test.YtfkhglkcplnppaaDoorR4
set_option linter.unusedVariables false
namespace Go.Hw
open Go

theorem ns_len {T : List TyM} {a : ByteArray} : ∀ {l : List EvM}, (nsP T a l).1 = 0 → (nsP T a l).2.length = l.length
 | [], _ => rfl
 | x :: l, hn0 => by
  simp only [nsP] at hn0 ⊢
  by_cases h1 : (attrP T x a).2 ≠ 0
  ·rw [if_pos h1] at hn0; exact absurd hn0 h1
  ·rw [if_neg h1] at hn0 ⊢
   by_cases h2 : (attrP T x a).1.k ≠ 1
   ·rw [if_pos h2] at hn0; cases hn0
   ·rw [if_neg h2] at hn0 ⊢
    simp only [List.length_cons]
    rw [ns_len hn0]

section
variable {H H0 : Hp} {p0 p1 : Sl} {p2 p3 : ByteArray} {p4 : Int} {p5 p6 : Sl} {m : EnvM}
theorem c64 {r : ER} {q : Sl} {Q : Int → Int → ByteArray → Bool → Int → Hp → Prop} (h : EnvC H p0 p1 p2 p3 p4 p5 p6 m) (hg : ∀ l ∈ m.bound, ∀ e ∈ l, RngE e)
  (hQ : ∀ H', Kp No H H' → Q (aggP m r).1.k (aggP m r).1.n (aggP m r).1.s (aggP m r).1.b (aggP m r).2 H') : F64 r.k r.o r.vk r.vi r.vs r.vb r.v r.p r.a q p0 p1 p2 p3 p4 p5 p6 H Q := by
 intro H1 e1 H3 e3 H5 e5 H7 e7
 have k1 : Kp No H H1 := (Kp.refl _ _).push' e1
 have k3 : Kp No H H3 := k1.push' e3
 have k5 : Kp No H H5 := k3.push' e5
 have k7 : Kp No H H7 := k5.push' e7
 have r1 : Row H7 H.size 41 (r.row q) := (((Row.new' e1).push' e3).push' e5).push' e7
 have r2 : Row H7 H1.size 43 (envRow p0 p1 p2 p3 p4 p5 p6) := ((Row.new' e3).push' e5).push' e7
 have r3 : Row H7 H3.size 38 zeroV.row := (Row.new' e5).push' e7
 have r4 : Row H7 H5.size 38 zeroV.row := Row.new' e7
 have s1 := size_push' e1
 have s3 := size_push' e3
 have eit := h.h.it
 subst eit
 have out : ∀ {Hx : Hp} (v : VT) (n : Int), Kp No H7 Hx → aggP m r = (v, n) → mayw Hx ⟨H3.size, 0, none⟩ 4 0 ∧ ∀ H' : Hp, H' = sets Hx ⟨H3.size, 0, none⟩ [(.int .i64 v.k), (.int .i64 v.n), (.string v.s), (.bool v.b)] 0 →
   (∃ (x6 : Int) (x7 : Int) (x8 : ByteArray) (x9 : Bool), cells H' ⟨H3.size, 0, none⟩ [(.int .i64 x6), (.int .i64 x7), (.string x8), (.bool x9)] 0 ∧ (Q x6 x7 x8 x9 n H')) := fun {Hx} v n k e => by
  refine ret4 (K := fun a b c d H' => Q a b c d n H') (k.row r3 id) rfl v fun H' _ k' => ?_
  have q := hQ H' ((k7.no2 k).box k' (by omega))
  rw [e] at q
  exact q
 have fail : ∀ {Hx : Hp} (n : Int), Kp No H7 Hx → aggP m r = (zeroV, n) → FailQ Q H3.size H5.size n Hx := fun {Hx} n k e => ⟨_, _, _, _, (k.row r4 id).all, out zeroV n k e⟩
 unfold aggP at out fail
 have bad : (r.o < 1 ∨ 4 < r.o ∨ (r.p ≠ 6 ∧ r.p ≠ 7)) → F64_1 Q ⟨H.size, 0, none⟩ ⟨H1.size, 0, none⟩ ⟨H3.size, 0, none⟩ ⟨H5.size, 0, none⟩ true H7 := fun hb => by
  refine ⟨fun _ => fail 60 (Kp.refl _ _) ?_, fun h => (by cases h)⟩
  by_cases o1 : r.o < 1
  ·rw [if_pos o1]
  ·rw [if_neg o1]
   by_cases o2 : 4 < r.o
   ·rw [if_pos o2]
   ·rw [if_neg o2, if_pos (by omega)]
 have good : ¬ r.o < 1 → ¬ 4 < r.o → ¬ (r.p ≠ 6 ∧ r.p ≠ 7) → F64_1 Q ⟨H.size, 0, none⟩ ⟨H1.size, 0, none⟩ ⟨H3.size, 0, none⟩ ⟨H5.size, 0, none⟩ false H7 := fun o1 o2 o3 => by
  rw [if_neg o1, if_neg o2, if_neg o3] at out fail
  refine ⟨fun h => (by cases h), fun _ => ⟨_, _, _, _, _, _, _, r2.all, _, rowc (i := 6) r1 rfl, c75 (h.no k7) (fun H52 hb k => ?_) fun s l H52 hb hs hc k => ?_⟩⟩
  ·rw [hb] at fail
   exact ⟨fun _ => ⟨fun _ => fail 110 k rfl, fun h => (by cases h)⟩, fun h => (by cases h)⟩
  ·rw [hb] at out fail
   simp only [] at out fail
   have hlm : l ∈ m.bound := by
    unfold boundP at hb
    cases hf : m.vars.findIdx? (fun x => seq r.v x) with
    | none => rw [hf] at hb; cases hb
    | some i => rw [hf] at hb; exact List.mem_of_getElem? hb
   have r1' := k.row r1 id
   have r2' := k.row r2 id
   have hs' := hs.no k
   have hln : s.n = l.length := by obtain ⟨R, hR, hRl, _⟩ := hs.rows; rw [hR.n, hRl]
   have sm : l.length ≤ 4194304 := hs.small
   have go2 : ∀ b, (b = true ↔ r.p = 7 ∧ takeP m r.v = false) → F64_2 Q ⟨H.size, 0, none⟩ ⟨H1.size, 0, none⟩ ⟨H3.size, 0, none⟩ ⟨H5.size, 0, none⟩ s b H52 := fun b hb2 => by
    refine ⟨fun g => fail 110 k ?_, fun g => ?_⟩
    ·rw [if_pos (hb2.1 g)]
    ·have hno : ¬ (r.p = 7 ∧ takeP m r.v = false) := fun h => by rw [hb2.2 h] at g; cases g
     rw [if_neg hno] at out fail
     refine ⟨_, rowc (i := 1) r1' rfl, fun o4 => c47 fun H93 k93 => out (numV (s.n : Int)) 0 (k.no2 k93) ?_, fun o4 => ?_⟩
     ·rw [if_pos (of_decide_eq_true o4), hln]
     ·have o4 := of_decide_eq_false o4
      rw [if_neg o4] at out fail
      obtain ⟨g1, g2⟩ := agg_ns (T := m.types) (a := r.a) (o := r.o) ⟨by omega, by omega⟩ l 0 0 (hg l hlm) (fun _ => rfl)
      refine c64_L4 r1' r2' hs' (h.no (k7.no2 k)).h.types (fun H' n hn hn0 k' => fail n (k.no2 k') ?_) fun ns H' hn0 lns k' => ?_
      ·rw [if_pos (by rw [g1, hn]; exact hn0), g1, hn]
      ·have e0 : (aggGo m.types r.a r.o 0 0 l).1 = 0 := by rw [g1, hn0]
       have e2 := g2 hn0
       have len := ns_len hn0
       rw [if_neg (by rw [e0]; exact fun h => h rfl)] at out fail
       have nn := lns.n
       have six : ∀ c, (c = true ↔ l.length = 0 ∧ r.o ≠ 2) → F64_6 Q ⟨H.size, 0, none⟩ ⟨H3.size, 0, none⟩ ⟨H5.size, 0, none⟩ ns c H' := fun c hc => by
        refine ⟨fun g => fail 110 (k.no2 k') (by rw [if_pos (hc.1 g)]), fun g => ?_⟩
        have hno2 : ¬ (l.length = 0 ∧ r.o ≠ 2) := fun h => by rw [hc.2 h] at g; cases g
        refine c64_L8 (k'.row r1' id) lns.rd (by omega) ⟨by omega, by omega⟩ ?_
        refine c47 fun H296 k296 => out (numV (foldN r.o 0 0 (nsP m.types r.a l).2)) 0 (k.no2 (k'.no2 k296)) ?_
        rw [if_neg hno2, e2]
       refine ⟨fun z => ⟨_, rowc (i := 1) (k'.row r1' id) rfl, six _ ?_⟩, fun z => six false ?_⟩
       ·have z := of_decide_eq_true z
        rw [decide_eq_true_iff]; omega
       ·have z := of_decide_eq_false z
        exact ⟨fun h => (by cases h), fun h => by omega⟩
   refine ⟨fun h => (by cases h), fun _ => ⟨_, rowc (i := 7) r1' rfl, fun p7 => ⟨_, rowc (i := 6) r1' rfl, _, rowc (i := 2) r2' rfl, fun g => go2 true ?_, fun g => ⟨_, rowc (i := 2) r2' rfl, go2 _ ?_⟩⟩, fun p7 => go2 false ⟨fun h => (by cases h), fun h => absurd h.1 (of_decide_eq_false p7)⟩⟩⟩
   ·rw [← take_it, if_neg (by simpa using g)]
    exact ⟨fun _ => ⟨of_decide_eq_true p7, rfl⟩, fun _ => rfl⟩
   ·rw [← take_it, if_pos (by simpa using g)]
    have p7 := of_decide_eq_true p7
    constructor
    ·intro z; exact ⟨p7, by show (!(seq m.it E)) = false; rw [show seq m.it E = true from z]; rfl⟩
    ·intro z; have := z.2; show seq m.it E = true; simpa using this
 refine ⟨_, rowc (i := 1) r1 rfl, fun g => bad (.inl (of_decide_eq_true g)), fun g1 => ⟨_, rowc (i := 1) r1 rfl, fun g => bad (.inr (.inl (of_decide_eq_true g))), fun g2 => ⟨_, rowc (i := 7) r1 rfl, fun g3 => ⟨_, rowc (i := 7) r1 rfl, ?_⟩, fun g3 => good (of_decide_eq_false g1) (of_decide_eq_false g2) (fun h => h.1 (Decidable.not_not.1 (of_decide_eq_false g3)))⟩⟩⟩
 cases g4 : decide (r.p ≠ 7) with
 | true => exact bad (.inr (.inr ⟨of_decide_eq_true g3, of_decide_eq_true g4⟩))
 | false => exact good (of_decide_eq_false g1) (of_decide_eq_false g2) (fun h => h.2 (Decidable.not_not.1 (of_decide_eq_false g4)))
end

theorem attr_vld {T : List TyM} {e : EvM} {a : ByteArray} : (attrP T e a).2 = 0 → vld (attrP T e a).1 = true := by
 unfold attrP
 split
 ·exact fun _ => vld_num _
 ·split
  ·exact fun h => absurd h (by decide)
  ·split
   ·exact fun h => absurd h (by decide)
   ·split
    ·exact fun h => absurd h (by decide)
    ·split
     ·exact fun h => absurd h (by decide)
     ·split
      ·rename_i hv; exact fun _ => hv
      ·exact fun h => absurd h (by decide)
theorem agg_vld {m : EnvM} {r : ER} : (aggP m r).2 = 0 → vld (aggP m r).1 = true := by
 unfold aggP
 split
 ·exact fun h => absurd h (by decide)
 ·split
  ·exact fun h => absurd h (by decide)
  ·split
   ·exact fun h => absurd h (by decide)
   ·split
    ·exact fun h => absurd h (by decide)
    ·split
     ·exact fun h => absurd h (by decide)
     ·split
      ·exact fun _ => vld_num _
      ·split
       ·rename_i hn; exact fun h => absurd h hn
       ·split
        ·exact fun h => absurd h (by decide)
        ·exact fun _ => vld_num _
theorem un_vld {o : Int} {v : VT} : (unP o v).2 = 0 → vld (unP o v).1 = true := by
 unfold unP
 split
 ·rename_i hn; exact fun h => absurd h hn
 ·split
  ·exact fun _ => vld_num _
  ·exact fun _ => vld_truth _
theorem bin_vld {o : Int} {a b : VT} : (binP o a b).2 = 0 → vld (binP o a b).1 = true := by
 unfold binP
 split
 ·rename_i hn; exact fun h => absurd h hn
 ·split
  ·exact fun _ => vld_num _
  ·split
   ·exact fun _ => vld_num _
   ·split
    ·exact fun _ => vld_num _
    ·exact fun _ => vld_truth _
theorem eval_vld {m : EnvM} {r : ER} {k : Fo} : (evalP m r k).2 = 0 → vld (evalP m r k).1 = true := by
 unfold evalP ev1
 split
 ·split
  ·rename_i hv; exact fun _ => hv
  ·exact fun h => absurd h (by decide)
 ·split
  ·split
   ·rename_i hn; exact fun h => absurd h hn
   ·exact attr_vld
  ·split
   ·exact agg_vld
   ·split
    ·split
     ·exact fun h => absurd h (by decide)
     ·split
      ·rename_i hn; exact fun h => absurd h hn
      ·exact un_vld
    ·split
     ·split
      ·exact fun h => absurd h (by decide)
      ·split
       ·rename_i hn; exact fun h => absurd h hn
       ·exact bin_vld
     ·exact fun h => absurd h (by decide)
theorem ev4 {m : EnvM} {r ra : ER} {ka : Fo} (h : r.k = 4) : evalP m r (.cons ra ka .nil) = if (evalP m ra ka).2 ≠ 0 then (zeroV, (evalP m ra ka).2) else unP r.o (evalP m ra ka).1 := by
 have e : evK m (.cons ra ka .nil) = if (evalP m ra ka).2 ≠ 0 then ([], (evalP m ra ka).2) else ((evalP m ra ka).1 :: (evK m .nil).1, (evK m .nil).2) := by rw [evK]; rfl
 show ev1 m r 1 (evK m (.cons ra ka .nil)) = _
 rw [e]
 generalize evalP m ra ka = v
 unfold ev1
 rw [if_neg (by rw [h]; decide), if_neg (by rw [h]; decide), if_neg (by rw [h]; decide), if_pos h, if_neg (by decide)]
 by_cases g : v.2 ≠ 0
 ·rw [if_pos g, if_pos g, if_pos g]
 ·rw [if_neg g, if_neg g]; exact if_neg (fun h => h rfl)
theorem ev5 {m : EnvM} {r ra rb : ER} {ka kb : Fo} (h : r.k = 5) : evalP m r (.cons ra ka (.cons rb kb .nil)) = if (evalP m ra ka).2 ≠ 0 then (zeroV, (evalP m ra ka).2) else if (evalP m rb kb).2 ≠ 0 then (zeroV, (evalP m rb kb).2) else binP r.o (evalP m ra ka).1 (evalP m rb kb).1 := by
 have e2 : evK m (.cons rb kb .nil) = if (evalP m rb kb).2 ≠ 0 then ([], (evalP m rb kb).2) else ((evalP m rb kb).1 :: (evK m .nil).1, (evK m .nil).2) := by rw [evK]; rfl
 have e : evK m (.cons ra ka (.cons rb kb .nil)) = if (evalP m ra ka).2 ≠ 0 then ([], (evalP m ra ka).2) else ((evalP m ra ka).1 :: (evK m (.cons rb kb .nil)).1, (evK m (.cons rb kb .nil)).2) := by rw [evK]; rfl
 show ev1 m r 2 (evK m (.cons ra ka (.cons rb kb .nil))) = _
 rw [e, e2]
 generalize evalP m ra ka = v
 generalize evalP m rb kb = w
 unfold ev1
 rw [if_neg (by rw [h]; decide), if_neg (by rw [h]; decide), if_neg (by rw [h]; decide), if_neg (by rw [h]; decide), if_pos h, if_neg (by decide)]
 by_cases g : v.2 ≠ 0
 ·rw [if_pos g, if_pos g, if_pos g]
 ·rw [if_neg g, if_neg g]
  by_cases g2 : w.2 ≠ 0
  ·rw [if_pos g2, if_pos g2, if_pos g2]
  ·rw [if_neg g2, if_neg g2]; exact if_neg (fun h => h rfl)

abbrev X51 := Int → Int → Int → Int → ByteArray → Bool → ByteArray → Int → ByteArray → Sl → Sl → Sl → ByteArray → ByteArray → Int → Sl → Sl → Hp → (Int → Int → ByteArray → Bool → Int → Hp → Prop) → Prop
def W51 (X : X51) (B : Nat) (p0 p1 : Sl) (p2 p3 : ByteArray) (p4 : Int) (p5 p6 : Sl) (m : EnvM) (f : Fo) : Prop :=
 ∀ (r : ER) (q : Sl) (H : Hp) (Q : Int → Int → ByteArray → Bool → Int → Hp → Prop), EnvC H p0 p1 p2 p3 p4 p5 p6 m → B ≤ H.size → q.n = f.len → FoH B H q.b 0 f →
  (∀ H', Kp No H H' → Q (evalP m r f).1.k (evalP m r f).1.n (evalP m r f).1.s (evalP m r f).1.b (evalP m r f).2 H') → X r.k r.o r.vk r.vi r.vs r.vb r.v r.p r.a q p0 p1 p2 p3 p4 p5 p6 H Q
def A51 (X : X51) (B : Nat) (p0 p1 : Sl) (p2 p3 : ByteArray) (p4 : Int) (p5 p6 : Sl) (m : EnvM) : Fo → Prop
 | .nil => True
 | .cons _ k s => W51 X B p0 p1 p2 p3 p4 p5 p6 m k ∧ A51 X B p0 p1 p2 p3 p4 p5 p6 m s

section
variable {X : X51} {B : Nat} {p0 p1 : Sl} {p2 p3 : ByteArray} {p4 : Int} {p5 p6 : Sl} {m : EnvM}
theorem step51 (hX : ∀ (p0_0 p0_1 p0_2 p0_3 : Int) (p0_4 : ByteArray) (p0_5 : Bool) (p0_6 : ByteArray) (p0_7 : Int) (p0_8 : ByteArray) (p0_9 p1_0 p1_1 : Sl) (p1_2 p1_3 : ByteArray) (p1_4 : Int) (p1_5 p1_6 : Sl) (H : Hp) (Q : Int → Int → ByteArray → Bool → Int → Hp → Prop), F51b X p0_0 p0_1 p0_2 p0_3 p0_4 p0_5 p0_6 p0_7 p0_8 p0_9 p1_0 p1_1 p1_2 p1_3 p1_4 p1_5 p1_6 H Q → X p0_0 p0_1 p0_2 p0_3 p0_4 p0_5 p0_6 p0_7 p0_8 p0_9 p1_0 p1_1 p1_2 p1_3 p1_4 p1_5 p1_6 H Q)
  (hg : ∀ l ∈ m.bound, ∀ e ∈ l, RngE e) {kd : Fo} (ha : A51 X B p0 p1 p2 p3 p4 p5 p6 m kd) : W51 X B p0 p1 p2 p3 p4 p5 p6 m kd := by
 intro r q H Q h hB hn hf hQ
 refine hX _ _ _ _ _ _ _ _ _ _ _ _ _ _ _ _ _ _ _ ?_
 intro H1 e1 H3 e3 H5 e5
 have k1 : Kp No H H1 := (Kp.refl _ _).push' e1
 have k3 : Kp No H H3 := k1.push' e3
 have k5 : Kp No H H5 := k3.push' e5
 have r1 : Row H5 H.size 41 (r.row q) := ((Row.new' e1).push' e3).push' e5
 have r2 : Row H5 H1.size 43 (envRow p0 p1 p2 p3 p4 p5 p6) := (Row.new' e3).push' e5
 have r3 : Row H5 H3.size 38 zeroV.row := Row.new' e5
 have s1 := size_push' e1
 have s3 := size_push' e3
 have s5 := size_push' e5
 have out : ∀ {Hx : Hp} (v : VT) (n : Int), Kp No H5 Hx → evalP m r kd = (v, n) → mayw Hx ⟨H3.size, 0, none⟩ 4 0 ∧ ∀ H' : Hp, H' = sets Hx ⟨H3.size, 0, none⟩ [(.int .i64 v.k), (.int .i64 v.n), (.string v.s), (.bool v.b)] 0 →
   (∃ (x6 : Int) (x7 : Int) (x8 : ByteArray) (x9 : Bool), cells H' ⟨H3.size, 0, none⟩ [(.int .i64 x6), (.int .i64 x7), (.string x8), (.bool x9)] 0 ∧ (Q x6 x7 x8 x9 n H')) := fun {Hx} v n k e => by
  refine ret4 (K := fun a b c d H' => Q a b c d n H') (k.row r3 id) rfl v fun H' _ k' => ?_
  have q := hQ H' ((k5.no2 k).box k' (by omega))
  rw [e] at q
  exact q
 refine ⟨r.k, r1.cell_of rfl, fun g1 => ?_, fun g1 => ⟨fun g2 => ?_, fun g2 => ⟨fun g3 => ?_, fun g3 => ?_⟩⟩⟩
 ·unfold evalP ev1 at out
  rw [if_pos (of_decide_eq_true g1)] at out
  refine ⟨_, _, _, _, rowcs (i := 2) (m := [.int .i64 r.vk, .int .i64 r.vi, .string r.vs, .bool r.vb]) r1 rfl, c48 (v := ⟨r.vk, r.vi, r.vs, r.vb⟩) fun H15 k15 => ⟨fun g => ?_, fun g => ?_⟩⟩
  ·exact out zeroV 12 k15 (by rw [if_neg (by intro e; rw [e] at g; cases g)])
  ·exact ⟨_, _, _, _, rowcs (i := 2) (m := [.int .i64 r.vk, .int .i64 r.vi, .string r.vs, .bool r.vb]) (k15.row r1 id) rfl, out ⟨r.vk, r.vi, r.vs, r.vb⟩ 0 k15 (by rw [if_pos (by cases e : vld ⟨r.vk, r.vi, r.vs, r.vb⟩; rw [e] at g; cases g; rfl)])⟩
 ·unfold evalP ev1 at out
  rw [if_neg (of_decide_eq_false g1), if_pos (of_decide_eq_true g2)] at out
  exact ⟨_, _, _, _, _, _, _, _, _, _, r1.all, _, _, _, _, _, _, _, r2.all, c63 (h.no k5) fun H60 k60 => out (refP m r).1 (refP m r).2 k60 rfl⟩
 ·unfold evalP ev1 at out
  rw [if_neg (of_decide_eq_false g1), if_neg (of_decide_eq_false g2), if_pos (of_decide_eq_true g3)] at out
  exact ⟨_, _, _, _, _, _, _, _, _, _, r1.all, _, _, _, _, _, _, _, r2.all, c64 (h.no k5) hg fun H60 k60 => out (aggP m r).1 (aggP m r).2 k60 rfl⟩
 have g1 := of_decide_eq_false g1
 have g2 := of_decide_eq_false g2
 have g3 := of_decide_eq_false g3
 have bad : ¬ ((r.k = 4 ∧ kd.len = 1) ∨ (r.k = 5 ∧ kd.len = 2)) → F51_1 X Q ⟨H.size, 0, none⟩ ⟨H1.size, 0, none⟩ ⟨H3.size, 0, none⟩ true H5 := fun hb => by
  refine ⟨fun _ => out zeroV 60 (Kp.refl _ _) ?_, fun h => (by cases h)⟩
  unfold evalP ev1
  rw [if_neg g1, if_neg g2, if_neg g3]
  by_cases h4 : r.k = 4
  ·rw [if_pos h4, if_pos (by omega)]
  ·rw [if_neg h4]
   by_cases h5 : r.k = 5
   ·rw [if_pos h5, if_pos (by omega)]
   ·rw [if_neg h5]
 have good : ((r.k = 4 ∧ kd.len = 1) ∨ (r.k = 5 ∧ kd.len = 2)) → F51_1 X Q ⟨H.size, 0, none⟩ ⟨H1.size, 0, none⟩ ⟨H3.size, 0, none⟩ false H5 := fun hl => by
  match kd, hf, ha with
  | .nil, _, _ => simp only [Fo.len] at hl; omega
  | .cons ra ka s, ⟨a, qa, ea, hb, hc, hqa, hfa, hfs⟩, ⟨wa, was⟩ =>
   have hlen : (Fo.cons ra ka s).len = s.len + 1 := rfl
   rw [hlen] at hl hn
   have kc := k5
   have ca : cells H5 (a.add (0 * 10)) (ra.row qa) 0 := kc.cells (by rw [ablk]; omega) id hc
   refine ⟨fun h => (by cases h), fun _ => ⟨q, rowc (i := 9) r1 rfl, a, ea, Int.le_refl _, by omega, _, _, _, _, _, _, _, _, _, _, ca, _, _, _, _, _, _, _, r2.all, ?_⟩⟩
   have two : ∀ (w : Nat) (H' : Hp), Row H' w 38 (evalP m ra ka).1.row → Kp No H5 H' → F51_2 X Q ⟨H.size, 0, none⟩ ⟨H1.size, 0, none⟩ ⟨H3.size, 0, none⟩ ⟨w, 0, none⟩ (evalP m ra ka).2 H' := fun w H' rw1 k => by
    refine ⟨fun ge => out zeroV (evalP m ra ka).2 k ?_, fun ge => ⟨r.k, (k.row r1 id).cell_of rfl, fun g4 => ?_, fun g4 => ?_⟩⟩
    ·have ge := of_decide_eq_true ge
     rcases hl with ⟨h4, hs⟩ | ⟨h5, hs⟩
     ·match s, hs with
      | .nil, _ => rw [ev4 h4, if_pos ge]
      | .cons _ _ _, hs => simp only [Fo.len] at hs; omega
     ·match s, hs with
      | .nil, hs => simp only [Fo.len] at hs; omega
      | .cons rb kb .nil, _ => rw [ev5 h5, if_pos ge]
      | .cons _ _ (.cons _ _ _), hs => simp only [Fo.len] at hs; omega
    ·have ge : (evalP m ra ka).2 = 0 := Decidable.not_not.1 (of_decide_eq_false ge)
     have g4 := of_decide_eq_true g4
     rcases hl with ⟨h4, hs⟩ | ⟨h5, hs⟩
     ·match s, hs with
      | .nil, _ =>
       rw [ev4 h4, if_neg (fun h => h ge)] at out
       exact ⟨r.o, rowc (i := 1) (k.row r1 id) rfl, _, _, _, _, rw1.all, c65 (eval_vld ge) fun H218 k218 => out (unP r.o (evalP m ra ka).1).1 (unP r.o (evalP m ra ka).1).2 (k.no2 k218) rfl⟩
      | .cons _ _ _, hs => simp only [Fo.len] at hs; omega
     ·omega
    ·have ge : (evalP m ra ka).2 = 0 := Decidable.not_not.1 (of_decide_eq_false ge)
     have g4 := of_decide_eq_false g4
     rcases hl with ⟨h4, hs⟩ | ⟨h5, hs⟩
     ·exact absurd h4 g4
     ·match s, hs, hfs, was with
      | .nil, hs, _, _ => simp only [Fo.len] at hs; omega
      | .cons rb kb .nil, _, ⟨a', qb, ea', hb', hc', hqb, hfb, _⟩, ⟨wb, _⟩ =>
       rw [ea] at ea'; cases ea'
       rw [ev5 h5, if_neg (fun h => h ge)] at out
       have kk := k5.no2 k
       have cb : ∀ {Hx}, Kp No H5 Hx → cells Hx (a.add (1 * 10)) (rb.row qb) 0 := fun kx => (k5.no2 kx).cells (by rw [ablk]; omega) id hc'
       refine ⟨q, rowc (i := 9) (k.row r1 id) rfl, a, ea, by decide, by omega, _, _, _, _, _, _, _, _, _, _, cb k, _, _, _, _, _, _, _, (k.row r2 id).all, ?_⟩
       have three : ∀ (w' : Nat) (H'' : Hp), Row H'' w' 38 (evalP m rb kb).1.row → Row H'' w 38 (evalP m ra ka).1.row → Kp No H5 H'' → F51_3 X Q ⟨H.size, 0, none⟩ ⟨H3.size, 0, none⟩ ⟨w, 0, none⟩ (evalP m rb kb).2 ⟨w', 0, none⟩ H'' := fun w' H'' rw2 rw1 k => by
        refine ⟨fun ge2 => out zeroV (evalP m rb kb).2 k (by rw [if_pos (of_decide_eq_true ge2)]), fun ge2 => ?_⟩
        have ge2 : (evalP m rb kb).2 = 0 := Decidable.not_not.1 (of_decide_eq_false ge2)
        rw [if_neg (fun h => h ge2)] at out
        exact ⟨r.o, rowc (i := 1) (k.row r1 id) rfl, _, _, _, _, rw1.all, _, _, _, _, rw2.all, c66 (eval_vld ge) (eval_vld ge2) fun H314 k314 => out (binP r.o (evalP m ra ka).1 (evalP m rb kb).1).1 (binP r.o (evalP m ra ka).1 (evalP m rb kb).1).2 (k.no2 k314) rfl⟩
       refine ⟨wb rb qb H' _ (h.no kk) (by have := kk.size; omega) hqb (hfb.kp kk fun _ _ => id) fun H261 k261 => ?_, fun H277 e277 => ?_⟩
       ·have kx := k.no2 k261
        refine ⟨rowc (i := 9) (kx.row r1 id) rfl, fun H269 e269 => ?_⟩
        have k269 : Kp No H261 H269 := (Kp.refl _ _).push' e269
        have r269 := Row.new' e269
        refine ⟨rowc (i := 9) ((kx.no2 k269).row r1 id) rfl, r269.mayw (by simp), fun H272 e272 => ?_⟩
        have r272 : Row H272 H261.size 38 (evalP m rb kb).1.row := r269.fill' e272 rfl
        have k272 : Kp No H261 H272 := k269.sets' e272 (.inr (Nat.le_refl _))
        exact three _ H272 r272 (k272.row (k261.row rw1 id) id) (kx.no2 k272)
       ·have k277 : Kp No H' H277 := (Kp.refl _ _).push' e277
        have r277 := Row.new' e277
        have kx := k.no2 k277
        refine ⟨(kx.row r2 id).all, cb kx, rowc (i := 9) (kx.row r1 id) rfl, wb rb qb H277 _ (h.no (k5.no2 kx)) (by have := (k5.no2 kx).size; omega) hqb (hfb.kp (k5.no2 kx) fun _ _ => id) fun H282 k282 => ?_⟩
        have kz := kx.no2 k282
        refine ⟨rowc (i := 9) (kz.row r1 id) rfl, (k282.row r277 id).mayw (by simp), fun H290 e290 => ?_⟩
        have r290 : Row H290 H'.size 38 (evalP m rb kb).1.row := (k282.row r277 id).fill' e290 rfl
        have k290 : Kp No H' H290 := (k277.no2 k282).sets' e290 (.inr (Nat.le_refl _))
        exact three _ H290 r290 (k290.row rw1 id) (k.no2 k290)
      | .cons _ _ (.cons _ _ _), hs, _, _ => simp only [Fo.len] at hs; omega
   refine ⟨wa ra qa H5 _ (h.no k5) (by have := k5.size; omega) hqa (hfa.kp k5 fun _ _ => id) fun H167 k167 => ?_, fun H183 e183 => ?_⟩
   ·refine ⟨rowc (i := 9) (k167.row r1 id) rfl, fun H175 e175 => ?_⟩
    have k175 : Kp No H167 H175 := (Kp.refl _ _).push' e175
    have r175 := Row.new' e175
    refine ⟨rowc (i := 9) ((k167.no2 k175).row r1 id) rfl, r175.mayw (by simp), fun H178 e178 => ?_⟩
    have r178 : Row H178 H167.size 38 (evalP m ra ka).1.row := r175.fill' e178 rfl
    have k178 : Kp No H167 H178 := k175.sets' e178 (.inr (Nat.le_refl _))
    exact two _ H178 r178 (k167.no2 k178)
   ·have k183 : Kp No H5 H183 := (Kp.refl _ _).push' e183
    have r183 := Row.new' e183
    have kx := k5.no2 k183
    refine ⟨(k183.row r2 id).all, kx.cells (by rw [ablk]; omega) id hc, rowc (i := 9) (k183.row r1 id) rfl, wa ra qa H183 _ (h.no kx) (by have := kx.size; omega) hqa (hfa.kp kx fun _ _ => id) fun H188 k188 => ?_⟩
    have kz := k183.no2 k188
    refine ⟨rowc (i := 9) (kz.row r1 id) rfl, (k188.row r183 id).mayw (by simp), fun H196 e196 => ?_⟩
    have r196 : Row H196 H5.size 38 (evalP m ra ka).1.row := (k188.row r183 id).fill' e196 rfl
    have k196 : Kp No H5 H196 := kz.sets' e196 (.inr (Nat.le_refl _))
    exact two _ H196 r196 k196
 have ek : r.k = 4 ∨ r.k = 5 → IntKind.i64.wrap (r.k - 3) = r.k - 3 := fun h => wr (by omega) (by omega)
 refine ⟨r.k, r1.cell_of rfl, fun g4 => ⟨r.k, r1.cell_of rfl, fun g5 => bad ?_, fun g5 => ⟨q, rowc (i := 9) r1 rfl, r.k, r1.cell_of rfl, ?_⟩⟩, fun g4 => ⟨q, rowc (i := 9) r1 rfl, r.k, r1.cell_of rfl, ?_⟩⟩
 ·have g4 := of_decide_eq_true g4
  have g5 := of_decide_eq_true g5
  omega
 ·have g5 : r.k = 5 := Decidable.not_not.1 (of_decide_eq_false g5)
  rw [ek (.inr g5)]
  cases e : decide ((q.n : Int) ≠ r.k - 3) with
  | true => have e := of_decide_eq_true e; exact bad (by omega)
  | false => have e := Decidable.not_not.1 (of_decide_eq_false e); exact good (by omega)
 ·have g4 : r.k = 4 := Decidable.not_not.1 (of_decide_eq_false g4)
  rw [ek (.inl g4)]
  cases e : decide ((q.n : Int) ≠ r.k - 3) with
  | true => have e := of_decide_eq_true e; exact bad (by omega)
  | false => have e := Decidable.not_not.1 (of_decide_eq_false e); exact good (by omega)
theorem c51 {H : Hp} {r : ER} {q : Sl} {kd : Fo} {Q : Int → Int → ByteArray → Bool → Int → Hp → Prop} (h : EnvC H p0 p1 p2 p3 p4 p5 p6 m) (hg : ∀ l ∈ m.bound, ∀ e ∈ l, RngE e) (hn : q.n = kd.len) (hf : FoH H.size H q.b 0 kd)
  (hQ : ∀ H', Kp No H H' → Q (evalP m r kd).1.k (evalP m r kd).1.n (evalP m r kd).1.s (evalP m r kd).1.b (evalP m r kd).2 H') : F51 r.k r.o r.vk r.vi r.vs r.vb r.v r.p r.a q p0 p1 p2 p3 p4 p5 p6 H Q := by
 intro X hX
 have all : ∀ f : Fo, W51 X H.size p0 p1 p2 p3 p4 p5 p6 m f ∧ A51 X H.size p0 p1 p2 p3 p4 p5 p6 m f := by
  intro f
  induction f with
  | nil => exact ⟨step51 hX hg trivial, trivial⟩
  | cons r k s ihk ihs => exact ⟨step51 hX hg ⟨ihk.1, ihs.2⟩, ihk.1, ihs.2⟩
 exact (all kd).1 r q H Q h (Nat.le_refl _) hn hf hQ
end

theorem top_dep (kd : Fo) : max 1 (kd.deep 2) = ((kd.dep + 1 : Nat) : Int) := by
 obtain ⟨h1, h2⟩ := kd.deep_dep 2 (by decide)
 by_cases e : kd.dep = 0
 ·rw [h1 e, e]; rfl
 ·rw [h2 e]; omega
theorem top_vld {m : EnvM} {r : ER} {k : Fo} : (topP m r k).2 = 0 → vld (topP m r k).1 = true := by
 unfold topP
 split
 ·exact fun h => absurd h (by decide)
 ·split
  ·exact fun h => absurd h (by decide)
  ·exact eval_vld
theorem truth_eq {v : VT} (h : vld v = true) : (decide (v.k = 3) && (decide (v.n = 0) && (seq v.s E && (v.b == true)))) = true ↔ v.k = 3 ∧ v.b = true := by
 rcases vld_cases h with e | e | e
 ·generalize v.n = x at e; subst e; simp [numV]
 ·generalize v.s = x at e; subst e; simp
 ·generalize v.b = b at e; subst e
  have es : seq (truthV b).s E = true := seq_self E
  rw [es]
  cases b <;> simp [truthV]

section
variable {H : Hp} {p0 p1 : Sl} {p2 p3 : ByteArray} {p4 : Int} {p5 p6 : Sl} {m : EnvM} {A : Nat → Prop}

theorem c32 {r : ER} {q : Sl} {kd : Fo} {Q : Int → Int → ByteArray → Bool → Int → Hp → Prop} (h : EnvC H p0 p1 p2 p3 p4 p5 p6 m) (hg : ∀ l ∈ m.bound, ∀ e ∈ l, RngE e) (he : Ex A H q kd) (hl : kd.nodes ≤ 4194304)
  (hQ : ∀ H', Kp No H H' → Q (topP m r kd).1.k (topP m r kd).1.n (topP m r kd).1.s (topP m r kd).1.b (topP m r kd).2 H') : F32 r.k r.o r.vk r.vi r.vs r.vb r.v r.p r.a q p0 p1 p2 p3 p4 p5 p6 H Q := by
 intro H1 e1 H3 e3 H5 e5
 have k1 : Kp No H H1 := (Kp.refl _ _).push' e1
 have k3 : Kp No H H3 := k1.push' e3
 have k5 : Kp No H H5 := k3.push' e5
 have r1 : Row H5 H.size 41 (r.row q) := ((Row.new' e1).push' e3).push' e5
 have r2 : Row H5 H1.size 43 (envRow p0 p1 p2 p3 p4 p5 p6) := (Row.new' e3).push' e5
 have r3 : Row H5 H3.size 38 zeroV.row := Row.new' e5
 have s1 := size_push' e1
 have s3 := size_push' e3
 have out : ∀ {Hx : Hp} (v : VT) (n : Int), Kp No H5 Hx → topP m r kd = (v, n) → mayw Hx ⟨H3.size, 0, none⟩ 4 0 ∧ ∀ H' : Hp, H' = sets Hx ⟨H3.size, 0, none⟩ [(.int .i64 v.k), (.int .i64 v.n), (.string v.s), (.bool v.b)] 0 →
   (∃ (x6 : Int) (x7 : Int) (x8 : ByteArray) (x9 : Bool), cells H' ⟨H3.size, 0, none⟩ [(.int .i64 x6), (.int .i64 x7), (.string x8), (.bool x9)] 0 ∧ (Q x6 x7 x8 x9 n H')) := fun {Hx} v n k e => by
  refine ret4 (K := fun a b c d H' => Q a b c d n H') (k.row r3 id) rfl v fun H' _ k' => ?_
  have q := hQ H' ((k5.no2 k).box k' (by omega))
  rw [e] at q
  exact q
 unfold topP at out
 rw [top_dep] at out
 refine ⟨_, _, _, _, _, _, _, _, _, _, r1.all, c50 (he.no k5).f.foH he.n (by omega) fun H18 k18 => ?_⟩
 have kk := k5.no2 k18
 have bad : ((256 : Int) < ((1 + kd.nodes : Nat) : Int) ∨ (32 : Int) < ((kd.dep + 1 : Nat) : Int)) → F32_1 Q ⟨H.size, 0, none⟩ ⟨H1.size, 0, none⟩ ⟨H3.size, 0, none⟩ true H18 := fun hb => by
  refine ⟨fun _ => out zeroV 71 k18 ?_, fun h => (by cases h)⟩
  by_cases h1 : (32 : Int) < ((kd.dep + 1 : Nat) : Int)
  ·rw [if_pos h1]
  ·rw [if_neg h1, if_pos (by omega)]
 have good : ¬ ((256 : Int) < ((1 + kd.nodes : Nat) : Int)) → ¬ ((32 : Int) < ((kd.dep + 1 : Nat) : Int)) → F32_1 Q ⟨H.size, 0, none⟩ ⟨H1.size, 0, none⟩ ⟨H3.size, 0, none⟩ false H18 := fun h1 h2 => by
  rw [if_neg h2, if_neg h1] at out
  exact ⟨fun h => (by cases h), fun _ => ⟨_, _, _, _, _, _, _, _, _, _, (k18.row r1 id).all, _, _, _, _, _, _, _, (k18.row r2 id).all, c51 (h.no kk) hg he.n (he.no kk).f.foH fun H56 k56 => out (evalP m r kd).1 (evalP m r kd).2 (k18.no2 k56) rfl⟩⟩
 refine ⟨fun g => bad (.inl (of_decide_eq_true g)), fun g => ?_⟩
 cases g2 : decide ((32 : Int) < ((kd.dep + 1 : Nat) : Int)) with
 | true => exact bad (.inr (of_decide_eq_true g2))
 | false => exact good (of_decide_eq_false g) (of_decide_eq_false g2)

theorem c34 {sl : Sl} {f : Fo} {Q : Bool → Hp → Prop} (h : EnvC H p0 p1 p2 p3 p4 p5 p6 m) (hg : ∀ l ∈ m.bound, ∀ e ∈ l, RngE e) (he : Ex A H sl f) (hl : f.small) (hn : f.len ≤ 4194304) (hQ : ∀ H', Kp No H H' → Q (holdsP m f) H') : F34 sl p0 p1 p2 p3 p4 p5 p6 H Q := by
 intro H1 e1
 have k1 : Kp No H H1 := (Kp.refl _ _).push' e1
 have r1 : Row H1 H.size 43 (envRow p0 p1 p2 p3 p4 p5 p6) := Row.new' e1
 have sn := he.n
 intro X hX
 suffices G : ∀ (g : Fo) (i : Nat) (H' : Hp), i + g.len = f.len → FoA A H sl.b i g → g.small → holdsP m f = holdsP m g → Kp No H1 H' → X (i : Int) H' from G f 0 H1 (by omega) he.f hl rfl (Kp.refl _ _)
 intro g
 induction g with
 | nil =>
  intro i H' hi hg _ e k
  simp only [Fo.len] at hi
  refine hX _ _ ⟨fun g => absurd (of_decide_eq_true g) (by omega), fun _ => ?_⟩
  have q := hQ H' (k1.no2 k)
  rw [e] at q
  exact q
 | cons r kd s _ ih =>
  intro i H' hi hgf hs e k
  obtain ⟨a, q, ea, hA, hc, hqn, hk, hr⟩ := hgf
  simp only [Fo.len] at hi
  have it : ((i : Int)).toNat = i := by omega
  have kk := k1.no2 k
  have fin : ∀ (b : Bool) (Hx : Hp), Kp No H1 Hx → holdsP m (.cons r kd s) = b → Q b Hx := fun b Hx kx hb => by
   have q := hQ Hx (k1.no2 kx)
   rw [e, hb] at q
   exact q
  have lt : (a.add (i * 10)).block < H.size := cells_block hc (fun h => by cases h)
  have ce : ∀ {Hx}, Kp No H1 Hx → cells Hx (a.add ((i : Int).toNat * 10)) (r.row q) 0 := fun kx => by rw [it]; exact (k1.no2 kx).cells lt id hc
  have two : ∀ (w : Nat) (Hx : Hp), Row Hx w 38 (topP m r kd).1.row → Kp No H1 Hx → F34_2 Q X sl ⟨H.size, 0, none⟩ (i : Int) ⟨w, 0, none⟩ (topP m r kd).2 Hx := fun w Hx rw1 kx => by
   unfold holdsP at fin
   refine ⟨fun g => ⟨fun _ => fin false Hx kx (by rw [if_pos (of_decide_eq_true g)]), fun h => (by cases h)⟩, fun g => ?_⟩
   have g := of_decide_eq_false g
   have hv := top_vld (Decidable.not_not.1 g)
   refine ⟨_, _, _, _, rw1.all, c52 fun H72 k72 => ⟨(k72.row rw1 id).all, ?_⟩⟩
   have te := truth_eq hv
   rw [if_neg g] at fin
   generalize ec : (decide ((topP m r kd).1.k = 3) && (decide ((topP m r kd).1.n = 0) && (seq (topP m r kd).1.s E && ((topP m r kd).1.b == true)))) = c at te
   refine ⟨fun g2 => fin false H72 (kx.no2 k72) ?_, fun g2 => ?_⟩
   ·have g2 : c = false := by simpa using g2
    by_cases e3 : (topP m r kd).1.k ≠ 3
    ·rw [if_pos e3]
    ·rw [if_neg e3, if_neg]
     intro eb
     have := te.2 ⟨Decidable.not_not.1 e3, eb⟩
     rw [this] at g2; cases g2
   ·have g2 : c = true := by simpa using g2
    obtain ⟨e3, eb⟩ := te.1 g2
    rw [wr (by omega) (by omega), show ((i : Int) + 1) = ((i + 1 : Nat) : Int) from by omega]
    refine ih (i + 1) H72 (by omega) hr hs.2 ?_ (kx.no2 k72)
    rw [e, holdsP, if_neg g, if_neg (fun h => h e3), if_pos eb]
  refine hX _ _ ⟨fun _ => ⟨a, ea, by omega, by omega, _, _, _, _, _, _, _, _, _, _, ce k, _, _, _, _, _, _, _, (k.row r1 id).all, ?_⟩, fun g => absurd (of_decide_eq_false g) (by omega)⟩
  refine ⟨c32 (h.no kk) hg ⟨hqn, hk.kp kk fun _ _ => id⟩ hs.1 fun H33 k33 H40 e40 => ?_, fun H47 e47 => ?_⟩
  ·have k40 : Kp No H33 H40 := (Kp.refl _ _).push' e40
   have r40 := Row.new' e40
   refine ⟨r40.mayw (by simp), fun H42 e42 => ?_⟩
   have r42 : Row H42 H33.size 38 (topP m r kd).1.row := r40.fill' e42 rfl
   exact two _ H42 r42 (k.no2 (k33.no2 (k40.sets' e42 (.inr (Nat.le_refl _)))))
  ·have k47 : Kp No H' H47 := (Kp.refl _ _).push' e47
   have r47 := Row.new' e47
   have kx := k.no2 k47
   refine ⟨(kx.row r1 id).all, ce kx, c32 (h.no (k1.no2 kx)) hg ⟨hqn, hk.kp (k1.no2 kx) fun _ _ => id⟩ hs.1 fun H51 k51 => ?_⟩
   have r51 := k51.row r47 id
   refine ⟨r51.mayw (by simp), fun H58 e58 => ?_⟩
   have r58 : Row H58 H'.size 38 (topP m r kd).1.row := r51.fill' e58 rfl
   exact two _ H58 r58 (k.no2 ((k47.no2 k51).sets' e58 (.inr (Nat.le_refl _))))
end
end Go.Hw
