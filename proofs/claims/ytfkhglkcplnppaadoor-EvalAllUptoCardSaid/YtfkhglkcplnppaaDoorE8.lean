/- Eval, Holds; is, not; begun. Own work of this session. -/
import Derived.Test.YtfkhglkcplnppaaDoorE7
set_option linter.unusedVariables false
namespace Go.Hw
open Go

def topP (m : EnvM) (r : ER) (k : Fo) : VT × Int := if 32 < max 1 (k.deep 2) then (zeroV, 71) else if 256 < ((1 + k.nodes : Nat) : Int) then (zeroV, 71) else evalP m r k
def holdsP (m : EnvM) : Fo → Bool
 | .nil => true
 | .cons r k s => if (topP m r k).2 ≠ 0 then false else if (topP m r k).1.k ≠ 3 then false else if (topP m r k).1.b = true then holdsP m s else false
def Fo.small : Fo → Prop
 | .nil => True
 | .cons _ k s => k.nodes ≤ 4194304 ∧ s.small

section
variable {H : Hp} {p0 p1 : Sl} {p2 p3 : ByteArray} {p4 : Int} {p5 p6 : Sl} {m : EnvM} {A : Nat → Prop}

theorem c22 {r : ER} {q : Sl} {kd : Fo} {Q : Int → Int → ByteArray → Bool → Int → Hp → Prop} (h : EnvH H p0 p1 p2 p3 p4 p5 p6 m) (hw : WantsH H) (he : Ex A H q kd) (hl : kd.nodes ≤ 4194304)
  (hQ : ∀ H', Kp No H H' → Q (topP m r kd).1.k (topP m r kd).1.n (topP m r kd).1.s (topP m r kd).1.b (topP m r kd).2 H') : F22 r.k r.o r.vk r.vi r.vs r.vb r.v r.p r.a q p0 p1 p2 p3 p4 p5 p6 H Q := by
 intro H1 e1 H3 e3 H5 e5
 have k1 : Kp No H H1 := (Kp.refl _ _).push' e1
 have k3 : Kp No H H3 := k1.push' e3
 have k5 : Kp No H H5 := k3.push' e5
 have r1 : Row H5 H.size 41 (r.row q) := ((Row.new' e1).push' e3).push' e5
 have r2 : Row H5 H1.size 43 (envRow p0 p1 p2 p3 p4 p5 p6) := (Row.new' e3).push' e5
 have r3 : Row H5 H3.size 38 zeroV.row := Row.new' e5
 have s1 := size_push' e1
 have s3 := size_push' e3
 have out : ∀ {Hx : Hp} (v : VT) (n : Int), Kp No H5 Hx → topP m r kd = (v, n) → mayw Hx ⟨H3.size, 0, none⟩ 4 0 ∧ ∀ H' : Hp, H' = sets Hx ⟨H3.size, 0, none⟩ [(.int .i64 v.k), (.int .i64 v.n), (.string v.s), (.bool v.b)] 0 →
   (∃ (x6 : Int) (x7 : Int) (x8 : ByteArray) (x9 : Bool), cells H' ⟨H3.size, 0, none⟩ [(.int .i64 x6), (.int .i64 x7), (.string x8), (.bool x9)] 0 ∧ (Q x6 x7 x8 x9 n H')) := fun {Hx} v n k e => by
  refine ret4 (K := fun a b c d H' => Q a b c d n H') (k.row r3 id) rfl v fun H' _ k' => ?_
  have q := hQ H' ((k5.no2 k).box k' (by omega))
  rw [e] at q
  exact q
 unfold topP at out
 refine ⟨_, _, _, _, _, _, _, _, _, _, r1.all, kd, he.n, (he.no k5).f.foH, hl, fun H18 k18 => ⟨fun g => ?_, fun g => ?_⟩⟩
 ·exact ⟨fun _ => out zeroV 71 k18 (by rw [if_pos (of_decide_eq_true g)]), fun h => (by cases h)⟩
 rw [if_neg (of_decide_eq_false g)] at out
 refine ⟨fun g2 => out zeroV 71 k18 (by rw [if_pos (of_decide_eq_true g2)]), fun g2 => ?_⟩
 rw [if_neg (of_decide_eq_false g2)] at out
 have kk := k5.no2 k18
 refine ⟨_, _, _, _, _, _, _, (k18.row r2 id).all, _, _, _, _, _, _, _, _, _, _, (k18.row r1 id).all, c38 (h.no kk) (hw.no kk) he.n (he.no kk).f.foH fun H56 k56 => ?_⟩
 exact out (evalP m r kd).1 (evalP m r kd).2 (k18.no2 k56) rfl

theorem c21 {sl : Sl} {f : Fo} {Q : Bool → Hp → Prop} (h : EnvH H p0 p1 p2 p3 p4 p5 p6 m) (hw : WantsH H) (he : Ex A H sl f) (hl : f.small) (hn : f.len ≤ 4194304) (hQ : ∀ H', Kp No H H' → Q (holdsP m f) H') : F21 sl p0 p1 p2 p3 p4 p5 p6 H Q := by
 intro H1 e1
 have k1 : Kp No H H1 := (Kp.refl _ _).push' e1
 have r1 : Row H1 H.size 43 (envRow p0 p1 p2 p3 p4 p5 p6) := Row.new' e1
 have sn := he.n
 intro X hX
 suffices G : ∀ (g : Fo) (i : Nat) (H' : Hp), i + g.len = f.len → FoA A H sl.b i g → g.small → holdsP m f = holdsP m g → Kp No H1 H' → X (i : Int) H' from G f 0 H1 (by omega) he.f hl rfl (Kp.refl _ _)
 intro g
 induction g with
 | nil =>
  intro i H' hi hg _ e k
  simp only [Fo.len] at hi
  refine hX _ _ ⟨fun g => absurd (of_decide_eq_true g) (by omega), fun _ => ?_⟩
  have q := hQ H' (k1.no2 k)
  rw [e] at q
  exact q
 | cons r kd s _ ih =>
  intro i H' hi hg hs e k
  obtain ⟨a, q, ea, hA, hc, hqn, hk, hr⟩ := hg
  simp only [Fo.len] at hi
  have it : ((i : Int)).toNat = i := by omega
  have kk := k1.no2 k
  have fin : ∀ (b : Bool) (Hx : Hp), Kp No H1 Hx → holdsP m (.cons r kd s) = b → Q b Hx := fun b Hx kx hb => by
   have q := hQ Hx (k1.no2 kx)
   rw [e, hb] at q
   exact q
  unfold holdsP at fin
  have lt : (a.add (i * 10)).block < H.size := cells_block hc (fun h => by cases h)
  refine hX _ _ ⟨fun _ => ⟨a, ea, by omega, by omega, r.k, r.o, r.vk, r.vi, r.vs, r.vb, r.v, r.p, r.a, q, by rw [it]; exact kk.cells lt id hc, fun H23 e23 => ?_⟩, fun g => absurd (of_decide_eq_false g) (by omega)⟩
  have k23 := k.push' e23
  have r23 := Row.new' e23
  refine ⟨r23.mayw (by simp), fun H25 e25 => ?_⟩
  have r25 : Row H25 H'.size 41 (r.row q) := r23.fill' e25 rfl
  have k25 : Kp No H1 H25 := k23.sets' e25 (.inr k.size)
  have kk25 := k1.no2 k25
  refine ⟨_, _, _, _, _, _, _, _, _, _, r25.all, _, _, _, _, _, _, _, (k25.row r1 id).all, c22 (A := A) (h.no kk25) (hw.no kk25) ⟨hqn, hk.kp kk25 fun _ _ => id⟩ hs.1 fun H47 k47 H54 e54 => ?_⟩
  have kk47 := k25.no2 k47
  have k54 := kk47.push' e54
  have r54 := Row.new' e54
  refine ⟨r54.mayw (by simp), fun H56 e56 => ?_⟩
  have r56 : Row H56 H47.size 38 (topP m r kd).1.row := r54.fill' e56 rfl
  have k56 : Kp No H1 H56 := k54.sets' e56 (.inr kk47.size)
  refine ⟨fun g => ⟨fun _ => fin false H56 k56 (by rw [if_pos (of_decide_eq_true g)]), fun h => (by cases h)⟩, fun g => ⟨(topP m r kd).1.k, r56.cell_of rfl, fun g2 => ?_, fun g2 => ⟨(topP m r kd).1.b, rowc r56 rfl, ?_⟩⟩⟩
  ·exact ⟨fun _ => fin false H56 k56 (by rw [if_neg (of_decide_eq_false g), if_pos (of_decide_eq_true g2)]), fun h => (by cases h)⟩
  ·refine ⟨fun g3 => fin false H56 k56 ?_, fun g3 => ?_⟩
   ·have t : (topP m r kd).1.b = false := by simpa using g3
    rw [if_neg (of_decide_eq_false g), if_neg (of_decide_eq_false g2), if_neg (by rw [t]; decide)]
   ·have t : (topP m r kd).1.b = true := by simpa using g3
    rw [wr (by omega) (by omega), show ((i : Int) + 1) = ((i + 1 : Nat) : Int) from by omega]
    refine ih (i + 1) H56 (by omega) hr hs.2 ?_ k56
    rw [e, holdsP, if_neg (of_decide_eq_false g), if_neg (of_decide_eq_false g2), if_pos t]

end

theorem vld_num (n : Int) : vld (numV n) = true := by simp [vld, numV, seq_self]
theorem vld_truth (b : Bool) : vld (truthV b) = true := by simp [vld, truthV, seq_self]
end Go.Hw
