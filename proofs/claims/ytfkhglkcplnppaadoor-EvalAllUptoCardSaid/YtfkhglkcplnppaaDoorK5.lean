/- The hand: are the types as they were? The hand: surroundings. Own work of this session. -/
import Derived.Test.YtfkhglkcplnppaaDoorK3
set_option linter.unusedVariables false
namespace Go.Hw
open Go

theorem cellz2 {H : Hp} {a : Addr} {x y : Value} (c : cells H a [x, y] 0) : cell H a = some x ∧ cell H (a.add 1) = some y := by
 obtain ⟨c1, c2, _⟩ := c
 have e : a.add 0 = a := by obtain ⟨b, o, x⟩ := a; cases x <;> simp [Addr.add]
 rw [e] at c1
 exact ⟨c1, c2⟩
section
variable {H : Hp} {hb : Nat} {h : Hd} {A : Nat → Prop}
theorem c53 {p1 : Sl} {AS : List Sl} {T : List TyM} {Q : Bool → Hp → Prop} (hr : Row H hb 32 h.row) (hp : Lst (slP 84) H h.pa AS) (ld : LD A H h.ty AS T) (src : TysH H p1 T) (hQ : ∀ H', Kp No H H' → Q true H') : F53 (some ⟨hb, 0, none⟩) p1 H Q := by
 obtain ⟨R, hR, hRl, hRt⟩ := src.rows
 have sm : T.length ≤ 4194304 := src.small
 have hn : p1.n = T.length := by rw [hR.n, hRl]
 obtain ⟨b, c, W, ety, hc, hmx, hrow, hW, hD⟩ := ld
 have hlW := fl_len tF.len W
 intro X2 hX2
 suffices G : ∀ (d i : Nat) (H' : Hp), i + d = c → Kp No H H' → X2 true (i : Int) H' from G c 0 H (by omega) (Kp.refl _ _)
 intro d
 have hty : ∀ {Hx}, Kp No H Hx → cell Hx ((⟨hb, 0, none⟩ : Addr).add 6) = some (Sl.v (Sl.mk (some ⟨b, 0, none⟩) c c)) := fun k => by rw [← ety, add_mk, Nat.zero_add]; exact (k.row hr id).cell_of rfl
 have hpa : ∀ {Hx}, Kp No H Hx → cell Hx ((⟨hb, 0, none⟩ : Addr).add 3) = some (Sl.v h.pa) := fun k => by rw [add_mk, Nat.zero_add]; exact (k.row hr id).cell_of rfl
 induction d with
 | zero =>
  intro i H' hi k
  exact hX2 _ _ _ ⟨_, rfl, _, hty k, fun g => absurd (of_decide_eq_true g) (by show ¬ (i : Int) < (c : Int); omega), fun _ => hQ H' k⟩
 | succ d ih =>
  intro i H' hi k
  have it : ((i : Nat) : Int).toNat = i := by omega
  have hr' := k.row hrow id
  have nx : ∀ H'', Kp No H H'' → X2 true (IntKind.i64.wrap ((i : Int) + 1)) H'' := fun H'' k'' => by
   rw [wr (by omega) (by omega), show ((i : Int) + 1) = ((i + 1 : Nat) : Int) by omega]
   exact ih (i + 1) H'' (by omega) k''
  refine hX2 _ _ _ ⟨_, rfl, _, hty k, fun _ => ⟨fun _ => ⟨fun g => ?_, fun g => ?_⟩, fun h => (by cases h)⟩, fun g => absurd (of_decide_eq_false g) (by show ¬ ¬ (i : Int) < (c : Int); omega)⟩
  ·have g := of_decide_eq_true g
   have hcs : cells H' ((⟨b, 0, none⟩ : Addr).add ((i : Int).toNat * 2)) [.string S_mark, sN] 0 := by
    rw [it, add_mk]
    refine hr'.cells ?_
    rw [Nat.zero_add, Nat.add_zero, ← hW]
    exact lk_hi tF tMk_len (by omega) (by omega)
   obtain ⟨c1, c2⟩ := cellz2 hcs
   refine ⟨_, rfl, _, hty k, _, rfl, by omega, by show (i : Int) < (c : Int); omega, S_mark, c1, fun _ => ⟨_, rfl, _, hty k, _, rfl, by omega, by show (i : Int) < (c : Int); omega, Sl.nil, c2, nx H' k⟩, fun g2 => ?_⟩
   rw [seq_self] at g2; cases g2
  ·have g := of_decide_eq_false g
   obtain ⟨r, gr⟩ : ∃ r, R[i]? = some r := ⟨_, List.getElem?_eq_getElem (by omega)⟩
   obtain ⟨t, gt⟩ : ∃ t, T[i]? = some t := ⟨_, List.getElem?_eq_getElem (by omega)⟩
   obtain ⟨w, gw⟩ : ∃ w, W[i]? = some w := ⟨_, List.getElem?_eq_getElem (by omega)⟩
   obtain ⟨e1, e2, e3⟩ := hRt i r t gr gt
   have e3 : t.2.length ≤ 4194304 := e3
   have e2n := e2.n
   obtain ⟨g1, g2, b2, c2, ew, hA, hc2, hmx2, hrow2⟩ := hD i w t gw gt
   obtain ⟨a, ha, hlt, hcs0⟩ := hR.get gr
   have hlt' : (a.add (i * 2)).block < H.size := cells_block hcs0 (fun h => by cases h)
   have ca : ∀ {Hx}, Kp No H Hx → cells Hx (a.add ((i : Int).toNat * 2)) [.string r.1, Sl.v r.2] 0 := fun k => by rw [it]; exact k.cells hlt' id hcs0
   have cb : ∀ {Hx}, Kp No H Hx → cells Hx ((⟨b, 0, none⟩ : Addr).add ((i : Int).toNat * 2)) [.string w.1, Sl.v w.2] 0 := fun k => by
    rw [it, add_mk]
    exact (k.row hrow id).cells (by rw [Nat.zero_add, Nat.add_zero]; exact lk_lo tF gw)
   have slot : AS[i]? = some (Sl.mk (some ⟨b2, 0, none⟩) c2 c2) := by rw [g2, ew]
   have sl2 : ∀ {Hx}, Kp No H Hx → ∃ a : Addr, h.pa.b = some a ∧ (0 : Int) ≤ (i : Int) ∧ (i : Int) < (h.pa.n : Int) ∧ cell Hx (a.add ((i : Int).toNat * 1)) = some (Sl.v (Sl.mk (some ⟨b2, 0, none⟩) c2 c2)) := fun k => rdAt (hp.kp k fun _ _ => id).rd slot
   have four : ∀ (wa wb : Nat) (Hx : Hp), Row Hx wa 86 [.string r.1, Sl.v r.2] → Row Hx wb 86 [.string w.1, Sl.v w.2] → Kp No H Hx → F53_4 Q X2 (some ⟨hb, 0, none⟩) p1 (i : Int) ⟨wa, 0, none⟩ ⟨wb, 0, none⟩ Hx := fun wa wb Hx ra rb kx => by
    refine ⟨_, ra.cell_of (i := 0) rfl, _, rb.cell_of (i := 0) rfl, fun _ => ⟨_, rowc (i := 1) ra rfl, _, rowc (i := 1) rb rfl, fun _ => ?_, fun g3 => absurd ?_ (of_decide_eq_false g3)⟩, fun g3 => ?_⟩
    ·obtain ⟨a5, ha5, h05, h15, ca5⟩ := sl2 kx
     refine ⟨_, rfl, _, hpa kx, a5, ha5, h05, h15, _, ca5, _, rowc (i := 1) ra rfl, ?_⟩
     rw [show decide (((r.2).n : Int) < ((Sl.mk (some ⟨b2, 0, none⟩) c2 c2).n : Int)) = true from decide_eq_true (by show (r.2.n : Int) < (c2 : Int); omega)]
     intro X6 hX6
     suffices G2 : ∀ (d j : Nat) (H'' : Hp), j + d = c2 → Kp No Hx H'' → X6 true (j : Int) H'' from G2 c2 0 Hx (by omega) (Kp.refl _ _)
     intro d'
     induction d' with
     | zero =>
      intro j H'' hj k6
      obtain ⟨a6, ha6, h06, h16, ca6⟩ := sl2 (kx.no2 k6)
      exact hX6 _ _ _ ⟨fun _ => ⟨_, rfl, _, hpa (kx.no2 k6), a6, ha6, h06, h16, _, ca6, fun g => absurd (of_decide_eq_true g) (by show ¬ (j : Int) < (c2 : Int); omega), fun _ => nx H'' (kx.no2 k6)⟩, fun h => (by cases h)⟩
     | succ d' ih' =>
      intro j H'' hj k6
      have jt : ((j : Nat) : Int).toNat = j := by omega
      obtain ⟨a6, ha6, h06, h16, ca6⟩ := sl2 (kx.no2 k6)
      have seven : ∀ (v : ByteArray × Int) (H2 : Hp), Kp No Hx H2 → Row H2 H''.size 83 (aF.f v) → ((t.2.flatMap aF.f ++ mks aMk t.2.length (c2 - t.2.length)).drop (j * 2)).take 2 = aF.f v → F53_7 Q X2 X6 (some ⟨hb, 0, none⟩) p1 (i : Int) ⟨wa, 0, none⟩ (j : Int) ⟨H''.size, 0, none⟩ H2 := fun v H2 k2 r2 hv => by
       obtain ⟨a7, ha7, h07, h17, ca7⟩ := sl2 (kx.no2 k2)
       refine ⟨_, rfl, _, hpa (kx.no2 k2), a7, ha7, h07, h17, _, ca7, _, rfl, by omega, by show (j : Int) < (c2 : Int); omega, v.1, v.2, ?_, v.1, v.2, r2.all, ?_⟩
       ·rw [jt, add_mk]
        exact ((kx.no2 k2).row hrow2 id).cells (by rw [Nat.zero_add, Nat.add_zero]; exact hv)
       ·rw [seq_self, decide_eq_true rfl, wr (by omega) (by omega), show ((j : Int) + 1) = ((j + 1 : Nat) : Int) by omega]
        exact ih' (j + 1) H2 (by omega) k2
      refine hX6 _ _ _ ⟨fun _ => ⟨_, rfl, _, hpa (kx.no2 k6), a6, ha6, h06, h16, _, ca6, fun _ => fun H146 e146 => ?_, fun g => absurd (of_decide_eq_false g) (by show ¬ ¬ (j : Int) < (c2 : Int); omega)⟩, fun h => (by cases h)⟩
      have k146 := k6.push' e146
      have r146 := Row.new' e146
      refine ⟨r146.mayw (by simp), fun H148 e148 => ?_⟩
      have r148 : Row H148 H''.size 83 (aMk j) := r146.fill' e148 rfl
      have k148 : Kp No Hx H148 := k146.sets' e148 (.inr k6.size)
      have ra148 := k148.row ra id
      refine ⟨_, rowc (i := 1) ra148 rfl, fun g3 => ?_, fun g3 => ?_⟩
      ·have g3 := of_decide_eq_true g3
       obtain ⟨v, gv⟩ : ∃ v, t.2[j]? = some v := ⟨_, List.getElem?_eq_getElem (by omega)⟩
       obtain ⟨a8, ha8, hlt8, ca8⟩ := (e2.kp0 (kx.no2 k148)).get gv
       refine ⟨_, rowc (i := 1) ra148 rfl, a8, ha8, by omega, by omega, v.1, v.2, by rw [jt]; exact ca8, r148.mayw (by rw [aMk_len]; omega), fun H169 e169 => ?_⟩
       exact seven v H169 (k148.sets' e169 (.inr k6.size)) (r148.fill' e169 rfl) (lk_lo aF gv)
      ·have g3 := of_decide_eq_false g3
       exact seven (bE, IntKind.i64.wrap (77 + (j : Int))) H148 k148 r148 (lk_hi aF aMk_len (by omega) (by omega))
    ·show ((r.2).n : Int) = ((w.2).n : Int)
     rw [ew, e2n]
    ·rw [e1, g1, seq_self] at g3; cases g3
   refine ⟨a, ha, by omega, by omega, r.1, r.2, ca k, _, rfl, _, hty k, _, rfl, by omega, by show (i : Int) < (c : Int); omega, w.1, w.2, cb k, fun H60 e60 => ?_, fun H80 e80 => ?_⟩
   ·have k60 := k.push' e60
    have s60 := size_push' e60
    refine ⟨cb k60, hty k60, ca k60, fun H65 e65 => ?_⟩
    have k65 := k60.push' e65
    have ra := (Row.new' e60).push' e65
    have rb := Row.new' e65
    refine ⟨cb k65, hty k65, ca k65, ra.mayw (by simp), fun H70 e70 => ?_⟩
    have k70 : Kp No H H70 := k65.sets' e70 (.inr k.size)
    have ra70 := ra.fill' e70 rfl
    have rb70 := rb.sets_ne' e70 (by show H60.size ≠ H'.size; omega)
    refine ⟨cb k70, hty k70, rb70.mayw (by simp), fun H75 e75 => ?_⟩
    exact four _ _ H75 (ra70.sets_ne' e75 (by show H'.size ≠ H60.size; omega)) (rb70.fill' e75 rfl) (k70.sets' e75 (.inr k60.size))
   ·have k80 := k.push' e80
    have s80 := size_push' e80
    refine ⟨cb k80, hty k80, ca k80, fun H85 e85 => ?_⟩
    have k85 := k80.push' e85
    have rb := (Row.new' e80).push' e85
    have ra := Row.new' e85
    refine ⟨cb k85, hty k85, ca k85, ra.mayw (by simp), fun H90 e90 => ?_⟩
    have k90 : Kp No H H90 := k85.sets' e90 (.inr k80.size)
    have ra90 := ra.fill' e90 rfl
    have rb90 := rb.sets_ne' e90 (by show H'.size ≠ H80.size; omega)
    refine ⟨cb k90, hty k90, rb90.mayw (by simp), fun H95 e95 => ?_⟩
    exact four _ _ H95 (ra90.sets_ne' e95 (by show H80.size ≠ H'.size; omega)) (rb90.fill' e95 rfl) (k90.sets' e95 (.inr k.size))
end

def sMk (_ : Nat) : List Value := [sv S_mark]
theorem sMk_len (i : Nat) : (sMk i).length = 1 := rfl
def totE : List (List EvM) → Nat
 | [] => 0
 | l :: L => l.length + totE L
def LVr (H : Hp) (vr : Sl) (L : List ByteArray) : Prop := ∃ (b c : Nat), vr = Sl.mk (some ⟨b, 0, none⟩) c c ∧ L.length < c ∧ c ≤ 9223372036854775807 ∧ Row H b 9 (L.flatMap sF.f ++ mks sMk L.length (c - L.length))
def LBd (A : Nat → Prop) (H : Hp) (bd : Sl) (L : List (List EvM)) : Prop := ∃ (b c : Nat) (B : List Sl), bd = Sl.mk (some ⟨b, 0, none⟩) c c ∧ L.length < c ∧ c ≤ 9223372036854775807 ∧ A b ∧ Row H b 49 (B.flatMap slF.f) ∧ B.length = c ∧
 (∀ (j : Nat) (s : Sl) (evs : List EvM), B[j]? = some s → L[j]? = some evs → LR A H s evs) ∧ ∀ (j : Nat) (s : Sl), B[j]? = some s → L.length ≤ j → ∃ b', s = Sl.mk (some ⟨b', 0, none⟩) 1 1 ∧ A b' ∧ Row H b' 36 (tR S_mark 0 Sl.nil)
structure HO (H0 H : Hp) (hb : Nat) (h : Hd) (S : Ss) : Prop where
 vr : Slot H 9 1 h.vr
 bd : Slot H 49 1 h.bd
 ty : Slot H 86 2 h.ty
 lo : ∀ b, h.vr.at b ∨ h.bd.at b ∨ h.ty.at b → H0.size ≤ b
 nb : ∀ b, h.bd.at b → ¬ FZ hb h S b
structure AdvT (hb : Nat) (H : Hp) (h : Hd) (S : Ss) (H' : Hp) (h' : Hd) (S' : Ss) (u : Nat) : Prop where
 k : ∃ Z : Nat → Prop, Kp Z H H' ∧ ∀ b, Z b → FH hb h S b ∨ ∃ l, Row H b u l
 f : ∀ b, FH hb h' S' b → FH hb h S b ∨ H.size ≤ b
section
variable {H0 H H' : Hp} {hb : Nat} {h h' : Hd} {S S' : Ss} {u : Nat}
theorem AdvT.size (g : AdvT hb H h S H' h' S' u) : H.size ≤ H'.size := by obtain ⟨Z, k, _⟩ := g.k; exact k.size
theorem AdvT.row (g : AdvT hb H h S H' h' S' u) {b t : Nat} {l : List Value} (r : Row H b t l) (hA : ¬ FH hb h S b) (hu : u ≠ t) : Row H' b t l ∧ ¬ FH hb h' S' b := by
 obtain ⟨Z, k, hZ⟩ := g.k
 refine ⟨k.row r fun hz => ?_, fun hf => ?_⟩
 ·rcases hZ b hz with h | ⟨l', h⟩
  ·exact hA h
  ·exact hu (h.inj r).2
 ·exact (g.f b hf).elim hA fun h => by have := r.lt; omega
theorem LG.advT {α : Type} {t k : Nat} {F : Fmt α t k} {mk : Nat → List Value} {s : Sl} {L : List α} (l : LG F mk (fun b => ¬ FH hb h S b) H s L) (g : AdvT hb H h S H' h' S' u) (hu : u ≠ t) : LG F mk (fun b => ¬ FH hb h' S' b) H' s L := by
 obtain ⟨b, c, h1, h2, h3, h4, h5⟩ := l
 obtain ⟨g1, g2⟩ := g.row h5 h2 hu
 exact ⟨b, c, h1, g2, h3, h4, g1⟩
theorem LR.advT {s : Sl} {evs : List EvM} (l : LR (fun b => ¬ FH hb h S b) H s evs) (g : AdvT hb H h S H' h' S' u) (h36 : u ≠ 36) (h38 : u ≠ 38) : LR (fun b => ¬ FH hb h' S' b) H' s evs := by
 obtain ⟨V, h1, h2, h3⟩ := l
 exact ⟨V, h1.advT g h36, h2, fun i v e hv he => ⟨(h3 i v e hv he).1, (h3 i v e hv he).2.1, (h3 i v e hv he).2.2.advT g h38⟩⟩
theorem LBd.advT {bd : Sl} {L : List (List EvM)} (l : LBd (fun b => ¬ FH hb h S b) H bd L) (g : AdvT hb H h S H' h' S' u) (h36 : u ≠ 36) (h38 : u ≠ 38) (h49 : u ≠ 49) : LBd (fun b => ¬ FH hb h' S' b) H' bd L := by
 obtain ⟨b, c, B, h1, h2, h3, h4, h5, h6, h7, h8⟩ := l
 obtain ⟨g1, g2⟩ := g.row h5 h4 h49
 refine ⟨b, c, B, h1, h2, h3, g2, g1, h6, fun j s evs hs he => (h7 j s evs hs he).advT g h36 h38, fun j s hs hj => ?_⟩
 obtain ⟨b', e, ha, hr⟩ := h8 j s hs hj
 obtain ⟨g1, g2⟩ := g.row hr ha h36
 exact ⟨b', e, g2, g1⟩
theorem AdvH.advT (g : AdvH hb H h S H' h' S') (u : Nat) : AdvT hb H h S H' h' S' u := ⟨⟨_, g.k, fun _ h => .inl h⟩, g.f⟩
theorem AdvT.of {Z : Nat → Prop} (k : Kp Z H H') (hZ : ∀ b, Z b → ∃ l, Row H b u l) : AdvT hb H h S H' h S u := ⟨⟨Z, k, fun b hb => .inr (hZ b hb)⟩, fun _ h => .inl h⟩
theorem LBd.no {A : Nat → Prop} {bd : Sl} {L : List (List EvM)} (l : LBd A H bd L) (k : Kp No H H') : LBd A H' bd L := by
 obtain ⟨b, c, B, h1, h2, h3, h4, h5, h6, h7, h8⟩ := l
 refine ⟨b, c, B, h1, h2, h3, h4, k.row h5 id, h6, fun j s evs hs he => (h7 j s evs hs he).no k, fun j s hs hj => ?_⟩
 obtain ⟨b', e, ha, hr⟩ := h8 j s hs hj
 exact ⟨b', e, ha, k.row hr id⟩
theorem HI.typz (hi : HI H0 H hb h S) {b : Nat} (g : FZ hb h S b) : ∃ t l, t ∈ hty ∧ Row H b t l := by
 rcases g with g | g | g | g
 ·obtain ⟨t, l, h1, h2⟩ := hi.px.typ hi.row g; exact ⟨t, l, by simp [hty] at h1 ⊢; omega, h2⟩
 ·obtain ⟨t, l, h1, h2⟩ := hi.pv.typ hi.row g; exact ⟨t, l, by simp [hty] at h1 ⊢; omega, h2⟩
 ·obtain ⟨t, l, h1, h2⟩ := hi.pe.typ hi.row g; exact ⟨t, l, by simp [hty] at h1 ⊢; omega, h2⟩
 ·obtain ⟨t, l, h1, h2⟩ := hi.pa.typ hi.row g; exact ⟨t, l, by simp [hty] at h1 ⊢; omega, h2⟩
theorem HI.nz (hi : HI H0 H hb h S) {b t : Nat} {l : List Value} (r : Row H b t l) (ht : t ∉ hty) : ¬ FZ hb h S b := fun hf => by
 obtain ⟨u, l', h1, h2⟩ := hi.typz hf
 exact ht ((r.inj h2).2 ▸ h1)
theorem HI.ltz (hi : HI H0 H hb h S) {b : Nat} (g : FZ hb h S b) : b < H.size := by obtain ⟨_, _, _, r⟩ := hi.typz g; exact r.lt
theorem Pool.kp {pt t k : Nat} {P : Sl} {L : List Sl} {Z : Nat → Prop} (p : Pool pt t k H P L) (hk : Kp Z H H') (hZ : ∀ b, Fr hb P L 0 b → ¬ Z b) : Pool pt t k H' P L :=
 ⟨p.lst.kp hk fun b hb => hZ b (.inr (.inl hb)), fun i s hs => (p.own i s hs).kp hk fun b hb => hZ b (.inr (.inr ⟨i, s, Nat.zero_le _, hs, hb⟩)), p.dis⟩
theorem HI.kp {Z : Nat → Prop} (hi : HI H0 H hb h S) (hk : Kp Z H H') (hZ : ∀ b, FZ hb h S b → ¬ Z b) (hl : ∀ b, Z b → H0.size ≤ b) : HI H0 H' hb h S :=
 ⟨hi.k0.trans hk fun b hb => .inr (hl b hb), hk.row hi.row (hZ hb (.inl (.inl rfl))), hi.px.kp hk fun b hb => hZ b (.inl hb), hi.pv.kp hk fun b hb => hZ b (.inr (.inl hb)), hi.pe.kp hk fun b hb => hZ b (.inr (.inr (.inl hb))), hi.pa.kp hk fun b hb => hZ b (.inr (.inr (.inr hb))),
  hi.lo, hi.nx, hi.nv, hi.ne, hi.na, hi.mx, hi.mv, hi.me, hi.ma⟩
theorem HI.fld {a b c : Sl} (hi : HI H0 H hb h S) (k : Kp (fun x => x = hb) H H') (hr : Row H' hb 32 { h with vr := a, bd := b, ty := c }.row) : HI H0 H' hb { h with vr := a, bd := b, ty := c } S :=
 have kt : KT [32] H H' := KT.of k fun b h => ⟨32, _, by simp, h ▸ hi.row⟩
 ⟨hi.k0.trans k fun b hb => .inr (hi.lo b (.inl (.inl hb))), hr, kt.pool hi.px (by decide) (by decide), kt.pool hi.pv (by decide) (by decide), kt.pool hi.pe (by decide) (by decide), kt.pool hi.pa (by decide) (by decide), hi.lo, hi.nx, hi.nv, hi.ne, hi.na, hi.mx, hi.mv, hi.me, hi.ma⟩
def kty : List Nat := 9 :: 86 :: hty
theorem set_end {b t : Nat} {B : List Sl} {rest : List Value} {s : Sl} {v : Value} (r : Row H b t (B.flatMap slF.f ++ v :: rest)) (e : H' = setc H ⟨b, B.length, none⟩ (Sl.v s)) : Row H' b t ((B ++ [s]).flatMap slF.f ++ rest) := by
 have hl := fl_len slF.len B
 have r' := r.set' e
 rw [Nat.mul_one] at hl
 rw [← hl, List.set_append_right _ _ (Nat.le_refl _), Nat.sub_self, List.set_cons_zero] at r'
 rw [List.flatMap_append, List.append_assoc]
 exact r'
theorem sl_at {b b' : Nat} {n c : Nat} (h : (Sl.mk (some ⟨b, 0, none⟩) n c).at b') : b' = b := by
 have h : some (⟨b, 0, none⟩ : Addr) = some ⟨b', 0, none⟩ := h
 injection h with h; injection h with h; exact h.symm
theorem Row.slot {b t k c : Nat} {l : List Value} (r : Row H b t l) (hl : l.length = c * k) (hc : c ≤ 9223372036854775807) : Slot H t k (Sl.mk (Option.some ⟨b, 0, none⟩) c c) :=
 ⟨l, .inr ⟨b, [], rfl, by rw [List.append_nil]; exact r, hl, by rw [List.append_nil]; exact hl, Nat.le_refl _, hc⟩⟩

abbrev Q26 := Sl → Sl → ByteArray → ByteArray → Int → Sl → Sl → Hp → Prop
variable {p0 p1 : Sl} {p2 p3 : ByteArray} {p4 : Int} {p5 p6 : Sl} {m : EnvM}
structure LEnv (H : Hp) (hb : Nat) (h : Hd) (S : Ss) (m : EnvM) (vals : Sl) : Prop where
 vr : LVr H h.vr m.vars
 bd : LBd (fun b => ¬ FH hb h S b) H h.bd m.bound
 ty : LD (fun b => ¬ FH hb h S b) H h.ty S.a m.types
 now : LE (fun b => ¬ FH hb h S b) H m.now.ty m.now.time vals m.now
theorem LEnv.envH {h : Hd} {vals : Sl} {m : EnvM} (le : LEnv H hb h S m vals) (hvl : m.vars.length ≤ lim) (hbn : m.bound.length ≤ lim) (hel' : ∀ evs ∈ m.bound, evs.length ≤ lim) (htn : m.types.length ≤ lim) (htl' : ∀ t ∈ m.types, t.2.length ≤ lim) :
  EnvH H (Sl.mk h.vr.b m.vars.length h.vr.c) (Sl.mk h.bd.b m.bound.length h.bd.c) m.it m.now.ty m.now.time vals (Sl.mk h.ty.b m.types.length h.ty.c) m := by
 obtain ⟨bv, cv, ev, hcv, hmv, rvF⟩ := le.vr
 obtain ⟨b, c, B', e1, _, h3, _, h5, h6, h7, _⟩ := le.bd
 rw [ev, e1]
 refine ⟨⟨rfl, rvF.cells (by rw [Nat.add_zero, List.drop_zero, List.take_left])⟩, hvl, ⟨B'.take m.bound.length, ⟨by rw [List.length_take]; show m.bound.length = _; omega, ?_⟩, by rw [List.length_take]; omega, fun i s' evs hs he => ?_⟩, rfl, rfl, rfl, le.now.2.2.rd, le.ty.tys htn htl'⟩
 ·refine h5.cells ?_
  have := fl_take slF.len B' m.bound.length
  have hl := fl_len slF.len (B'.take m.bound.length)
  rw [Nat.mul_one] at this hl
  rw [Nat.add_zero, List.drop_zero, hl, List.length_take, Nat.min_eq_left (by omega), this]
 ·have hlt := (List.getElem?_eq_some_iff.1 he).1
  rw [List.getElem?_take, if_pos hlt] at hs
  exact (h7 i s' evs hs he).evs (hel' evs (List.mem_of_getElem? he))
theorem LEnv.no {h : Hd} {vals : Sl} {m : EnvM} (le : LEnv H hb h S m vals) (k : Kp No H H') : LEnv H' hb h S m vals := by
 refine ⟨?_, le.bd.no k, le.ty.no k, ⟨le.now.1, le.now.2.1, le.now.2.2.no k⟩⟩
 obtain ⟨bv, cv, ev, hcv, hmv, rvF⟩ := le.vr
 exact ⟨bv, cv, ev, hcv, hmv, k.row rvF id⟩
theorem LEnv.advH {h h' : Hd} {vals : Sl} {m : EnvM} (le : LEnv H hb h S m vals) (hi : HI H0 H hb h S) (g : AdvH hb H h S H' h' S') (e1 : h'.vr = h.vr) (e2 : h'.bd = h.bd) (e3 : h'.ty = h.ty) (e4 : S'.a = S.a) : LEnv H' hb h' S' m vals := by
 refine ⟨?_, by rw [e2]; exact le.bd.advT (g.advT 9) (by decide) (by decide) (by decide), by rw [e3, e4]; exact le.ty.advH hi g, ⟨le.now.1, le.now.2.1, le.now.2.2.advH g⟩⟩
 obtain ⟨bv, cv, ev, hcv, hmv, rvF⟩ := le.vr
 exact ⟨bv, cv, by rw [e1]; exact ev, hcv, hmv, (g.kt hi).row rvF (by decide)⟩
theorem HO.advH {h h' : Hd} (ho : HO H0 H hb h S) (hi : HI H0 H hb h S) (g : AdvH hb H h S H' h' S') (e1 : h'.vr = h.vr) (e2 : h'.bd = h.bd) (e3 : h'.ty = h.ty) : HO H0 H' hb h' S' := by
 have kt := g.kt hi
 refine ⟨by rw [e1]; exact ho.vr.imp fun _ o => kt.own o (by decide), by rw [e2]; exact ho.bd.kp g.k fun b hb hf => ho.nb b hb hf.z, by rw [e3]; exact ho.ty.imp fun _ o => kt.own o (by decide), fun b hb => ho.lo b (by rw [← e1, ← e2, ← e3]; exact hb), fun b hb hf => ?_⟩
 rw [e2] at hb
 rcases g.z b hf with h | h
 ·exact ho.nb b hb h
 ·obtain ⟨l, hr⟩ := ho.bd.row hb
  have := hr.lt; omega
theorem c26c {H : Hp} {e r : Nat} {h : Hd} {S : Ss} {vs : Sl} {bd : Sl} {Q : Q26} (hi : HI H0 H hb h S) (hbd : ∀ b, h.bd.at b → H0.size ≤ b) (hty : Slot H 86 2 h.ty) (htl : ∀ b, h.ty.at b → H0.size ≤ b) (lvr : LVr H vs m.vars) (lbd : LBd (fun b => ¬ FH hb h S b) H bd m.bound) (nbd : ∀ b, bd.at b → ¬ FZ hb h S b)
  (hvs : h.vr = vs) (hvl : ∀ b, vs.at b → H0.size ≤ b) (hbl : ∀ b, bd.at b → H0.size ≤ b) (re : Row H e 43 (envRow p0 p1 p2 p3 p4 p5 p6)) (rr : Row H r 43 (envRow Sl.nil Sl.nil bE bE 0 Sl.nil Sl.nil)) (hel : H0.size ≤ e) (hrl : H0.size ≤ r) (her : e ≠ r)
  (henv : EnvH H0 p0 p1 p2 p3 p4 p5 p6 m) (hnv : m.now.vals.length ≤ lim) (hbn : m.bound.length ≤ lim) (hel' : ∀ evs ∈ m.bound, evs.length ≤ lim) (htl' : ∀ t ∈ m.types, t.2.length ≤ lim) (hna : h.na = 0) (hM : h.nv + 1 ≤ 1099511627776)
  (hQ : ∀ v' b' vals' types' H' h' S', HI H0 H' hb h' S' → HO H0 H' hb h' S' → h'.nx = h.nx → h'.nv = h.nv + 1 → LEnv H' hb h' S' m vals' → (v' = Sl.mk h'.vr.b m.vars.length h'.vr.c ∧ b' = Sl.mk h'.bd.b m.bound.length h'.bd.c ∧ types' = Sl.mk h'.ty.b m.types.length h'.ty.c) → KT (43 :: kty) H H' → Kp (fun b => FH hb h S b ∨ h.ty.at b ∨ b = hb ∨ b = e ∨ b = r) H H' → Q v' b' p2 p3 p4 vals' types' H') :
  F26_3 Q (some ⟨hb, 0, none⟩) ⟨e, 0, none⟩ ⟨r, 0, none⟩ vs bd H := by
 obtain ⟨bv, cv, rfl, hcv, hmv, hrv⟩ := lvr
 have lbd' := lbd
 obtain ⟨bb, cb, B, rfl, hcb, hmb, hAb, hrb, hBl, _, _⟩ := lbd
 have hs := hi.k0.size
 have pn := henv.vars.n
 have bn : p1.n = m.bound.length := by obtain ⟨L, h1, h2, _⟩ := henv.bound; rw [h1.n, h2]
 have heh : e ≠ hb := fun g => by subst g; exact absurd (re.inj hi.row).2 (by decide)
 have hrh : r ≠ hb := fun g => by subst g; exact absurd (rr.inj hi.row).2 (by decide)
 refine ⟨_, rfl, ?_⟩
 rw [add_mk, Nat.zero_add]
 refine ⟨hi.row.some (by show 5 < 11; decide), hi.row.frz _, fun H127 e127 => ?_⟩
 have r127 : Row H127 hb 32 { h with vr := h.vr, bd := Sl.mk (some ⟨bb, 0, none⟩) cb cb, ty := h.ty }.row := hi.row.set' e127
 have k127 : Kp (fun x => x = hb) H H127 := (Kp.refl (fun x => x = hb) H).set' e127 (.inl rfl)
 have hi127 := hi.fld k127 r127
 have re127 := k127.row re heh
 have rr127 := k127.row rr hrh
 refine ⟨p0, re127.cell_of (i := 0) rfl, by omega, by omega, ?_, Nat.le_refl _, re127.some (by simp), re127.frz _, fun H137 e137 => ?_⟩
 ·show (p0.n : Int).toNat ≤ cv; omega
 have re137 := re127.set' (i := 0) e137
 rw [show (p0.n : Int).toNat = m.vars.length from by omega, cutN] at re137
 have re137 : Row H137 e 43 (envRow (Sl.mk (some ⟨bv, 0, none⟩) m.vars.length cv) p1 p2 p3 p4 p5 p6) := re137
 have rr137 := rr127.set_ne' e137 (Ne.symm her)
 refine ⟨p1, rowc (i := 1) re137 rfl, by omega, by omega, ?_, Nat.le_refl _, ?_⟩
 ·show (p1.n : Int).toNat ≤ cb; omega
 rw [add_mk, Nat.zero_add]
 refine ⟨re137.some (by simp), re137.frz _, fun H147 e147 => ?_⟩
 have re147 := re137.set' (i := 1) e147
 rw [show (p1.n : Int).toNat = m.bound.length from by omega, cutN] at re147
 have re147 : Row H147 e 43 (envRow (Sl.mk (some ⟨bv, 0, none⟩) m.vars.length cv) (Sl.mk (some ⟨bb, 0, none⟩) m.bound.length cb) p2 p3 p4 p5 p6) := re147
 have rr147 := rr137.set_ne' e147 (Ne.symm her)
 have k147 : Kp (fun x => x = e) H127 H147 := ((Kp.refl (fun x => x = e) H127).set' e137 (.inl rfl)).trans ((Kp.refl (fun x => x = e) H137).set' e147 (.inl rfl)) fun b h => .inl h
 have hze : ∀ b, FZ hb h S b → ¬ b = e := fun b hf g => by subst g; exact hi.nz re (by decide) hf
 have hi147 : HI H0 H147 hb { h with bd := Sl.mk (some ⟨bb, 0, none⟩) cb cb } S := hi127.kp k147 (fun b hf => hze b hf) fun b g => by subst g; exact hel
 refine ⟨p3, p4, p5, rowcs (i := 3) (m := [.string p3, .int .i64 p4, Sl.v p5]) re147 rfl, ?_⟩
 refine c27 (h := { h with bd := Sl.mk (some ⟨bb, 0, none⟩) cb cb }) hi147.row hi147.pv hi147.nv hi147.mv (fun H' k => henv.nvals.kp0 (hi147.k0.trans k fun b hb => .inr (hi147.lo b (.inr (.inl (hb.fr.le (Nat.zero_le _))))))) hnv fun s H155 P' V' r155 p155 hx155 hS155 g155 lv155 => ?_
 have mv := hi.mv
 have nv := hi.nv
 have hS155 : V'.length ≤ max S.v.length (h.nv + 1) := hS155
 obtain ⟨hi155, ad155⟩ := hi147.v r155 p155 hx155 (by omega) g155
 have lv155' := LG.wide hi155 lv155
 have kt155 := ad155.kt hi147
 have re155 := kt155.row re147 (by decide)
 have rr155 := kt155.row rr147 (by decide)
 rw [add_mk, Nat.zero_add]
 refine ⟨re155.mayw (by simp), fun H160 e160 => ?_⟩
 have re160 : Row H160 e 43 (envRow (Sl.mk (some ⟨bv, 0, none⟩) m.vars.length cv) (Sl.mk (some ⟨bb, 0, none⟩) m.bound.length cb) p2 p3 p4 s p6) := re155.sets' e160 (by simp)
 have rr160 := rr155.sets_ne' e160 (Ne.symm her)
 have k160 : Kp (fun x => x = e) H155 H160 := (Kp.refl (fun x => x = e) H155).sets' e160 (.inl rfl)
 have kt160 : KT [43] H155 H160 := KT.of k160 fun b' h => ⟨43, _, by simp, h ▸ re155⟩
 have hi160 := hi155.kp k160 (fun b hf g => by subst g; exact hi155.nz re155 (by decide) hf) fun b g => by subst g; exact hel
 have kt147 : KT [32, 43] H H147 := (KT.of k127 fun b' h => ⟨32, _, by simp, h ▸ hi.row⟩ : KT [32, 43] H H127).trans (KT.of k147 fun b' h => ⟨43, _, by simp, h ▸ re127⟩)
 have ty160 : Slot H160 86 2 h.ty := hty.imp fun _ o => kt160.own (kt155.own (kt147.own o (by decide)) (by decide)) (by decide)
 refine ⟨p6, rowc (i := 6) re160 rfl, c40 hi160 ty160 htl henv.types hna fun H165 P2 ty' A' hi165 k165 f165 z165 ta165 ld165 => ?_⟩
 have kt165 : KT kty H160 H165 := KT.of k165 fun b hb => by
  rcases hb with hb | hb
  ·obtain ⟨t, l, h1, h2⟩ := hi160.typ hb; exact ⟨t, l, List.mem_cons_of_mem _ (List.mem_cons_of_mem _ h1), h2⟩
  ·obtain ⟨l, hb⟩ := ty160.row hb; exact ⟨86, l, by simp [kty], hb⟩
 have re165 := kt165.row re160 (by decide)
 have rr165 := kt165.row rr160 (by decide)
 rw [add_mk, Nat.zero_add]
 refine ⟨re165.some (by simp), re165.frz _, fun H168 e168 => ?_⟩
 have re168 : Row H168 e 43 (envRow (Sl.mk (some ⟨bv, 0, none⟩) m.vars.length cv) (Sl.mk (some ⟨bb, 0, none⟩) m.bound.length cb) p2 p3 p4 s (Sl.mk ty'.b m.types.length ty'.c)) := re165.set' (i := 6) e168
 have rr168 := rr165.set_ne' e168 (Ne.symm her)
 refine ⟨_, _, _, _, _, _, _, re168.all, rr168.mayw (by simp), fun H180 e180 => ?_⟩
 have rr180 := rr168.fill' e180 rfl
 refine ⟨_, _, _, _, _, _, _, rr180.all, ?_⟩
 have k180 : Kp (fun x => x = e ∨ x = r) H165 H180 := ((Kp.refl (fun x => x = e ∨ x = r) H165).set' e168 (.inl (.inl rfl))).trans ((Kp.refl (fun x => x = e ∨ x = r) H168).sets' e180 (.inl (.inr rfl))) fun b h => .inl h
 have kt180 : KT [43] H165 H180 := KT.of k180 fun b' h => by
  rcases h with rfl | rfl
  ·exact ⟨43, _, by simp, re165⟩
  ·exact ⟨43, _, by simp, rr165⟩
 have hi180 := hi165.kp k180 (fun b hf g => by
  rcases g with rfl | rfl
  ·exact hi165.nz re165 (by decide) hf
  ·exact hi165.nz rr165 (by decide) hf) fun b g => by rcases g with rfl | rfl <;> assumption
 have a147 : AdvT hb H127 { h with bd := Sl.mk (some ⟨bb, 0, none⟩) cb cb } S H147 { h with bd := Sl.mk (some ⟨bb, 0, none⟩) cb cb } S 43 := AdvT.of k147 fun b g => by subst g; exact ⟨_, re127⟩
 have a127 : AdvT hb H h S H127 { h with bd := Sl.mk (some ⟨bb, 0, none⟩) cb cb } S 32 := ⟨⟨_, k127, fun b g => by subst g; exact .inr ⟨_, hi.row⟩⟩, fun _ h => .inl h⟩
 have a160 : AdvT hb H155 { h with bd := Sl.mk (some ⟨bb, 0, none⟩) cb cb, pv := P', nv := h.nv + 1 } { S with v := V' } H160 { h with bd := Sl.mk (some ⟨bb, 0, none⟩) cb cb, pv := P', nv := h.nv + 1 } { S with v := V' } 43 := AdvT.of k160 fun b g => by subst g; exact ⟨_, re155⟩
 have a165 : AdvT hb H160 { h with bd := Sl.mk (some ⟨bb, 0, none⟩) cb cb, pv := P', nv := h.nv + 1 } { S with v := V' } H165 { h with bd := Sl.mk (some ⟨bb, 0, none⟩) cb cb, pv := P', nv := h.nv + 1, pa := P2, na := m.types.length, ty := ty' } { S with v := V', a := A' } 86 := ⟨⟨_, k165, fun b g => g.imp id fun g => ty160.row g⟩, f165⟩
 have a180 : AdvT hb H165 { h with bd := Sl.mk (some ⟨bb, 0, none⟩) cb cb, pv := P', nv := h.nv + 1, pa := P2, na := m.types.length, ty := ty' } { S with v := V', a := A' } H180 { h with bd := Sl.mk (some ⟨bb, 0, none⟩) cb cb, pv := P', nv := h.nv + 1, pa := P2, na := m.types.length, ty := ty' } { S with v := V', a := A' } 43 := AdvT.of k180 fun b g => by
  rcases g with rfl | rfl
  ·exact ⟨_, re165⟩
  ·exact ⟨_, rr165⟩
 have lbdF : LBd (fun b => ¬ FH hb { h with bd := Sl.mk (some ⟨bb, 0, none⟩) cb cb, pv := P', nv := h.nv + 1, pa := P2, na := m.types.length, ty := ty' } { S with v := V', a := A' } b) H180 (Sl.mk (some ⟨bb, 0, none⟩) cb cb) m.bound :=
  (((((lbd'.advT a127 (by decide) (by decide) (by decide)).advT a147 (by decide) (by decide) (by decide)).advT (ad155.advT 43) (by decide) (by decide) (by decide)).advT a160 (by decide) (by decide) (by decide)).advT a165 (by decide) (by decide) (by decide)).advT a180 (by decide) (by decide) (by decide)
 have lvF : LG vF vMk (fun b => ¬ FH hb { h with bd := Sl.mk (some ⟨bb, 0, none⟩) cb cb, pv := P', nv := h.nv + 1, pa := P2, na := m.types.length, ty := ty' } { S with v := V', a := A' } b) H180 s m.now.vals := ((lv155'.advT a160 (by decide)).advT a165 (by decide)).advT a180 (by decide)
 have rvF : Row H180 bv 9 (m.vars.flatMap sF.f ++ mks sMk m.vars.length (cv - m.vars.length)) := by
  have g : KT kty H160 H165 := KT.of k165 fun b hb => by
   rcases hb with hb | hb
   ·obtain ⟨t, l, h1, h2⟩ := hi160.typ hb; exact ⟨t, l, List.mem_cons_of_mem _ (List.mem_cons_of_mem _ h1), h2⟩
   ·obtain ⟨l, hb⟩ := ty160.row hb; exact ⟨86, l, by simp [kty], hb⟩
  have r160 := kt160.row (kt155.row (kt147.row hrv (by decide)) (by decide)) (by decide)
  refine kt180.row (k165.row r160 fun hz => ?_) (by decide)
  rcases hz with hz | hz
  ·obtain ⟨t, l, h1, h2⟩ := hi160.typ hz
   rw [(h2.inj r160).2] at h1; exact absurd h1 (by decide)
  ·obtain ⟨l, hz⟩ := ty160.row hz
   exact absurd (hz.inj r160).2 (by decide)
 have ldF : LD (fun b => ¬ FH hb { h with bd := Sl.mk (some ⟨bb, 0, none⟩) cb cb, pv := P', nv := h.nv + 1, pa := P2, na := m.types.length, ty := ty' } { S with v := V', a := A' } b) H180 ty' A' m.types := by
  obtain ⟨b, c, W, h1, h2, h3, h4, h5, h6⟩ := ld165
  exact ⟨b, c, W, h1, h2, h3, kt180.row h4 (by decide), h5, fun j w t hw ht => ⟨(h6 j w t hw ht).1, (h6 j w t hw ht).2.1, (h6 j w t hw ht).2.2.advT a180 (by decide)⟩⟩
 have zF : ∀ b, FZ hb { h with bd := Sl.mk (some ⟨bb, 0, none⟩) cb cb, pv := P', nv := h.nv + 1, pa := P2, na := m.types.length, ty := ty' } { S with v := V', a := A' } b → FZ hb h S b ∨ H.size ≤ b := fun b hf => by
  have h1 := kt147.size
  have h2 := ad155.k.size
  have h3 := k160.size
  rcases z165 b hf with g | g
  ·exact (ad155.z b g).imp id fun g => by omega
  ·exact .inr (by omega)
 refine hQ _ _ _ _ H180 { h with bd := Sl.mk (some ⟨bb, 0, none⟩) cb cb, pv := P', nv := h.nv + 1, pa := P2, na := m.types.length, ty := ty' } { S with v := V', a := A' } hi180 ⟨?_, ?_, ?_, ?_, ?_⟩ rfl rfl ⟨?_, lbdF, ldF, ⟨rfl, rfl, lvF⟩⟩ ?_ ?_ ?_
 ·show Slot H180 9 1 h.vr
  rw [hvs]
  exact rvF.slot (by rw [List.length_append, fl_len sF.len, mks_len sMk_len]; omega) hmv
 ·obtain ⟨b, c, B', e1, _, h3, _, h5, h6, _⟩ := lbdF
  show Slot H180 49 1 (Sl.mk (some ⟨bb, 0, none⟩) cb cb)
  rw [e1]
  exact h5.slot (by rw [fl_len slF.len, h6]) h3
 ·obtain ⟨b, c, W, e1, h2, h3, h4, h5, _⟩ := ldF
  show Slot H180 86 2 ty'
  rw [e1]
  exact h4.slot (by rw [List.length_append, fl_len tF.len, mks_len tMk_len, h5, ← Nat.add_mul]; congr 1; omega) h3
 ·intro b g
  rcases g with g | g | g
  ·exact hvl b (by rw [← hvs]; exact g)
  ·exact hbl b g
  ·exact (ta165 b g).elim (htl b) fun g => by have := hi160.k0.size; omega
 ·intro b g hf
  rcases zF b hf with g' | g'
  ·exact nbd b g g'
  ·have := hrb.lt
   rw [sl_at g] at g'; omega
 ·show LVr H180 h.vr m.vars
  rw [hvs]
  exact ⟨bv, cv, rfl, hcv, hmv, rvF⟩
 ·rw [hvs]; exact ⟨rfl, rfl, rfl⟩
 ·refine KT.trans (KT.trans (kt147.mono fun t ht => ?_) (kt155.mono fun t ht => List.mem_cons_of_mem _ (List.mem_cons_of_mem _ (List.mem_cons_of_mem _ ht)))) (KT.trans (kt160.mono fun t ht => ?_) (KT.trans (kt165.mono fun t ht => List.mem_cons_of_mem _ ht) (kt180.mono fun t ht => ?_)))
  ·simp at ht; rcases ht with rfl | rfl <;> decide
  ·simp at ht; subst ht; decide
  ·simp at ht; subst ht; decide
 ·have h1 := kt147.size
  have h2 := ad155.k.size
  have h3 := k160.size
  refine (((((k127.mono fun b _ g => .inr (.inr (.inl g))).trans k147 fun b g => .inl (.inr (.inr (.inr (.inl g))))).trans ad155.k fun b g => .inl (.inl g)).trans k160 fun b g => .inl (.inr (.inr (.inr (.inl g))))).trans k165 fun b g => ?_).trans k180 fun b g => .inl (.inr (.inr (.inr g)))
  rcases g with g | g
  ·exact (ad155.f b g).imp .inl fun g => by omega
  ·exact .inl (.inr (.inl g))
end
end Go.Hw
