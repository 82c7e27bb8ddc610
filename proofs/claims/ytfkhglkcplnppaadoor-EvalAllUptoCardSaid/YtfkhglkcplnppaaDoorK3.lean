/- The hand: a row of events; is it as it was? The hand: types; are they as they were? Own work of this session. -/
import Derived.Test.YtfkhglkcplnppaaDoorK1
set_option linter.unusedVariables false
namespace Go.Hw
open Go

structure Ss where
 (x v e a : List Sl)
def FH (hb : Nat) (h : Hd) (S : Ss) (b : Nat) : Prop := Fr hb h.px S.x h.nx b ∨ Fr hb h.pv S.v h.nv b ∨ Fr hb h.pe S.e h.ne b ∨ Fr hb h.pa S.a h.na b
def FZ (hb : Nat) (h : Hd) (S : Ss) (b : Nat) : Prop := Fr hb h.px S.x 0 b ∨ Fr hb h.pv S.v 0 b ∨ Fr hb h.pe S.e 0 b ∨ Fr hb h.pa S.a 0 b
theorem FH.z {hb : Nat} {h : Hd} {S : Ss} {b : Nat} : FH hb h S b → FZ hb h S b
 | .inl g => .inl (g.le (Nat.zero_le _))
 | .inr (.inl g) => .inr (.inl (g.le (Nat.zero_le _)))
 | .inr (.inr (.inl g)) => .inr (.inr (.inl (g.le (Nat.zero_le _))))
 | .inr (.inr (.inr g)) => .inr (.inr (.inr (g.le (Nat.zero_le _))))
structure HI (H0 H : Hp) (hb : Nat) (h : Hd) (S : Ss) : Prop where
 k0 : Kp No H0 H
 row : Row H hb 32 h.row
 px : Pool 39 41 10 H h.px S.x
 pv : Pool 34 38 4 H h.pv S.v
 pe : Pool 49 36 3 H h.pe S.e
 pa : Pool 84 83 2 H h.pa S.a
 lo : ∀ b, FZ hb h S b → H0.size ≤ b
 nx : h.nx ≤ S.x.length
 nv : h.nv ≤ S.v.length
 ne : h.ne ≤ S.e.length
 na : h.na ≤ S.a.length
 mx : S.x.length ≤ 1099511627776
 mv : S.v.length ≤ 1099511627776
 me : S.e.length ≤ 1099511627776
 ma : S.a.length ≤ 1099511627776
structure AdvH (hb : Nat) (H : Hp) (h : Hd) (S : Ss) (H' : Hp) (h' : Hd) (S' : Ss) : Prop where
 k : Kp (FH hb h S) H H'
 f : ∀ b, FH hb h' S' b → FH hb h S b ∨ H.size ≤ b
 z : ∀ b, FZ hb h' S' b → FZ hb h S b ∨ H.size ≤ b
def hty : List Nat := [32, 39, 41, 34, 38, 49, 36, 84, 83]
section
variable {H0 H H' H'' : Hp} {hb : Nat} {h h' h'' : Hd} {S S' S'' : Ss}
theorem AdvH.refl (hb : Nat) (H : Hp) (h : Hd) (S : Ss) : AdvH hb H h S H h S := ⟨Kp.refl _ _, fun _ g => .inl g, fun _ g => .inl g⟩
theorem AdvH.trans (g : AdvH hb H h S H' h' S') (g' : AdvH hb H' h' S' H'' h'' S'') : AdvH hb H h S H'' h'' S'' := by
 have := g.k.size
 exact ⟨g.k.trans g'.k fun b hb => g.f b hb, fun b hb => (g'.f b hb).elim (g.f b) fun h => .inr (by omega), fun b hb => (g'.z b hb).elim (g.z b) fun h => .inr (by omega)⟩
theorem HI.typ (hi : HI H0 H hb h S) {b : Nat} (g : FH hb h S b) : ∃ t l, t ∈ hty ∧ Row H b t l := by
 rcases g with g | g | g | g
 ·obtain ⟨t, l, h1, h2⟩ := hi.px.typ hi.row g; exact ⟨t, l, by simp [hty] at h1 ⊢; omega, h2⟩
 ·obtain ⟨t, l, h1, h2⟩ := hi.pv.typ hi.row g; exact ⟨t, l, by simp [hty] at h1 ⊢; omega, h2⟩
 ·obtain ⟨t, l, h1, h2⟩ := hi.pe.typ hi.row g; exact ⟨t, l, by simp [hty] at h1 ⊢; omega, h2⟩
 ·obtain ⟨t, l, h1, h2⟩ := hi.pa.typ hi.row g; exact ⟨t, l, by simp [hty] at h1 ⊢; omega, h2⟩
theorem AdvH.kt (g : AdvH hb H h S H' h' S') (hi : HI H0 H hb h S) : KT hty H H' := KT.of g.k fun b hb => hi.typ hb
theorem Pool.nty {pt t k x : Nat} {P : Sl} {S : List Sl} (p : Pool pt t k H P S) {R : List Value} (hr : Row H hb 32 R) {b t' : Nat} {l : List Value} (r : Row H b t' l) (ht : t' ∉ [32, pt, t]) : ¬ Fr hb P S x b := fun hf => by
 obtain ⟨u, l', h1, h2⟩ := p.typ hr hf
 exact ht ((r.inj h2).2 ▸ h1)
theorem HI.no (hi : HI H0 H hb h S) (k : Kp No H H') : HI H0 H' hb h S :=
 have kt : KT [] H H' := KT.no k
 ⟨hi.k0.no2 k, k.row hi.row id, kt.pool hi.px (by simp) (by simp), kt.pool hi.pv (by simp) (by simp), kt.pool hi.pe (by simp) (by simp), kt.pool hi.pa (by simp) (by simp), hi.lo, hi.nx, hi.nv, hi.ne, hi.na, hi.mx, hi.mv, hi.me, hi.ma⟩
theorem AdvH.pre {H1 : Hp} (k : Kp No H H1) (g : AdvH hb H1 h S H' h' S') : AdvH hb H h S H' h' S' := AdvH.trans ⟨k.mono fun _ _ h => h.elim, fun _ h => .inl h, fun _ h => .inl h⟩ g
theorem AdvH.post {H1 : Hp} (g : AdvH hb H h S H1 h' S') (hk : Kp (fun b => H.size ≤ b) H1 H') : AdvH hb H h S H' h' S' := ⟨g.k.trans hk fun b h => .inr h, g.f, g.z⟩
theorem AdvH.no (g : AdvH hb H h S H' h' S') (hi : HI H0 H hb h S) : Kp No H0 H' := hi.k0.trans g.k fun b hb => .inr (hi.lo b hb.z)
theorem HI.v {P : Sl} {V : List Sl} {n : Nat} (hi : HI H0 H hb h S) (hr : Row H' hb 32 { h with pv := P, nv := n }.row) (p : Pool 34 38 4 H' P V) (hx : n ≤ V.length) (hM : V.length ≤ 1099511627776) (g : Adv hb H h.pv S.v h.nv H' P V n) :
  HI H0 H' hb { h with pv := P, nv := n } { S with v := V } ∧ AdvH hb H h S H' { h with pv := P, nv := n } { S with v := V } := by
 have kt : KT [32, 34, 38] H H' := KT.of g.k fun b hb => hi.pv.typ hi.row hb
 have hs := hi.k0.size
 have ad : AdvH hb H h S H' { h with pv := P, nv := n } { S with v := V } := ⟨g.k.mono fun b _ h => .inr (.inl h), fun b hf => by
  rcases hf with hf | hf | hf
  ·exact .inl (.inl hf)
  ·exact (g.f b hf).imp (fun h => .inr (.inl h)) id
  ·exact .inl (.inr (.inr hf)), fun b hf => by
  rcases hf with hf | hf | hf
  ·exact .inl (.inl hf)
  ·exact (g.z b hf).imp (fun h => .inr (.inl h)) id
  ·exact .inl (.inr (.inr hf))⟩
 refine ⟨⟨ad.no hi, hr, kt.pool hi.px (by decide) (by decide), p, kt.pool hi.pe (by decide) (by decide), kt.pool hi.pa (by decide) (by decide), fun b hf => ?_, hi.nx, hx, hi.ne, hi.na, hi.mx, hM, hi.me, hi.ma⟩, ad⟩
 rcases hf with hf | hf | hf
 ·exact hi.lo b (.inl hf)
 ·exact (g.z b hf).elim (fun h => hi.lo b (.inr (.inl h))) fun h => by omega
 ·exact hi.lo b (.inr (.inr hf))
theorem HI.a {P : Sl} {V : List Sl} {n : Nat} (hi : HI H0 H hb h S) (hr : Row H' hb 32 { h with pa := P, na := n }.row) (p : Pool 84 83 2 H' P V) (hx : n ≤ V.length) (hM : V.length ≤ 1099511627776) (g : Adv hb H h.pa S.a h.na H' P V n) :
  HI H0 H' hb { h with pa := P, na := n } { S with a := V } ∧ AdvH hb H h S H' { h with pa := P, na := n } { S with a := V } := by
 have kt : KT [32, 84, 83] H H' := KT.of g.k fun b hb => hi.pa.typ hi.row hb
 have hs := hi.k0.size
 have ad : AdvH hb H h S H' { h with pa := P, na := n } { S with a := V } := ⟨g.k.mono fun b _ h => .inr (.inr (.inr h)), fun b hf => by
  rcases hf with hf | hf | hf | hf
  ·exact .inl (.inl hf)
  ·exact .inl (.inr (.inl hf))
  ·exact .inl (.inr (.inr (.inl hf)))
  ·exact (g.f b hf).imp (fun h => .inr (.inr (.inr h))) id, fun b hf => by
  rcases hf with hf | hf | hf | hf
  ·exact .inl (.inl hf)
  ·exact .inl (.inr (.inl hf))
  ·exact .inl (.inr (.inr (.inl hf)))
  ·exact (g.z b hf).imp (fun h => .inr (.inr (.inr h))) id⟩
 refine ⟨⟨ad.no hi, hr, kt.pool hi.px (by decide) (by decide), kt.pool hi.pv (by decide) (by decide), kt.pool hi.pe (by decide) (by decide), p, fun b hf => ?_, hi.nx, hi.nv, hi.ne, hx, hi.mx, hi.mv, hi.me, hM⟩, ad⟩
 rcases hf with hf | hf | hf | hf
 ·exact hi.lo b (.inl hf)
 ·exact hi.lo b (.inr (.inl hf))
 ·exact hi.lo b (.inr (.inr (.inl hf)))
 ·exact (g.z b hf).elim (fun h => hi.lo b (.inr (.inr (.inr h)))) fun h => by omega
theorem HI.x {P : Sl} {V : List Sl} {n : Nat} (hi : HI H0 H hb h S) (hr : Row H' hb 32 { h with px := P, nx := n }.row) (p : Pool 39 41 10 H' P V) (hx : n ≤ V.length) (hM : V.length ≤ 1099511627776) (g : Adv hb H h.px S.x h.nx H' P V n) :
  HI H0 H' hb { h with px := P, nx := n } { S with x := V } ∧ AdvH hb H h S H' { h with px := P, nx := n } { S with x := V } := by
 have kt : KT [32, 39, 41] H H' := KT.of g.k fun b hb => hi.px.typ hi.row hb
 have hs := hi.k0.size
 have ad : AdvH hb H h S H' { h with px := P, nx := n } { S with x := V } := ⟨g.k.mono fun b _ h => .inl h, fun b hf => by
  rcases hf with hf | hf
  ·exact (g.f b hf).imp (fun h => .inl h) id
  ·exact .inl (.inr hf), fun b hf => by
  rcases hf with hf | hf
  ·exact (g.z b hf).imp (fun h => .inl h) id
  ·exact .inl (.inr hf)⟩
 refine ⟨⟨ad.no hi, hr, p, kt.pool hi.pv (by decide) (by decide), kt.pool hi.pe (by decide) (by decide), kt.pool hi.pa (by decide) (by decide), fun b hf => ?_, hx, hi.nv, hi.ne, hi.na, hM, hi.mv, hi.me, hi.ma⟩, ad⟩
 rcases hf with hf | hf
 ·exact (g.z b hf).elim (fun h => hi.lo b (.inl h)) fun h => by omega
 ·exact hi.lo b (.inr hf)
theorem LG.advH {α : Type} {t k : Nat} {F : Fmt α t k} {mk : Nat → List Value} {s : Sl} {L : List α} (l : LG F mk (fun b => ¬ FH hb h S b) H s L) (g : AdvH hb H h S H' h' S') : LG F mk (fun b => ¬ FH hb h' S' b) H' s L :=
 l.kp g.k (fun b _ _ h => h) fun b _ hl h hf => (g.f b hf).elim h fun h => by have := hl.lt; omega
theorem LE.advH {ty : ByteArray} {time : Int} {s : Sl} {e : EvM} (l : LE (fun b => ¬ FH hb h S b) H ty time s e) (g : AdvH hb H h S H' h' S') : LE (fun b => ¬ FH hb h' S' b) H' ty time s e := ⟨l.1, l.2.1, l.2.2.advH g⟩
theorem LG.wide {s : Sl} {L : List VT} (hi : HI H0 H hb h S) (l : LG vF vMk (fun b => ¬ Fr hb h.pv S.v h.nv b) H s L) : LG vF vMk (fun b => ¬ FH hb h S b) H s L :=
 l.kp (Kp.refl No H) (fun _ _ _ _ => id) fun b _ hl h hf => by
  rcases hf with hf | hf | hf | hf
  ·exact hi.px.nty hi.row hl (by decide) hf
  ·exact h hf
  ·exact hi.pe.nty hi.row hl (by decide) hf
  ·exact hi.pa.nty hi.row hl (by decide) hf
def eMk (_ : Nat) : List Value := tR S_mark 0 Sl.nil
theorem eMk_len (i : Nat) : (eMk i).length = 3 := rfl
def LR (A : Nat → Prop) (H : Hp) (s : Sl) (evs : List EvM) : Prop :=
 ∃ V : List (ByteArray × Int × Sl), LG evF eMk A H s V ∧ V.length = evs.length ∧ ∀ (i : Nat) (v : ByteArray × Int × Sl) (e : EvM), V[i]? = some v → evs[i]? = some e → LE A H v.1 v.2.1 v.2.2 e
theorem LR.advH {s : Sl} {evs : List EvM} (l : LR (fun b => ¬ FH hb h S b) H s evs) (g : AdvH hb H h S H' h' S') : LR (fun b => ¬ FH hb h' S' b) H' s evs := by
 obtain ⟨V, h1, h2, h3⟩ := l
 exact ⟨V, h1.advH g, h2, fun i v e hv he => (h3 i v e hv he).advH g⟩
theorem LR.no {A : Nat → Prop} {s : Sl} {evs : List EvM} (l : LR A H s evs) (k : Kp No H H') : LR A H' s evs := by
 obtain ⟨V, h1, h2, h3⟩ := l
 exact ⟨V, h1.no k, h2, fun i v e hv he => ⟨(h3 i v e hv he).1, (h3 i v e hv he).2.1, (h3 i v e hv he).2.2.no k⟩⟩
theorem LR.evs {A : Nat → Prop} {s : Sl} {evs : List EvM} (l : LR A H s evs) (hl : evs.length ≤ lim) : EvsH H s evs := by
 obtain ⟨V, h1, h2, h3⟩ := l
 exact ⟨hl, V, h1.rd, h2, fun i v e hv he => ⟨(h3 i v e hv he).1, (h3 i v e hv he).2.1, (h3 i v e hv he).2.2.rd⟩⟩

theorem c39 {p1 : Sl} {evs : List EvM} {Q : Sl → Hp → Prop} (hi : HI H0 H hb h S) (src : EvsH H0 p1 evs) (hv : ∀ e ∈ evs, e.vals.length ≤ lim) (hM : h.nv + evs.length ≤ 1099511627776) (hM' : h.ne + 1 ≤ 1099511627776)
  (hQ : ∀ s H' P' V' S', HI H0 H' hb { h with pe := P', ne := h.ne + 1, pv := V', nv := h.nv + evs.length } S' → AdvH hb H h S H' { h with pe := P', ne := h.ne + 1, pv := V', nv := h.nv + evs.length } S' →
   LR (fun b => ¬ FH hb { h with pe := P', ne := h.ne + 1, pv := V', nv := h.nv + evs.length } S' b) H' s evs → Q s H') : F39 (some ⟨hb, 0, none⟩) p1 H Q := by
 obtain ⟨R, hR, hRl, hRe⟩ := src.rows
 have sm : evs.length ≤ 4194304 := src.small
 have hn : p1.n = evs.length := by rw [hR.n, hRl]
 have hs := hi.k0.size
 have mv := hi.mv
 have nv := hi.nv
 have loE : ∀ b, Fr1 hb h.pe S.e h.ne b → H0.size ≤ b := fun b g => hi.lo b (.inr (.inr (.inl (g.fr.le (Nat.zero_le _)))))
 show GrabG (fun a => a.add 2) (fun a => a.add 9) 49 36 3 48 (evF.f (E, 0, Sl.nil)).toArray (some ⟨hb, 0, none⟩) p1 (fun x s H62 => F39_L4 Q (some ⟨hb, 0, none⟩) p1 x (p1.n : Int) s 0 H62) H
 refine grab (fi := 2) (ci := 9) hi.row (by rw [add_mk, Nat.zero_add]) (by rw [add_mk, Nat.zero_add]) rfl rfl (by decide) hi.pe (by decide) (by decide) (by decide) hi.ne hi.me (fun H' k => hR.kp0 (hi.k0.trans k fun b hb => .inr (loE b hb))) (by omega) (by omega) fun b c sp H1 P' Se r1 l1 hg hc hmx hrow hlen hk hbs hP => ?_
 intro X4 hX4
 rw [hRl] at hc
 have kt1 : KT [32, 49, 36] H H1 := KT.of hk fun b hb => hi.pe.typ hi.row hb.fr
 have hfl := fl_len evF.len R
 rw [List.length_append, hfl, hRl] at hlen
 have hbF : Fr1 hb h.pe S.e h.ne b ∨ H.size ≤ b := hbs.imp (fun h => .inr (.inr h)) id
 suffices G : ∀ (d i : Nat) (V : List (ByteArray × Int × Sl)) (rest : List Value) (V' : Sl) (SV : List Sl) (H' : Hp), i + d = evs.length → V.length = i → rest.length = (c - i) * 3 → Row H' b 36 (V.flatMap evF.f ++ rest) →
   Row H' hb 32 { h with pe := P', ne := h.ne + 1, pv := V', nv := h.nv + i }.row → Pool 34 38 4 H' V' SV → h.nv + i ≤ SV.length → SV.length ≤ max S.v.length (h.nv + i) → Lst (slP 49) H' P' Se →
   Kp (fun b' => Fr1 hb h.pe S.e h.ne b' ∨ Fr hb h.pv S.v h.nv b') H H' → (∀ b', Fr hb V' SV (h.nv + i) b' → Fr hb h.pv S.v h.nv b' ∨ H.size ≤ b') → (∀ b', Fr hb V' SV 0 b' → Fr hb h.pv S.v 0 b' ∨ H.size ≤ b') →
   (∀ (j : Nat) (v : ByteArray × Int × Sl) (e : EvM), V[j]? = some v → evs[j]? = some e → LE (fun b' => ¬ Fr hb V' SV (h.nv + i) b') H' v.1 v.2.1 v.2.2 e) → X4 (i : Int) H' by
  refine G evs.length 0 [] (R.flatMap evF.f ++ sp) h.pv S.v H1 (by omega) rfl ?_ hrow r1 (kt1.pool hi.pv (by decide) (by decide)) nv (by omega) l1 (hk.mono fun b _ h => .inl h) (fun b h => .inl h) (fun b h => .inl h) fun j v e hv => by simp at hv
  rw [List.length_append, hfl, hRl]; omega
 intro d
 induction d with
 | zero =>
  intro i V rest V' SV H' hd hV hrest hrow r1 pv hnv hmv l1 kf ff fz hE
  have hi' : i = evs.length := by omega
  subst hi'
  refine fill eMk eMk_len (n0 := p1.n) (b := b) (c := c) (k := 3) (t := 36) (s := Sl.mk (some ⟨b, 0, none⟩) c c) rfl rfl hmx (C := F39_3 Q (some ⟨hb, 0, none⟩) (h.ne : Int) (p1.n : Int) (Sl.mk (some ⟨b, 0, none⟩) c c)) (fun y H hy g => hX4 _ _ ⟨fun hlt => ⟨fun _ => g.1 hlt, fun h2 => absurd (of_decide_eq_false h2) (by omega)⟩, g.2⟩) (c - evs.length) evs.length (V.flatMap evF.f) rest H' (by omega) (by omega) (by rw [fl_len evF.len, hV]) hrest hrow fun H2 r2 k2 => ?_
  have kt2 : KT [36] H' H2 := KT.of k2 fun b' h => ⟨36, _, by simp, h ▸ hrow⟩
  have r2h := kt2.row r1 (by decide)
  have l2 := kt2.lst l1 (by decide)
  obtain ⟨a, ha, h0, h1, hsome, hfrz, hst⟩ := store l2 hg.lt (Sl.mk (some ⟨b, 0, none⟩) c c)
  refine ⟨_, rfl, P', ?_, a, ha, h0, h1, hsome, hfrz, fun H3 e3 => ⟨by omega, by omega, ?_, Nat.le_refl _, ?_⟩⟩
  ·rw [add_mk, Nat.zero_add]; exact r2h.cell_of rfl
  ·show (p1.n : Int).toNat ≤ c; omega
  obtain ⟨l3, k3⟩ := hst H3 e3
  have kt3 : KT [49] H2 H3 := KT.of k3 fun b' h => by obtain ⟨sp, h⟩ := l2.row h; exact ⟨49, _, by simp, h⟩
  have r3h := kt3.row r2h (by decide)
  have r3 := kt3.row r2 (by decide)
  have kF : Kp (fun b' => Fr1 hb h.pe S.e h.ne b' ∨ Fr hb h.pv S.v h.nv b') H H3 := (kf.trans k2 fun b' e => by subst e; exact hbF.imp .inl id).trans k3 fun b' h => (hP b' h).imp (fun h => .inl (.inr (.inl h))) id
  have ktF : KT [32, 49, 36, 34, 38] H H3 := KT.of kF fun b hb => by
   rcases hb with hb | hb
   ·obtain ⟨t, l, h1, h2⟩ := hi.pe.typ hi.row hb.fr; exact ⟨t, l, by simp at h1 ⊢; omega, h2⟩
   ·obtain ⟨t, l, h1, h2⟩ := hi.pv.typ hi.row hb; exact ⟨t, l, by simp at h1 ⊢; omega, h2⟩
  obtain ⟨p3, f3, nf, f0⟩ := hi.pe.upd hi.row (by decide) (by decide) hg l3 r3 (by rw [List.length_append, fl_len evF.len, hV, mks_len eMk_len, ← Nat.add_mul]; congr 1; omega) hmx kF (fun b hb => by
   rcases hb with hb | hb | hb | ⟨i, s, _, h1, h2⟩
   ·exact .inl hb
   ·exact .inl (.inl hb)
   ·obtain ⟨sp, hb⟩ := hi.pv.lst.row hb; exact .inr ⟨34, _, by decide, hb⟩
   ·obtain ⟨l, hb⟩ := (hi.pv.own i s h1).row h2; exact .inr ⟨38, _, by decide, hb⟩) hbs hP
  have pv3 : Pool 34 38 4 H3 V' SV := kt3.pool (kt2.pool pv (by decide) (by decide)) (by decide) (by decide)
  have k0 : Kp No H0 H3 := hi.k0.trans kF fun b hb => .inr (hb.elim (loE b) fun hb => hi.lo b (.inr (.inl (hb.le (Nat.zero_le _)))))
  have hgl := hg.len
  have hne := hi.ne
  have hme := hi.me
  have hi3 : HI H0 H3 hb { h with pe := P', ne := h.ne + 1, pv := V', nv := h.nv + evs.length } { S with v := SV, e := Se.set h.ne (Sl.mk (some ⟨b, 0, none⟩) c c) } := by
   refine ⟨k0, r3h, ktF.pool hi.px (by decide) (by decide), pv3, p3, ktF.pool hi.pa (by decide) (by decide), fun b hf => ?_, hi.nx, hnv, by show h.ne + 1 ≤ (Se.set _ _).length; rw [List.length_set]; exact hg.lt, hi.na, hi.mx, by show SV.length ≤ _; omega, by show (Se.set _ _).length ≤ _; rw [List.length_set]; omega, hi.ma⟩
   rcases hf with hf | hf | hf | hf
   ·exact hi.lo b (.inl hf)
   ·exact (fz b hf).elim (fun h => hi.lo b (.inr (.inl h))) fun h => by omega
   ·exact (f0 b hf).elim (fun h => hi.lo b (.inr (.inr (.inl h)))) fun h => by omega
   ·exact hi.lo b (.inr (.inr (.inr hf)))
  rw [hn, show (evs.length : Int).toNat = evs.length from by omega, cutN]
  refine hQ _ H3 P' V' _ hi3 ⟨kF.mono fun b _ h => ?_, fun b hf => ?_, fun b hf => ?_⟩ ⟨V, ⟨b, c, by rw [hV], ?_, by omega, hmx, by rw [hV]; exact r3⟩, hV, fun j v e hv he => ?_⟩
  ·rcases h with h | h
   ·exact .inr (.inr (.inl h.fr))
   ·exact .inr (.inl h)
  ·rcases hf with hf | hf | hf | hf
   ·exact .inl (.inl hf)
   ·exact (ff b hf).imp (fun h => .inr (.inl h)) id
   ·exact (f3 b hf).imp (fun h => .inr (.inr (.inl (h.le (Nat.le_succ _))))) id
   ·exact .inl (.inr (.inr (.inr hf)))
  ·rcases hf with hf | hf | hf | hf
   ·exact .inl (.inl hf)
   ·exact (fz b hf).imp (fun h => .inr (.inl h)) id
   ·exact (f0 b hf).imp (fun h => .inr (.inr (.inl h))) id
   ·exact .inl (.inr (.inr (.inr hf)))
  ·rintro (hf | hf | hf | hf)
   ·exact hi3.px.nty hi3.row r3 (by decide) hf
   ·exact hi3.pv.nty hi3.row r3 (by decide) hf
   ·exact nf hf
   ·exact hi3.pa.nty hi3.row r3 (by decide) hf
  ·obtain ⟨g1, g2, g3⟩ := hE j v e hv he
   exact ⟨g1, g2, LG.wide hi3 ((g3.kt kt2 (by decide)).kt kt3 (by decide))⟩
 | succ d ih =>
  intro i V rest V' SV H' hd hV hrest hrow r1 pv hnv hmv l1 kf ff fz hE
  have it : ((i : Nat) : Int).toNat = i := by omega
  obtain ⟨r, gr⟩ : ∃ r, R[i]? = some r := ⟨_, List.getElem?_eq_getElem (by omega)⟩
  obtain ⟨e, ge⟩ : ∃ e, evs[i]? = some e := ⟨_, List.getElem?_eq_getElem (by omega)⟩
  obtain ⟨e1, e2, e3⟩ := hRe i r e gr ge
  have k0 : Kp No H0 H' := hi.k0.trans kf fun b hb => .inr (hb.elim (loE b) fun hb => hi.lo b (.inr (.inl (hb.le (Nat.zero_le _)))))
  have loV : ∀ b', Fr hb V' SV 0 b' → H0.size ≤ b' := fun b' h => (fz b' h).elim (fun h => hi.lo b' (.inr (.inl h))) fun h => by omega
  obtain ⟨a, ha, hlt, hcs⟩ := (hR.kp0 k0).get gr
  have hms : SV.length ≤ 1099511627776 := by omega
  refine hX4 _ _ ⟨fun _ => ⟨fun g => absurd (of_decide_eq_true g) (by omega), fun _ => ⟨a, ha, by omega, by omega, r.1, r.2.1, r.2.2, by rw [it]; exact hcs, ?_⟩⟩, fun g => absurd (of_decide_eq_false g) (by show ¬ ¬ (i : Int) < (c : Int); omega)⟩
  refine c27 (h := { h with pe := P', ne := h.ne + 1, pv := V', nv := h.nv + i }) r1 pv hnv hms (fun H'' k => e3.kp0 (k0.trans k fun b hb => .inr (loV b (hb.fr.le (Nat.zero_le _))))) (hv e (List.mem_of_getElem? ge)) fun s H102 P2 SV2 r102 p102 hx102 hS102 g102 lv102 H107 e107 => ?_
  have kt102 : KT [32, 34, 38] H' H102 := KT.of g102.k fun b hb => pv.typ r1 hb
  have k107 : Kp No H102 H107 := (Kp.refl _ _).push' e107
  have r107 := Row.new' e107
  refine ⟨r107.mayw (by simp), fun H109 e109 => ?_⟩
  have r109 : Row H109 H102.size 36 (tR r.1 r.2.1 s) := r107.fill' e109 rfl
  have k109 : Kp No H102 H109 := k107.sets' e109 (.inr (Nat.le_refl _))
  have hb109 : Row H109 b 36 (V.flatMap evF.f ++ rest) := k109.row (kt102.row hrow (by decide)) id
  have hlV := fl_len evF.len V
  have hlr : (V.flatMap evF.f ++ rest).length = c * 3 := by rw [List.length_append, hlV, hrest, hV, ← Nat.add_mul]; congr 1; omega
  refine ⟨r.1, r.2.1, s, r109.all, ⟨b, 0, none⟩, rfl, by omega, by show (i : Int) < (c : Int); omega, ?_⟩
  rw [it, add_mk, Nat.zero_add]
  refine ⟨hb109.mayw (by omega), fun H120 e120 => ?_⟩
  have r120 := hb109.sets' e120 (by show i * 3 + 3 ≤ _; omega)
  rw [← hV, ← hlV, over_mid] at r120
  have k120 : Kp (fun x => x = b) H109 H120 := (Kp.refl (fun x => x = b) H109).sets' e120 (.inl rfl)
  have kt120 : KT [36] H109 H120 := KT.of k120 fun b' h => ⟨36, _, by simp, h ▸ hb109⟩
  show X4 (IntKind.i64.wrap ((i : Int) + 1)) H120
  rw [wr (by omega) (by omega), show ((i : Int) + 1) = ((i + 1 : Nat) : Int) by omega]
  have k1' : KT [] H102 H109 := KT.no k109
  refine ih (i + 1) (V ++ [(r.1, r.2.1, s)]) (rest.drop 3) P2 SV2 H120 (by omega) (by rw [List.length_append, hV]; rfl) (by rw [List.length_drop, hrest]; omega) ?_ (kt120.row (k109.row r102 id) (by decide)) (kt120.pool (k1'.pool p102 (by simp) (by simp)) (by decide) (by decide)) (by omega) (by simp only [] at hS102; omega) (kt120.lst (k1'.lst (kt102.lst l1 (by decide)) (by simp)) (by decide)) ?_ (fun b' hf => ?_) (fun b' hf => ?_) fun j v e' hvj hej => ?_
  ·rw [List.flatMap_append]
   simpa [evF] using r120
  ·refine ((kf.trans g102.k fun b' hb' => (ff b' hb').imp .inr id).trans (k109.mono fun _ _ h => h.elim) fun b h => .inl h).trans k120 fun b' h => ?_
   subst h; exact hbF.imp .inl id
  ·exact (g102.f b' hf).elim (ff b') fun h => .inr (by have := kf.size; omega)
  ·exact (g102.z b' hf).elim (fz b') fun h => .inr (by have := kf.size; omega)
  ·by_cases hj : j < V.length
   ·rw [List.getElem?_append_left hj] at hvj
    obtain ⟨g1, g2, g3⟩ := hE j v e' hvj hej
    exact ⟨g1, g2, ((g3.adv g102).no k109).kt kt120 (by decide)⟩
   ·rw [List.getElem?_append_right (by omega)] at hvj
    have hj1 : j - V.length < 1 := (List.getElem?_eq_some_iff.1 hvj).1
    have hj2 : j = i := by omega
    subst hj2
    rw [show j - V.length = 0 from by omega] at hvj
    simp only [List.getElem?_cons_zero, Option.some.injEq] at hvj
    subst hvj
    rw [ge] at hej; injection hej with hej; subst hej
    exact ⟨e1, e2, (lv102.no k109).kt kt120 (by decide)⟩

theorem cellz3 {a : Addr} {x y z : Value} (c : cells H a [x, y, z] 0) : cell H a = some x ∧ cell H (a.add 1) = some y ∧ cell H (a.add 2) = some z := by
 obtain ⟨c1, c2, c3, _⟩ := c
 have e : a.add 0 = a := by obtain ⟨b, o, x⟩ := a; cases x <;> simp [Addr.add]
 rw [e] at c1
 exact ⟨c1, c2, c3⟩
theorem c54 {A : Nat → Prop} {p0 p1 : Sl} {evs : List EvM} {Q : Bool → Hp → Prop} (h0 : EvsH H p0 evs) (h1 : LR A H p1 evs) (hv : ∀ e ∈ evs, e.vals.length ≤ lim) (hQ : ∀ H', Kp No H H' → Q true H') : F54 p0 p1 H Q := by
 obtain ⟨R, hR, hRl, hRe⟩ := h0.rows
 have sm : evs.length ≤ 4194304 := h0.small
 have hn : p0.n = evs.length := by rw [hR.n, hRl]
 obtain ⟨V, ⟨b, c, rfl, _, hc, hmx, hrow⟩, hV, hE⟩ := h1
 have go : F54_1 Q p0 (Sl.mk (some ⟨b, 0, none⟩) V.length c) (p0.n : Int) false H := by
  refine ⟨fun h => (by cases h), fun _ => ⟨Int.natCast_nonneg _, Nat.zero_le _, by show (c : Int).toNat ≤ c; omega, Nat.le_refl _, ?_⟩⟩
  show F54_L2 Q p0 (p0.n : Int) (Sl.cut (Sl.mk (some ⟨b, 0, none⟩) V.length c) 3 0 ((c : Int).toNat) c) 0 H
  have ec : Sl.cut (Sl.mk (some ⟨b, 0, none⟩) V.length c) 3 0 ((c : Int).toNat) c = Sl.mk (some ⟨b, 0, none⟩) c c := by
   rw [show ((c : Int)).toNat = c from by omega]
   unfold Sl.cut
   rw [if_neg (by omega)]; rfl
  rw [ec]
  intro X2 hX2
  suffices G : ∀ (d i : Nat) (H' : Hp), i + d = c → Kp No H H' → X2 (i : Int) H' from G c 0 H (by omega) (Kp.refl _ _)
  intro d
  induction d with
  | zero =>
   intro i H' hi k
   exact hX2 _ _ ⟨fun g => absurd (of_decide_eq_true g) (by show ¬ (i : Int) < (c : Int); omega), fun _ => hQ H' k⟩
  | succ d ih =>
   intro i H' hi k
   have it : ((i : Nat) : Int).toNat = i := by omega
   have hr' := k.row hrow id
   have nx : ∀ H'', Kp No H H'' → X2 (IntKind.i64.wrap ((i : Int) + 1)) H'' := fun H'' k'' => by
    rw [wr (by omega) (by omega), show ((i : Int) + 1) = ((i + 1 : Nat) : Int) by omega]
    exact ih (i + 1) H'' (by omega) k''
   refine hX2 _ _ ⟨fun _ => ⟨fun g => ?_, fun g => ?_⟩, fun g => absurd (of_decide_eq_false g) (by show ¬ ¬ (i : Int) < (c : Int); omega)⟩
   ·have g := of_decide_eq_true g
    have hcs : cells H' ((⟨b, 0, none⟩ : Addr).add ((i : Int).toNat * 3)) (tR S_mark 0 Sl.nil) 0 := by
     rw [it, add_mk]
     exact hr'.cells (by rw [Nat.zero_add, Nat.add_zero]; exact lk_hi evF eMk_len (by omega) (by omega))
    obtain ⟨c1, c2, c3⟩ := cellz3 hcs
    refine ⟨_, rfl, by omega, by show (i : Int) < (c : Int); omega, S_mark, c1, fun g2 => ?_, fun _ => ⟨_, rfl, by omega, by show (i : Int) < (c : Int); omega, 0, c2, fun g2 => absurd rfl (of_decide_eq_true g2), fun _ => ⟨_, rfl, by omega, by show (i : Int) < (c : Int); omega, Sl.nil, c3, fun g2 => absurd rfl (of_decide_eq_true g2), fun _ => ⟨fun g2 => absurd (of_decide_eq_true g2) (by omega), fun _ => ⟨fun h => (by cases h), fun _ => nx H' k⟩⟩⟩⟩⟩
    rw [seq_self] at g2; cases g2
   ·have g := of_decide_eq_false g
    refine ⟨fun _ => ?_, fun g2 => absurd (of_decide_eq_false g2) (by omega)⟩
    obtain ⟨r, gr⟩ : ∃ r, R[i]? = some r := ⟨_, List.getElem?_eq_getElem (by omega)⟩
    obtain ⟨e, ge⟩ : ∃ e, evs[i]? = some e := ⟨_, List.getElem?_eq_getElem (by omega)⟩
    obtain ⟨v, gv⟩ : ∃ v, V[i]? = some v := ⟨_, List.getElem?_eq_getElem (by omega)⟩
    obtain ⟨e1, e2, e3⟩ := hRe i r e gr ge
    obtain ⟨a, ha, hlt, hcs⟩ := (hR.kp0 k).get gr
    refine ⟨a, ha, by omega, by omega, r.1, r.2.1, r.2.2, by rw [it]; exact hcs, _, rfl, by omega, by show (i : Int) < (c : Int); omega, v.1, v.2.1, v.2.2, ?_, ?_⟩
    ·rw [it, add_mk]
     exact hr'.cells (by rw [Nat.zero_add, Nat.add_zero]; exact lk_lo evF gv)
    ·rw [e1, e2]
     obtain ⟨g1, g2, g3⟩ := hE i v e gv ge
     exact c30 (e3.kp0 k) ⟨g1, g2, g3.no k⟩ (hv e (List.mem_of_getElem? ge)) fun H90 k90 => ⟨fun h => (by cases h), fun _ => nx H90 (k.no2 k90)⟩
 refine ⟨fun g => absurd (of_decide_eq_true g) (by show ¬ ((V.length : Int) ≠ (p0.n : Int)); omega), fun _ => ?_⟩
 rw [show decide (((Sl.mk (some ⟨b, 0, none⟩) V.length c).c : Int) ≤ (p0.n : Int)) = false from decide_eq_false (by show ¬ ((c : Int) ≤ (p0.n : Int)); omega)]
 exact go
end

def tMk (_ : Nat) : List Value := [.string S_mark, sN]
theorem tMk_len (i : Nat) : (tMk i).length = 2 := rfl
def aMk (i : Nat) : List Value := [sv bE, iv (IntKind.i64.wrap (77 + (i : Int)))]
theorem aMk_len (i : Nat) : (aMk i).length = 2 := rfl
def LD (A : Nat → Prop) (H : Hp) (ty : Sl) (AS : List Sl) (T : List TyM) : Prop :=
 ∃ (b c : Nat) (W : List (ByteArray × Sl)), ty = Sl.mk (some ⟨b, 0, none⟩) c c ∧ T.length < c ∧ c ≤ 9223372036854775807 ∧ Row H b 86 (W.flatMap tF.f ++ mks tMk T.length (c - T.length)) ∧ W.length = T.length ∧
  ∀ (j : Nat) (w : ByteArray × Sl) (t : TyM), W[j]? = some w → T[j]? = some t → w.1 = t.1 ∧ AS[j]? = some ⟨w.2.b, w.2.c, w.2.c⟩ ∧ LG aF aMk A H w.2 t.2
theorem Grown.get {S S' : List Sl} {x j : Nat} {s : Sl} (h : Grown S S' x) (hs : S[j]? = some s) : S'[j]? = some s := by
 rcases h with ⟨rfl, h⟩ | ⟨rfl, h⟩
 ·exact hs
 ·rw [List.getElem?_append_left (List.getElem?_eq_some_iff.1 hs).1]; exact hs
section
variable {H0 H H' : Hp} {hb : Nat} {h h' : Hd} {S S' : Ss}
theorem LD.advH {ty : Sl} {AS : List Sl} {T : List TyM} (l : LD (fun b => ¬ FH hb h S b) H ty AS T) (hi : HI H0 H hb h S) (g : AdvH hb H h S H' h' S') : LD (fun b => ¬ FH hb h' S' b) H' ty AS T := by
 obtain ⟨b, c, W, h1, h2, h3, h4, h5, h6⟩ := l
 exact ⟨b, c, W, h1, h2, h3, (g.kt hi).row h4 (by decide), h5, fun j w t hw ht => ⟨(h6 j w t hw ht).1, (h6 j w t hw ht).2.1, (h6 j w t hw ht).2.2.advH g⟩⟩
theorem LD.no {A : Nat → Prop} {ty : Sl} {AS : List Sl} {T : List TyM} (l : LD A H ty AS T) (k : Kp No H H') : LD A H' ty AS T := by
 obtain ⟨b, c, W, h1, h2, h3, h4, h5, h6⟩ := l
 exact ⟨b, c, W, h1, h2, h3, k.row h4 id, h5, fun j w t hw ht => ⟨(h6 j w t hw ht).1, (h6 j w t hw ht).2.1, (h6 j w t hw ht).2.2.no k⟩⟩
theorem LD.tys {A : Nat → Prop} {ty : Sl} {AS : List Sl} {T : List TyM} (l : LD A H ty AS T) (hl : T.length ≤ lim) (hl' : ∀ t ∈ T, t.2.length ≤ lim) : TysH H (Sl.mk ty.b T.length ty.c) T := by
 obtain ⟨b, c, W, rfl, h2, h3, h4, h5, h6⟩ := l
 exact ⟨hl, W, ⟨h5.symm, h4.cells (by rw [Nat.add_zero, List.drop_zero, List.take_left])⟩, h5, fun i w t hw ht => ⟨(h6 i w t hw ht).1, (h6 i w t hw ht).2.2.rd, hl' t (List.mem_of_getElem? ht)⟩⟩
theorem set_mid {α : Type} {b t k c i : Nat} {F : Fmt α t k} {W : List α} {sp : List Value} {x x' : α} {v : Value} (r : Row H b t (W.flatMap F.f ++ sp)) (hx : W[i]? = some x) (hc : c < k) (hf : F.f x' = (F.f x).set c v) (e : H' = setc H ⟨b, i * k + c, none⟩ v) : Row H' b t ((W.set i x').flatMap F.f ++ sp) := by
 have hi : i < W.length := (List.getElem?_eq_some_iff.1 hx).1
 have hl := fl_len F.len W
 have hm : i * k + k ≤ W.length * k := by rw [← Nat.succ_mul]; exact Nat.mul_le_mul_right _ hi
 have hr := r.set' e
 have hg : ((W.flatMap F.f ++ sp).drop (i * k)).take (F.f x).length = F.f x := by rw [F.len]; exact lk_lo F hx
 rw [set_over hg (by rw [F.len]; exact hc) (by rw [F.len, List.length_append]; omega), ← hf, fl_set F.len W sp i x' hi] at hr
 exact hr
theorem c40 {p1 : Sl} {T : List TyM} {Q : Sl → Hp → Prop} (hi : HI H0 H hb h S) (hty : Slot H 86 2 h.ty) (hlo : ∀ b, h.ty.at b → H0.size ≤ b) (src : TysH H0 p1 T) (hna : h.na = 0)
  (hQ : ∀ H' P' ty' A', HI H0 H' hb { h with pa := P', na := T.length, ty := ty' } { S with a := A' } → Kp (fun b => FH hb h S b ∨ h.ty.at b) H H' → (∀ b, FH hb { h with pa := P', na := T.length, ty := ty' } { S with a := A' } b → FH hb h S b ∨ H.size ≤ b) → (∀ b, FZ hb { h with pa := P', na := T.length, ty := ty' } { S with a := A' } b → FZ hb h S b ∨ H.size ≤ b) →
   (∀ b, ty'.at b → h.ty.at b ∨ H.size ≤ b) → LD (fun b => ¬ FH hb { h with pa := P', na := T.length, ty := ty' } { S with a := A' } b) H' ty' A' T → Q (Sl.mk ty'.b T.length ty'.c) H') : F40 (some ⟨hb, 0, none⟩) p1 H Q := by
 obtain ⟨R, hR, hRl, hRt⟩ := src.rows
 have sm : T.length ≤ 4194304 := src.small
 have hn : p1.n = T.length := by rw [hR.n, hRl]
 have hs := hi.k0.size
 have ma := hi.ma
 have nt : ¬ h.ty.at hb := fun g => by obtain ⟨l, g⟩ := hty.row g; exact absurd (g.inj hi.row).2 (by decide)
 refine ⟨_, rfl, h.ty, by rw [add_mk, Nat.zero_add]; exact hi.row.cell_of rfl, Nat.le_refl _, Nat.zero_le _, Nat.le_refl _, app1 (F := tF) (bytes := 40) hty (hR.kp0 hi.k0) rfl (by omega) (by omega) fun r H8 hr8 k8 ha8 => ?_⟩
 refine app0 (F := tF) (bytes := 40) (z := (E, Sl.nil)) (K2 := fun y H => F40_L2 Q (some ⟨hb, 0, none⟩) p1 (p1.n : Int) y (p1.n : Int) H) hr8 (by omega) (by omega) fun b c sp H13 hc hmx hrow hlen k13 hb13 => ?_
 rw [hRl] at hc
 have k13' : Kp h.ty.at H H13 := k8.trans k13 fun b h => ha8 b h
 have hbt : h.ty.at b ∨ H.size ≤ b := hb13.elim (ha8 b) fun h => .inr (by have := k8.size; omega)
 have hfl := fl_len tF.len R
 rw [List.length_append, hfl, hRl] at hlen
 have kt13 : KT [86] H H13 := KT.of k13' fun b hb => by obtain ⟨l, hb⟩ := hty.row hb; exact ⟨86, l, by simp, hb⟩
 show F40_L2 Q (some ⟨hb, 0, none⟩) p1 (p1.n : Int) (Sl.mk (some ⟨b, 0, none⟩) c c) (p1.n : Int) H13
 intro X2 hX2
 rw [hn]
 refine fill tMk tMk_len (n0 := 0) (b := b) (c := c) (k := 2) (t := 86) (s := Sl.mk (some ⟨b, 0, none⟩) c c) rfl rfl hmx (C := F40_1 Q (some ⟨hb, 0, none⟩) p1 (p1.n : Int) (Sl.mk (some ⟨b, 0, none⟩) c c)) (fun y H _ g => hX2 _ _ g) (c - T.length) T.length (R.flatMap tF.f) sp H13 (Nat.zero_le _) (by omega) (by omega) (by rw [Nat.sub_mul]; omega) hrow fun H2 r2 k2 => ?_
 have kt2 : KT [86] H H2 := kt13.trans (KT.of k2 fun b' h => ⟨86, _, by simp, h ▸ hrow⟩)
 have kH2 : Kp h.ty.at H H2 := k13'.trans k2 fun b' e => by subst e; exact hbt
 intro X4 hX4
 suffices G : ∀ (d i : Nat) (W : List (ByteArray × Sl)) (P' : Sl) (AS : List Sl) (H' : Hp), i + d = T.length → W.length = T.length → Row H' b 86 (W.flatMap tF.f ++ mks tMk T.length (c - T.length)) → (∀ j, i ≤ j → W[j]? = R[j]?) →
   Row H' hb 32 { h with pa := P', na := i }.row → Pool 84 83 2 H' P' AS → i ≤ AS.length → AS.length ≤ max S.a.length i → Kp (fun b' => h.ty.at b' ∨ Fr hb h.pa S.a 0 b') H H' →
   (∀ b', Fr hb P' AS i b' → Fr hb h.pa S.a 0 b' ∨ H.size ≤ b') → (∀ b', Fr hb P' AS 0 b' → Fr hb h.pa S.a 0 b' ∨ H.size ≤ b') →
   (∀ (j : Nat) (w : ByteArray × Sl) (t : TyM), j < i → W[j]? = some w → T[j]? = some t → w.1 = t.1 ∧ AS[j]? = some ⟨w.2.b, w.2.c, w.2.c⟩ ∧ LG aF aMk (fun b' => ¬ Fr hb P' AS i b') H' w.2 t.2) → X4 (i : Int) H' by
  refine G T.length 0 R h.pa S.a H2 (by omega) hRl r2 (fun _ _ => rfl) ?_ (kt2.pool hi.pa (by decide) (by decide)) (Nat.zero_le _) (by omega) (kH2.mono fun _ _ h => .inl h) (fun _ h => .inl h) (fun _ h => .inl h) fun j w t hj => by omega
  have := kt2.row hi.row (by decide)
  rw [← hna]; exact this
 intro d
 induction d with
 | zero =>
  intro i W P' AS H' hd hW hrow hWR r1 pa hna' hma kf ff fz hD
  have hi' : i = T.length := by omega
  subst hi'
  refine hX4 _ _ ⟨fun g => absurd (of_decide_eq_true g) (by omega), fun _ => ⟨_, rfl, ?_⟩⟩
  rw [add_mk, Nat.zero_add]
  refine ⟨r1.some (by show 6 < 11; decide), r1.frz _, fun H3 e3 => ⟨by omega, by omega, ?_, Nat.le_refl _, ?_⟩⟩
  ·show (p1.n : Int).toNat ≤ c; omega
  have r3 : Row H3 hb 32 { h with pa := P', na := T.length, ty := Sl.mk (some ⟨b, 0, none⟩) c c }.row := r1.set' e3
  have k3 : Kp (fun x => x = hb) H' H3 := (Kp.refl (fun x => x = hb) H').set' e3 (.inl rfl)
  have kt3 : KT [32] H' H3 := KT.of k3 fun b' h => ⟨32, _, by simp, h ▸ r1⟩
  have kF : Kp (fun b' => h.ty.at b' ∨ Fr hb h.pa S.a 0 b') H H3 := kf.trans k3 fun b' e => .inl (.inr (.inl e))
  have ktF : KT [86, 32, 84, 83] H H3 := KT.of kF fun b hb => by
   rcases hb with hb | hb
   ·obtain ⟨l, hb⟩ := hty.row hb; exact ⟨86, l, by simp, hb⟩
   ·obtain ⟨t, l, h1, h2⟩ := hi.pa.typ hi.row hb; exact ⟨t, l, by simp at h1 ⊢; omega, h2⟩
  have k0 : Kp No H0 H3 := hi.k0.trans kF fun b hb => .inr (hb.elim (hlo b) fun hb => hi.lo b (.inr (.inr (.inr hb))))
  have pa3 := kt3.pool pa (by decide) (by decide)
  have hi3 : HI H0 H3 hb { h with pa := P', na := T.length, ty := Sl.mk (some ⟨b, 0, none⟩) c c } { S with a := AS } := by
   refine ⟨k0, r3, ktF.pool hi.px (by decide) (by decide), ktF.pool hi.pv (by decide) (by decide), ktF.pool hi.pe (by decide) (by decide), pa3, fun b hf => ?_, hi.nx, hi.nv, hi.ne, hna', hi.mx, hi.mv, hi.me, by show AS.length ≤ _; omega⟩
   rcases hf with hf | hf | hf | hf
   ·exact hi.lo b (.inl hf)
   ·exact hi.lo b (.inr (.inl hf))
   ·exact hi.lo b (.inr (.inr (.inl hf)))
   ·exact (fz b hf).elim (fun h => hi.lo b (.inr (.inr (.inr h)))) fun h => by omega
  rw [hn, show (T.length : Int).toNat = T.length from by omega, cutN]
  refine hQ H3 P' (Sl.mk (some ⟨b, 0, none⟩) c c) AS hi3 (kF.mono fun b' _ hf => ?_) (fun b' hf => ?_) (fun b' hf => ?_) (fun b' hf => ?_) ⟨b, c, W, rfl, by omega, hmx, kt3.row hrow (by decide), hW, fun j w t hw ht => ?_⟩
  ·exact hf.elim .inr fun hf => .inl (.inr (.inr (.inr (by rw [hna]; exact hf))))
  ·rcases hf with hf | hf | hf | hf
   ·exact .inl (.inl hf)
   ·exact .inl (.inr (.inl hf))
   ·exact .inl (.inr (.inr (.inl hf)))
   ·exact (ff b' hf).imp (fun h => .inr (.inr (.inr (by rw [hna]; exact h)))) id
  ·rcases hf with hf | hf | hf | hf
   ·exact .inl (.inl hf)
   ·exact .inl (.inr (.inl hf))
   ·exact .inl (.inr (.inr (.inl hf)))
   ·exact (fz b' hf).imp (fun h => .inr (.inr (.inr h))) id
  ·have : b' = b := by
    have hf : some (⟨b, 0, none⟩ : Addr) = some ⟨b', 0, none⟩ := hf
    injection hf with hf; injection hf with hf; exact hf.symm
   rw [this]; exact hbt
  ·obtain ⟨g1, g2, g3⟩ := hD j w t (by have := (List.getElem?_eq_some_iff.1 ht).1; omega) hw ht
   refine ⟨g1, g2, g3.kp k3 (fun b' l hl _ e => ?_) fun b' l hl hne hf => ?_⟩
   ·subst e; exact absurd (hl.inj r1).2 (by decide)
   ·have hl3 := kt3.row hl (by decide)
    rcases hf with hf | hf | hf | hf
    ·exact hi3.px.nty hi3.row hl3 (by decide) hf
    ·exact hi3.pv.nty hi3.row hl3 (by decide) hf
    ·exact hi3.pe.nty hi3.row hl3 (by decide) hf
    ·exact hne hf
 | succ d ih =>
  intro i W P' AS H' hd hW hrow hWR r1 pa hna' hma kf ff fz hD
  have it : ((i : Nat) : Int).toNat = i := by omega
  obtain ⟨r, gr⟩ : ∃ r, R[i]? = some r := ⟨_, List.getElem?_eq_getElem (by omega)⟩
  obtain ⟨t, gt⟩ : ∃ t, T[i]? = some t := ⟨_, List.getElem?_eq_getElem (by omega)⟩
  obtain ⟨e1, e2, e3⟩ := hRt i r t gr gt
  have e3 : t.2.length ≤ 4194304 := e3
  have hrn : r.2.n = t.2.length := e2.n
  have k0 : ∀ {Hx}, Kp (fun b' => h.ty.at b' ∨ Fr hb h.pa S.a 0 b') H Hx → Kp No H0 Hx := fun k => hi.k0.trans k fun b hb => .inr (hb.elim (hlo b) fun hb => hi.lo b (.inr (.inr (.inr hb))))
  have srcc : ∀ {Hx}, Kp (fun b' => h.ty.at b' ∨ Fr hb h.pa S.a 0 b') H Hx → ∃ a : Addr, p1.b = some a ∧ (0 : Int) ≤ (i : Int) ∧ (i : Int) < (p1.n : Int) ∧ cell Hx ((a.add ((i : Int).toNat * 2)).add 1) = some (Sl.v r.2) := fun {Hx} k => by
   obtain ⟨a, ha, hlt, hcs⟩ := (hR.kp0 (k0 k)).get gr
   exact ⟨a, ha, by omega, by omega, by rw [it]; exact hcs.2.1⟩
  refine hX4 _ _ ⟨fun _ => ?_, fun g => absurd (of_decide_eq_false g) (by omega)⟩
  show TakeG (fun a => a.add 3) (fun a => a.add 10) 84 (some ⟨hb, 0, none⟩) (fun x H => F40_5 Q X4 (some ⟨hb, 0, none⟩) p1 (p1.n : Int) (Sl.mk (some ⟨b, 0, none⟩) c c) (i : Int) x H) H'
  refine take (fi := 3) (ci := 10) r1 (by rw [add_mk, Nat.zero_add]) (by rw [add_mk, Nat.zero_add]) rfl rfl (by decide) pa.lst (by decide) hna' (by omega) fun H3 P2 A2 r3 l3 hg k3 hP2 => ?_
  have r3 : Row H3 hb 32 { h with pa := P2, na := i + 1 }.row := r3
  obtain ⟨s0, hs0⟩ : ∃ s, A2[i]? = some s := ⟨_, List.getElem?_eq_getElem hg.lt⟩
  have kt3 : KT [32, 84] H' H3 := KT.of k3 fun b' h => by
   rcases h with rfl | h
   ·exact ⟨32, _, by simp, r1⟩
   ·obtain ⟨sp, h⟩ := pa.lst.row h; exact ⟨84, _, by simp, h⟩
  have hso : Slot H3 83 2 s0 ∧ ∀ b, s0.at b → ∃ s, AS[i]? = some s ∧ s.at b := by
   rcases hg with ⟨rfl, hlt⟩ | ⟨rfl, rfl⟩
   ·exact ⟨(pa.own _ s0 hs0).imp fun _ o => kt3.own o (by decide), fun b h => ⟨s0, hs0, h⟩⟩
   ·rw [List.getElem?_append_right (Nat.le_refl _), Nat.sub_self] at hs0
    injection hs0 with hs0; subst hs0
    exact ⟨Slot.nil _ _ _, fun b h => by cases h⟩
  obtain ⟨a, ha, h0, hlt, ca⟩ := rdAt l3.rd hs0
  have kf1 : Kp (Fr1 hb P' AS i) H' H3 := k3.mono fun b _ h => h.elim .inl fun h => .inr (.inl h)
  have kto : ∀ b', Fr1 hb P' AS i b' → (h.ty.at b' ∨ Fr hb h.pa S.a 0 b') ∨ H.size ≤ b' := fun b' h => (ff b' h.fr).imp .inr id
  have kf3 := kf.trans kf1 kto
  obtain ⟨a1, ha1, h01, hlt1, cs1⟩ := srcc kf3
  refine ⟨_, rfl, P2, by rw [add_mk, Nat.zero_add]; exact r3.cell_of rfl, a, ha, h0, hlt, s0, ca, Nat.le_refl _, Nat.zero_le _, Nat.le_refl _, a1, ha1, h01, hlt1, r.2, cs1, ?_⟩
  refine app1 (F := aF) (bytes := 24) hso.1 (e2.kp0 (k0 kf3)) rfl (by omega) (by omega) fun r107 H105 hr105 k105 ha105 => ?_
  have kt105 : KT [83] H3 H105 := KT.of k105 fun b' h => by obtain ⟨l, h⟩ := hso.1.row h; exact ⟨83, l, by simp, h⟩
  have l105 := kt105.lst l3 (by decide)
  refine ⟨?_, by rw [add_mk, Nat.zero_add]; exact (kt105.row r3 (by decide)).cell_of rfl, ?_⟩
  ·obtain ⟨a', ha', _, _, ca'⟩ := rdAt l105.rd hs0
   rw [ha] at ha'; injection ha' with ha'; subst ha'; exact ca'
  refine app0 (F := aF) (bytes := 24) (z := (E, 0)) (K2 := fun y H112 => ∃ a126 : Addr, (p1).b = some a126 ∧ (0 : Int) ≤ (i : Int) ∧ (i : Int) < ((p1).n : Int) ∧ (
   ∃ x131 : Sl, cell H112 (Addr.add (Addr.add a126 ((i : Int).toNat * 2)) 1) = some (Sl.v x131) ∧ (
   F40_L7 Q X4 (some ⟨hb, 0, none⟩) p1 (p1.n : Int) (Sl.mk (some ⟨b, 0, none⟩) c c) (i : Int) (i : Int) y ((x131).n : Int) H112))) hr105 (by omega) (by omega) fun b2 c2 sp2 H112 hc2 hmx2 hrow2 hlen2 k112 hb112 => ?_
  have kt112 : KT [83] H105 H112 := KT.of k112 fun b' h => by obtain ⟨l, h⟩ := hr105.row h; exact ⟨83, _, by simp, h⟩
  have kf112 : Kp (Fr1 hb P' AS i) H' H112 := (kf1.trans k105 fun b h => .inl (.inr (.inr (hso.2 b h)))).trans k112 fun b h => (ha105 b h).elim (fun h => .inl (.inr (.inr (hso.2 b h)))) fun h => .inr (by have := kf1.size; omega)
  have hbs2 : (∃ s, AS[i]? = some s ∧ s.at b2) ∨ H'.size ≤ b2 := by
   have := kf1.size
   have := k105.size
   rcases hb112 with h | h
   ·exact (ha105 b2 h).imp (hso.2 b2) fun h => by omega
   ·exact .inr (by omega)
  obtain ⟨a2, ha2, h02, hlt2, cs2⟩ := srcc (kf.trans kf112 kto)
  refine ⟨a2, ha2, h02, hlt2, r.2, cs2, ?_⟩
  have hfl2 := fl_len aF.len t.2
  rw [List.length_append, hfl2] at hlen2
  show F40_L7 Q X4 (some ⟨hb, 0, none⟩) p1 (p1.n : Int) (Sl.mk (some ⟨b, 0, none⟩) c c) (i : Int) (i : Int) (Sl.mk (some ⟨b2, 0, none⟩) c2 c2) (r.2.n : Int) H112
  intro X7 hX7
  rw [hrn]
  refine fill aMk aMk_len (n0 := 0) (b := b2) (c := c2) (k := 2) (t := 83) (s := Sl.mk (some ⟨b2, 0, none⟩) c2 c2) rfl rfl hmx2 (C := F40_6 Q X4 (some ⟨hb, 0, none⟩) p1 (p1.n : Int) (Sl.mk (some ⟨b, 0, none⟩) c c) (i : Int) (i : Int) (Sl.mk (some ⟨b2, 0, none⟩) c2 c2)) (fun y H _ g => hX7 _ _ g) (c2 - t.2.length) t.2.length (t.2.flatMap aF.f) sp2 H112 (Nat.zero_le _) (by omega) (by omega) (by rw [Nat.sub_mul]; omega) hrow2 fun H5 r5 k5 => ?_
  have kt5 : KT [83] H112 H5 := KT.of k5 fun b' h => ⟨83, _, by simp, h ▸ hrow2⟩
  have kt35 : KT [83] H3 H5 := (kt105.trans kt112).trans kt5
  have l5 := kt35.lst l3 (by decide)
  have r5h := kt35.row r3 (by decide)
  obtain ⟨a6, ha6, h06, h16, hsome, hfrz, hst⟩ := store l5 hg.lt (Sl.mk (some ⟨b2, 0, none⟩) c2 c2)
  refine ⟨_, rfl, P2, by rw [add_mk, Nat.zero_add]; exact r5h.cell_of rfl, a6, ha6, h06, h16, hsome, hfrz, fun H6 e6 => ?_⟩
  obtain ⟨l6, k6⟩ := hst H6 e6
  have kt6 : KT [84] H5 H6 := KT.of k6 fun b' h => by obtain ⟨sp, h⟩ := l5.row h; exact ⟨84, _, by simp, h⟩
  have kf6 : Kp (Fr1 hb P' AS i) H' H6 := (kf112.trans k5 fun b' e => by subst e; exact hbs2.imp (fun h => .inr (.inr h)) id).trans k6 fun b' h => (hP2 b' h).imp (fun h => .inr (.inl h)) id
  have r6 := kt6.row r5 (by decide)
  have r6h := kt6.row r5h (by decide)
  obtain ⟨p6, f6, nf6, f06⟩ := pa.upd r1 (by decide) (by decide) hg l6 r6 (by rw [List.length_append, hfl2, mks_len aMk_len, ← Nat.add_mul]; congr 1; omega) hmx2 kf6 (fun _ h => .inl h) hbs2 hP2
  have b6 : Row H6 b 86 (W.flatMap tF.f ++ mks tMk T.length (c - T.length)) := kt6.row (kt35.row (kt3.row hrow (by decide)) (by decide)) (by decide)
  have kfF6 := kf.trans kf6 kto
  obtain ⟨a7, ha7, h07, hlt7, cs7⟩ := srcc kfF6
  have hWi : W[i]? = some r := by rw [hWR i (Nat.le_refl _)]; exact gr
  have hlW := fl_len tF.len W
  refine ⟨a7, ha7, h07, hlt7, r.2, cs7, by omega, by omega, by show (r.2.n : Int).toNat ≤ c2; omega, Nat.le_refl _, ⟨b, 0, none⟩, rfl, by omega, by show (i : Int) < (c : Int); omega, ?_⟩
  rw [it, add_mk, add_mk, Nat.zero_add, hrn, show (t.2.length : Int).toNat = t.2.length from by omega]
  refine ⟨b6.some (by rw [List.length_append]; omega), b6.frz _, fun H174 e174 => ?_⟩
  have eC : Sl.cut (Sl.mk (some ⟨b2, 0, none⟩) c2 c2) 2 0 t.2.length c2 = Sl.mk (some ⟨b2, 0, none⟩) t.2.length c2 := cutN _ _ _ _
  have r174 : Row H174 b 86 ((W.set i (t.1, Sl.mk (some ⟨b2, 0, none⟩) t.2.length c2)).flatMap tF.f ++ mks tMk T.length (c - T.length)) := by
   refine set_mid (F := tF) (c := 1) b6 hWi (by decide) ?_ e174
   show [Value.string t.1, Sl.v (Sl.mk (some ⟨b2, 0, none⟩) t.2.length c2)] = [Value.string r.1, Sl.v (Sl.cut (Sl.mk (some ⟨b2, 0, none⟩) c2 c2) 2 0 t.2.length c2)]
   rw [eC, e1]
  have k174 : Kp (fun x => x = b) H6 H174 := (Kp.refl (fun x => x = b) H6).set' e174 (.inl rfl)
  have kt174 : KT [86] H6 H174 := KT.of k174 fun b' h => ⟨86, _, by simp, h ▸ b6⟩
  rw [wr (by omega) (by omega), show ((i : Int) + 1) = ((i + 1 : Nat) : Int) by omega]
  have hgl : A2.length ≤ max AS.length (i + 1) := hg.len
  refine ih (i + 1) (W.set i (t.1, Sl.mk (some ⟨b2, 0, none⟩) t.2.length c2)) P2 (A2.set i (Sl.mk (some ⟨b2, 0, none⟩) c2 c2)) H174 (by omega) (by rw [List.length_set]; exact hW) r174 (fun j hj => ?_) (kt174.row r6h (by decide)) (kt174.pool p6 (by decide) (by decide)) (by rw [List.length_set]; exact hg.lt) (by rw [List.length_set]; omega) (kfF6.trans k174 fun b' e => by subst e; exact hbt.imp .inl id) (fun b' hf => ?_) (fun b' hf => ?_) fun j w t' hj hw ht => ?_
  ·rw [List.getElem?_set_ne (by omega)]; exact hWR j (by omega)
  ·exact (f6 b' hf).elim (fun h => ff b' (h.le (Nat.le_succ _))) fun h => .inr (by have := kf.size; omega)
  ·exact (f06 b' hf).elim (fz b') fun h => .inr (by have := kf.size; omega)
  ·by_cases hji : j = i
   ·subst hji
    rw [List.getElem?_set_self (by omega)] at hw
    injection hw with hw; subst hw
    rw [gt] at ht; injection ht with ht; subst ht
    refine ⟨rfl, by rw [List.getElem?_set_self hg.lt], b2, c2, rfl, nf6, hc2, hmx2, kt174.row r6 (by decide)⟩
   ·rw [List.getElem?_set_ne (by omega)] at hw
    obtain ⟨g1, g2, g3⟩ := hD j w t' (by omega) hw ht
    refine ⟨g1, by rw [List.getElem?_set_ne (by omega)]; exact hg.get g2, (g3.kp kf6 (fun b' _ _ h hf => h hf.fr) fun b' l hl hne hf => ?_).kt kt174 (by decide)⟩
    exact (f6 b' hf).elim (fun h => hne (h.le (Nat.le_succ _))) fun h => by have := hl.lt; omega
end
end Go.Hw
