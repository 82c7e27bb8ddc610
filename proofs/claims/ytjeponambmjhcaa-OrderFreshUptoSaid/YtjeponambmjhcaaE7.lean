/- OrderFresh. Own work of this session. -/
import Derived.Test.YtjeponambmjhcaaE6
set_option linter.unusedVariables false
namespace Go.Hw
open Go

theorem Lst.full {α : Type} {t k : Nat} {F : Fmt α t k} {H : Hp} {b n : Nat} {L : List α} (h : Row H b t (L.flatMap F.f)) (hn : L.length = n) (h63 : n ≤ 9223372036854775807) : Lst F H ⟨Option.some ⟨b, 0, none⟩, n, n⟩ L :=
  ⟨.inr ⟨b, [], rfl, by rw [List.append_nil]; exact h, by rw [fl_len F.len, hn], by rw [List.append_nil, fl_len F.len, hn], Nat.le_refl _, h63⟩⟩

/-- What stands at the head of OrderFresh's loop. -/
structure Inv4 (H0 H : Hp) (ga gb hh : Nat) (pl : Sl) (s : St) (PV PE : List (Sl × Sl)) (FA FB FH : Nat → Prop) (i : Nat) : Prop where
  k : Kp No H0 H
  a : GP H FA s ga
  b : GP H FB s gb
  h : HS H hh PV PE PV.length PE.length FH
  ok : s.Ok
  ct : s.count ≤ i
  pv : PV.length ≤ 8192 * i
  pe : PE.length ≤ i
  na : ∀ b, FA b → H0.size ≤ b
  nb : ∀ b, FB b → H0.size ≤ b
  nh : ∀ b, FH b → H0.size ≤ b
  np : ∀ b, pl.at b → H0.size ≤ b
  ab : ∀ b, FA b → ¬ FB b
  ah : ∀ b, FA b → ¬ FH b
  bh : ∀ b, FB b → ¬ FH b
  ap : ∀ b, FA b → ¬ pl.at b
  bp : ∀ b, FB b → ¬ pl.at b
  hp : ∀ b, FH b → ¬ pl.at b
  pc : pl.c = 50
  pn : pl.n = 50

theorem Inv4.kp {H0 H H' : Hp} {ga gb hh : Nat} {pl : Sl} {s : St} {PV PE : List (Sl × Sl)} {FA FB FH S : Nat → Prop} {i : Nat} (v : Inv4 H0 H ga gb hh pl s PV PE FA FB FH i) (k : Kp S H H') (hS : ∀ b, S b → H0.size ≤ b) (hA : ∀ b, FA b → ¬ S b) (hB : ∀ b, FB b → ¬ S b) (hH : ∀ b, FH b → ¬ S b) : Inv4 H0 H' ga gb hh pl s PV PE FA FB FH i :=
  ⟨v.k.trans k fun b hb => .inr (hS b hb), v.a.kp k hA, v.b.kp k hB, v.h.kp k hH, v.ok, v.ct, v.pv, v.pe, v.na, v.nb, v.nh, v.np, v.ab, v.ah, v.bh, v.ap, v.bp, v.hp, v.pc, v.pn⟩
theorem Inv4.no {H0 H H' : Hp} {ga gb hh : Nat} {pl : Sl} {s : St} {PV PE : List (Sl × Sl)} {FA FB FH : Nat → Prop} {i : Nat} (v : Inv4 H0 H ga gb hh pl s PV PE FA FB FH i) (k : Kp No H H') : Inv4 H0 H' ga gb hh pl s PV PE FA FB FH i :=
  v.kp k (fun _ => False.elim) (fun _ _ => id) (fun _ _ => id) (fun _ _ => id)

/-- The second half of a step. -/
theorem c4_5 {H0 H : Hp} {ga gb hh i bo bx : Nat} {pl z xs yl : Sl} {s : St} {PV PE : List (Sl × Sl)} {FA FB FH : Nat → Prop} {o : OP} {Z P : List VT} {late room : Int} {script : Sl} {Q : Bool → Hp → Prop} {X : Int → Hp → Prop} (v : Inv4 H0 H ga gb hh pl s PV PE FA FB FH i) (hi : i ≤ 1048576)
    (hov : RdL vF H0 o.sl o.vs) (hvl : o.vs.length ≤ 1048576) (hbo : Row H bo 34 [.int .i64 o.kind, .bool o.on, .string o.ty, .int .i64 o.tm, Sl.v o.sl, .int .i64 o.now]) (hbx : Row H bx 34 [.int .i64 o.kind, .bool o.on, .string o.ty, .int .i64 o.tm, Sl.v xs, .int .i64 o.now])
    (nbo : ∀ b, FA b ∨ FB b ∨ FH b → b ≠ bo) (nbx : ∀ b, FA b ∨ FB b ∨ FH b → b ≠ bx) (hz : Lst vF H z Z) (hzr : RdL vF H yl (hL o.vs)) (hyb : yl.b = z.b) (hyn : yl.n = o.vs.length + 34) (hzn : o.vs.length + 34 ≤ Z.length) (hxb : xs.b = z.b) (hxn : xs.n = o.vs.length)
    (zA : ∀ b, FA b → ¬ z.at b) (zB : ∀ b, FB b → ¬ z.at b) (zH : ∀ b, FH b → ¬ z.at b) (z0 : ∀ b, z.at b → H0.size ≤ b) (hpz : (z = pl ∧ Z.length = 50) ∨ (Lst vF H pl P ∧ P.length = 50 ∧ ∀ b, z.at b → ¬ pl.at b))
    (hX : ∀ H' s' PV' PE' FA' FB' FH' P', Inv4 H0 H' ga gb hh pl s' PV' PE' FA' FB' FH' (i + 1) → Lst vF H' pl P' → P'.length = 50 → X ((i + 1 : Nat) : Int) H') :
    F4_5 Q X late room script (some ⟨ga, 0, none⟩) (some ⟨gb, 0, none⟩) ⟨hh, 0, none⟩ pl i ⟨bo, 0, none⟩ ⟨bx, 0, none⟩ yl H := by
  have hxr : RdL vF H xs o.vs := by
    have : RdL vF H yl (o.vs ++ tl) := hzr
    exact this.pre (hyb.trans hxb.symm) hxn
  have hxg : ∀ g F, GP H F s g → ∀ a, xs.b = some a → a.block ≠ g := fun g F hg a ha e => by
    obtain ⟨_, _, _, p', _⟩ := hg
    have : z.at a.block := hz.at_of_blk ⟨a, by rw [← hxb]; exact ha, rfl⟩
    exact hz.ne p'.row (by decide) (e ▸ this)
  refine ⟨_, _, _, _, _, _, hbx.all, c10 v.a v.ok (by have := v.ct; omega) hxr (hxg ga FA v.a) hvl fun r8 H8 FA8 R8 g8 a8 k8 hF8 hR8 hFR8 => ?_⟩
  have hok8 := stepF_ok v.ok o.kind o.now (e := ⟨o.ty, o.tm, o.vs⟩) hvl
  have hlen8 := stepF_len v.ok o.kind o.now ⟨o.ty, o.tm, o.vs⟩
  have k08 : Kp No H0 H8 := v.k.trans k8 fun b hb => .inr (v.na b hb)
  have bo8 := k8.row hbo (fun h => nbo bo (.inl h) rfl)
  have bx8 := k8.row hbx (fun h => nbx bx (.inl h) rfl)
  have sk := v.k.size
  have sk8 := k8.size
  have b8 := v.b.kp k8 fun b hb hb' => v.ab b hb' hb
  have h8 := v.h.kp k8 fun b hb hb' => v.ah b hb' hb
  have z8 := hz.kp k8 fun b hb hb' => zA b hb' hb
  have yl8 := hzr.kpb k8 fun b hb hb' => zA b hb' (hz.at_of_blk (by obtain ⟨a, ha, e⟩ := hb; exact ⟨a, by rw [← hyb]; exact ha, e⟩))
  have hFA8 : ∀ b, FA8 b → H0.size ≤ b := fun b hb => (hF8 b hb).elim (v.na b) (by omega)
  refine ⟨_, _, _, _, _, _, bo8.all, fun H9 e9 => ?_⟩
  have b9 := Row.new' e9
  have s9 := size_push' e9
  refine ⟨b9.mayall, fun H10 e10 => ?_⟩
  have b10 := b9.fill' e10 rfl
  have k810 : Kp No H8 H10 := ((Kp.refl No H8).push' e9).sets' e10 (.inr (Nat.le_refl _))
  have k010 := k08.trans k810 fun _ => False.elim
  have bo10 := k810.row bo8 id
  refine ⟨_, _, _, cells_sub (i := 2) (m := [.string o.ty, .int .i64 o.tm, Sl.v o.sl]) bo10.all rfl, c11 (hov.kp0 k010) hvl fun t11 H11 h11 k11 ht11 => ?_⟩
  have b11 := k11.row b10 id
  have s10 := size_sets' e10
  have s11 := k11.size
  refine ⟨b11.mayw (o := 2) (i := 0) (by simp), fun H12 e12 => ?_⟩
  have b12 := b11.sets' (oo := 2) e12 (by simp)
  have k12 := (Kp.refl (fun b => b = H8.size) H11).sets' e12 (.inl rfl)
  have s12 := size_sets' e12
  have t12 := h11.kp k12 fun b hb e => by have := ht11 b hb; omega
  have k812 : Kp No H8 H12 := ((k810.trans k11 fun _ => False.elim)).sets' e12 (.inr (Nat.le_refl _))
  have b12g := b8.no k812
  have tg : ∀ a, t11.b = some a → a.block ≠ gb := fun a ha e => by
    obtain ⟨_, _, _, p', _⟩ := b12g
    have : t11.at a.block := t12.at_of_blk ⟨a, ha, rfl⟩
    exact t12.ne p'.row (by decide) (e ▸ this)
  refine ⟨_, _, _, _, _, _, b12.all, c10 (kd := o.kind) (now := o.now) (tm := o.tm) (ty := o.ty) (vals := o.vs) b12g v.ok (by have := v.ct; omega) t12.rd tg hvl fun q H13 FB13 R13 g13 a13 k13 hF13 hR13 hFR13 => ?_⟩
  generalize stepF s o.kind o.now ⟨o.ty, o.tm, o.vs⟩ = st at g8 a8 hok8 hlen8 g13 a13
  obtain ⟨evs, s8⟩ := st
  simp only at g8 a8 hok8 hlen8 g13 a13
  have s13 := k13.size
  have g8' := (g8.no k812).kp k13 fun b hb hb' => by
    rcases hF8 b hb with h | h
    · exact v.ab b h hb'
    · have := v.b.lt hb'; omega
  have hR8B : ∀ b, R8 b → ¬ FB b := fun b hb hb' => by
    rcases hR8 b hb with h | h
    · exact v.ab b h hb'
    · have := v.b.lt hb'; omega
  have a8' := ((a8.kp k812 fun _ _ => id).kp k13 hR8B)
  have h13 := (h8.no k812).kp k13 fun b hb hb' => v.bh b hb' hb
  have z13 := (z8.kp k812 fun _ _ => id).kp k13 fun b hb hb' => zB b hb' hb
  have yl13 := (yl8.kp0 k812).kpb k13 fun b hb hb' => zB b hb' (hz.at_of_blk (by obtain ⟨a, ha, e⟩ := hb; exact ⟨a, by rw [← hyb]; exact ha, e⟩))
  have bo13 := k13.row (k812.row bo8 id) (fun h => nbo bo (.inr (.inl h)) rfl)
  have bx13 := k13.row (k812.row bx8 id) (fun h => nbx bx (.inr (.inl h)) rfl)
  have k013 : Kp No H0 H13 := (k08.trans k812 fun _ => False.elim).trans k13 fun b hb => .inr (v.nb b hb)
  refine lists_ok a8'.ans a13.ans (Nat.le_trans hlen8 (by decide)) fun H14 k14 => ⟨fun hf => (by cases hf), fun _ => ?_⟩
  have k014 := k013.trans k14 fun _ => False.elim
  have bo14 := k14.row bo13 id
  refine ⟨_, _, _, cells_sub (i := 2) (m := [.string o.ty, .int .i64 o.tm, Sl.v o.sl]) bo14.all rfl, c13 (yl13.kp0 k14) (hov.kp0 k014) hvl fun H15 k15 => ⟨fun hf => (by cases hf), fun _ => ?_⟩⟩
  have k015 := k014.trans k15 fun _ => False.elim
  have k1315 := k14.trans k15 fun _ => False.elim
  have bo15 := k1315.row bo13 id
  have bx15 := k1315.row bx13 id
  have yl15 := yl13.kp0 k1315
  have xs15 : RdL vF H15 xs o.vs := by
    have : RdL vF H15 yl (o.vs ++ tl) := yl15
    exact this.pre (hyb.trans hxb.symm) hxn
  refine ⟨_, _, _, cells_sub (i := 2) (m := [.string o.ty, .int .i64 o.tm, Sl.v xs]) bx15.all rfl, _, _, _, cells_sub (i := 2) (m := [.string o.ty, .int .i64 o.tm, Sl.v o.sl]) bo15.all rfl, c14 xs15 (hov.kp0 k015) hvl rfl fun H16 k16 => ⟨fun hf => (by cases hf), fun _ => ?_⟩⟩
  have k1316 := k1315.trans k16 fun _ => False.elim
  have k016 := k015.trans k16 fun _ => False.elim
  have z16 := z13.kp k1316 fun _ _ => id
  have hzl := hz.n
  -- the list is written over
  intro Y hY
  suffices G : ∀ (d : Nat) (H17 : Hp) (j : Nat) (Z17 : List VT), j + d = o.vs.length + 34 → Kp z.at H16 H17 → Lst vF H17 z Z17 → Z17.length = Z.length → Y j H17 from G (o.vs.length + 34) H16 0 Z (by omega) (Kp.refl _ _) z16 rfl
  intro d
  induction d with
  | succ d ih =>
    intro H17 j Z17 hj k17 z17 hl17
    refine hY _ _ ⟨fun _ => c15 fun H18 k18 => ?_, fun hb => absurd (of_decide_eq_false hb) (by omega)⟩
    obtain ⟨a, ha, hat, hjn, hmay, hset⟩ := (z17.kp k18 fun _ _ => id).set (i := j) (by omega) (mki (-3))
    refine ⟨a, by rw [hyb]; exact ha, by omega, by omega, hmay, fun H19 e19 => ?_⟩
    obtain ⟨h19, k19⟩ := hset H19 e19
    rw [wr (by omega) (by omega)]
    exact ih H19 (j + 1) _ (by omega) ((k17.trans k18 fun _ => False.elim).trans k19 fun _ => .inl) h19 (by simpa using hl17)
  | zero =>
    intro H17 j Z17 hj k17 z17 hl17
    refine hY _ _ ⟨fun hb => absurd (of_decide_eq_true hb) (by omega), fun _ => ?_⟩
    -- the place
    have hpl : ∃ P', P'.length = 50 ∧ Lst vF H17 pl P' := by
      rcases hpz with ⟨e, hl⟩ | ⟨hP, hl, hd⟩
      · subst e
        exact ⟨Z17, by omega, z17⟩
      · refine ⟨P, hl, ?_⟩
        have := (((hP.kp k8 fun b hb hb' => v.ap b hb' hb).kp k812 fun _ _ => id).kp k13 fun b hb hb' => v.bp b hb' hb).kp k1316 fun _ _ => id
        exact this.kp k17 fun b hb hb' => hd b hb' hb
    obtain ⟨P', hPl, hP'⟩ := hpl
    have g17 := (g8'.no k1316).kp k17 fun b hb hb' => by
      rcases hF8 b hb with h | h
      · exact zA b h hb'
      · have := hz.lt hb'; omega
    have a17 := (a8'.kp k1316 fun _ _ => id).kp k17 fun b hb hb' => by
      rcases hR8 b hb with h | h
      · exact zA b h hb'
      · have := hz.lt hb'; omega
    have gb17 := (g13.no k1316).kp k17 fun b hb hb' => by
      rcases hF13 b hb with h | h
      · exact zB b h hb'
      · have := hz.lt hb'; omega
    have h17 := (h13.no k1316).kp k17 fun b hb hb' => zH b hb hb'
    have k017 : Kp No H0 H17 := k016.trans k17 fun b hb => .inr (z0 b hb)
    have hHR : ∀ b, FH b → ¬ R8 b := fun b hb hb' => by
      rcases hR8 b hb' with h | h
      · exact v.ah b h hb
      · have := v.h.lt hb; omega
    have pv := v.pv
    have pe := v.pe
    refine c16 h17 a17 hHR (Nat.le_trans hlen8 (by decide)) (by omega) (by omega) fun H18 PV18 PE18 FH18 h18 k18 hF18 l1 l2 => ?_
    have hR0 : ∀ b, R8 b → H0.size ≤ b := fun b hb => (hR8 b hb).elim (v.na b) (by omega)
    have s14 := k14.size
    have s15 := k15.size
    have s16 := k16.size
    have s17 := k17.size
    have hB13 : ∀ b, FB13 b → FB b ∨ H12.size ≤ b := hF13
    have inv18 : Inv4 H0 H18 ga gb hh pl s8 PV18 PE18 FA8 FB13 FH18 (i + 1) := by
      have hAR : ∀ b, FA8 b → ¬ (FH b ∨ R8 b) := fun b hb hb' => by
        rcases hb' with h | h
        · rcases hF8 b hb with h' | h'
          · exact v.ah b h' h
          · have := v.h.lt h; omega
        · exact hFR8 b hb h
      have hBR : ∀ b, FB13 b → ¬ (FH b ∨ R8 b) := fun b hb hb' => by
        rcases hb' with h | h
        · rcases hB13 b hb with h' | h'
          · exact v.bh b h' h
          · have := v.h.lt h; omega
        · rcases hB13 b hb with h' | h'
          · exact hR8B b h h'
          · have := a8.lt h; omega
      refine ⟨k017.trans k18 fun b hb => .inr (hb.elim (v.nh b) (hR0 b)), g17.kp k18 hAR, gb17.kp k18 hBR, h18, hok8.1, by have := hok8.2.2; have := v.ct; omega, by omega, by omega, hFA8, fun b hb => (hB13 b hb).elim (v.nb b) (by omega), fun b hb => ?_, v.np, fun b hb hb' => ?_, fun b hb hb' => ?_, fun b hb hb' => ?_, fun b hb hb' => ?_, fun b hb hb' => ?_, fun b hb hb' => ?_, v.pc, v.pn⟩
      · rcases hF18 b hb with h | h | h
        · exact v.nh b h
        · exact hR0 b h
        · omega
      · rcases hB13 b hb' with h | h
        · rcases hF8 b hb with h' | h'
          · exact v.ab b h' h
          · have := v.b.lt h; omega
        · have := g8.lt hb; omega
      · rcases hF18 b hb' with h | h | h
        · exact hAR b hb (.inl h)
        · exact hAR b hb (.inr h)
        · have := g17.lt hb; omega
      · rcases hF18 b hb' with h | h | h
        · exact hBR b hb (.inl h)
        · exact hBR b hb (.inr h)
        · have := gb17.lt hb; omega
      · rcases hF8 b hb with h | h
        · exact v.ap b h hb'
        · rcases hpz with ⟨e, _⟩ | ⟨hP, _, _⟩
          · subst e
            have := hz.lt hb'; omega
          · have := hP.lt hb'; omega
      · rcases hB13 b hb with h | h
        · exact v.bp b h hb'
        · rcases hpz with ⟨e, _⟩ | ⟨hP, _, _⟩
          · subst e
            have := hz.lt hb'; omega
          · have := hP.lt hb'; omega
      · have hlt : b < H.size := by
          rcases hpz with ⟨e, _⟩ | ⟨hP, _, _⟩
          · subst e
            exact hz.lt hb'
          · exact hP.lt hb'
        rcases hF18 b hb with h | h | h
        · exact v.hp b h hb'
        · rcases hR8 b h with h | h
          · exact v.ap b h hb'
          · omega
        · omega
    have pl18 : Lst vF H18 pl P' := hP'.kp k18 fun b hb hb' => by
      rcases hb' with h | h
      · exact v.hp b h hb
      · rcases hR8 b h with h | h
        · exact v.ap b h hb
        · have hlt : b < H.size := by
            rcases hpz with ⟨e, _⟩ | ⟨hP, _, _⟩
            · subst e
              exact hz.lt hb
            · exact hP.lt hb
          omega
    -- both marks
    have marks : ∀ H', Kp No H18 H' → F18 (some ⟨ga, 0, none⟩) H' fun r310 H308 => F18 (some ⟨gb, 0, none⟩) H308 fun r313 H311 => F4_11 Q X late room script (some ⟨ga, 0, none⟩) (some ⟨gb, 0, none⟩) ⟨hh, 0, none⟩ pl i (decide (r310 ≠ r313)) H311 := by
      intro H' k'
      have inv' := inv18.no k'
      have ha' := inv'.a
      have hb' := inv'.b
      obtain ⟨_, _, _, pa, _⟩ := ha'
      obtain ⟨_, _, _, pb, _⟩ := hb'
      refine c18 pa (c18 pb ⟨fun hf => absurd rfl (of_decide_eq_true hf), fun _ => ?_⟩)
      rw [wr (by omega) (by omega)]
      exact hX H' _ _ _ _ _ _ P' inv' (pl18.kp k' fun _ _ => id) hPl
    refine ⟨fun _ => c17 h18 (by omega) (by omega) fun H19 k19 => ⟨fun hf => (by cases hf), fun _ => marks H19 k19⟩, fun _ => marks H18 (Kp.refl _ _)⟩

theorem c4_end {H0 H : Hp} {ga gb hh i : Nat} {pl : Sl} {s : St} {PV PE : List (Sl × Sl)} {FA FB FH : Nat → Prop} {late room : Int} {script : Sl} {Ops : List OP} {Q : Bool → Hp → Prop} (v : Inv4 H0 H ga gb hh pl s PV PE FA FB FH i) (hi : i ≤ 1048576) (hgood : ¬ badNew late room)
    (hs : RdL oF H0 script Ops) (hl : Ops.length ≤ 1048576) (hv : ∀ o ∈ Ops, RdL vF H0 o.sl o.vs ∧ o.vs.length ≤ 1048576) (hQ : ∀ H', Kp No H0 H' → Q true H') : F4_3 Q late room script (some ⟨ga, 0, none⟩) (some ⟨gb, 0, none⟩) ⟨hh, 0, none⟩ H := by
  have pv := v.pv
  have pe := v.pe
  refine c17 v.h (by omega) (by omega) fun H1 k1 => ⟨fun _ => ?_, fun hf => by cases hf⟩
  have v1 := v.no k1
  refine c19f v1.a v1.ok fun r2 H2 R2 a2 k2 hR2 => ?_
  have v2 := v1.no k2
  refine c19f v2.b v2.ok fun r3 H3 R3 a3 k3 hR3 => lists_ok (a2.kp k3 fun _ _ => id).ans a3.ans (isort_len v.ok) fun H4 k4 => ⟨fun _ => ?_, fun hf => by cases hf⟩
  have v4 := (v2.no k3).no k4
  refine c20f v4.a v4.ok fun r5 H5 FA5 R5 g5 a5 k5 hF5 hR5 _ => ?_
  have b5 := v4.b.kp k5 fun b hb hb' => v.ab b hb' hb
  have hR5B : ∀ b, R5 b → ¬ FB b := fun b hb hb' => by
    rcases hR5 b hb with h | h
    · exact v.ab b h hb'
    · have := v4.b.lt hb'; omega
  refine c20f b5 v4.ok fun r6 H6 FB6 R6 g6 a6 k6 hF6 hR6 _ => lists_ok (a5.kp k6 hR5B).ans a6.ans (isort_len v.ok) fun H7 k7 => ⟨fun _ => ?_, fun hf => by cases hf⟩
  have k07 : Kp No H0 H7 := ((v4.k.trans k5 fun b hb => .inr (v.na b hb)).trans k6 fun b hb => .inr (v.nb b hb)).trans k7 fun _ => False.elim
  exact c21 hgood (hs.kp0 k07) hl (fun o ho => ⟨(hv o ho).1.kp0 k07, (hv o ho).2⟩) fun H8 k8 => hQ H8 (k07.trans k8 fun _ => False.elim)

theorem gp_new {H : Hp} {g hb : Nat} {late room : Int} (hp : PA H g hb Sl.nil (st0 late room)) : GP H (fpv g hb Sl.nil []) (st0 late room) g := by
  obtain ⟨L, p⟩ := hp
  have hL : L = [] := by
    have := p.perm.length_eq
    exact List.eq_nil_of_length_eq_zero (by simpa [st0] using this)
  subst hL
  exact ⟨hb, Sl.nil, [], p, List.Pairwise.nil, fun _ => Iff.rfl⟩
theorem fpv_new {g hb b : Nat} (h : fpv g hb Sl.nil [] b) : b = g ∨ b = hb := by
  rcases h with (h | h | h) | ⟨x, hx, _⟩
  · exact .inl h
  · exact .inr h
  · cases h
  · simp at hx

theorem c4 {late room : Int} {script : Sl} {Ops : List OP} {H0 : Hp} {Q : Bool → Hp → Prop} (hs : RdL oF H0 script Ops) (hl : Ops.length ≤ 1048576) (hv : ∀ o ∈ Ops, RdL vF H0 o.sl o.vs ∧ o.vs.length ≤ 1048576)
    (hQ : ∀ H', Kp No H0 H' → Q true H') : F4 late room script H0 Q := by
  have hn := hs.n
  by_cases hbad : badNew late room
  · refine c8 (fun _ => c8 (fun _ => c6 fun H1 k1 => ?_) fun h => absurd hbad h) fun h => absurd hbad h
    exact ⟨fun hf => (by cases hf), fun _ => ⟨fun hf => (by cases hf), fun _ => ⟨fun hf => (by cases hf), fun _ => ⟨fun hf => (by cases hf), fun _ => ⟨fun _ => ⟨fun _ => hQ H1 k1, fun hf => (by cases hf)⟩, fun hf => (by cases hf)⟩⟩⟩⟩⟩
  refine c8 (fun h => absurd h hbad) fun _ H1 ga ha hpa k1 hga hha => c8 (fun h => absurd h hbad) fun _ H2 gb hb hpb k2 hgb hhb => c6 fun H3 k3 => ?_
  have gpa := gp_new hpa
  have gpb := gp_new hpb
  have s1 := k1.size
  have s2 := k2.size
  have s3 := k3.size
  refine ⟨fun hf => (by cases hf), fun _ => ⟨fun hf => (by cases hf), fun _ => ⟨fun hf => (by cases hf), fun _ => ⟨fun hf => (by cases hf), fun _ => ⟨fun hf => (by cases hf), fun _ => ⟨fun hf => (by cases hf), fun _ H4 e4 => ?_⟩⟩⟩⟩⟩⟩
  refine ⟨by omega, by omega, by omega, by omega, fun H5 e5 => ?_⟩
  have b4 := Row.new' e4
  have s4 := size_push' e4
  have s5 := size_push' e5
  have k35 : Kp No H3 H5 := ((Kp.refl No H3).push' e4).push' e5
  have b5 : Row H5 H4.size 49 ((List.replicate 50 zv).flatMap vF.f) := by
    have := Row.new' e5
    rw [show ((50 : Int)).toNat = 50 from rfl, made_flat vF zv _ (z := #[.int .i64 0, .int .i64 0, .string (ByteArray.mk #[]), .bool false]) rfl] at this
    exact this
  have hp5 : Lst vF H5 (Sl.mk (some ⟨H4.size, 0, none⟩) 50 50) (List.replicate 50 zv) :=
    Lst.full b5 List.length_replicate (by decide)
  have hpat : ∀ b, (Sl.mk (some ⟨H4.size, 0, none⟩) 50 50 : Sl).at b → b = H4.size := fun b hb => by
    have : H4.size = b := by simpa [Sl.at] using hb
    exact this.symm
  have nilb : ∀ b, ¬ Sl.nil.at b := fun b hb => by cases hb
  have hs5 : HS H5 H3.size [] [] 0 0 (fun b => b = H3.size ∨ False ∨ False) := by
    refine ⟨Sl.nil, Sl.nil, 0, fun _ => False, fun _ => False, b4.push' e5, ⟨Lst.nil _ _, fun i p hp => (by simp at hp), fun i p hp => (by simp at hp), List.Pairwise.nil, fun p hp => (by simp at hp), fun b => ⟨False.elim, fun h => ?_⟩, fun p hp => (by simp at hp)⟩,
      ⟨Lst.nil _ _, fun i p hp => (by simp at hp), fun i p hp => (by simp at hp), List.Pairwise.nil, fun p hp => (by simp at hp), fun b => ⟨False.elim, fun h => ?_⟩, fun p hp => (by simp at hp)⟩, fun _ => False.elim, id, id, fun _ => Iff.rfl, fun b hb => ?_⟩
    · rcases h with h | ⟨p, hp, _⟩
      · exact nilb b h
      · simp at hp
    · rcases h with h | ⟨p, hp, _⟩
      · exact nilb b h
      · simp at hp
    · rcases hb with h | h | h
      · omega
      · exact h.elim
      · exact h.elim
  have hfh : ∀ b, (b = H3.size ∨ False ∨ False) → b = H3.size := fun b h => by
    rcases h with h | h | h
    · exact h
    · exact h.elim
    · exact h.elim
  have ltA : ∀ b, fpv ga ha Sl.nil [] b → b < H1.size ∧ H0.size ≤ b := fun b h => ⟨gpa.lt h, by have := fpv_new h; omega⟩
  have ltB : ∀ b, fpv gb hb Sl.nil [] b → b < H2.size ∧ H1.size ≤ b := fun b h => ⟨gpb.lt h, by have := fpv_new h; omega⟩
  have inv0 : Inv4 H0 H5 ga gb H3.size (Sl.mk (some ⟨H4.size, 0, none⟩) 50 50) (st0 late room) [] [] (fpv ga ha Sl.nil []) (fpv gb hb Sl.nil []) (fun b => b = H3.size ∨ False ∨ False) 0 :=
    ⟨((k1.trans k2 fun _ => False.elim).trans k3 fun _ => False.elim).trans k35 fun _ => False.elim, ((gpa.no k2).no k3).no k35, (gpb.no k3).no k35, hs5, st0_ok hbad, Int.le_refl _, by simp, by simp, fun b h => (ltA b h).2, fun b h => by have := ltB b h; omega,
      fun b h => by have := hfh b h; omega, fun b h => by have := hpat b h; omega, fun b h h' => by have := ltA b h; have := ltB b h'; omega, fun b h h' => by have := ltA b h; have := hfh b h'; omega, fun b h h' => by have := ltB b h; have := hfh b h'; omega,
      fun b h h' => by have := ltA b h; have := hpat b h'; omega, fun b h h' => by have := ltB b h; have := hpat b h'; omega, fun b h h' => by have := hfh b h; have := hpat b h'; omega, rfl, rfl⟩
  show F4_L4 Q late room script _ _ ⟨H3.size, 0, none⟩ (Sl.mk (some ⟨H4.size, 0, none⟩) 50 50) 0 H5
  have hplb : (Sl.mk (some ⟨H4.size, 0, none⟩) 50 50 : Sl).b = some ⟨H4.size, 0, none⟩ := rfl
  generalize (Sl.mk (some ⟨H4.size, 0, none⟩) 50 50 : Sl) = pl at *
  intro X hX
  suffices G : ∀ (d : Nat) (H : Hp) (i : Nat) (s : St) (PV PE : List (Sl × Sl)) (FA FB FH : Nat → Prop) (P : List VT), i + d = Ops.length → Inv4 H0 H ga gb H3.size pl s PV PE FA FB FH i → Lst vF H pl P → P.length = 50 → X i H from
    G Ops.length H5 0 _ _ _ _ _ _ _ (by omega) inv0 hp5 (by simp)
  intro d
  induction d with
  | zero =>
    intro H i s PV PE FA FB FH P hi v hP hPl
    exact hX _ _ ⟨fun hb => absurd (of_decide_eq_true hb) (by omega), fun _ => c4_end v (by omega) hbad hs hl hv hQ⟩
  | succ d ih =>
    intro H i s PV PE FA FB FH P hi v hP hPl
    have hx : Ops[i]? = some (Ops[i]'(by omega)) := List.getElem?_eq_getElem (by omega)
    generalize Ops[i]'(by omega) = o at hx
    have hov := hv o (List.mem_of_getElem? hx)
    obtain ⟨a, ha, hi0, ca⟩ := (hs.kp0 v.k).get hx
    refine hX _ _ ⟨fun _ => ⟨a, ha, by omega, by omega, _, _, _, _, _, _, ca, fun H6 e6 => ?_⟩, fun hb => absurd (of_decide_eq_false hb) (by omega)⟩
    have b6 := Row.new' e6
    have s6 := size_push' e6
    refine ⟨b6.mayall, fun H7 e7 => ?_⟩
    have b7 := b6.fill' e7 rfl
    have s7 := size_sets' e7
    refine ⟨_, _, _, _, _, _, b7.all, fun H8 e8 => ?_⟩
    have b8 := Row.new' e8
    have s8 := size_push' e8
    refine ⟨b8.mayall, fun H9 e9 => ?_⟩
    have b9 := b8.fill' e9 rfl
    have s9 := size_sets' e9
    have k07 : Kp No H H7 := ((Kp.refl No H).push' e6).sets' e7 (.inr (Nat.le_refl _))
    have k79 : Kp No H7 H9 := ((Kp.refl No H7).push' e8).sets' e9 (.inr (Nat.le_refl _))
    have bo9 := k79.row b7 id
    have k09 := k07.trans k79 fun _ => False.elim
    have kk9 := v.k.trans k09 fun _ => False.elim
    refine ⟨_, bo9.cell_of (i := 4) rfl, _, _, _, cells_sub (i := 2) (m := [.string o.ty, .int .i64 o.tm, Sl.v o.sl]) bo9.all rfl, c9 (hov.1.kp0 kk9) hov.2 fun H10 l h10 hlc k10 hln H11 e11 => ?_⟩
    have b11 := Row.new' e11
    have s11 := size_push' e11
    have s10 := k10.size
    refine ⟨b11.mayall, fun H12 e12 => ?_⟩
    have b12 := b11.fill' e12 rfl
    have s12 := size_sets' e12
    have k1012 : Kp No H10 H12 := ((Kp.refl No H10).push' e11).sets' e12 (.inr (Nat.le_refl _))
    have k912 := k10.trans k1012 fun _ => False.elim
    have bx12 := k912.row b9 id
    refine ⟨_, _, _, b12.all, bx12.mayw (o := 2) (i := 0) (by simp), fun H13 e13 => ?_⟩
    have bx13 := bx12.sets' (oo := 2) e13 (by simp)
    have k1213 := (Kp.refl (fun b => b = H7.size) H12).sets' e13 (.inl rfl)
    have s13 := size_sets' e13
    have bo13 := (k912.row bo9 id).sets_ne' e13 (by show H.size ≠ H7.size; omega)
    have k013 : Kp No H H13 := (k09.trans k912 fun _ => False.elim).sets' e13 (.inr (by show H.size ≤ H7.size; omega))
    have v13 := v.no k013
    have hP13 := hP.kp k013 fun _ _ => id
    have hl13 : Lst vF H13 l (hL o.vs) := (h10.kp k1012 fun _ _ => id).kp k1213 fun b hb e => by have := hln b hb; omega
    have hoN : o.sl.n = o.vs.length := hov.1.n
    have old : ∀ b, FA b ∨ FB b ∨ FH b → b < H.size := fun b hb => by
      rcases hb with h | h | h
      · exact v.a.lt h
      · exact v.b.lt h
      · exact v.h.lt h
    have hsz := v.k.size
    have hXn : ∀ H' s' PV' PE' FA' FB' FH' P', Inv4 H0 H' ga gb H3.size pl s' PV' PE' FA' FB' FH' (i + 1) → Lst vF H' pl P' → P'.length = 50 → X ((i + 1 : Nat) : Int) H' := fun H' s' PV' PE' FA' FB' FH' P' v' hP' hPl' => ih H' (i + 1) s' PV' PE' FA' FB' FH' P' (by omega) v' hP' hPl'
    refine ⟨fun hq => ?_, fun hq => ?_⟩
    · -- at the one place
      have hq := of_decide_eq_true hq
      have hvn : o.vs.length ≤ 16 := by omega
      rw [hoN]
      have hw34 : IntKind.i64.wrap (((o.vs.length : Nat) : Int) + 34) = ((o.vs.length + 34 : Nat) : Int) := by rw [wr (by omega) (by omega)]; omega
      have hlp : ∀ b, l.at b → ¬ pl.at b := fun b hb hb' => by have := hln b hb; have := hP.lt hb'; omega
      have hpn := hP13.n
      have hhl := hl13.n
      rw [hL_len] at hhl
      intro Y hY
      suffices G : ∀ (d : Nat) (H14 : Hp) (j : Nat), j + d = o.vs.length + 34 → Kp pl.at H13 H14 → Lst vF H14 pl ((hL o.vs).take j ++ P.drop j) → Y j H14 from G (o.vs.length + 34) H13 0 (by omega) (Kp.refl _ _) (by simpa using hP13)
      intro d
      induction d with
      | succ d ihj =>
        intro H14 j hj k14 h14
        have hy : (hL o.vs)[j]? = some ((hL o.vs)[j]'(by rw [hL_len]; omega)) := List.getElem?_eq_getElem (by rw [hL_len]; omega)
        generalize (hL o.vs)[j]'(by rw [hL_len]; omega) = y at hy
        obtain ⟨a, ha, hj0, cy⟩ := (hl13.kp k14 hlp).rd.get hy
        have hjl : ((hL o.vs).take j ++ P.drop j).length = 50 := by rw [List.length_append, List.length_take, hL_len, List.length_drop]; omega
        obtain ⟨a', ha', hat, hjn, hmay, hset⟩ := h14.set (i := j) (by omega) y
        refine hY _ _ ⟨fun _ => ⟨a, ha, by omega, by omega, _, _, _, _, cy, a', ha', by omega, by omega, hmay, fun H15 e15 => ?_⟩, fun hb => absurd (of_decide_eq_false hb) (by rw [hw34]; omega)⟩
        obtain ⟨h15, k15⟩ := hset H15 e15
        have est : ((hL o.vs).take j ++ P.drop j).set j y = (hL o.vs).take (j + 1) ++ P.drop (j + 1) := by
          have e : ((hL o.vs).take j).length = j := by rw [List.length_take, hL_len]; omega
          rw [take_succ hy, List.set_append, if_neg (by omega), e, Nat.sub_self, drop_cons (List.getElem?_eq_getElem (show j < P.length by omega)), List.set_cons_zero, List.append_assoc]
          rfl
        rw [est] at h15
        rw [wr (by omega) (by omega)]
        exact ihj H15 (j + 1) (by omega) (k14.trans k15 fun _ => .inl) h15
      | zero =>
        intro H14 j hj k14 h14
        refine hY _ _ ⟨fun hb => absurd (of_decide_eq_true hb) (by rw [hw34]; omega), fun _ => ?_⟩
        have hje : j = o.vs.length + 34 := by omega
        subst hje
        rw [List.take_of_length_le (by rw [hL_len]; omega)] at h14
        have v14 := v13.kp k14 v.np v.ap v.bp v.hp
        have bo14 := k14.row bo13 (fun h => by have := hP.lt h; omega)
        have bx14 := k14.row bx13 (fun h => by have := hP.lt h; omega)
        have hpc := v.pc
        have hcut1 : Sl.cut pl 4 0 (o.vs.length + 34) (o.vs.length + 34) = ⟨pl.b, o.vs.length + 34, o.vs.length + 34⟩ := by
          unfold Sl.cut
          rw [if_neg (by omega), hplb]
          simp only [Option.map_some, add_mk, Nat.zero_mul, Nat.add_zero, Nat.sub_zero]
        have hcut2 : Sl.cut (⟨pl.b, o.vs.length + 34, o.vs.length + 34⟩ : Sl) 4 0 o.vs.length (o.vs.length + 34) = ⟨pl.b, o.vs.length, o.vs.length + 34⟩ := by
          unfold Sl.cut
          rw [hplb]
          simp only [Option.map_some, add_mk, Nat.zero_mul, Nat.add_zero, Nat.sub_zero, ite_self]
        show F4_6 Q X late room script _ _ _ pl i _ _ _ H14
        unfold F4_6
        rw [hw34]
        simp only [Int.toNat_natCast]
        rw [hcut1]
        refine ⟨by omega, by omega, Nat.zero_le _, Nat.le_refl _, by omega, by omega, Nat.zero_le _, by show o.vs.length ≤ o.vs.length + 34; omega, Nat.le_refl _, ?_⟩
        rw [show (⟨pl.b, o.vs.length + 34, o.vs.length + 34⟩ : Sl).c = o.vs.length + 34 from rfl, hcut2]
        refine ⟨bx14.some (i := 4) (by simp [over]), bx14.frz 4, fun H15 e15 => ?_⟩
        have bx15 := bx14.set' e15
        have k1415 := (Kp.refl (fun b => b = H7.size) H14).set' e15 (.inl rfl)
        have bo15 := bo14.set_ne' e15 (by show H.size ≠ H7.size; omega)
        have nb7 : ∀ b, FA b ∨ FB b ∨ FH b → b ≠ H7.size := fun b hb => by have := old b hb; omega
        have v15 := v14.kp k1415 (fun b e => by omega) (fun b hb e => nb7 b (.inl hb) e) (fun b hb e => nb7 b (.inr (.inl hb)) e) (fun b hb e => nb7 b (.inr (.inr hb)) e)
        have h15 := h14.kp k1415 fun b hb e => by have := hP.lt hb; omega
        have hZl : (hL o.vs ++ P.drop (o.vs.length + 34)).length = 50 := by rw [List.length_append, hL_len, List.length_drop]; omega
        exact c4_5 (o := o) (z := pl) (xs := ⟨pl.b, o.vs.length, o.vs.length + 34⟩) (yl := ⟨pl.b, o.vs.length + 34, o.vs.length + 34⟩) (P := []) v15 (by omega) hov.1 hov.2 bo15 bx15 (fun b hb => by have := old b hb; omega) nb7 h15
          (h15.rd.pre rfl (by show o.vs.length + 34 = _; rw [hL_len])) rfl rfl (by omega) rfl rfl v.ap v.bp v.hp v.np (.inl ⟨rfl, hZl⟩) hXn
    · have nb7 : ∀ b, FA b ∨ FB b ∨ FH b → b ≠ H7.size := fun b hb => by have := old b hb; omega
      have hhl := hl13.n
      rw [hL_len] at hhl
      exact c4_5 (o := o) (z := l) (xs := ⟨l.b, o.vs.length, o.vs.length + 34⟩) (yl := l) (P := P) v13 (by omega) hov.1 hov.2 bo13 bx13 (fun b hb => by have := old b hb; omega) nb7 hl13 hl13.rd rfl hhl (by rw [hL_len]; exact Nat.le_refl _) rfl rfl
        (fun b hb hb' => by have := old b (.inl hb); have := hln b hb'; omega) (fun b hb hb' => by have := old b (.inr (.inl hb)); have := hln b hb'; omega) (fun b hb hb' => by have := old b (.inr (.inr hb)); have := hln b hb'; omega) (fun b hb => by have := hln b hb; omega) (.inr ⟨hP13, hPl, fun b hb hb' => by have := hln b hb; have := hP.lt hb'; omega⟩) hXn

end Go.Hw
