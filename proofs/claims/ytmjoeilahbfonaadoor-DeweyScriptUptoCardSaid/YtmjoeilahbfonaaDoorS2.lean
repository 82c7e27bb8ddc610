/- DeweyScript: a step with one thing another one. Own work of this session. -/
import Derived.Test.YtmjoeilahbfonaaDoorS1
set_option linter.unusedVariables false
namespace Go.Hw
open Go

/-- The step being played: its block, its rows of its own. -/
structure Xs (H : Hp) (lo xb : Nat) (k : Int) (v w : Sl) (s : ByteArray) (V W : List Int) : Prop where
  row : Row H xb 41 [.int .i64 k, Sl.v v, Sl.v w, .string s]
  lv : Lst iF H v V
  lw : Lst iF H w W
  d : ∀ b, v.at b → ¬ w.at b
  g : ∀ b, v.at b ∨ w.at b → lo ≤ b
  nv : V.length ≤ 1048576
  nw : W.length ≤ 1048576
  ns : s.size ≤ 1048576
theorem Xs.no {H H' : Hp} {lo xb : Nat} {k : Int} {v w : Sl} {s : ByteArray} {V W : List Int} (h : Xs H lo xb k v w s V W) (kk : Kp No H H') : Xs H' lo xb k v w s V W :=
  ⟨kk.row h.row id, h.lv.kp kk fun _ _ => id, h.lw.kp kk fun _ _ => id, h.d, h.g, h.nv, h.nw, h.ns⟩

theorem tm {q n : Int} (hq : 0 ≤ q) (hn : 0 < n) : 0 ≤ Int.tmod q n ∧ Int.tmod q n < n := ⟨Int.tmod_nonneg _ hq, Int.tmod_lt_of_pos _ hn⟩
theorem td {q : Int} (hq : 0 ≤ q) (h1 : q ≤ 9223372036854775807) {n : Int} (hn : 0 < n) : 0 ≤ IntKind.i64.wrap (Int.tdiv q n) ∧ IntKind.i64.wrap (Int.tdiv q n) ≤ 9223372036854775807 := by
  have e1 : Int.tdiv q n = q / n := Int.tdiv_eq_ediv_of_nonneg hq
  have e2 : 0 ≤ q / n := Int.ediv_nonneg hq (by omega)
  have e3 : q / n ≤ q := Int.ediv_le_self _ hq
  rw [e1, wr (by omega) (by omega)]
  omega

section
variable {H0 H : Hp} {xb yb : Nat} {k : Int} {v w : Sl} {s : ByteArray} {V W : List Int} {m : List Value} {Q : Int → Sl → Sl → ByteArray → Hp → Prop}

/-- What comes of it. -/
def Otr (H0 : Hp) (lo : Nat) (at0 : Nat → Prop) (Q : Int → Sl → Sl → ByteArray → Hp → Prop) : Prop :=
  ∀ (k' : Int) (v' w' : Sl) (s' : ByteArray) (V' W' : List Int) (H' : Hp), Lst iF H' v' V' → Lst iF H' w' W' → (∀ b, v'.at b → ¬ w'.at b) → V'.length ≤ 1048576 → W'.length ≤ 1048576 → s'.size ≤ 1048576 → (∀ b, v'.at b ∨ w'.at b → at0 b ∨ lo ≤ b) → Kp at0 H0 H' → Q k' v' w' s' H'

variable {at0 : Nat → Prop} {lo : Nat}
theorem c24_3 (hQ : Otr H0 lo at0 Q) (h : Xs H 0 xb k v w s V W) (hy : Row H yb 41 m) (hm : m.length = 4) (hg : ∀ b, v.at b ∨ w.at b → at0 b ∨ lo ≤ b) (hk : Kp at0 H0 H) (hyb : H0.size ≤ yb) : F24_3 Q ⟨xb, 0, none⟩ ⟨yb, 0, none⟩ H := by
  refine ⟨k, v, w, s, h.row.all, hy.mayw (by omega), fun H1 e1 => ?_⟩
  have y1 : Row H1 yb 41 [.int .i64 k, Sl.v v, Sl.v w, .string s] := hy.fill' e1 (by rw [hm]; rfl)
  have k1 : Kp (fun x => x = yb) H H1 := (Kp.refl _ _).sets' e1 (.inl rfl)
  exact ⟨k, v, w, s, y1.all, hQ k v w s V W H1 (h.lv.kp k1 fun x hx hh => by subst hh; exact h.lv.ne hy (by decide) hx) (h.lw.kp k1 fun x hx hh => by subst hh; exact h.lw.ne hy (by decide) hx) h.d h.nv h.nw h.ns hg (hk.trans k1 fun x hx => .inr (by omega))⟩

/-- The text, a row's exchange, the call. -/
theorem c24_6 {q how : Int} {y : Bool} (hQ : Otr H0 lo at0 Q) (h : Xs H 0 xb k v w s V W) (hy : Row H yb 41 m) (hm : m.length = 4) (hg : ∀ b, v.at b ∨ w.at b → at0 b ∨ lo ≤ b) (hk : Kp at0 H0 H) (hyb : H0.size ≤ yb) (hxb : H0.size ≤ xb) (hxy : xb ≠ yb) (h0 : 0 ≤ q) (h1 : q ≤ 9223372036854775807)
    (hy0 : y = true → 0 < s.size) : F24_6 Q q ⟨xb, 0, none⟩ ⟨yb, 0, none⟩ how y H := by
  have set : ∀ {H' : Hp} {k' : Int} {v' w' : Sl} {s' : ByteArray} {V' W' : List Int}, Kp (fun x => x = xb) H H' → Row H' xb 41 [.int .i64 k', Sl.v v', Sl.v w', .string s'] → (v' = v ∧ V' = V ∧ w' = w ∧ W' = W) ∨ (v' = w ∧ V' = W ∧ w' = v ∧ W' = V) → s'.size ≤ 1048576 → F24_3 Q ⟨xb, 0, none⟩ ⟨yb, 0, none⟩ H' := fun {H' k' v' w' s' V' W'} kk hr hvw hs => by
    have lv : Lst iF H' v V := h.lv.kp kk fun x hx hh => by subst hh; exact h.lv.ne h.row (by decide) hx
    have lw : Lst iF H' w W := h.lw.kp kk fun x hx hh => by subst hh; exact h.lw.ne h.row (by decide) hx
    have y' : Row H' yb 41 m := kk.row hy fun e => hxy e.symm
    rcases hvw with ⟨rfl, rfl, rfl, rfl⟩ | ⟨rfl, rfl, rfl, rfl⟩
    · exact c24_3 hQ ⟨hr, lv, lw, h.d, fun _ _ => Nat.zero_le _, h.nv, h.nw, hs⟩ y' hm hg (hk.trans kk fun x hx => .inr (by omega)) hyb
    · exact c24_3 hQ ⟨hr, lw, lv, fun b hb hb' => h.d b hb' hb, fun _ _ => Nat.zero_le _, h.nw, h.nv, hs⟩ y' hm (fun b hb => hg b hb.symm) (hk.trans kk fun x hx => .inr (by omega)) hyb
  have none_ : F24_3 Q ⟨xb, 0, none⟩ ⟨yb, 0, none⟩ H := c24_3 hQ h hy hm hg hk hyb
  refine ⟨fun hh => ?_, fun hh => ⟨fun h3 => ?_, fun h3 => ⟨fun h4 => ?_, fun h4 => none_⟩⟩⟩
  · have hs0 := hy0 hh
    have hns := h.ns
    obtain ⟨t1, t2⟩ := tm (n := (s.size : Int)) h0 (by omega)
    obtain ⟨d1, d2⟩ := td (n := 7) h0 h1 (by decide)
    obtain ⟨u1, u2⟩ := tm (n := 13) d1 (by decide)
    have hz13 : S_0123456789__x.size = 13 := rfl
    have hw : IntKind.i64.wrap (Int.tmod q (s.size : Int) + 1) = Int.tmod q (s.size : Int) + 1 := wr (by omega) (by omega)
    have cs : ∀ {H'}, Row H' xb 41 [.int .i64 k, Sl.v v, Sl.v w, .string s] → cell H' (Addr.add ⟨xb, 0, none⟩ 3) = some (.string s) := fun hr => hr.cell_of (i := 3) rfl
    refine ⟨s, cs h.row, by omega, s, cs h.row, t1, Nat.zero_le _, by omega, u1, by rw [hz13]; omega, s, cs h.row, ?_⟩
    rw [hw]
    refine ⟨by omega, by omega, Nat.le_refl _, fun H100 e100 => ?_⟩
    have k100 : Kp No H H100 := (Kp.refl No _).push' e100
    have r100 := k100.row h.row id
    have x100 : Row H100 H.size 5 [.int .u8 (bt S_0123456789__x (Int.tmod (IntKind.i64.wrap (Int.tdiv q 7)) 13).toNat)] := Row.new' e100
    have se : (s.extract 0 (Int.tmod q (s.size : Int)).toNat).size = (Int.tmod q (s.size : Int)).toNat := by rw [ByteArray.size_extract]; omega
    have sf : (s.extract (Int.tmod q (s.size : Int) + 1).toNat s.size).size = s.size - (Int.tmod q (s.size : Int) + 1).toNat := by rw [ByteArray.size_extract]; omega
    refine ⟨cs r100, cs r100, [bt S_0123456789__x (Int.tmod (IntKind.i64.wrap (Int.tdiv q 7)) 13).toNat], ⟨x100.all, rfl⟩, ?_, ?_, r100.some (i := 3) (by simp), r100.frz 3, fun H108 e108 => ?_⟩
    · rw [se, bst_size]; simp; omega
    · rw [ByteArray.size_append, se, sf, bst_size]; simp; omega
    · have r108 := r100.set' e108
      have k108 : Kp (fun x => x = xb) H100 H108 := (Kp.refl _ _).set' e108 (.inl rfl)
      refine set (V' := V) (W' := W) ((k100.mono fun x _ hx => hx.elim).trans k108 fun x hx => .inl hx) r108 (.inl ⟨rfl, rfl, rfl, rfl⟩) ?_
      rw [ByteArray.size_append, ByteArray.size_append, se, sf, bst_size]; simp; omega
  · refine ⟨w, h.row.cell_of (i := 2) rfl, v, h.row.cell_of (i := 1) rfl, h.row.some (i := 1) (by simp), h.row.frz 1, fun H117 e117 => ?_⟩
    have r117 : Row H117 xb 41 [.int .i64 k, Sl.v w, Sl.v w, .string s] := h.row.set' e117
    have k117 : Kp (fun x => x = xb) H H117 := (Kp.refl _ _).set' e117 (.inl rfl)
    refine ⟨r117.some (i := 2) (by simp), r117.frz 2, fun H121 e121 => ?_⟩
    have r121 : Row H121 xb 41 [.int .i64 k, Sl.v w, Sl.v v, .string s] := r117.set' e121
    have k121 : Kp (fun x => x = xb) H117 H121 := (Kp.refl _ _).set' e121 (.inl rfl)
    exact set (k117.trans k121 fun x hx => .inl hx) r121 (.inr ⟨rfl, rfl, rfl, rfl⟩) h.ns
  · refine ⟨h.row.some (i := 0) (by simp), h.row.frz 0, fun H126 e126 => ?_⟩
    have r126 := h.row.set' e126
    have k126 : Kp (fun x => x = xb) H H126 := (Kp.refl _ _).set' e126 (.inl rfl)
    exact set (V' := V) (W' := W) k126 r126 (.inl ⟨rfl, rfl, rfl, rfl⟩) h.ns

/-- A place of a row, written over in place. -/
theorem rset {v : Sl} {V : List Int} {q x : Int} (lv : Lst iF H v V) (hV : 0 < v.n) (h0 : 0 ≤ q) :
    ∃ a : Addr, v.b = some a ∧ (0 : Int) ≤ Int.tmod q (v.n : Int) ∧ Int.tmod q (v.n : Int) < (v.n : Int) ∧ (cell H (a.add ((Int.tmod q (v.n : Int)).toNat * 1))).isSome = true ∧ frz H (a.add ((Int.tmod q (v.n : Int)).toNat * 1)) = false ∧
      ∀ H', H' = setc H (a.add ((Int.tmod q (v.n : Int)).toNat * 1)) (.int .i64 x) → ∃ V', V'.length = V.length ∧ Lst iF H' v V' ∧ Kp v.at H H' := by
  obtain ⟨t1, t2⟩ := tm (n := (v.n : Int)) h0 (by omega)
  have hn := lv.n
  have gi : V[(Int.tmod q (v.n : Int)).toNat]? = some (V[(Int.tmod q (v.n : Int)).toNat]'(by omega)) := List.getElem?_eq_getElem (by omega)
  obtain ⟨a, ha, hs, hin, hz1, hz2, hst⟩ := lv.set1 (i := (Int.tmod q (v.n : Int)).toNat) (c := 0) (x' := x) (v := .int .i64 x) gi (by decide) rfl
  have ea : ((a.add ((Int.tmod q (v.n : Int)).toNat * 1)).add 0) = a.add ((Int.tmod q (v.n : Int)).toNat * 1) := by rw [add_add]; rfl
  rw [ea] at hz1 hz2 hst
  exact ⟨a, ha, t1, t2, hz1, hz2, fun H' e => ⟨_, by rw [List.length_set], (hst H' e).1, (hst H' e).2⟩⟩

theorem c24_5 {q how : Int} {y : Bool} (hQ : Otr H0 lo at0 Q) (h : Xs H 0 xb k v w s V W) (hy : Row H yb 41 m) (hm : m.length = 4) (hg : ∀ b, v.at b ∨ w.at b → at0 b ∨ lo ≤ b) (hk : Kp at0 H0 H) (hyb : H0.size ≤ yb) (hxb : H0.size ≤ xb) (hxy : xb ≠ yb) (h0 : 0 ≤ q) (h1 : q ≤ 9223372036854775807) (hlo : H0.size ≤ lo)
    (hy0 : y = true → 0 < w.n) : F24_5 Q q ⟨xb, 0, none⟩ ⟨yb, 0, none⟩ how y H := by
  refine ⟨fun hh => ?_, fun hh => ⟨fun h2 => ⟨s, h.row.cell_of (i := 3) rfl, c24_6 hQ h hy hm hg hk hyb hxb hxy h0 h1 fun h3 => by have := of_decide_eq_true h3; omega⟩, fun _ => c24_6 hQ h hy hm hg hk hyb hxb hxy h0 h1 fun h => (by cases h)⟩⟩
  have hw0 := hy0 hh
  obtain ⟨a, ha, t1, t2, hz1, hz2, hst⟩ := rset (x := Int.tmod (IntKind.i64.wrap (Int.tdiv q 7)) 9) h.lw hw0 h0
  refine ⟨w, h.row.cell_of (i := 2) rfl, w, h.row.cell_of (i := 2) rfl, by omega, a, ha, t1, t2, hz1, hz2, fun H71 e71 => ?_⟩
  obtain ⟨W', hW', l71, k71⟩ := hst H71 e71
  refine c24_3 hQ ⟨k71.row h.row fun hh => h.lw.ne h.row (by decide) hh, h.lv.kp k71 fun x hx hh => h.d x hx hh, l71, h.d, fun _ _ => Nat.zero_le _, h.nv, by rw [hW']; exact h.nw, h.ns⟩ (k71.row hy fun hh => h.lw.ne hy (by decide) hh) hm hg (hk.trans k71 fun x hx => ?_) hyb
  rcases hg x (.inr hx) with h | h
  · exact .inl h
  · exact .inr (by omega)

theorem c24_4 {q how : Int} {y : Bool} (hQ : Otr H0 lo at0 Q) (h : Xs H 0 xb k v w s V W) (hy : Row H yb 41 m) (hm : m.length = 4) (hg : ∀ b, v.at b ∨ w.at b → at0 b ∨ lo ≤ b) (hk : Kp at0 H0 H) (hyb : H0.size ≤ yb) (hxb : H0.size ≤ xb) (hxy : xb ≠ yb) (h0 : 0 ≤ q) (h1 : q ≤ 9223372036854775807) (hlo : H0.size ≤ lo)
    (hy0 : y = true → 0 < v.n) : F24_4 Q q ⟨xb, 0, none⟩ ⟨yb, 0, none⟩ how y H := by
  refine ⟨fun hh => ?_, fun hh => ⟨fun h2 => ⟨w, h.row.cell_of (i := 2) rfl, c24_5 hQ h hy hm hg hk hyb hxb hxy h0 h1 hlo fun h3 => by have := of_decide_eq_true h3; omega⟩, fun _ => c24_5 hQ h hy hm hg hk hyb hxb hxy h0 h1 hlo fun h => (by cases h)⟩⟩
  have hv0 := hy0 hh
  obtain ⟨a, ha, t1, t2, hz1, hz2, hst⟩ := rset (x := Int.tmod (IntKind.i64.wrap (Int.tdiv q 7)) 9) h.lv hv0 h0
  refine ⟨v, h.row.cell_of (i := 1) rfl, v, h.row.cell_of (i := 1) rfl, by omega, a, ha, t1, t2, hz1, hz2, fun H71 e71 => ?_⟩
  obtain ⟨V', hV', l71, k71⟩ := hst H71 e71
  refine c24_3 hQ ⟨k71.row h.row fun hh => h.lv.ne h.row (by decide) hh, l71, h.lw.kp k71 fun x hx hh => h.d x hh hx, h.d, fun _ _ => Nat.zero_le _, by rw [hV']; exact h.nv, h.nw, h.ns⟩ (k71.row hy fun hh => h.lv.ne hy (by decide) hh) hm hg (hk.trans k71 fun x hx => ?_) hyb
  rcases hg x (.inl hx) with h | h
  · exact .inl h
  · exact .inr (by omega)

theorem c24_2 {q : Int} (hQ : Otr H0 lo at0 Q) (h : Xs H 0 xb k v w s V W) (hy : Row H yb 41 m) (hm : m.length = 4) (hg : ∀ b, v.at b ∨ w.at b → at0 b ∨ lo ≤ b) (hk : Kp at0 H0 H) (hyb : H0.size ≤ yb) (hxb : H0.size ≤ xb) (hxy : xb ≠ yb) (h0 : 0 ≤ q) (h1 : q ≤ 9223372036854775807) (hlo : H0.size ≤ lo) : F24_2 Q q ⟨xb, 0, none⟩ ⟨yb, 0, none⟩ H := by
  obtain ⟨d1, d2⟩ := td (n := 10) h0 h1 (by decide)
  exact ⟨fun _ => ⟨v, h.row.cell_of (i := 1) rfl, c24_4 hQ h hy hm hg hk hyb hxb hxy d1 d2 hlo fun h3 => by have := of_decide_eq_true h3; omega⟩, fun _ => c24_4 hQ h hy hm hg hk hyb hxb hxy d1 d2 hlo fun h => (by cases h)⟩

theorem c24 {q : Int} (hx : Xs H lo xb k v w s V W) (h0 : -9223372036854775808 ≤ q) (h1 : q ≤ 9223372036854775807) (hQ : Otr H H.size (fun b => v.at b ∨ w.at b) Q) : F24 k v w s q H Q := by
  intro H1 e1 H3 e3
  have k1 := (Kp.refl No H).push' e1
  have s1 := size_push' e1
  have k3' : Kp No H1 H3 := (Kp.refl No _).push' e3
  have s3 := size_push' e3
  have k3 := k1.trans k3' fun _ h => h.elim
  have o3 : Row H3 H.size 41 [.int .i64 k, Sl.v v, Sl.v w, .string s] := k3'.row (Row.new' e1) id
  have z3 : Row H3 H1.size 41 [.int .i64 0, Sl.v Sl.nil, Sl.v Sl.nil, .string ⟨#[]⟩] := Row.new' e3
  have one : ∀ q : Int, 0 ≤ q → q ≤ 9223372036854775807 → F24_1 Q ⟨H.size, 0, none⟩ ⟨H1.size, 0, none⟩ q H3 := fun q g0 g1 => by
    have lv := hx.lv.kp k3 fun _ _ => id
    have lw := hx.lw.kp k3 fun _ _ => id
    have k3w : Kp (fun b => v.at b ∨ w.at b) H H3 := k3.mono fun x _ hx => hx.elim
    refine ⟨fun _ => ⟨k, v, w, s, o3.all, c25 (lv.iv (by have := hx.nv; omega)) (lw.iv (by have := hx.nw; omega)) hx.nv hx.nw fun v' w' H18 lv' lw' f18 d18 k18 => ?_⟩, fun _ => ?_⟩
    · have o18 := k18.row o3 id
      have z18 := k18.row z3 id
      have s18 := k18.size
      refine ⟨o18.mayw (by simp), fun H24 e24 => ?_⟩
      have o24 : Row H24 H.size 41 [.int .i64 k, Sl.v v', Sl.v w', .string s] := o18.fill' e24 rfl
      have k24 : Kp (fun x => x = H.size) H18 H24 := (Kp.refl _ _).sets' e24 (.inl rfl)
      refine c24_2 hQ ⟨o24, lv'.kp k24 fun x hx hh => by subst hh; exact lv'.ne o18 (by decide) hx, lw'.kp k24 fun x hx hh => by subst hh; exact lw'.ne o18 (by decide) hx, d18, fun _ _ => Nat.zero_le _, hx.nv, hx.nw, hx.ns⟩ (k24.row z18 (by omega)) rfl (fun b hb => .inr (by have := f18 b hb; omega)) ((k3w.trans k18 fun _ h => h.elim).trans k24 fun x hx => .inr (by omega)) (by omega) (Nat.le_refl _) (by omega) g0 g1 (Nat.le_refl _)
    · exact c24_2 hQ ⟨o3, lv, lw, hx.d, fun _ _ => Nat.zero_le _, hx.nv, hx.nw, hx.ns⟩ z3 rfl (fun b hb => .inl hb) k3w (by omega) (Nat.le_refl _) (by omega) g0 g1 (Nat.le_refl _)
  refine ⟨fun hh => ?_, fun hh => one q (by have := of_decide_eq_false hh; omega) h1⟩
  have := of_decide_eq_true hh
  rw [wr (x := q + 1) (by omega) (by omega), wr (x := 0 - (q + 1)) (by omega) (by omega)]
  exact one _ (by omega) (by omega)
end
end Go.Hw
