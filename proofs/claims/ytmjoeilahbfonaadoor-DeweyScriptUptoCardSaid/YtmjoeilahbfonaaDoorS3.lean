/- DeweyScript: the law. Own work of this session. -/
import Derived.Test.YtmjoeilahbfonaaDoorS2
set_option linter.unusedVariables false
namespace Go.Hw
open Go

/-- An answer that is kept. -/
structure TD where
  l : Sl
  s : ByteArray
  n : Int
  yes : Bool
  e : Int
  L : List Int
def tF : Fmt TD 51 5 := ⟨fun x => [Sl.v x.l, .string x.s, .int .i64 x.n, .bool x.yes, .int .i64 x.e], fun _ => rfl, by
  intro x v hv
  simp only [List.mem_cons, List.not_mem_nil, or_false] at hv
  rcases hv with rfl | rfl | rfl | rfl | rfl <;> rfl, by decide⟩
/-- Two answers that agree. -/
structure Pr (H : Hp) (v w : Sl) (a b : TD) : Prop where
  s : a.s = b.s
  n : a.n = b.n
  yes : a.yes = b.yes
  e : a.e = b.e
  L : a.L = b.L
  la : Lst iF H a.l a.L
  lb : Lst iF H b.l b.L
  len : a.L.length ≤ 1048577
  o : ∀ x, a.l.at x ∨ b.l.at x → ¬ v.at x ∧ ¬ w.at x
structure Ps (H : Hp) (v w : Sl) (TA TB : List TD) : Prop where
  len : TA.length = TB.length
  p : ∀ (j : Nat) (a b : TD), TA[j]? = some a → TB[j]? = some b → Pr H v w a b

section
variable {S : Nat → Prop} {H H' : Hp} {v w v' w' : Sl} {TA TB : List TD} {a b : TD}
theorem Pr.kp (h : Pr H v w a b) (k : Kp S H H') (hs : ∀ x m, S x → Row H x 3 m → v.at x ∨ w.at x) (hv : ∀ x, v'.at x ∨ w'.at x → v.at x ∨ w.at x ∨ H.size ≤ x) : Pr H' v' w' a b := by
  have key : ∀ x, a.l.at x ∨ b.l.at x → x < H.size ∧ ∃ m, Row H x 3 m := fun x hx => by
    rcases hx with hx | hx
    · exact ⟨h.la.lt hx, (h.la.row hx).elim fun _ hr => ⟨_, hr⟩⟩
    · exact ⟨h.lb.lt hx, (h.lb.row hx).elim fun _ hr => ⟨_, hr⟩⟩
  have out : ∀ x, a.l.at x ∨ b.l.at x → ¬ S x := fun x hx hh => by
    obtain ⟨_, m, hm⟩ := key x hx
    rcases hs x m hh hm with h1 | h1
    · exact (h.o x hx).1 h1
    · exact (h.o x hx).2 h1
  refine ⟨h.s, h.n, h.yes, h.e, h.L, h.la.kp k fun x hx => out x (.inl hx), h.lb.kp k fun x hx => out x (.inr hx), h.len, fun x hx => ?_⟩
  have hlt := (key x hx).1
  have ho := h.o x hx
  refine ⟨fun hh => ?_, fun hh => ?_⟩
  · rcases hv x (.inl hh) with h1 | h1 | h1
    · exact ho.1 h1
    · exact ho.2 h1
    · omega
  · rcases hv x (.inr hh) with h1 | h1 | h1
    · exact ho.1 h1
    · exact ho.2 h1
    · omega
theorem Ps.kp (h : Ps H v w TA TB) (k : Kp S H H') (hs : ∀ x m, S x → Row H x 3 m → v.at x ∨ w.at x) (hv : ∀ x, v'.at x ∨ w'.at x → v.at x ∨ w.at x ∨ H.size ≤ x) : Ps H' v' w' TA TB := ⟨h.len, fun j a b ha hb => (h.p j a b ha hb).kp k hs hv⟩
theorem Ps.no (h : Ps H v w TA TB) (k : Kp No H H') : Ps H' v w TA TB := h.kp k (fun _ _ h => h.elim) fun x hx => by
  rcases hx with hx | hx
  · exact .inl hx
  · exact .inr (.inl hx)
theorem Ps.add (h : Ps H v w TA TB) (hp : Pr H v w a b) : Ps H v w (TA ++ [a]) (TB ++ [b]) := by
  refine ⟨by simp [h.len], fun j c d hc hd => ?_⟩
  by_cases hj : j < TA.length
  · rw [List.getElem?_append_left hj] at hc
    rw [List.getElem?_append_left (by rw [← h.len]; exact hj)] at hd
    exact h.p j c d hc hd
  · rw [List.getElem?_append_right (by omega)] at hc
    rw [List.getElem?_append_right (by rw [← h.len]; omega)] at hd
    have : j - TA.length = 0 := by
      have := (List.getElem?_eq_some_iff.1 hc).1
      simp at this; omega
    rw [this] at hc
    rw [← h.len, this] at hd
    have hc : a = c := by simpa using hc
    have hd : b = d := by simpa using hd
    subst hc hd
    exact hp
end

/-- The lists of answers, all there is beside. -/
structure Al (H0 H : Hp) (y7 y8 : Sl) (TA TB : List TD) (v w : Sl) (i : Nat) : Prop where
  la : Lst tF H y7 TA
  lb : Lst tF H y8 TB
  d : ∀ x, y7.at x → ¬ y8.at x
  g : ∀ x, y7.at x ∨ y8.at x → H0.size ≤ x
  ps : Ps H v w TA TB
  len : TA.length ≤ i
  k : Kp No H0 H

section
variable {H0 H : Hp} {sl tl y7 y8 : Sl} {Ops : List OP} {T : List Int} {TA TB : List TD} {Q : Bool → Hp → Prop} {xb i : Nat} {sz : Int} {k : Int} {v w : Sl} {s : ByteArray} {V W : List Int}

theorem c8_1 (h : Al H0 H y7 y8 TA TB v w i) (hi : i ≤ 1048576) (hQ : ∀ H', Kp No H0 H' → Q true H') : F8_1 Q y7 y8 H := by
  have n7 := h.la.n
  have n8 := h.lb.n
  have hl := h.len
  have hll := h.ps.len
  intro X hX
  suffices G : ∀ (d j : Nat) (H' : Hp), j + d = TA.length → Kp No H H' → X (j : Int) H' from G TA.length 0 H (by omega) (Kp.refl _ _)
  intro d
  induction d with
  | zero =>
    intro j H' hj k
    exact hX _ _ ⟨fun hh => absurd (of_decide_eq_true hh) (by omega), fun _ => hQ H' (h.k.trans k fun _ h => h.elim)⟩
  | succ d ih =>
    intro j H' hj k
    have ga : TA[j]? = some (TA[j]'(by omega)) := List.getElem?_eq_getElem (by omega)
    have gb : TB[j]? = some (TB[j]'(by omega)) := List.getElem?_eq_getElem (by omega)
    generalize TA[j]'(by omega) = a at ga
    generalize TB[j]'(by omega) = b at gb
    have pr := (h.ps.no k).p j a b ga gb
    obtain ⟨c, hc, hcn, cc⟩ := (h.la.rd.kp0 k).get ga
    obtain ⟨e, he, hen, ce⟩ := (h.lb.rd.kp0 k).get gb
    refine hX _ _ ⟨fun _ => ⟨c, hc, by omega, by omega, a.l, a.s, a.n, a.yes, a.e, cc, e, he, by omega, by omega, b.l, b.s, b.n, b.yes, b.e, ce, ?_⟩, fun hh => absurd (of_decide_eq_false hh) (by omega)⟩
    have hlen := pr.len
    have ia := pr.la.iv (by omega)
    have ib := pr.lb.iv (by rw [← pr.L]; omega)
    rw [pr.L] at ia
    rw [pr.s, pr.n, pr.yes, pr.e]
    refine c28 ia ib fun H2 k2 => ⟨fun hh => (by cases hh), fun _ => ?_⟩
    rw [wr (by omega) (by omega)]
    exact ih (j + 1) H2 (by omega) (k.trans k2 fun _ h => h.elim)

theorem Al.no {H' : Hp} (h : Al H0 H y7 y8 TA TB v w i) (kk : Kp No H H') : Al H0 H' y7 y8 TA TB v w i := ⟨h.la.kp kk fun _ _ => id, h.lb.kp kk fun _ _ => id, h.d, h.g, h.ps.no kk, h.len, h.k.trans kk fun _ h => h.elim⟩
theorem Al.up (h : Al H0 H y7 y8 TA TB v w i) : Al H0 H y7 y8 TA TB v w (i + 1) := ⟨h.la, h.lb, h.d, h.g, h.ps, Nat.le_succ_of_le h.len, h.k⟩
theorem Al.kp {H' : Hp} {v' w' : Sl} {S : Nat → Prop} (h : Al H0 H y7 y8 TA TB v w i) (lv : Lst iF H v V) (lw : Lst iF H w W) (kk : Kp S H H') (hS : ∀ x, S x → (v.at x ∨ w.at x) ∨ ∃ m, Row H x 41 m) (hg : ∀ x, S x → H0.size ≤ x) (hv : ∀ x, v'.at x ∨ w'.at x → v.at x ∨ w.at x ∨ H.size ≤ x) : Al H0 H' y7 y8 TA TB v' w' i := by
  have ty : ∀ {y : Sl} {L : List TD}, Lst tF H y L → ∀ x, y.at x → ¬ S x := fun hl x hx hh => by
    refine (hl.row hx).elim fun _ hr => ?_
    rcases hS x hh with (h1 | h1) | ⟨m, h1⟩
    · exact (lv.row h1).elim fun _ h2 => hr.ne_type h2 (by decide) rfl
    · exact (lw.row h1).elim fun _ h2 => hr.ne_type h2 (by decide) rfl
    · exact hr.ne_type h1 (by decide) rfl
  refine ⟨h.la.kp kk (ty h.la), h.lb.kp kk (ty h.lb), h.d, h.g, h.ps.kp kk (fun x m hx hr => ?_) hv, h.len, h.k.trans kk fun x hx => .inr (hg x hx)⟩
  rcases hS x hx with h1 | ⟨m', h1⟩
  · exact h1
  · exact absurd rfl (hr.ne_type h1 (by decide))
theorem Xs.ty {H' : Hp} {S : Nat → Prop} {lo : Nat} (h : Xs H lo xb k v w s V W) (kk : Kp S H H') (hS : ∀ x, S x → ∃ m, Row H x 51 m) : Xs H' lo xb k v w s V W := by
  have ty : ∀ {y : Sl} {L : List Int}, Lst iF H y L → ∀ x, y.at x → ¬ S x := fun hl x hx hh => by
    obtain ⟨m, hm⟩ := hS x hh
    exact (hl.row hx).elim fun _ hr => hr.ne_type hm (by decide) rfl
  refine ⟨kk.row h.row fun hh => ?_, h.lv.kp kk (ty h.lv), h.lw.kp kk (ty h.lw), h.d, h.g, h.nv, h.nw, h.ns⟩
  obtain ⟨m, hm⟩ := hS _ hh
  exact h.row.ne_type hm (by decide) rfl

/-- The step is played, twice. -/
theorem c8_4 {X2 : Sl → Sl → Int → Int → Hp → Prop} (ht : TabH H0) (hm : MaxH H0) (hx : Xs H H0.size xb k v w s V W) (h : Al H0 H y7 y8 TA TB v w i) (hi : i < 1048576)
    (hX : ∀ y7' y8' TA' TB' sz' H', Xs H' H0.size xb k v w s V W → Al H0 H' y7' y8' TA' TB' v w (i + 1) → X2 y7' y8' sz' ((i + 1 : Nat) : Int) H') : F8_4 Q X2 sl tl y7 y8 ⟨xb, 0, none⟩ sz (i : Int) H := by
  have hw1 : IntKind.i64.wrap ((i : Int) + 1) = ((i + 1 : Nat) : Int) := by rw [wr (by omega) (by omega)]; omega
  have hz := hm.size
  have nv := hx.nv
  have nw := hx.nw
  have ns := h.k.size
  have hlen := told_len k (W := W) s nv
  refine ⟨k, v, w, s, hx.row.all, c26 (ht.kp h.k (by omega) id) (by omega) (hx.lv.iv (by omega)) (hx.lw.iv (by omega)) fun r90 H88 l90 f90 k88 => fun H95 e95 => ?_⟩
  have s88 := k88.size
  have k95 : Kp No H88 H95 := (Kp.refl No _).push' e95
  have s95 := size_push' e95
  have r95 := Row.new' e95
  refine ⟨r95.mayw (by decide), fun H97 e97 => ?_⟩
  have a97 : Row H97 H88.size 51 [Sl.v r90, .string (told k V W s).s, .int .i64 (told k V W s).n, .bool (told k V W s).yes, .int .i64 (told k V W s).e] := r95.fill' e97 rfl
  have k97 : Kp No H88 H97 := k95.sets' e97 (.inr (Nat.le_refl _))
  have s97 := size_sets' e97
  have kk97 : Kp No H H97 := k88.trans k97 fun _ h => h.elim
  have x97 := hx.no kk97
  have al97 := h.no kk97
  refine ⟨k, v, w, s, x97.row.all, c27 (ht.kp al97.k (by omega) id) (hm.kp al97.k id) (x97.lv.iv (by omega)) (x97.lw.iv (by omega)) nv nw fun r107 H105 l107 f107 k105 => fun H112 e112 => ?_⟩
  have s105 := k105.size
  have k112 : Kp No H105 H112 := (Kp.refl No _).push' e112
  have s112 := size_push' e112
  have r112 := Row.new' e112
  refine ⟨r112.mayw (by decide), fun H114 e114 => ?_⟩
  have b114 : Row H114 H105.size 51 [Sl.v r107, .string (told k V W s).s, .int .i64 (told k V W s).n, .bool (told k V W s).yes, .int .i64 (told k V W s).e] := r112.fill' e114 rfl
  have k114 : Kp No H105 H114 := k112.sets' e114 (.inr (Nat.le_refl _))
  have s114 := size_sets' e114
  have kk114 : Kp No H97 H114 := k105.trans k114 fun _ h => h.elim
  have a114 := kk114.row a97 id
  have l90' := (l90.kp k97 fun _ _ => id).kp kk114 fun _ _ => id
  have l107' := l107.kp k114 fun _ _ => id
  refine ⟨r90, _, _, _, _, a114.all, r107, _, _, _, _, b114.all, c28 (l90'.iv (by omega)) (l107'.iv (by omega)) fun H129 k129 => ⟨fun hh => (by cases hh), fun _ => ?_⟩⟩
  have s129 := k129.size
  have kk129 : Kp No H H129 := (kk97.trans kk114 fun _ h => h.elim).trans k129 fun _ h => h.elim
  have x129 := hx.no kk129
  have al129 := h.no kk129
  have a129 := k129.row a114 id
  have b129 := k129.row b114 id
  have m90 := l90'.kp k129 fun _ _ => id
  have m107 := l107'.kp k129 fun _ _ => id
  refine ⟨fun _ => ?_, fun _ => ?_⟩
  · refine ⟨r90, _, _, _, _, a129.all, fun H140 e140 => ?_⟩
    have k140 : Kp No H129 H140 := (Kp.refl No _).push' e140
    have s140 := size_push' e140
    have x140 : Row H140 H129.size 51 (tF.f ⟨r90, (told k V W s).s, (told k V W s).n, (told k V W s).yes, (told k V W s).e, (told k V W s).L⟩) := Row.new' e140
    have hl := h.len
    have hll := h.ps.len
    have la140 := al129.la.kp k140 fun _ _ => id
    have lalt : ∀ x, y7.at x → x < H.size := fun x hx => h.la.lt hx
    have lblt : ∀ x, y8.at x → x < H.size := fun x hx => h.lb.lt hx
    refine la140.append1 x140 rfl (by omega) (by omega) fun r144 H142 l142 k142 h144 => ?_
    have s142 := k142.size
    have b142 := k142.row (k140.row b129 id) fun hh => by have := lalt _ hh; omega
    refine ⟨r107, _, _, _, _, b142.all, fun H151 e151 => ?_⟩
    have k151 : Kp No H142 H151 := (Kp.refl No _).push' e151
    have s151 := size_push' e151
    have x151 : Row H151 H142.size 51 (tF.f ⟨r107, (told k V W s).s, (told k V W s).n, (told k V W s).yes, (told k V W s).e, (told k V W s).L⟩) := Row.new' e151
    have lb151 : Lst tF H151 y8 TB := ((al129.lb.kp k140 fun _ _ => id).kp k142 fun x hx hh => h.d x hh hx).kp k151 fun _ _ => id
    refine lb151.append1 x151 rfl (by omega) (by omega) fun r155 H153 l153 k153 h155 => ?_
    have s153 := k153.size
    have a153 := k153.row (k151.row (k142.row (k140.row a129 id) fun hh => by have := lalt _ hh; omega) id) fun hh => by have := lblt _ hh; omega
    refine ⟨r90, _, _, _, _, a153.all, c29 fun wt H162 k162 => ?_⟩
    unfold F8_3
    rw [hw1]
    have kA : Kp (fun x => y7.at x ∨ y8.at x) H129 H162 := ((((k140.mono fun x _ hx => hx.elim).trans k142 fun x hx => .inl (.inl hx)).trans k151 fun _ h => h.elim).trans k153 fun x hx => .inl (.inr hx)).trans k162 fun _ h => h.elim
    have ty : ∀ x, (y7.at x ∨ y8.at x) → ∃ m, Row H129 x 51 m := fun x hx => by
      rcases hx with hx | hx
      · exact (al129.la.row hx).elim fun _ hr => ⟨_, hr⟩
      · exact (al129.lb.row hx).elim fun _ hr => ⟨_, hr⟩
    have old : ∀ x, (y7.at x ∨ y8.at x) → x < H.size := fun x hx => by
      rcases hx with hx | hx
      · exact lalt x hx
      · exact lblt x hx
    have e90 : Lst iF H162 r90 (told k V W s).L := m90.kp kA fun x hx hh => by have := f90 x hx; have := old x hh; omega
    have e107 : Lst iF H162 r107 (told k V W s).L := m107.kp kA fun x hx hh => by have := f107 x hx; have := old x hh; omega
    refine hX r144 r155 (TA ++ [⟨r90, (told k V W s).s, (told k V W s).n, (told k V W s).yes, (told k V W s).e, (told k V W s).L⟩]) (TB ++ [⟨r107, (told k V W s).s, (told k V W s).n, (told k V W s).yes, (told k V W s).e, (told k V W s).L⟩]) _ H162 (x129.ty kA ty) ⟨?_, l153.kp k162 fun _ _ => id, fun x hx hy => ?_, fun x hx => ?_, ?_, by simp; omega, al129.k.trans kA fun x hx => .inr (h.g x hx)⟩
    · refine ((l142.kp k151 fun _ _ => id).kp k153 fun x hx hh => ?_).kp k162 fun _ _ => id
      rcases h144 x hx with hx | hx
      · exact h.d x hx hh
      · have := lblt x hh; omega
    · have hlt := l142.lt hx
      rcases h144 x hx with hx | hx <;> rcases h155 x hy with hy | hy
      · exact h.d x hx hy
      · have := lalt x hx; omega
      · have := lblt x hy; omega
      · omega
    · rcases hx with hx | hx
      · rcases h144 x hx with hx | hx
        · exact h.g x (.inl hx)
        · omega
      · rcases h155 x hx with hx | hx
        · exact h.g x (.inr hx)
        · omega
    · refine (al129.ps.kp kA (fun x m hx hr => ?_) fun x hx => ?_).add ⟨rfl, rfl, rfl, rfl, rfl, e90, e107, hlen, fun x hx' => ?_⟩
      · obtain ⟨m', hm'⟩ := ty x hx
        exact absurd rfl (hr.ne_type hm' (by decide))
      · rcases hx with hx | hx
        · exact .inl hx
        · exact .inr (.inl hx)
      · have hge : H.size ≤ x := by
          rcases hx' with h1 | h1
          · exact f90 x h1
          · have := f107 x h1; omega
        exact ⟨fun hh => by have := hx.lv.lt hh; omega, fun hh => by have := hx.lw.lt hh; omega⟩
  · unfold F8_3
    rw [hw1]
    exact hX y7 y8 TA TB sz H129 x129 al129.up

theorem c8 (ht : TabH H) (hm : MaxH H) (h : RdL opF H sl Ops) (ho : ∀ o ∈ Ops, OpIv H o) (hos : ∀ o ∈ Ops, o.s.size ≤ 1048576) (hl : Ops.length ≤ 1048576) (hT : RdL iF H tl T) (hTr : ∀ x ∈ T, -9223372036854775808 ≤ x ∧ x ≤ 9223372036854775807) (hTl : T.length ≤ 1048576) (hQ : ∀ H', Kp No H H' → Q true H') : F8 sl tl H Q := by
  have hH := hm.size
  have hn := h.n
  have htn := hT.n
  refine c9 ht (by omega) fun H1 k1 => ⟨fun hh => (by cases hh), fun _ H5 e5 => ?_⟩
  have s1 := k1.size
  have k5' : Kp No H1 H5 := (Kp.refl No _).push' e5
  have k5 : Kp No H H5 := k1.trans k5' fun _ h => h.elim
  have x5 : Xs H5 H.size H1.size 0 Sl.nil Sl.nil ⟨#[]⟩ [] [] := ⟨Row.new' e5, Lst.nil _ _, Lst.nil _ _, fun b hb => (by cases hb), fun b hb => (by rcases hb with hb | hb <;> cases hb), Nat.zero_le _, Nat.zero_le _, Nat.zero_le _⟩
  have al5 : Al H H5 Sl.nil Sl.nil [] [] Sl.nil Sl.nil 0 := ⟨Lst.nil _ _, Lst.nil _ _, fun b hb => (by cases hb), fun b hb => (by rcases hb with hb | hb <;> cases hb), ⟨rfl, fun j a b ha => (by simp at ha)⟩, Nat.le_refl _, k5⟩
  intro X hX
  suffices G : ∀ (d i : Nat) (y7 y8 : Sl) (TA TB : List TD) (sz k : Int) (v w : Sl) (s : ByteArray) (V W : List Int) (H' : Hp), i + d = Ops.length → Xs H' H.size H1.size k v w s V W → Al H H' y7 y8 TA TB v w i → X y7 y8 sz (i : Int) H' from
    G Ops.length 0 _ _ _ _ 0 _ _ _ _ _ _ H5 (by omega) x5 al5
  intro d
  induction d with
  | zero =>
    intro i y7 y8 TA TB sz k v w s V W H' hi hx al
    exact hX _ _ _ _ _ ⟨fun hh => absurd (of_decide_eq_true hh) (by omega), fun _ => c8_1 al (by omega) hQ⟩
  | succ d ih =>
    intro i y7 y8 TA TB sz k v w s V W H' hi hx al
    have hs := al.k.size
    have nx : ∀ x, x = H1.size → H.size ≤ x := fun x hx => by omega
    have five : ∀ y : Bool, (y = true → i < T.length) → F8_5 Q X sl tl y7 y8 ⟨H1.size, 0, none⟩ sz (i : Int) y H' := fun y hy => by
      refine ⟨fun hh => ?_, fun _ => ?_⟩
      · have hiT := hy hh
        have gT : T[i]? = some (T[i]'hiT) := List.getElem?_eq_getElem hiT
        have hr := hTr _ (List.getElem_mem hiT)
        generalize T[i]'hiT = q at gT hr
        obtain ⟨a, ha, han, ca⟩ := (hT.kp0 al.k).get gT
        refine ⟨k, v, w, s, hx.row.all, a, ha, by omega, by omega, q, ca.1, c24 hx hr.1 hr.2 fun k' v' w' s' V' W' H56 lv' lw' d' nv' nw' ns' at' k56 => ?_⟩
        have hv41 : ¬ (v.at H1.size ∨ w.at H1.size) := fun hh => by
          rcases hh with hh | hh
          · exact hx.lv.ne hx.row (by decide) hh
          · exact hx.lw.ne hx.row (by decide) hh
        have r56 := k56.row hx.row hv41
        refine ⟨r56.mayw (by simp), fun H62 e62 => ?_⟩
        have r62 : Row H62 H1.size 41 [.int .i64 k', Sl.v v', Sl.v w', .string s'] := r56.fill' e62 rfl
        have k62 : Kp (fun x => x = H1.size) H56 H62 := (Kp.refl _ _).sets' e62 (.inl rfl)
        have n41 : ∀ {y : Sl} {L : List Int}, Lst iF H56 y L → ∀ x, y.at x → ¬ x = H1.size := fun hl x hx' e => by subst e; exact hl.ne r56 (by decide) hx'
        have g' : ∀ b, v'.at b ∨ w'.at b → H.size ≤ b := fun b hb => by
          rcases at' b hb with h1 | h1
          · exact hx.g b h1
          · omega
        have al56 : Al H H56 y7 y8 TA TB v' w' i := al.kp hx.lv hx.lw k56 (fun x hx' => .inl hx') (fun x hx' => hx.g x hx') fun x hx' => by
          rcases at' x hx' with h1 | h1
          · rcases h1 with h1 | h1
            · exact .inl h1
            · exact .inr (.inl h1)
          · exact .inr (.inr h1)
        have al62 : Al H H62 y7 y8 TA TB v' w' i := al56.kp lv' lw' k62 (fun x hx' => .inr ⟨_, hx' ▸ r56⟩) nx fun x hx' => by
          rcases hx' with h1 | h1
          · exact .inl h1
          · exact .inr (.inl h1)
        exact c8_4 ht hm ⟨r62, lv'.kp k62 (n41 lv'), lw'.kp k62 (n41 lw'), d', g', nv', nw', ns'⟩ al62 (by omega) fun y7' y8' TA' TB' sz' H2 hx2 al2 => ih (i + 1) _ _ _ _ _ _ _ _ _ _ _ H2 (by omega) hx2 al2
      · have gi : Ops[i]? = some (Ops[i]'(by omega)) := List.getElem?_eq_getElem (by omega)
        have hmem : Ops[i]'(by omega) ∈ Ops := List.getElem_mem _
        generalize Ops[i]'(by omega) = o at gi hmem
        have oiv := (ho o hmem).no al.k
        obtain ⟨a, ha, han, ca⟩ := (h.kp0 al.k).get gi
        refine ⟨a, ha, by omega, by omega, o.k, o.v, o.w, o.s, ca, c25 oiv.v oiv.w oiv.lv oiv.lw fun v' w' H74 lv' lw' f' d' k74 => ?_⟩
        have r74 := k74.row hx.row id
        refine ⟨r74.mayw (by simp), fun H80 e80 => ?_⟩
        have r80 : Row H80 H1.size 41 [.int .i64 o.k, Sl.v v', Sl.v w', .string o.s] := r74.fill' e80 rfl
        have k80 : Kp (fun x => x = H1.size) H74 H80 := (Kp.refl _ _).sets' e80 (.inl rfl)
        have n41 : ∀ {y : Sl} {L : List Int}, Lst iF H74 y L → ∀ x, y.at x → ¬ x = H1.size := fun hl x hx' e => by subst e; exact hl.ne r74 (by decide) hx'
        have al74 : Al H H74 y7 y8 TA TB v' w' i := al.kp hx.lv hx.lw k74 (fun x hx' => hx'.elim) (fun x hx' => hx'.elim) fun x hx' => .inr (.inr (f' x hx'))
        have al80 : Al H H80 y7 y8 TA TB v' w' i := al74.kp lv' lw' k80 (fun x hx' => .inr ⟨_, hx' ▸ r74⟩) nx fun x hx' => by
          rcases hx' with h1 | h1
          · exact .inl h1
          · exact .inr (.inl h1)
        exact c8_4 ht hm ⟨r80, lv'.kp k80 (n41 lv'), lw'.kp k80 (n41 lw'), d', fun b hb => by have := f' b hb; omega, oiv.lv, oiv.lw, hos o hmem⟩ al80 (by omega) fun y7' y8' TA' TB' sz' H2 hx2 al2 => ih (i + 1) _ _ _ _ _ _ _ _ _ _ _ H2 (by omega) hx2 al2
    refine hX _ _ _ _ _ ⟨fun _ => ⟨fun _ => ⟨fun hh => ?_, fun _ => five false fun h => (by cases h)⟩, fun _ => five false fun h => (by cases h)⟩, fun hh => absurd (of_decide_eq_false hh) (by omega)⟩
    have hh := of_decide_eq_true hh
    have hiT : i < T.length := by omega
    have gT : T[i]? = some (T[i]'hiT) := List.getElem?_eq_getElem hiT
    obtain ⟨a, ha, han, ca⟩ := (hT.kp0 al.k).get gT
    exact ⟨a, ha, by omega, by omega, _, ca.1, five _ fun _ => hiT⟩
end
end Go.Hw
