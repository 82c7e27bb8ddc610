/- The book: rows that were handed out, each full of its mark, and what was put behind it. Own work of this session. -/
import Derived.Test.YtmjoeilahbfonaaDoorE0
set_option linter.unusedVariables false
namespace Go.Hw
open Go

def s22 : Fmt Sl 22 1 := ⟨fun x => [Sl.v x], fun _ => rfl, by intro x v hv; simp at hv; rcases hv with rfl; rfl, by decide⟩
/-- A row of the book: the list, how far it is written, what was put behind it. -/
structure BR where
  l : Sl
  p : Nat
  g : Sl
def mkI (i : Nat) : Int := 1000000 + (i : Int)
def lsOf (R : List BR) : List Sl := R.flatMap fun r => [r.l, r.g]
theorem lsOf_len (R : List BR) : (lsOf R).length = 2 * R.length := by
  induction R with
  | nil => rfl
  | cons r l ih => simp only [lsOf, List.flatMap_cons, List.length_append, List.length_cons, List.length_nil] at ih ⊢; omega
theorem lsOf_get : ∀ {R : List BR} {i : Nat} {r : BR}, R[i]? = some r → (lsOf R)[2 * i]? = some r.l ∧ (lsOf R)[2 * i + 1]? = some r.g
  | [], _, _, h => by simp at h
  | r :: l, 0, r', h => by
    have : r = r' := by simpa using h
    subst this
    exact ⟨rfl, rfl⟩
  | r :: l, i + 1, r', h => by
    have := lsOf_get (R := l) (i := i) (by simpa using h)
    exact this
theorem lsOf_set : ∀ {R : List BR} {i : Nat} {r : BR} (p : Nat) (g : Sl), R[i]? = some r → (lsOf R).set (2 * i + 1) g = lsOf (R.set i ⟨r.l, p, g⟩)
  | [], _, _, _, _, h => by simp at h
  | r :: l, 0, r', p, g, h => by
    have : r = r' := by simpa using h
    subst this
    rfl
  | r :: l, i + 1, r', p, g, h => by
    have := lsOf_set (R := l) (i := i) p g (by simpa using h)
    show r.l :: r.g :: (lsOf l).set (2 * i + 1) g = r.l :: r.g :: lsOf (l.set i _)
    rw [this]

/-- What a row of the book shows. -/
structure BrIs (H : Hp) (i : Nat) (r : BR) : Prop where
  base : Base iF H (mkI i) r.l r.p
  np : r.l.n ≤ r.p
  nc : r.l.n ≤ r.l.c
  g : r.g = Sl.nil ∨ ∃ q c, q ≤ r.p ∧ q ≤ 9000000 ∧ r.g = ⟨r.l.b, q, c⟩
  len : r.l.n ≤ 2097152
theorem BrIs.kp {S : Nat → Prop} {H H' : Hp} {i : Nat} {r : BR} (h : BrIs H i r) (k : Kp S H H') (hs : ∀ b, r.l.at b → ¬ S b) : BrIs H' i r := ⟨h.base.kp k hs, h.np, h.nc, h.g, h.len⟩

structure Bk (G : Nat → Prop) (H : Hp) (bk : Nat) (ls : Sl) (sz : Int) (a : Nat) (R : List BR) : Prop where
  row : Row H bk 44 [Sl.v ls, .int .i64 sz, .int .i64 ((2 * a : Nat) : Int)]
  lst : Lst s22 H ls (lsOf R)
  gb : G bk
  gl : ∀ x, ls.at x → G x
  gr : ∀ r ∈ R, ∀ x, r.l.at x → G x
  glt : ∀ x, G x → x < H.size
  r : ∀ (i : Nat) (r : BR), R[i]? = some r → BrIs H i r
  d : ∀ (i j : Nat) (r q : BR), R[i]? = some r → R[j]? = some q → i ≠ j → ∀ x, r.l.at x → ¬ q.l.at x
  al : a ≤ R.length

section
variable {G S : Nat → Prop} {H H' : Hp} {bk a : Nat} {ls l : Sl} {sz : Int} {R : List BR}
theorem Bk.kp (h : Bk G H bk ls sz a R) (k : Kp S H H') (hs : ∀ x, S x → ¬ G x) : Bk G H' bk ls sz a R :=
  ⟨k.row h.row fun hh => hs _ hh h.gb, h.lst.kp k fun x hx hh => hs x hh (h.gl x hx), h.gb, h.gl, h.gr, fun x hx => Nat.lt_of_lt_of_le (h.glt x hx) k.size, fun i r hr => (h.r i r hr).kp k fun x hx hh => hs x hh (h.gr r (List.mem_of_getElem? hr) x hx), h.d, h.al⟩
theorem Bk.no (h : Bk G H bk ls sz a R) (k : Kp No H H') : Bk G H' bk ls sz a R := h.kp k fun _ h => h.elim
theorem Bk.wide {G' : Nat → Prop} (h : Bk G H bk ls sz a R) (hg : ∀ x, G x → G' x) (hl : ∀ x, G' x → x < H.size) : Bk G' H bk ls sz a R :=
  ⟨h.row, h.lst, hg _ h.gb, fun x hx => hg _ (h.gl x hx), fun r hr x hx => hg _ (h.gr r hr x hx), hl, h.r, h.d, h.al⟩
theorem Bk.new {H1 : Hp} (e : H1 = Array.push H (.cells #[(Sl.v Sl.nil), (.int .i64 0), (.int .i64 0)] 44)) : Bk (fun x => x = H.size) H1 H.size Sl.nil 0 0 [] :=
  ⟨Row.new' e, Lst.nil _ _, rfl, fun x hx => (by cases hx), fun r hr => (by cases hr), fun x hx => by have := size_push' e; omega, fun i r hr => (by simp at hr), fun i j r q hr => (by simp at hr), Nat.le_refl _⟩

theorem half (i : Nat) (h : i ≤ 9000000) : IntKind.i64.wrap (1000000 + IntKind.i64.wrap (Int.tdiv (i : Int) 2)) = mkI (i / 2) := by
  have : Int.tdiv (i : Int) 2 = ((i / 2 : Nat) : Int) := by
    rw [Int.tdiv_eq_ediv_of_nonneg (by omega)]; omega
  rw [this, wr (x := ((i / 2 : Nat) : Int)) (by omega) (by omega), wr (by omega) (by omega)]
  rfl

/-- Is the book whole? -/
theorem c22 {Q : Bool → Hp → Prop} (h : Bk G H bk ls sz a R) (hR : R.length ≤ 4000000) (hQ : Q true H) : F22 (some ⟨bk, 0, none⟩) H Q := by
  have hn := h.lst.n
  rw [lsOf_len] at hn
  have cl : cell H ⟨bk, 0, none⟩ = some (Sl.v ls) := h.row.cell_of (i := 0) rfl
  have get : ∀ i, i < 2 * R.length → ∃ s, (lsOf R)[i]? = some s ∧ All iF H (mkI (i / 2)) s ∧ s.n ≤ 9000000 := by
    intro i hi
    have gi : R[i / 2]? = some (R[i / 2]'(by omega)) := List.getElem?_eq_getElem (by omega)
    generalize R[i / 2]'(by omega) = r at gi
    obtain ⟨g1, g2⟩ := lsOf_get gi
    have hb := h.r _ _ gi
    by_cases hp : i % 2 = 0
    · refine ⟨r.l, by rw [← g1]; congr 1; omega, ?_, by have := hb.len; omega⟩
      exact hb.base.all (c' := r.l.c) hb.np
    · refine ⟨r.g, by rw [← g2]; congr 1; omega, ?_⟩
      rcases hb.g with h0 | ⟨q, c, hq, hq2, h0⟩
      · rw [h0]; exact ⟨All.nil, by decide⟩
      · rw [h0]; exact ⟨hb.base.all hq, hq2⟩
  intro X hX
  suffices G : ∀ (d i : Nat), i + d = 2 * R.length → X (i : Int) H from G (2 * R.length) 0 (by omega)
  intro d
  induction d with
  | zero =>
    intro i hi
    exact hX _ _ ⟨_, rfl, ls, cl, fun hh => absurd (of_decide_eq_true hh) (by omega), fun _ => hQ⟩
  | succ d ih =>
    intro i hi
    obtain ⟨s, gs, hall, hsn⟩ := get i (by omega)
    obtain ⟨b, hb, _, cb⟩ := h.lst.rd.get gs
    refine hX _ _ ⟨_, rfl, ls, cl, fun _ => ?_, fun hh => absurd (of_decide_eq_false hh) (by omega)⟩
    intro Y hY
    suffices G3 : ∀ (e j : Nat), j + e = s.n → Y (j : Int) H from G3 s.n 0 (by omega)
    intro e
    induction e with
    | zero =>
      intro j hj
      refine hY _ _ ⟨_, rfl, ls, cl, b, hb, by omega, by omega, s, cb.1, fun hh => absurd (of_decide_eq_true hh) (by omega), fun _ => ?_⟩
      unfold F22_2
      rw [wr (by omega) (by omega)]
      exact ih (i + 1) (by omega)
    | succ e ih2 =>
      intro j hj
      have gj : (List.replicate s.n (mkI (i / 2)))[j]? = some (mkI (i / 2)) := by rw [List.getElem?_replicate, if_pos (by omega)]
      obtain ⟨c, hc, _, cc⟩ := RdL.get hall gj
      refine hY _ _ ⟨_, rfl, ls, cl, b, hb, by omega, by omega, s, cb.1, fun _ => ⟨_, rfl, ls, cl, b, hb, by omega, by omega, s, cb.1, c, hc, by omega, by omega, mkI (i / 2), cc.1, fun hh => ?_, fun _ => ?_⟩, fun hh => absurd (of_decide_eq_false hh) (by omega)⟩
      · have hh := of_decide_eq_true hh
        rw [half i (by omega)] at hh
        exact absurd rfl hh
      · rw [wr (by omega) (by omega)]
        exact ih2 (j + 1) (by omega)

/-- A row is written full. -/
theorem c41 {L : List Int} {Q : Hp → Prop} (h : Bk G H bk ls sz a R) (hl : Lst iF H l L) (hg : ∀ x, l.at x → ¬ G x) (hL : L.length ≤ 2097152) (hR : R.length ≤ 4000000)
    (hQ : ∀ H' ls' sz' R', (R' = R ∨ R' = R ++ [⟨l, L.length, Sl.nil⟩]) → Bk (fun b => G b ∨ l.at b ∨ (H.size ≤ b ∧ b < H'.size)) H' bk ls' sz' a R' → Kp (fun b => G b ∨ l.at b) H H' → Q H') : F41 (some ⟨bk, 0, none⟩) l H Q := by
  have hn := h.lst.n
  rw [lsOf_len] at hn
  have hln := hl.n
  have hlc : l.n ≤ l.c := (hl.iv hL).c
  refine ⟨_, rfl, ls, h.row.cell_of (i := 0) rfl, ?_⟩
  have hm : IntKind.i64.wrap (1000000 + IntKind.i64.wrap (Int.tdiv (ls.n : Int) 2)) = mkI R.length := by
    rw [half ls.n (by omega)]
    congr 1
    omega
  rw [hm]
  intro X hX
  suffices G1 : ∀ (d i : Nat) (H' : Hp), i + d = L.length → Lst iF H' l (List.replicate i (mkI R.length) ++ L.drop i) → Kp l.at H H' → X (i : Int) H' from
    G1 L.length 0 H (by omega) (by simpa using hl) (Kp.refl _ _)
  intro d
  induction d with
  | zero =>
    intro i H' hi li k
    obtain rfl : i = L.length := by omega
    rw [List.drop_length, List.append_nil] at li
    have h1 : Bk G H' bk ls sz a R := h.kp k hg
    have hx : BrIs H' R.length ⟨l, L.length, Sl.nil⟩ := ⟨Base.of li, by show l.n ≤ L.length; omega, hlc, .inl rfl, by show l.n ≤ _; omega⟩
    have sk := k.size
    refine hX _ _ ⟨fun hh => absurd (of_decide_eq_true hh) (by omega), fun _ => ⟨_, rfl, sz, h1.row.cell_of (i := 1) rfl, _, rfl, h1.row.some (i := 1) (by simp), h1.row.frz 1, fun H26 e26 => ?_⟩⟩
    generalize (IntKind.i64.wrap (IntKind.i64.wrap (sz + 800) + IntKind.i64.wrap (16 * (l.n : Int)))) = sz2 at e26
    have r26 : Row H26 bk 44 [Sl.v ls, .int .i64 sz2, .int .i64 ((2 * a : Nat) : Int)] := h1.row.set' e26
    have k26 : Kp (fun x => x = bk) H' H26 := (Kp.refl _ _).set' e26 (.inl rfl)
    have s26 := size_set' e26
    have nbk : ∀ {x u : Nat} {m : List Value}, Row H' x u m → u ≠ 44 → x ≠ bk := fun hr hu e => (h1.row.ne_type hr (Ne.symm hu)) e.symm
    have nat : ∀ {t k : Nat} {α : Type} {F : Fmt α t k} {s : Sl} {M : List α}, Lst F H' s M → t ≠ 44 → ∀ x, s.at x → ¬ x = bk := fun hs ht x hx => (hs.row hx).elim fun _ hr => nbk hr ht
    have nbase : ∀ (i : Nat) (r : BR), R[i]? = some r → ∀ x, r.l.at x → ¬ x = bk := fun i r hr x hx => by
      rcases (h1.r i r hr).base with ⟨h0, _⟩ | ⟨b, hb, hw⟩
      · rw [h0] at hx; cases hx
      · have : x = b := by
          have := hx.symm.trans hb
          injection this with this
          injection this
        subst this
        obtain ⟨sp, hrow, _⟩ := hw.row
        exact nbk hrow (by decide)
    have b26 : Bk G H26 bk ls sz2 a R := ⟨r26, h1.lst.kp k26 fun x hx => nat h1.lst (by decide) x hx, h1.gb, h1.gl, h1.gr, fun x hx => by have := h1.glt x hx; omega, fun i r hr => (h1.r i r hr).kp k26 fun x hx => nbase i r hr x hx, h1.d, h1.al⟩
    have x26 : BrIs H26 R.length ⟨l, L.length, Sl.nil⟩ := hx.kp k26 fun x hx' => nat li (by decide) x hx'
    have kk26 : Kp (fun b => G b ∨ l.at b) H H26 := ((k.mono fun x _ hx => Or.inr hx).trans k26 fun x hx => .inl (.inl (hx ▸ h.gb)))
    refine ⟨_, rfl, sz2, r26.cell_of (i := 1) rfl, fun _ => ⟨_, rfl, ls, r26.cell_of (i := 0) rfl, fun H39 e39 => ?_⟩, fun _ => ?_⟩
    · have k39 : Kp No H26 H39 := (Kp.refl No _).push' e39
      have s39 := size_push' e39
      have bx : Row H39 H26.size 22 ([l, Sl.nil].flatMap s22.f) := Row.new' e39
      have b39 := b26.no k39
      refine b39.lst.append (xs := Sl.mk (some ⟨H26.size, 0, none⟩) 2 2) (bx.rdl rfl 2) rfl (by rw [lsOf_len]; simp; omega) (by rw [lsOf_len]; simp; omega) fun r43 H41 l41 k41 h43 => ?_
      have r41 : Row H41 bk 44 [Sl.v ls, .int .i64 sz2, .int .i64 ((2 * a : Nat) : Int)] := k41.row b39.row fun hh => b39.lst.ne b39.row (by decide) hh
      refine ⟨_, rfl, r41.some (i := 0) (by simp), r41.frz 0, fun H46 e46 => ?_⟩
      have r46 : Row H46 bk 44 [Sl.v r43, .int .i64 sz2, .int .i64 ((2 * a : Nat) : Int)] := r41.set' e46
      have k46 : Kp (fun x => x = bk) H41 H46 := (Kp.refl _ _).set' e46 (.inl rfl)
      have s46 := size_set' e46
      have s41 := k41.size
      have hb22 : ∀ {x u : Nat} {m : List Value}, Row H39 x u m → u ≠ 22 → ¬ ls.at x := fun hr hu hh => (b39.lst.row hh).elim fun _ h2 => h2.ne_type hr (Ne.symm hu) rfl
      have kbr : ∀ {i : Nat} {r : BR}, BrIs H39 i r → (∀ x, r.l.at x → ¬ x = bk) → BrIs H46 i r := fun {i r} hb hne => by
        refine (hb.kp k41 fun x hx hh => ?_).kp k46 hne
        rcases hb.base with ⟨h0, _⟩ | ⟨b, hb', hw⟩
        · rw [h0] at hx; cases hx
        · have : x = b := by
            have := hx.symm.trans hb'
            injection this with this
            injection this
          subst this
          obtain ⟨sp, hrow, _⟩ := hw.row
          exact hb22 hrow (by decide) hh
      have hlR : ∀ x, l.at x → ¬ x = bk := fun x hx => nat li (by decide) x hx
      refine hQ H46 r43 sz2 (R ++ [⟨l, L.length, Sl.nil⟩]) (.inr rfl) ⟨r46, ?_, .inl h.gb, fun x hx => ?_, fun r hr x hx => ?_, fun x hx => ?_, fun i r hr => ?_, fun i j r q hr hq hij x hx hy => ?_, by have := h.al; simp; omega⟩ ?_
      · have e : lsOf (R ++ [⟨l, L.length, Sl.nil⟩]) = lsOf R ++ [l, Sl.nil] := by simp [lsOf]
        rw [e]
        exact l41.kp k46 fun x hx hh => by subst hh; exact l41.ne r41 (by decide) hx
      · have hlt := l41.lt hx
        rcases h43 x hx with hx | hx
        · exact .inl (h.gl x hx)
        · exact .inr (.inr (by omega))
      · rcases List.mem_append.1 hr with hr | hr
        · exact .inl (h.gr r hr x hx)
        · rw [List.mem_singleton] at hr
          rw [hr] at hx
          exact .inr (.inl hx)
      · rcases hx with hx | hx | hx
        · have := h.glt x hx; omega
        · have := hl.lt hx; omega
        · omega
      · by_cases hi : i < R.length
        · rw [List.getElem?_append_left hi] at hr
          exact kbr (b39.r i r hr) fun x hx => nbase i r hr x hx
        · rw [List.getElem?_append_right (by omega)] at hr
          have : i - R.length = 0 := by
            have := (List.getElem?_eq_some_iff.1 hr).1
            simp at this; omega
          rw [this] at hr
          have hr : (⟨l, L.length, Sl.nil⟩ : BR) = r := by simpa using hr
          subst hr
          obtain rfl : i = R.length := by omega
          exact kbr (x26.kp k39 fun _ _ => id) hlR
      · have old : ∀ {i : Nat} {r : BR}, (R ++ [⟨l, L.length, Sl.nil⟩])[i]? = some r → (i < R.length ∧ R[i]? = some r) ∨ (i = R.length ∧ r.l = l) := fun {i r} hr => by
          by_cases hi : i < R.length
          · rw [List.getElem?_append_left hi] at hr; exact .inl ⟨hi, hr⟩
          · rw [List.getElem?_append_right (by omega)] at hr
            have : i - R.length = 0 := by
              have := (List.getElem?_eq_some_iff.1 hr).1
              simp at this; omega
            rw [this] at hr
            have hr : (⟨l, L.length, Sl.nil⟩ : BR) = r := by simpa using hr
            subst hr
            exact .inr ⟨by omega, rfl⟩
        rcases old hr with ⟨hi, hr⟩ | ⟨hi, hr⟩ <;> rcases old hq with ⟨hj, hq⟩ | ⟨hj, hq⟩
        · exact h.d i j r q hr hq hij x hx hy
        · rw [hq] at hy
          exact hg x hy (h.gr r (List.mem_of_getElem? hr) x hx)
        · rw [hr] at hx
          exact hg x hx (h.gr q (List.mem_of_getElem? hq) x hy)
        · omega
      · exact ((kk26.trans k39 fun _ h => h.elim).trans k41 fun x hx => .inl (.inl (h.gl x hx))).trans k46 fun x hx => .inl (.inl (hx ▸ h.gb))
    · refine hQ H26 ls sz2 R (.inl rfl) (b26.wide (fun x hx => .inl hx) fun x hx => ?_) kk26
      rcases hx with hx | hx | hx
      · exact b26.glt x hx
      · have := li.lt hx; omega
      · omega
  | succ d ih =>
    intro i H' hi li k
    have hli : (List.replicate i (mkI R.length) ++ L.drop i).length = L.length := by simp; omega
    have gi : (List.replicate i (mkI R.length) ++ L.drop i)[i]? = some (L[i]'(by omega)) := by
      rw [List.getElem?_append_right (by simp), List.length_replicate, Nat.sub_self, List.getElem?_drop, Nat.add_zero]
      exact List.getElem?_eq_getElem (by omega)
    obtain ⟨b, hb, hs, hin, hz1, hz2, hst⟩ := li.set1 (i := i) (c := 0) (x := L[i]'(by omega)) (x' := mkI R.length) (v := .int .i64 (mkI R.length)) gi (by decide) rfl
    have ea : ((b.add (i * 1)).add 0) = b.add (((i : Int)).toNat * 1) := by rw [add_add]; rfl
    rw [ea] at hz1 hz2 hst
    refine hX _ _ ⟨fun _ => ⟨b, hb, by omega, by omega, hz1, hz2, fun H16 e16 => ?_⟩, fun hh => absurd (of_decide_eq_false hh) (by omega)⟩
    obtain ⟨l16, k16⟩ := hst H16 e16
    rw [wr (by omega) (by omega)]
    refine ih (i + 1) H16 (by omega) ?_ (k.trans k16 fun x hx => .inl hx)
    have : (List.replicate i (mkI R.length) ++ L.drop i).set i (mkI R.length) = List.replicate (i + 1) (mkI R.length) ++ L.drop (i + 1) := by
      rw [List.set_append, if_neg (by simp), List.length_replicate, Nat.sub_self, List.drop_eq_getElem_cons (show i < L.length by omega), List.set_cons_zero, List.replicate_succ']
      simp
    rwa [this] at l16
end
end Go.Hw
