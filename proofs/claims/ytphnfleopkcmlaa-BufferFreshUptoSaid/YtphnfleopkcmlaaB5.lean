/- Buffer: a run more (add). Own work of this session. -/
import Derived.Test.YtphnfleopkcmlaaB4
set_option linter.unusedVariables false
namespace Go.Hw
open Go

def Ext (G : Nat → Prop) (a z : Nat) : Nat → Prop := fun b => G b ∨ (a ≤ b ∧ b < z)
def rp (x : Option (Nat × Ch)) : Option Addr := x.map fun p => ⟨p.1, 0, none⟩
def ends (R : List (Option (Nat × Ch))) (n : Nat) : Nat := R.countP fun x => decide (x.map (·.2.hd.num) = some n)
/-- The least place without a run takes one. -/
def lay {α : Type} (R : List (Option α)) (p : α) : Nat × List (Option α) :=
  match idx R with
  | some i => (i, R.set i (some p))
  | none => (R.length, R ++ [some p])
theorem idx_map {α β : Type} (f : α → β) (R : List (Option α)) : idx (R.map (Option.map f)) = idx R := by
  induction R with
  | nil => rfl
  | cons x l ih => cases x <;> simp [idx, ih]
theorem lay_map {α β : Type} (f : α → β) (R : List (Option α)) (p : α) : lay (R.map (Option.map f)) (f p) = ((lay R p).1, (lay R p).2.map (Option.map f)) := by
  unfold lay
  rw [idx_map]
  cases idx R <;> simp
theorem lay_len {α : Type} (R : List (Option α)) (p : α) : (lay R p).2.length ≤ R.length + 1 := by
  unfold lay; cases idx R <;> simp
theorem lay_mem {α : Type} {R : List (Option α)} {p q : α} (h : some q ∈ (lay R p).2) : q = p ∨ some q ∈ R := by
  unfold lay at h
  cases hi : idx R with
  | none =>
    rw [hi] at h
    simp at h
    rcases h with h | h
    · exact .inr h
    · exact .inl h
  | some i =>
    rw [hi] at h
    rcases List.mem_or_eq_of_mem_set h with h | h
    · exact .inr h
    · injection h with h; exact .inl h

/-- What stands at each handle. -/
def fnOf {α : Type} (R : List (Option α)) : Nat → Option α := fun i => (R[i]?).join
def upd {α : Type} (f : Nat → Option α) (i : Nat) (x : Option α) : Nat → Option α := fun j => if j = i then x else f j
def IsLeast {α : Type} (f : Nat → Option α) (i : Nat) : Prop := f i = none ∧ ∀ j, j < i → f j ≠ none
theorem IsLeast.un {α : Type} {f : Nat → Option α} {i j : Nat} (h : IsLeast f i) (k : IsLeast f j) : i = j := by
  rcases Nat.lt_trichotomy i j with hl | rfl | hl
  · exact absurd h.1 (k.2 i hl)
  · rfl
  · exact absurd k.1 (h.2 j hl)
theorem lay_least {α : Type} (R : List (Option α)) (p : α) : IsLeast (fnOf R) (lay R p).1 ∧ fnOf (lay R p).2 = upd (fnOf R) (lay R p).1 (some p) := by
  unfold lay
  cases hi : idx R with
  | some i =>
    obtain ⟨h1, h2⟩ := idx_some hi
    have hlt := (List.getElem?_eq_some_iff.1 h1).1
    refine ⟨⟨by simp [fnOf, h1], fun j hj hh => ?_⟩, ?_⟩
    · obtain ⟨x, hx⟩ := h2 j hj
      simp [fnOf, hx] at hh
    · funext j
      simp only [fnOf, upd, List.getElem?_set]
      by_cases hj : j = i
      · subst hj; simp [hlt]
      · rw [if_neg (fun e => hj e.symm), if_neg hj]
  | none =>
    have h0 := idx_none.1 hi
    refine ⟨⟨by simp [fnOf], fun j hj hh => ?_⟩, ?_⟩
    · have hj : j < R.length := hj
      simp only [fnOf, List.getElem?_eq_getElem hj] at hh
      exact h0 _ (List.getElem_mem hj) hh
    · funext j
      simp only [fnOf, upd]
      by_cases hj : j = R.length
      · subst hj; simp
      · rw [if_neg hj]
        by_cases hl : j < R.length
        · rw [List.getElem?_append_left hl]
        · rw [List.getElem?_eq_none (by simp; omega), List.getElem?_eq_none (by omega)]

theorem countP_set {α : Type} (p : α → Bool) : ∀ (l : List α) (i : Nat) (x y : α), l[i]? = some y → (l.set i x).countP p + (if p y then 1 else 0) = l.countP p + (if p x then 1 else 0)
  | [], i, x, y, h => by simp at h
  | a :: l, 0, x, y, h => by
    have : a = y := by simpa using h
    subst this
    simp only [List.set_cons_zero, List.countP_cons]; omega
  | a :: l, i + 1, x, y, h => by
    have := countP_set p l i x y (by simpa using h)
    simp only [List.set_cons_succ, List.countP_cons]; omega
theorem ends_lay (R : List (Option (Nat × Ch))) (p : Nat × Ch) : ends (lay R p).2 = plus (ends R) (some p.2.hd.num) := by
  funext n
  unfold lay
  cases hi : idx R with
  | some i =>
    have h := countP_set (fun x : Option (Nat × Ch) => decide (x.map (·.2.hd.num) = some n)) R i (some p) none (idx_some hi).1
    simp [ends, plus] at *
    omega
  | none =>
    simp [ends, plus]

section
variable {F : Nat → Prop} {H : Hp} {g nb : Nat} {N : ML Mk (Option Nat)} {A : List Ch} {hl : Nat → Nat} {c : Ch} {stages raised : Value} {rs : Sl} {R : List (Option (Nat × Ch))} {Q : Int → Hp → Prop}

abbrev Run (F : Nat → Prop) (H : Hp) (p : Nat × Ch) : Prop := F p.1 ∧ Row H p.1 83 [.int .i64 p.2.hd.mark.1, .int .i64 p.2.hd.mark.2, Sl.v p.2.hd.sl]
def one1 (hl : Nat → Nat) (k : Nat) : Nat → Nat := fun n => if n = k then 1 else hl n

theorem c35_2 {mb : Nat} (r : Row H g 71 [stages, raised, .map (some nb), Sl.v rs]) (fg : F g) (h : WI F H nb N A (one1 hl c.hd.num)) (full : ∀ e ∈ N, e.1 = c.hd.mark ∨ ∃ c' ∈ A, c'.hd.mark = e.1) (hkey : c.hd.mark ∈ mkeys N)
    (new : ∀ c' ∈ A, c'.hd.num ≠ c.hd.num) (adn : ∀ c' ∈ A, c'.hd.ad ≠ c.hd.ad) (fw : F c.hd.ad) (hw : Row H c.hd.ad 79 (c.row 1))
    (hver : Lst iF H c.hd.sl c.hd.ver ∧ c.hd.ver.getLast? = some (c.hd.num : Int) ∧ c.hd.ver.length ≤ 16 ∧ ∀ b, c.hd.sl.at b → F b) (hm : Row H mb 32 [.int .i64 c.hd.mark.1, .int .i64 c.hd.mark.2])
    (rl : Lst pF H rs (R.map rp)) (rf : ∀ b, rs.at b → F b) (rlen : R.length ≤ 1048575) (rn : ∀ p, some p ∈ R → Run F H p)
    (hQ : ∀ H' rs' b, H.size ≤ b → b < H'.size → Row H' g 71 [stages, raised, .map (some nb), Sl.v rs'] → WI (Ext F H.size H'.size) H' nb N (c :: A) (one1 hl c.hd.num) → Full N (c :: A) → Lst pF H' rs' ((lay R (b, c)).2.map rp) → (∀ b, rs'.at b → Ext F H.size H'.size b) →
      (∀ p, some p ∈ (lay R (b, c)).2 → Run (Ext F H.size H'.size) H' p) → Kp F H H' → (∀ b l, Row H b 83 l → Row H' b 83 l) → Q (lay R (b, c)).1 H') :
    F35_2 Q (some ⟨g, 0, none⟩) c.hd.p ⟨mb, 0, none⟩ H := by
  obtain ⟨cm, hcm⟩ := h.cm
  obtain ⟨ib, I, ci, hg, hFi, hne, hI, hn, hin⟩ := h.atm hkey
  obtain ⟨hv, hlast, hvl, hvF⟩ := hver
  refine ⟨_, rfl, _, r.cell_of (i := 2) rfl, _, _, hm.all, N, cm, MapK.of hcm, _, rfl, c.hd.sl, hw.cell_of (i := 0) rfl, c45 hv.rd (by omega) hlast ⟨MapK.of hcm, hm.all, r.cell_of (i := 2) rfl, ib, I, ci, ?_, MapK.of hI, fun H77 e77 => ?_⟩⟩
  · show (mget N c.hd.mark).getD none = _
    rw [hg]; rfl
  obtain ⟨h77, k77⟩ := h.addI new adn fw (by simpa [one1] using hw) ⟨hv, hlast, hvl, hvF⟩ hg hne hI hn hin e77
  have nr := map_norow hI
  have r77 := k77.row r fun hh => nr _ _ _ hh r
  have m77 := k77.row hm fun hh => nr _ _ _ hh hm
  have w77 := k77.row hw fun hh => nr _ _ _ hh hw
  have l77 := rl.kp k77 fun b hb hh => (rl.row hb).elim fun _ hr => nr _ _ _ hh hr
  have s77 := size_seto' e77
  refine ⟨_, _, m77.all, _, rfl, c.hd.sl, w77.cell_of (i := 0) rfl, fun H91 e91 => ?_⟩
  have k91 : Kp No H77 H91 := (Kp.refl No _).push' e91
  have s91 := size_push' e91
  have p91 : Row H91 H77.size 83 [.int .i64 c.hd.mark.1, .int .i64 c.hd.mark.2, Sl.v c.hd.sl] := Row.new' e91
  have r91 := k91.row r77 id
  have m91 := k91.row m77 id
  have w91 := k91.row w77 id
  have h91 := h77.no k91
  have l91 := l77.kp k91 fun _ _ => id
  have kp91 : Kp F H H91 := (k77.mono fun _ _ hb => hb ▸ hFi).trans k91 fun _ hb => hb.elim
  have rn91 : ∀ p, some p ∈ R → Run F H91 p := fun p hp => ⟨(rn p hp).1, k91.row (k77.row (rn p hp).2 fun hh => nr _ _ _ hh (rn p hp).2) id⟩
  have kr91 : ∀ b l, Row H b 83 l → Row H91 b 83 l := fun b l hr => k91.row (k77.row hr fun hh => nr _ _ _ hh hr) id
  have full' : Full N (c :: A) := fun e he => by
    rcases full e he with he | ⟨c', h1, h2⟩
    · exact ⟨c, List.mem_cons_self, he.symm⟩
    · exact ⟨c', List.mem_cons_of_mem _ h1, h2⟩
  have hlt : ∀ b, F b → b < H.size := h.lt
  refine ⟨w91.cell_of (i := 0) rfl, m91.all, _, rfl, rs, r91.cell_of (i := 3) rfl, c46 l91.rd (fun x hx => ?_) (by simpa using (by omega : R.length ≤ 1048576)) (fun i hi => ?_) fun hi => ?_⟩
  · obtain ⟨y, hy, rfl⟩ := List.mem_map.1 hx
    cases y with
    | none => exact Plain.none
    | some p => exact (rn91 p hy).2.plain
  · have hi' : idx R = some i := (idx_map _ R).symm.trans hi
    obtain ⟨h1, h2⟩ := idx_some hi'
    have hil := (List.getElem?_eq_some_iff.1 h1).1
    refine ⟨fun _ => ?_, fun hh => absurd (of_decide_eq_false hh) (by omega)⟩
    obtain ⟨a, ha, hsa, hin', hc, hz, hset⟩ := l91.set1 (i := i) (c := 0) (x := rp none) (x' := some ⟨H77.size, 0, none⟩) (v := .pointer (some ⟨H77.size, 0, none⟩)) (by rw [List.getElem?_map, h1]; rfl) (by decide) rfl
    have ea : ((a.add (i * 1)).add 0) = a.add ((i : Int).toNat * 1) := by rw [add_add]; rfl
    rw [ea] at hc hz hset
    refine ⟨_, rfl, rs, r91.cell_of (i := 3) rfl, a, ha, by omega, by omega, hc, hz, fun H111 e111 => ?_⟩
    obtain ⟨l111, k111⟩ := hset H111 e111
    have kb : Kp (fun b => rs.at b) H91 H111 := k111
    have hnr : ∀ b t l, t ≠ 80 → Row H91 b t l → ¬ rs.at b := fun b t l hne hr hb => (l91.row hb).elim fun _ hr' => hr.ne_type hr' hne rfl
    have e : lay R (H77.size, c) = (i, R.set i (some (H77.size, c))) := by unfold lay; rw [hi']
    have hs := k111.size
    have hs' : H111.size = H91.size := size_set' e111
    have := hQ H111 rs H77.size (by omega) (by omega)
    rw [e] at this
    refine this (k111.row r91 (hnr _ _ _ (by decide) r91)) ?_ full' ?_ (fun b hb => .inl (rf b hb)) (fun p hp => ?_) (kp91.trans k111 fun b hb => .inl (rf b hb)) (fun b l hr => k111.row (kr91 b l hr) (hnr _ _ _ (by decide) (kr91 b l hr)))
    · have h111 : WI F H111 nb N (c :: A) (one1 hl c.hd.num) := by
        refine ⟨h91.fn, h91.cm.imp fun c m => m.kp k111 fun hb => (l91.row hb).elim fun _ hr => m.ne hr rfl, h91.nk, fun e he => ?_, h91.sep, h91.all, fun c hc => ?_, fun c hc => ?_, h91.adn, fun b hb => Nat.lt_of_lt_of_le (h91.lt b hb) hs⟩
        · obtain ⟨ib, I, c, h1, h2, h3, h4, h5⟩ := h91.inn e he
          exact ⟨ib, I, c, h1, h2, h3, h4.kp k111 fun hb => (l91.row hb).elim fun _ hr => h4.ne hr rfl, h5⟩
        · exact ⟨(h91.row c hc).1, k111.row (h91.row c hc).2 (hnr _ _ _ (by decide) (h91.row c hc).2)⟩
        · obtain ⟨h1, h2⟩ := h91.ver c hc
          exact ⟨h1.kp k111 fun b hb => (h1.row hb).elim fun _ hr => hnr _ _ _ (by decide) hr, h2⟩
      refine h111.mono (fun b hb => .inl hb) fun b hb => ?_
      rcases hb with hb | hb
      · have := hlt b hb; omega
      · omega
    · show Lst pF H111 rs ((R.set i (some (H77.size, c))).map rp)
      rw [List.map_set]; exact l111
    · rcases List.mem_or_eq_of_mem_set hp with hp | hp
      · exact ⟨.inl (rn91 p hp).1, k111.row (rn91 p hp).2 (hnr _ _ _ (by decide) (rn91 p hp).2)⟩
      · injection hp with hp
        subst hp
        exact ⟨.inr ⟨by show H.size ≤ H77.size; omega, by show H77.size < _; omega⟩, k111.row p91 (hnr _ _ _ (by decide) p91)⟩
  · have hi' : idx R = none := (idx_map _ R).symm.trans hi
    refine ⟨fun hh => absurd (of_decide_eq_true hh) (by decide), fun _ => ⟨_, rfl, rs, r91.cell_of (i := 3) rfl, fun H119 e119 => ?_⟩⟩
    have k119 : Kp No H91 H119 := (Kp.refl No _).push' e119
    have s119 := size_push' e119
    have b119 : Row H119 H91.size 80 (pF.f (some ⟨H77.size, 0, none⟩)) := Row.new' e119
    have r119 := k119.row r91 id
    have l119 := l91.kp k119 fun _ _ => id
    have hlen : (R.map rp).length = R.length := List.length_map ..
    refine l119.append1 b119 rfl (by omega) (by omega) fun r123 H121 l121 k121 hs121 => ?_
    have hnr : ∀ b t l, t ≠ 80 → Row H119 b t l → ¬ rs.at b := fun b t l hne hr hb => (l119.row hb).elim fun _ hr' => hr.ne_type hr' hne rfl
    have r121 := k121.row r119 (hnr _ _ _ (by decide) r119)
    have s121 := k121.size
    refine ⟨_, rfl, r121.some (i := 3) (by simp), r121.frz 3, fun H126 e126 => ?_⟩
    have r126 : Row H126 g 71 [stages, raised, .map (some nb), Sl.v r123] := r121.set' (i := 3) e126
    have k126 : Kp (fun b => b = g) H121 H126 := (Kp.refl _ _).set' e126 (.inl rfl)
    have s126 : H126.size = H121.size := size_set' e126
    refine ⟨_, rfl, r123, r126.cell_of (i := 3) rfl, ?_⟩
    have hn := l121.n
    rw [List.length_append, hlen, List.length_singleton] at hn
    have ew : IntKind.i64.wrap ((r123.n : Int) - 1) = (R.length : Int) := by rw [wr (by omega) (by omega)]; omega
    rw [ew]
    have e : lay R (H77.size, c) = (R.length, R ++ [some (H77.size, c)]) := by unfold lay; rw [hi']
    have kt : Kp (fun b => rs.at b ∨ b = g) H91 H126 := ((k119.mono fun _ _ h => h.elim).trans k121 fun b hb => .inl (.inl hb)).trans k126 fun b hb => .inl (.inr hb)
    have hnr' : ∀ b t l, t ≠ 80 → t ≠ 71 → Row H91 b t l → ¬ (rs.at b ∨ b = g) := fun b t l hne hne' hr hb => by
      rcases hb with hb | hb
      · exact (l91.row hb).elim fun _ hr' => hr.ne_type hr' hne rfl
      · exact hr.ne_type r91 hne' hb
    have hnm : ∀ {κ ν : Type} {f : κ → Value} {g' : ν → Value} {L : ML κ ν} {x c : Nat}, mapAt f g' H91 (some x) L c → ¬ (rs.at x ∨ x = g) := fun m hb => by
      rcases hb with hb | hb
      · exact (l91.row hb).elim fun _ hr => m.ne hr rfl
      · exact m.ne r91 hb
    have hs := kt.size
    have := hQ H126 r123 H77.size (by omega) (by omega)
    rw [e] at this
    refine this r126 ?_ full' ?_ (fun b hb => ?_) (fun p hp => ?_) (kp91.trans kt fun b hb => .inl (by rcases hb with hb | hb; exact rf b hb; exact hb ▸ fg)) (fun b l hr => kt.row (kr91 b l hr) (hnr' _ _ _ (by decide) (by decide) (kr91 b l hr)))
    · have h126 : WI F H126 nb N (c :: A) (one1 hl c.hd.num) := by
        refine ⟨h91.fn, h91.cm.imp fun c m => m.kp kt (hnm m), h91.nk, fun e he => ?_, h91.sep, h91.all, fun c hc => ?_, fun c hc => ?_, h91.adn, fun b hb => Nat.lt_of_lt_of_le (h91.lt b hb) hs⟩
        · obtain ⟨ib, I, c, h1, h2, h3, h4, h5⟩ := h91.inn e he
          exact ⟨ib, I, c, h1, h2, h3, h4.kp kt (hnm h4), h5⟩
        · exact ⟨(h91.row c hc).1, kt.row (h91.row c hc).2 (hnr' _ _ _ (by decide) (by decide) (h91.row c hc).2)⟩
        · obtain ⟨h1, h2⟩ := h91.ver c hc
          exact ⟨h1.kp kt fun b hb => (h1.row hb).elim fun _ hr => hnr' _ _ _ (by decide) (by decide) hr, h2⟩
      refine h126.mono (fun b hb => .inl hb) fun b hb => ?_
      rcases hb with hb | hb
      · have := hlt b hb; omega
      · omega
    · have := l121.kp k126 fun b hb hh => (l121.row hb).elim fun _ hr => hr.ne_type r121 (by decide) hh
      simpa [rp] using this
    · have hlt' := l121.lt hb
      rcases hs121 b hb with hb | hb
      · exact .inl (rf b hb)
      · exact .inr ⟨by omega, by omega⟩
    · have hp : some p ∈ R ∨ p = (H77.size, c) := by simpa using hp
      rcases hp with hp | hp
      · exact ⟨.inl (rn91 p hp).1, kt.row (rn91 p hp).2 (hnr' _ _ _ (by decide) (by decide) (rn91 p hp).2)⟩
      · subst hp
        exact ⟨.inr ⟨by show H.size ≤ H77.size; omega, by show H77.size < _; omega⟩, kt.row p91 (hnr' _ _ _ (by decide) (by decide) p91)⟩
end
end Go.Hw
