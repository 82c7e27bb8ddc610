/- Runs and paths asked for twice behind each step; all lists left as they are. Own work of this session. -/
import Derived.Test.YtphnfleopkcmlaaK4
set_option linter.unusedVariables false
namespace Go.Hw
open Go

theorem Lst.ty {α : Type} {t k : Nat} {F : Fmt α t k} {H H' : Hp} {S : Nat → Prop} {s : Sl} {L : List α} (h : Lst F H s L) (kp : Kp S H H') (hs : ∀ x, S x → x < H.size → ∃ u l, Row H x u l ∧ u ≠ t) : Lst F H' s L :=
  h.kp kp fun x hx hh => by
    obtain ⟨u, l, hr, hu⟩ := hs x hh (h.lt hx)
    exact (h.row hx).elim fun _ hr' => hr.ne_type hr' hu rfl

theorem c22a {F : Nat → Prop} {H : Hp} {g n : Nat} {st : Int} {f : Fn} {i : Int} {Q : Sl → Int → Hp → Prop} (h : BI F H g st n f) (hn : n ≤ 1000000) (hQ : ∀ H' r e L, Lst mF H' r L → L.length ≤ n + 1 → (∀ b, r.at b → H.size ≤ b) → Kp No H H' → Q r e H') : F22 (some ⟨g, 0, none⟩) i H Q :=
  c22 h hn (fun _ => hQ H _ _ [] (Lst.nil _ _) (Nat.zero_le _) (fun b hb => by cases hb) (Kp.refl _ _)) fun l hl hll H' r lr hr k => hQ H' r 0 _ lr (by simpa using hll) hr k

structure UW (H0 H : Hp) (g n : Nat) (F : Nat → Prop) (PS : List (PP Mk)) (QS : List (PP Int)) (y5 y6 y7 y8 : Sl) (A5 A6 A7 A8 : List Sl) : Prop where
  bi : ∃ st f, BI F H g st n f
  lo : ∀ x, F x → H0.size ≤ x
  hP : Rst mF H H0.size F PS
  hQ : Rst iF H H0.size F QS
  l5 : Lst s41 H y5 A5
  l6 : Lst s41 H y6 A6
  l7 : Lst s50 H y7 A7
  l8 : Lst s50 H y8 A8
  r : ∀ x, y5.at x ∨ y6.at x ∨ y7.at x ∨ y8.at x → H0.size ≤ x ∧ ¬ F x
  d56 : ∀ x, y5.at x → ¬ y6.at x
  d78 : ∀ x, y7.at x → ¬ y8.at x
  kp : Kp No H0 H

section
variable {H0 H H1 H' : Hp} {g n n' : Nat} {F F' : Nat → Prop} {PS : List (PP Mk)} {QS : List (PP Int)} {y5 y6 y7 y8 r : Sl} {A5 A6 A7 A8 : List Sl} {x : Sl}
theorem UW.op (w : UW H0 H g n F PS QS y5 y6 y7 y8 A5 A6 A7 A8) (b' : ∃ st f, BI F' H' g st n' f) (hF : ∀ x, F' x → Ext F H.size H'.size x) (k : Kp F H H') : UW H0 H' g n' F' PS QS y5 y6 y7 y8 A5 A6 A7 A8 := by
  have hs := w.kp.size
  have nF : ∀ x, F' x → x < H.size → F x := fun x hx hl => by
    rcases hF x hx with h | h
    · exact h
    · omega
  refine ⟨b', fun x hx => ?_, w.hP.kp k (fun x hx p hp hh => (w.hP.g p hp x hh).2 hx) nF, w.hQ.kp k (fun x hx p hp hh => (w.hQ.g p hp x hh).2 hx) nF, w.l5.kp k fun x hx => (w.r x (.inl hx)).2, w.l6.kp k fun x hx => (w.r x (.inr (.inl hx))).2, w.l7.kp k fun x hx => (w.r x (.inr (.inr (.inl hx)))).2, w.l8.kp k fun x hx => (w.r x (.inr (.inr (.inr hx)))).2,
    fun x hx => ⟨(w.r x hx).1, fun hh => (w.r x hx).2 (nF x hh ?_)⟩, w.d56, w.d78, w.kp.trans k fun x hx => .inr (w.lo x hx)⟩
  · rcases hF x hx with h | h
    · exact w.lo x h
    · omega
  · rcases hx with h | h | h | h
    · exact w.l5.lt h
    · exact w.l6.lt h
    · exact w.l7.lt h
    · exact w.l8.lt h
theorem UW.no (w : UW H0 H g n F PS QS y5 y6 y7 y8 A5 A6 A7 A8) (k : Kp No H H') : UW H0 H' g n F PS QS y5 y6 y7 y8 A5 A6 A7 A8 := by
  obtain ⟨st, f, b⟩ := w.bi
  exact w.op ⟨st, f, b.kp k fun _ _ => id⟩ (fun _ h => .inl h) (k.dec fun _ h => h.elim)
theorem UW.more (w : UW H0 H g n F PS QS y5 y6 y7 y8 A5 A6 A7 A8) (hn : n ≤ n') : UW H0 H g n' F PS QS y5 y6 y7 y8 A5 A6 A7 A8 := by
  obtain ⟨st, f, b⟩ := w.bi
  exact w.op ⟨st, f, b.more hn⟩ (fun _ h => .inl h) (Kp.refl _ _)

theorem UW.app5 (w : UW H0 H g n F PS QS y5 y6 y7 y8 A5 A6 A7 A8) (k1 : Kp No H H1) (l : Lst s41 H' r (A5 ++ [x])) (k : Kp y5.at H1 H') (hr : ∀ b, r.at b → y5.at b ∨ b = H1.size) : UW H0 H' g n F PS QS r y6 y7 y8 (A5 ++ [x]) A6 A7 A8 := by
  have w1 := w.no k1
  obtain ⟨st, f, b⟩ := w1.bi
  have hs := w1.kp.size
  have tyr : ∀ x, y5.at x → ∀ {t : Nat}, 41 ≠ t → ∃ u l, Row H1 x u l ∧ u ≠ t := fun x hx {t} ht => (w1.l5.row hx).elim fun _ h => ⟨_, _, h, ht⟩
  refine ⟨⟨st, f, b.kp k fun x hx hh => (w1.r x (.inl hh)).2 hx⟩, w1.lo, w1.hP.ty k fun x hx _ => tyr x hx (by decide), w1.hQ.ty k fun x hx _ => tyr x hx (by decide), l, w1.l6.kp k fun x hx hh => w1.d56 x hh hx, w1.l7.ty k fun x hx _ => tyr x hx (by decide), w1.l8.ty k fun x hx _ => tyr x hx (by decide), fun x hx => ?_, fun x hx hy => by
    rcases hr x hx with h | h
    · exact w1.d56 x h hy
    · have := w1.l6.lt hy; omega, w1.d78, w1.kp.trans k fun x hx => .inr (w1.r x (.inl hx)).1⟩
  rcases hx with h | h | h | h
  · rcases hr x h with h | h
    · exact w1.r x (.inl h)
    · exact ⟨by omega, fun hf => by have := b.lt x hf; omega⟩
  · exact w1.r x (.inr (.inl h))
  · exact w1.r x (.inr (.inr (.inl h)))
  · exact w1.r x (.inr (.inr (.inr h)))

theorem UW.app6 (w : UW H0 H g n F PS QS y5 y6 y7 y8 A5 A6 A7 A8) (k1 : Kp No H H1) (l : Lst s41 H' r (A6 ++ [x])) (k : Kp y6.at H1 H') (hr : ∀ b, r.at b → y6.at b ∨ b = H1.size) : UW H0 H' g n F PS QS y5 r y7 y8 A5 (A6 ++ [x]) A7 A8 := by
  have w1 := w.no k1
  obtain ⟨st, f, b⟩ := w1.bi
  have hs := w1.kp.size
  have tyr : ∀ x, y6.at x → ∀ {t : Nat}, 41 ≠ t → ∃ u l, Row H1 x u l ∧ u ≠ t := fun x hx {t} ht => (w1.l6.row hx).elim fun _ h => ⟨_, _, h, ht⟩
  refine ⟨⟨st, f, b.kp k fun x hx hh => (w1.r x (.inr (.inl hh))).2 hx⟩, w1.lo, w1.hP.ty k fun x hx _ => tyr x hx (by decide), w1.hQ.ty k fun x hx _ => tyr x hx (by decide), w1.l5.kp k fun x hx hh => w1.d56 x hx hh, l, w1.l7.ty k fun x hx _ => tyr x hx (by decide), w1.l8.ty k fun x hx _ => tyr x hx (by decide), fun x hx => ?_, fun x hx hy => by
    rcases hr x hy with h | h
    · exact w1.d56 x hx h
    · have := w1.l5.lt hx; omega, w1.d78, w1.kp.trans k fun x hx => .inr (w1.r x (.inr (.inl hx))).1⟩
  rcases hx with h | h | h | h
  · exact w1.r x (.inl h)
  · rcases hr x h with h | h
    · exact w1.r x (.inr (.inl h))
    · exact ⟨by omega, fun hf => by have := b.lt x hf; omega⟩
  · exact w1.r x (.inr (.inr (.inl h)))
  · exact w1.r x (.inr (.inr (.inr h)))

theorem UW.app7 (w : UW H0 H g n F PS QS y5 y6 y7 y8 A5 A6 A7 A8) (k1 : Kp No H H1) (l : Lst s50 H' r (A7 ++ [x])) (k : Kp y7.at H1 H') (hr : ∀ b, r.at b → y7.at b ∨ b = H1.size) : UW H0 H' g n F PS QS y5 y6 r y8 A5 A6 (A7 ++ [x]) A8 := by
  have w1 := w.no k1
  obtain ⟨st, f, b⟩ := w1.bi
  have hs := w1.kp.size
  have tyr : ∀ x, y7.at x → ∀ {t : Nat}, 50 ≠ t → ∃ u l, Row H1 x u l ∧ u ≠ t := fun x hx {t} ht => (w1.l7.row hx).elim fun _ h => ⟨_, _, h, ht⟩
  refine ⟨⟨st, f, b.kp k fun x hx hh => (w1.r x (.inr (.inr (.inl hh)))).2 hx⟩, w1.lo, w1.hP.ty k fun x hx _ => tyr x hx (by decide), w1.hQ.ty k fun x hx _ => tyr x hx (by decide), w1.l5.ty k fun x hx _ => tyr x hx (by decide), w1.l6.ty k fun x hx _ => tyr x hx (by decide), l, w1.l8.kp k fun x hx hh => w1.d78 x hh hx, fun x hx => ?_, w1.d56, fun x hx hy => by
    rcases hr x hx with h | h
    · exact w1.d78 x h hy
    · have := w1.l8.lt hy; omega, w1.kp.trans k fun x hx => .inr (w1.r x (.inr (.inr (.inl hx)))).1⟩
  rcases hx with h | h | h | h
  · exact w1.r x (.inl h)
  · exact w1.r x (.inr (.inl h))
  · rcases hr x h with h | h
    · exact w1.r x (.inr (.inr (.inl h)))
    · exact ⟨by omega, fun hf => by have := b.lt x hf; omega⟩
  · exact w1.r x (.inr (.inr (.inr h)))

theorem UW.app8 (w : UW H0 H g n F PS QS y5 y6 y7 y8 A5 A6 A7 A8) (k1 : Kp No H H1) (l : Lst s50 H' r (A8 ++ [x])) (k : Kp y8.at H1 H') (hr : ∀ b, r.at b → y8.at b ∨ b = H1.size) : UW H0 H' g n F PS QS y5 y6 y7 r A5 A6 A7 (A8 ++ [x]) := by
  have w1 := w.no k1
  obtain ⟨st, f, b⟩ := w1.bi
  have hs := w1.kp.size
  have tyr : ∀ x, y8.at x → ∀ {t : Nat}, 50 ≠ t → ∃ u l, Row H1 x u l ∧ u ≠ t := fun x hx {t} ht => (w1.l8.row hx).elim fun _ h => ⟨_, _, h, ht⟩
  refine ⟨⟨st, f, b.kp k fun x hx hh => (w1.r x (.inr (.inr (.inr hh)))).2 hx⟩, w1.lo, w1.hP.ty k fun x hx _ => tyr x hx (by decide), w1.hQ.ty k fun x hx _ => tyr x hx (by decide), w1.l5.ty k fun x hx _ => tyr x hx (by decide), w1.l6.ty k fun x hx _ => tyr x hx (by decide), w1.l7.kp k fun x hx hh => w1.d78 x hx hh, l, fun x hx => ?_, w1.d56, fun x hx hy => by
    rcases hr x hy with h | h
    · exact w1.d78 x hx h
    · have := w1.l7.lt hx; omega, w1.kp.trans k fun x hx => .inr (w1.r x (.inr (.inr (.inr hx)))).1⟩
  rcases hx with h | h | h | h
  · exact w1.r x (.inl h)
  · exact w1.r x (.inr (.inl h))
  · exact w1.r x (.inr (.inr (.inl h)))
  · rcases hr x h with h | h
    · exact w1.r x (.inr (.inr (.inr h)))
    · exact ⟨by omega, fun hf => by have := b.lt x hf; omega⟩

theorem UW.old (w : UW H0 H g n F PS QS y5 y6 y7 y8 A5 A6 A7 A8) : (∀ p ∈ PS, ∀ x, p.a.at x ∨ p.b.at x → x < H.size) ∧ (∀ p ∈ QS, ∀ x, p.a.at x ∨ p.b.at x → x < H.size) ∧ ∀ x, F x → x < H.size := by
  obtain ⟨st, f, b⟩ := w.bi
  exact ⟨w.hP.lt, w.hQ.lt, b.lt⟩
/-- The new pairs are put to the others. -/
theorem UW.addQ {q : PP Int} {h0 : Nat} (w : UW H0 H g n F PS QS y5 y6 y7 y8 A5 A6 A7 A8) (he : Lst iF H q.a q.L ∧ Lst iF H q.b q.L ∧ q.L.length ≤ 2000000) (hold : ∀ p ∈ QS, ∀ x, p.a.at x ∨ p.b.at x → x < h0) (hF : ∀ x, F x → x < h0) (hlo : H0.size ≤ h0) (ha : ∀ x, q.a.at x ∨ q.b.at x → h0 ≤ x) (hd : ∀ x, q.a.at x → ¬ q.b.at x) : UW H0 H g n F PS (QS ++ [q]) y5 y6 y7 y8 A5 A6 A7 A8 :=
  ⟨w.bi, w.lo, w.hP, w.hQ.add he (fun x hx => ⟨by have := ha x hx; omega, fun hh => by have := ha x hx; have := hF x hh; omega⟩) (fun p hp x hx => ⟨fun hh => by have := ha x (.inl hh); have := hold p hp x hx; omega, fun _ hh => by have := ha x (.inr hh); have := hold p hp x hx; omega⟩) hd, w.l5, w.l6, w.l7, w.l8, w.r, w.d56, w.d78, w.kp⟩
theorem UW.addP {q : PP Mk} {h0 : Nat} (w : UW H0 H g n F PS QS y5 y6 y7 y8 A5 A6 A7 A8) (he : Lst mF H q.a q.L ∧ Lst mF H q.b q.L ∧ q.L.length ≤ 2000000) (hold : ∀ p ∈ PS, ∀ x, p.a.at x ∨ p.b.at x → ¬ q.a.at x ∧ (p.a.at x → ¬ q.b.at x)) (hF : ∀ x, F x → x < h0) (hlo : H0.size ≤ h0) (ha : ∀ x, q.a.at x ∨ q.b.at x → h0 ≤ x) (hd : ∀ x, q.a.at x → ¬ q.b.at x) : UW H0 H g n F (PS ++ [q]) QS y5 y6 y7 y8 A5 A6 A7 A8 :=
  ⟨w.bi, w.lo, w.hP.add he (fun x hx => ⟨by have := ha x hx; omega, fun hh => by have := ha x hx; have := hF x hh; omega⟩) hold hd, w.hQ, w.l5, w.l6, w.l7, w.l8, w.r, w.d56, w.d78, w.kp⟩

/-- Asked once. -/
theorem c24_half {Q : Bool → Hp → Prop} {X2 : Sl → Sl → Sl → Sl → Int → Int → Hp → Prop} {X5 : Sl → Sl → Sl → Sl → Int → Int → Hp → Prop} {ssl : Sl} {i tot kk : Int} {bx : Nat} {o : OP5} (w : UW H0 H g n F PS QS y5 y6 y7 y8 (PS.map (·.a)) (PS.map (·.b)) (QS.map (·.a)) (QS.map (·.b))) (hb : Row H bx 34 (oF.f o)) (hn : n ≤ 1000000) (hp : PS.length ≤ 2000000) (hq : QS.length ≤ 2000000) (hk : kk = 0 ∨ kk = 1)
    (hX : ∀ H' PS' QS' z5 z6 z7 z8 tot', UW H0 H' g n F PS' QS' z5 z6 z7 z8 (PS'.map (·.a)) (PS'.map (·.b)) (QS'.map (·.a)) (QS'.map (·.b)) → Row H' bx 34 (oF.f o) → PS'.length = PS.length + 2 → QS'.length = QS.length + 1 → X5 z5 z6 z7 z8 tot' (kk + 1) H') : F24_L5b Q X2 X5 ssl (some ⟨g, 0, none⟩) i ⟨bx, 0, none⟩ y5 y6 y7 y8 tot kk H := by
  obtain ⟨st, f, b⟩ := w.bi
  obtain ⟨oldP, oldQ, oldF⟩ := w.old
  have hsz := w.kp.size
  refine ⟨fun _ => c21 b hn fun H80 r82 l82 a82 k80 => fun H83 e83 => ?_, fun hh => absurd (of_decide_eq_false hh) (by omega)⟩
  have s80 := k80.size
  have rlen := runsOf_len f n
  have k83 : Kp No H80 H83 := (Kp.refl No _).push' e83
  have s83 := size_push' e83
  have x83 : Row H83 H80.size 50 (s50.f r82) := Row.new' e83
  have w80 := w.no k80
  refine (w80.l7.kp k83 fun _ _ => id).append1 x83 rfl (by simp; omega) (by simp; omega) fun r87 H85 l87 k85 hs85 => ?_
  have s85 := k85.size
  have ty7 : ∀ x, y7.at x → ∀ {t : Nat}, 50 ≠ t → ∃ u l, Row H83 x u l ∧ u ≠ t := fun x hx {t} ht => ((w80.l7.kp k83 fun _ _ => id).row hx).elim fun _ h => ⟨_, _, h, ht⟩
  have w85 := w80.app7 k83 l87 k85 hs85
  have hb80 := k80.row hb id
  have keep34 : ∀ {Ha Hb : Hp} {s : Sl} {u : Nat} {F : Fmt Sl u 1} {L : List Sl}, Lst F Ha s L → u ≠ 34 → Row Ha bx 34 (oF.f o) → Kp s.at Ha Hb → Row Hb bx 34 (oF.f o) := fun {Ha Hb s u F L} hs hu hr k => k.row hr fun hh => (hs.row hh).elim fun _ h => h.ne_type hr hu rfl
  have hb85 : Row H85 bx 34 (oF.f o) := keep34 (w80.l7.kp k83 fun _ _ => id) (by decide) (k83.row hb80 id) k85
  have l82' : Lst iF H85 r82 (ints (runsOf f n)) := (l82.kp k83 fun _ _ => id).ty k85 fun x hx _ => ty7 x hx (by decide)
  have hil : (ints (runsOf f n)).length ≤ 1000000 := by simp [ints]; omega
  -- its copy
  refine (Lst.nil iF H85).append (xs := r82) l82'.rd rfl (by simp; omega) (by simp; omega) fun r90 H88 l90 k88 hs88 => fun H91 e91 => ?_
  rw [List.nil_append] at l90
  have k88' : Kp No H85 H88 := k88.dec fun x hx => by cases hx
  have s88 := k88.size
  have at90 : ∀ x, r90.at x → x = H85.size := fun x hx => by
    rcases hs88 x hx with h | h
    · cases h
    · exact h
  have k91 : Kp No H88 H91 := (Kp.refl No _).push' e91
  have s91 := size_push' e91
  have x91 : Row H91 H88.size 50 (s50.f r90) := Row.new' e91
  have w88 := w85.no k88'
  refine (w88.l8.kp k91 fun _ _ => id).append1 x91 rfl (by simp; omega) (by simp; omega) fun r95 H93 l95 k93 hs93 => ?_
  have s93 := k93.size
  have ty8 : ∀ x, y8.at x → ∀ {t : Nat}, 50 ≠ t → ∃ u l, Row H91 x u l ∧ u ≠ t := fun x hx {t} ht => ((w88.l8.kp k91 fun _ _ => id).row hx).elim fun _ h => ⟨_, _, h, ht⟩
  have w93 := w88.app8 k91 l95 k93 hs93
  have hb93 : Row H93 bx 34 (oF.f o) := keep34 (w88.l8.kp k91 fun _ _ => id) (by decide) (k91.row (k88'.row hb85 id) id) k93
  have l82'' : Lst iF H93 r82 (ints (runsOf f n)) := (((l82'.kp k88' fun _ _ => id).kp k91 fun _ _ => id)).ty k93 fun x hx _ => ty8 x hx (by decide)
  have l90' : Lst iF H93 r90 (ints (runsOf f n)) := (l90.kp k91 fun _ _ => id).ty k93 fun x hx _ => ty8 x hx (by decide)
  have lt82 : ∀ x, r82.at x → x < H85.size := fun x hx => l82'.lt hx
  have wq : UW H0 H93 g n F PS (QS ++ [⟨r82, r90, ints (runsOf f n)⟩]) y5 y6 r87 r95 (PS.map (·.a)) (PS.map (·.b)) (QS.map (·.a) ++ [r82]) (QS.map (·.b) ++ [r90]) :=
    w93.addQ (h0 := H.size) ⟨l82'', l90', Nat.le_trans hil (by decide)⟩ oldQ oldF hsz (fun x hx => by
      rcases hx with hx | hx
      · exact a82 x hx
      · have := at90 x hx; omega) fun x hx hy => by
      have := lt82 x hx
      have := at90 x hy
      omega
  -- two paths
  have paths : ∀ run : Int, F24_6 Q X2 X5 ssl (some ⟨g, 0, none⟩) y5 y6 r87 r95 (IntKind.i64.wrap (IntKind.i64.wrap (tot + (r82.n : Int)) + 30)) i ⟨bx, 0, none⟩ kk run H93 := by
    intro run
    obtain ⟨st2, f2, b93⟩ := wq.bi
    refine c22a b93 hn fun H116 r118 e118 L1 l118 ll1 a118 k116 => ?_
    have w116 := wq.no k116
    have hb116 := k116.row hb93 id
    have s116 := k116.size
    obtain ⟨st3, f3, b116⟩ := w116.bi
    refine ⟨o.run, hb116.cell_of (i := 2) rfl, c22a b116 hn fun H122 r124 e124 L2 l124 ll2 a124 k122 => fun H126 e126 => ?_⟩
    have w122 := w116.no k122
    have hb122 := k122.row hb116 id
    have s122 := k122.size
    have k126 : Kp No H122 H126 := (Kp.refl No _).push' e126
    have s126 := size_push' e126
    have x126 : Row H126 H122.size 41 ([r118, r124].flatMap s41.f) := Row.new' e126
    have l118b := l118.kp k122 fun _ _ => id
    refine (w122.l5.kp k126 fun _ _ => id).append (xs := Sl.mk (some ⟨H122.size, 0, none⟩) 2 2) (M := [r118, r124]) (Row.rdl x126 rfl 2) rfl (by simp; omega) (by simp; omega) fun r130 H128 l130 k128 hs128 => ?_
    have s128 := k128.size
    have ty5 : ∀ x, y5.at x → ∀ {t : Nat}, 41 ≠ t → ∃ u l, Row H126 x u l ∧ u ≠ t := fun x hx {t} ht => ((w122.l5.kp k126 fun _ _ => id).row hx).elim fun _ h => ⟨_, _, h, ht⟩
    have e1 : PS.map (·.a) ++ [r118, r124] = (PS.map (·.a) ++ [r118]) ++ [r124] := by simp
    have w128 : UW H0 H128 g n F PS (QS ++ [⟨r82, r90, ints (runsOf f n)⟩]) r130 y6 r87 r95 (PS.map (·.a) ++ [r118, r124]) (PS.map (·.b)) (QS.map (·.a) ++ [r82]) (QS.map (·.b) ++ [r90]) := by
      have w1 := w122.no k126
      obtain ⟨st, f, b1⟩ := w1.bi
      have hs := w1.kp.size
      exact ⟨⟨st, f, b1.kp k128 fun x hx hh => (w1.r x (.inl hh)).2 hx⟩, w1.lo, w1.hP.ty k128 fun x hx _ => ty5 x hx (by decide), w1.hQ.ty k128 fun x hx _ => ty5 x hx (by decide), l130, w1.l6.kp k128 fun x hx hh => w1.d56 x hh hx, w1.l7.ty k128 fun x hx _ => ty5 x hx (by decide), w1.l8.ty k128 fun x hx _ => ty5 x hx (by decide),
        fun x hx => by
          rcases hx with h | h | h | h
          · rcases hs128 x h with h | h
            · exact w1.r x (.inl h)
            · exact ⟨by omega, fun hf => by have := b1.lt x hf; omega⟩
          · exact w1.r x (.inr (.inl h))
          · exact w1.r x (.inr (.inr (.inl h)))
          · exact w1.r x (.inr (.inr (.inr h))), fun x hx hy => by
          rcases hs128 x hx with h | h
          · exact w1.d56 x h hy
          · have := w1.l6.lt hy; omega, w1.d78, w1.kp.trans k128 fun x hx => .inr (w1.r x (.inl hx)).1⟩
    have hb128 : Row H128 bx 34 (oF.f o) := keep34 (w122.l5.kp k126 fun _ _ => id) (by decide) (k126.row hb122 id) k128
    have l118c : Lst mF H128 r118 L1 := (l118b.kp k126 fun _ _ => id).ty k128 fun x hx _ => ty5 x hx (by decide)
    have l124c : Lst mF H128 r124 L2 := (l124.kp k126 fun _ _ => id).ty k128 fun x hx _ => ty5 x hx (by decide)
    refine (Lst.nil mF H128).append (xs := r118) l118c.rd rfl (by simp; omega) (by simp; omega) fun r133 H131 l133 k131 hs131 => ?_
    rw [List.nil_append] at l133
    have k131' : Kp No H128 H131 := k131.dec fun x hx => by cases hx
    have s131 := k131.size
    have at133 : ∀ x, r133.at x → x = H128.size := fun x hx => by
      rcases hs131 x hx with h | h
      · cases h
      · exact h
    have l124d := l124c.kp k131' fun _ _ => id
    refine (Lst.nil mF H131).append (xs := r124) l124d.rd rfl (by simp; omega) (by simp; omega) fun r136 H134 l136 k134 hs134 => fun H137 e137 => ?_
    rw [List.nil_append] at l136
    have k134' : Kp No H131 H134 := k134.dec fun x hx => by cases hx
    have s134 := k134.size
    have at136 : ∀ x, r136.at x → x = H131.size := fun x hx => by
      rcases hs134 x hx with h | h
      · cases h
      · exact h
    have k137 : Kp No H134 H137 := (Kp.refl No _).push' e137
    have s137 := size_push' e137
    have x137 : Row H137 H134.size 41 ([r133, r136].flatMap s41.f) := Row.new' e137
    have w134 := (w128.no k131').no k134'
    have hb134 := k134'.row (k131'.row hb128 id) id
    refine (w134.l6.kp k137 fun _ _ => id).append (xs := Sl.mk (some ⟨H134.size, 0, none⟩) 2 2) (M := [r133, r136]) (Row.rdl x137 rfl 2) rfl (by simp; omega) (by simp; omega) fun r141 H139 l141 k139 hs139 => ?_
    have s139 := k139.size
    have ty6 : ∀ x, y6.at x → ∀ {t : Nat}, 41 ≠ t → ∃ u l, Row H137 x u l ∧ u ≠ t := fun x hx {t} ht => ((w134.l6.kp k137 fun _ _ => id).row hx).elim fun _ h => ⟨_, _, h, ht⟩
    have w139 : UW H0 H139 g n F PS (QS ++ [⟨r82, r90, ints (runsOf f n)⟩]) r130 r141 r87 r95 (PS.map (·.a) ++ [r118, r124]) (PS.map (·.b) ++ [r133, r136]) (QS.map (·.a) ++ [r82]) (QS.map (·.b) ++ [r90]) := by
      have w1 := w134.no k137
      obtain ⟨st, f, b1⟩ := w1.bi
      have hs := w1.kp.size
      exact ⟨⟨st, f, b1.kp k139 fun x hx hh => (w1.r x (.inr (.inl hh))).2 hx⟩, w1.lo, w1.hP.ty k139 fun x hx _ => ty6 x hx (by decide), w1.hQ.ty k139 fun x hx _ => ty6 x hx (by decide), w1.l5.kp k139 fun x hx hh => w1.d56 x hx hh, l141, w1.l7.ty k139 fun x hx _ => ty6 x hx (by decide), w1.l8.ty k139 fun x hx _ => ty6 x hx (by decide),
        fun x hx => by
          rcases hx with h | h | h | h
          · exact w1.r x (.inl h)
          · rcases hs139 x h with h | h
            · exact w1.r x (.inr (.inl h))
            · exact ⟨by omega, fun hf => by have := b1.lt x hf; omega⟩
          · exact w1.r x (.inr (.inr (.inl h)))
          · exact w1.r x (.inr (.inr (.inr h))), fun x hx hy => by
          rcases hs139 x hy with h | h
          · exact w1.d56 x hx h
          · have := w1.l5.lt hx; omega, w1.d78, w1.kp.trans k139 fun x hx => .inr (w1.r x (.inr (.inl hx))).1⟩
    have hb139 : Row H139 bx 34 (oF.f o) := keep34 (w134.l6.kp k137 fun _ _ => id) (by decide) (k137.row hb134 id) k139
    have fin : ∀ {r : Sl} {L : List Mk}, Lst mF H134 r L → Lst mF H139 r L := fun {r L} h => (h.kp k137 fun _ _ => id).ty k139 fun x hx _ => ty6 x hx (by decide)
    have lt118 : ∀ x, r118.at x → x < H116.size := fun x hx => l118.lt hx
    have lt124 : ∀ x, r124.at x → x < H122.size := fun x hx => l124.lt hx
    have f118 := fin ((l118c.kp k131' fun _ _ => id).kp k134' fun _ _ => id)
    have f124 := fin (l124d.kp k134' fun _ _ => id)
    have f133 := fin (l133.kp k134' fun _ _ => id)
    have f136 := fin l136
    have s93b := wq.kp.size
    have wp1 := w139.addP (q := ⟨r118, r133, L1⟩) (h0 := H.size) ⟨f118, f133, Nat.le_trans ll1 (by omega)⟩ (fun p hp x hx => ⟨fun hh => by have := a118 x hh; have := oldP p hp x hx; omega, fun _ hh => by have := at133 x hh; have := oldP p hp x hx; omega⟩) oldF hsz (fun x hx => by
        rcases hx with hx | hx
        · have := a118 x hx; omega
        · have := at133 x hx; omega) fun x hx hy => by
        have := lt118 x hx
        have := at133 x hy
        omega
    have wp2 := wp1.addP (q := ⟨r124, r136, L2⟩) (h0 := H.size) ⟨f124, f136, Nat.le_trans ll2 (by omega)⟩ (fun p hp x hx => by
        rcases List.mem_append.1 hp with hp | hp
        · exact ⟨fun hh => by have := a124 x hh; have := oldP p hp x hx; omega, fun _ hh => by have := at136 x hh; have := oldP p hp x hx; omega⟩
        · rw [List.mem_singleton] at hp
          subst hp
          refine ⟨fun hh => ?_, fun ha hh => ?_⟩
          · have h1 := a124 x hh
            have h2 := lt124 x hh
            rcases hx with hx | hx
            · have := lt118 x hx; omega
            · have := at133 x hx; omega
          · have := lt118 x ha
            have := at136 x hh
            omega) oldF hsz (fun x hx => by
        rcases hx with hx | hx
        · have := a124 x hx; omega
        · have := at136 x hx; omega) fun x hx hy => by
        have := lt124 x hx
        have := at136 x hy
        omega
    have hw : IntKind.i64.wrap (kk + 1) = kk + 1 := wr (by omega) (by omega)
    rw [hw]
    refine hX H139 (PS ++ [⟨r118, r133, L1⟩] ++ [⟨r124, r136, L2⟩]) (QS ++ [⟨r82, r90, ints (runsOf f n)⟩]) _ _ _ _ _ ?_ hb139 ?_ ?_
    · simpa using wp2
    · simp
    · simp
  have r82n := l82''.n
  have hpos : ∀ h : 0 < r82.n, ∃ v : Int, (ints (runsOf f n))[r82.n - 1]? = some v := fun h => ⟨_, List.getElem?_eq_getElem (by omega)⟩
  refine ⟨o.run, hb93.cell_of (i := 2) rfl, fun hh => ?_, fun _ => paths o.run⟩
  have hh := of_decide_eq_true hh
  obtain ⟨v, hv⟩ := hpos (by omega)
  obtain ⟨a, ha, _, ca⟩ := l82''.rd.get hv
  have hw : IntKind.i64.wrap ((r82.n : Int) - 1) = ((r82.n - 1 : Nat) : Int) := by rw [wr (by omega) (by omega)]; omega
  rw [hw]
  exact ⟨a, ha, by omega, by omega, v, ca.1, paths v⟩
end
end Go.Hw
