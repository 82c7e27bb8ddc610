/- Two buffers side by side: one step of a script. Own work of this session. -/
import Derived.Test.YtphnfleopkcmlaaL1
set_option linter.unusedVariables false
namespace Go.Hw
open Go

/-- A step: kind, on, run, mark. -/
structure OP5 where
  kind : Int
  on : Int
  run : Int
  m : Mk
def oF : Fmt OP5 34 5 := ⟨fun o => [.int .i64 o.kind, .int .i64 o.on, .int .i64 o.run, .int .i64 o.m.1, .int .i64 o.m.2], fun _ => rfl, by intro x v hv; simp at hv; rcases hv with rfl | rfl | rfl | rfl | rfl <;> rfl, by decide⟩

abbrev Ap (F G : Nat → Prop) : Prop := ∀ x, F x → ¬ G x
theorem Ap.symm {F G : Nat → Prop} (h : Ap F G) : Ap G F := fun x h1 h2 => h x h2 h1
theorem Ap.ext {F G : Nat → Prop} (h : Ap F G) {a z : Nat} (hl : ∀ x, G x → x < a) : Ap (Ext F a z) G := fun x hx hg => by
  rcases hx with hx | hx
  · exact h x hx hg
  · have := hl x hg; omega
theorem eqd (x : Int) : decide (x = x) = true := decide_eq_true rfl

/-- A program's buffer and the document's, of the same rows; 'P': where they lie. -/
def Pair (P : Nat → Prop) (H : Hp) (b r : Nat) (st : Int) (n : Nat) (f : Fn) : Prop := ∃ F G, BI F H b st n f ∧ RI G H r st n f ∧ Ap F G ∧ (∀ x, F x ∨ G x → P x) ∧ ∀ x, P x → x < H.size


theorem c11 {P : Nat → Prop} {H : Hp} {b r n : Nat} {st : Int} {f : Fn} {o : OP5} {Q : Bool → Hp → Prop} (h : Pair P H b r st n f) (hn : n ≤ 1000000)
    (hQ : ∀ H' f', Pair (Ext P H.size H'.size) H' b r st (n + 1) f' → Kp P H H' → Q true H') : F11 (some ⟨b, 0, none⟩) (some ⟨r, 0, none⟩) o.kind o.on o.run o.m.1 o.m.2 H Q := by
  obtain ⟨F, G, hb, hr, hd, hP, hlt⟩ := h
  intro H1 e1
  have k1 := (Kp.refl No H).push' e1
  have s1 := size_push' e1
  have x1 : Row H1 H.size 34 (oF.f o) := Row.new' e1
  have b1 := hb.kp k1 fun _ _ => id
  have r1 := hr.kp k1 fun _ _ => id
  have hF : ∀ x, F x → x < H.size := hb.lt
  have hG : ∀ x, G x → x < H.size := hr.lt
  have hxF : ¬ F H.size := fun h => by have := hF _ h; omega
  have hxG : ¬ G H.size := fun h => by have := hG _ h; omega
  -- nothing has turned
  have same : ∀ H', Kp No H1 H' → Q true H' := fun H' k => by
    have s := k.size
    have k := k1.trans k fun _ h => h.elim
    exact hQ H' f ⟨F, G, (hb.kp k fun _ _ => id).more (Nat.le_succ _), (hr.kp k fun _ _ => id).more (Nat.le_succ _), hd, fun x hx => .inl (hP x hx), fun x hx => by
      rcases hx with hx | hx
      · have := hlt x hx; omega
      · exact hx.2⟩ (k.dec fun _ h => h.elim)
  -- both have turned
  have both : ∀ H2 H3 F' G' f' n', n' ≤ n + 1 → BI F' H2 b st n' f' → RI G' H3 r st n' f' → (∀ x, F' x → Ext F H1.size H2.size x) → (∀ x, G' x → Ext G H2.size H3.size x) → Kp F H1 H2 → Kp G H2 H3 → Q true H3 := by
    intro H2 H3 F' G' f' n' hn' hb' hr' hF' hG' k2 k3
    have s2 := k2.size
    have s3 := k3.size
    refine hQ H3 f' ⟨F', G', (hb'.kp k3 fun x hx hg => ?_).more hn', hr'.more hn', fun x hx hg => ?_, fun x hx => ?_, fun x hx => ?_⟩ (((k1.dec (T := P) fun _ h => h.elim).trans k2 fun x hx => .inl (hP x (.inl hx))).trans k3 fun x hx => .inl (hP x (.inr hx)))
    · have := hG x hg
      rcases hF' x hx with h | h
      · exact hd x h hg
      · omega
    · rcases hF' x hx with h | h <;> rcases hG' x hg with h' | h'
      · exact hd x h h'
      · have := hF x h; omega
      · have := hG x h'; omega
      · omega
    · rcases hx with hx | hx
      · rcases hF' x hx with h | h
        · exact .inl (hP x (.inl h))
        · exact .inr ⟨by omega, by omega⟩
      · rcases hG' x hx with h | h
        · exact .inl (hP x (.inr h))
        · exact .inr ⟨by omega, by omega⟩
    · rcases hx with hx | hx
      · have := hlt x hx; omega
      · exact hx.2
  have cell2 : ∀ {H'}, Kp F H1 H' → Row H' H.size 34 (oF.f o) := fun k => k.row x1 hxF
  refine ⟨o.kind, x1.cell_of (i := 0) rfl, fun _ => ?_, fun _ => ⟨fun _ => ?_, fun _ => ⟨fun _ => ?_, fun _ => ⟨fun _ => ?_, fun _ => ⟨fun _ => ?_, fun _ => ⟨fun _ => ?_, fun _ => ?_⟩⟩⟩⟩⟩⟩
  · refine ⟨o.m.1, o.m.2, x1.cells (o := 3) (i := 0) rfl, c13 (m := o.m) b1 hn (fun hm H9 k9 => ?_) fun hm H9 i hi b9 k9 => ?_⟩
    · refine ⟨o.m.1, o.m.2, (cell2 (k9.dec fun _ h => h.elim)).cells (o := 3) (i := 0) rfl, c29 (m := o.m) (r1.kp k9 fun _ _ => id) hn (fun _ H16 k16 => ?_) fun h => absurd h hm⟩
      rw [eqd, eqd]
      exact ⟨fun _ => same H16 (k9.trans k16 fun _ h => h.elim), fun h => (by cases h)⟩
    · refine ⟨o.m.1, o.m.2, (cell2 k9).cells (o := 3) (i := 0) rfl, c29 (m := o.m) (r1.kp k9 fun x hx hg => hd x hg hx) hn (fun h => absurd hm h) fun _ H16 i' hi' r16 k16 => ?_⟩
      obtain rfl := hi.un hi'
      rw [eqd, eqd]
      exact ⟨fun _ => both H9 H16 _ _ _ _ (Nat.le_refl _) b9 r16 (fun _ h => h) (fun _ h => h) k9 k16, fun h => (by cases h)⟩
  · refine ⟨o.run, x1.cell_of (i := 2) rfl, o.m.1, o.m.2, x1.cells (o := 3) (i := 0) rfl, c14 (m := o.m) b1 hn (fun hm H9 k9 => ?_) (fun l ls hm hbad H9 k9 => ?_) fun l ls hm hbad H9 i hi b9 k9 => ?_⟩
    · have y := cell2 (k9.dec fun _ h => h.elim)
      refine ⟨o.run, y.cell_of (i := 2) rfl, o.m.1, o.m.2, y.cells (o := 3) (i := 0) rfl, c30 (m := o.m) (r1.kp k9 fun _ _ => id) hn (fun _ H16 k16 => ?_) (fun l ls h => (by rw [hm] at h; cases h)) fun l ls h => (by rw [hm] at h; cases h)⟩
      rw [eqd, eqd]
      exact ⟨fun _ => same H16 (k9.trans k16 fun _ h => h.elim), fun h => (by cases h)⟩
    · have y := cell2 (k9.dec fun _ h => h.elim)
      refine ⟨o.run, y.cell_of (i := 2) rfl, o.m.1, o.m.2, y.cells (o := 3) (i := 0) rfl, c30 (m := o.m) (r1.kp k9 fun _ _ => id) hn (fun h => (by rw [hm] at h; cases h)) (fun l' ls' h _ H16 k16 => ?_) fun l' ls' h hb' => ?_⟩
      · rw [eqd, eqd]
        exact ⟨fun _ => same H16 (k9.trans k16 fun _ h => h.elim), fun h => (by cases h)⟩
      · rw [hm] at h
        injection h with h
        injection h with h1 h2
        subst h1
        exact absurd hbad hb'
    · have y := cell2 k9
      refine ⟨o.run, y.cell_of (i := 2) rfl, o.m.1, o.m.2, y.cells (o := 3) (i := 0) rfl, c30 (m := o.m) (r1.kp k9 fun x hx hg => hd x hg hx) hn (fun h => (by rw [hm] at h; cases h)) (fun l' ls' h hb' => ?_) fun l' ls' h _ H16 i' hi' r16 k16 => ?_⟩
      · rw [hm] at h
        injection h with h
        injection h with h1 h2
        subst h1
        exact absurd hb' hbad
      · rw [hm] at h
        injection h with h
        injection h with h1 h2
        subst h1 h2
        obtain rfl := hi.un hi'
        rw [eqd, eqd]
        exact ⟨fun _ => both H9 H16 _ _ _ _ (Nat.le_refl _) b9 r16 (fun _ h => h) (fun _ h => h) k9 k16, fun h => (by cases h)⟩
  · refine ⟨o.run, x1.cell_of (i := 2) rfl, c16 b1 hn (fun hm => ?_) fun l hm H9 b9 k9 => ?_⟩
    · refine ⟨o.run, x1.cell_of (i := 2) rfl, c31 r1 hn (fun _ => ?_) fun l h => (by rw [hm] at h; cases h)⟩
      rw [eqd]
      exact same H1 (Kp.refl _ _)
    · refine ⟨o.run, (cell2 k9).cell_of (i := 2) rfl, c31 (r1.kp k9 fun x hx hg => hd x hg hx) hn (fun h => (by rw [hm] at h; cases h)) fun l' h H16 r16 k16 => ?_⟩
      rw [eqd]
      exact both H9 H16 _ _ _ _ (Nat.le_succ _) b9 r16 (fun _ h => .inl h) (fun _ h => .inl h) k9 k16
  · refine ⟨o.run, x1.cell_of (i := 2) rfl, c22 b1 hn (fun hm => ?_) fun l hm hl H9 s hs hsa k9 => ?_⟩
    · refine ⟨o.run, x1.cell_of (i := 2) rfl, c32 r1 hn (fun _ => ?_) fun l h => (by rw [hm] at h; cases h)⟩
      rw [eqd]
      exact ⟨fun _ => c23 (RdL.nil mF H1) (RdL.nil mF H1) (by decide) (by decide) (same H1 (Kp.refl _ _)), fun h => (by cases h)⟩
    · refine ⟨o.run, (cell2 (k9.dec fun _ h => h.elim)).cell_of (i := 2) rfl, c32 (r1.kp k9 fun _ _ => id) hn (fun h => (by rw [hm] at h; cases h)) fun l' h hl' H16 s' hs' hsa' k16 => ?_⟩
      rw [hm] at h
      injection h with h
      subst h
      rw [eqd]
      refine ⟨fun _ => c23 (hs.kp k16 fun _ _ => id).rd hs'.rd (by simp; omega) (by simp; omega) ?_, fun h => (by cases h)⟩
      rw [decide_eq_true rfl]
      exact same H16 (k9.trans k16 fun _ h => h.elim)
  · refine c21 b1 hn fun H9 s hs hsa k9 => c33 (r1.kp k9 fun _ _ => id) hn fun H16 s' hs' hsa' k16 => ?_
    have := runsOf_len f n
    refine c26 (hs.kp k16 fun _ _ => id).rd hs'.rd (by simp [ints]; omega) (by simp [ints]; omega) ?_
    rw [decide_eq_true rfl]
    exact same H16 (k9.trans k16 fun _ h => h.elim)
  · refine c19 b1 fun D hD hDm => c34 r1 hn fun H16 D' hD' hDm' k16 => ?_
    rw [nodup_len hD hD' fun m => (hDm m).trans (hDm' m).symm, eqd]
    exact same H16 k16
  · exact same H1 (Kp.refl _ _)

/-! ## two or none -/
def Two (P : Nat → Prop) (H : Hp) (b r : Option Addr) (n : Nat) : Prop := (∀ x, P x → x < H.size) ∧ ((b = none ∧ r = none) ∨ ∃ bg rg st f, b = some ⟨bg, 0, none⟩ ∧ r = some ⟨rg, 0, none⟩ ∧ Pair P H bg rg st n f)
theorem Pair.kp {P S : Nat → Prop} {H H' : Hp} {b r n : Nat} {st : Int} {f : Fn} (h : Pair P H b r st n f) (k : Kp S H H') (hs : Ap P S) : Pair P H' b r st n f := by
  obtain ⟨F, G, hb, hr, hd, hP, hlt⟩ := h
  exact ⟨F, G, hb.kp k fun x hx => hs x (hP x (.inl hx)), hr.kp k fun x hx => hs x (hP x (.inr hx)), hd, hP, fun x hx => Nat.lt_of_lt_of_le (hlt x hx) k.size⟩
theorem Pair.more {P : Nat → Prop} {H : Hp} {b r n n' : Nat} {st : Int} {f : Fn} (h : Pair P H b r st n f) (hn : n ≤ n') : Pair P H b r st n' f := by
  obtain ⟨F, G, hb, hr, hd, hP, hlt⟩ := h
  exact ⟨F, G, hb.more hn, hr.more hn, hd, hP, hlt⟩
theorem Two.kp {P S : Nat → Prop} {H H' : Hp} {b r : Option Addr} {n : Nat} (h : Two P H b r n) (k : Kp S H H') (hs : Ap P S) : Two P H' b r n := by
  refine ⟨fun x hx => Nat.lt_of_lt_of_le (h.1 x hx) k.size, h.2.imp id ?_⟩
  rintro ⟨bg, rg, st, f, h1, h2, h3⟩
  exact ⟨bg, rg, st, f, h1, h2, h3.kp k hs⟩
theorem Two.more {P : Nat → Prop} {H : Hp} {b r : Option Addr} {n n' : Nat} (h : Two P H b r n) (hn : n ≤ n') : Two P H b r n' := by
  refine ⟨h.1, h.2.imp id ?_⟩
  rintro ⟨bg, rg, st, f, h1, h2, h3⟩
  exact ⟨bg, rg, st, f, h1, h2, h3.more hn⟩
theorem Two.isNone {P : Nat → Prop} {H : Hp} {b r : Option Addr} {n : Nat} (h : Two P H b r n) : b.isNone = r.isNone := by
  rcases h.2 with ⟨rfl, rfl⟩ | ⟨bg, rg, st, f, rfl, rfl, _⟩ <;> rfl
/-- Both begun. -/
theorem new2 {st : Int} {H : Hp} {Q : Option Addr → Int → Option Addr → Int → Hp → Prop} (hQ : ∀ H' b e r, Two (fun x => H.size ≤ x ∧ x < H'.size) H' b r 0 → Kp No H H' → Q b e r e H') : F9 st H fun b e H1 => F10 st H1 fun r e' H2 => Q b e r e' H2 := by
  refine c9 (fun h1 => c10 (fun _ => ?_) fun h2 => absurd h2 h1) fun h1 H1 g b1 k1 => c10 (fun h2 => absurd h1 h2) fun _ H2 g' r2 k2 => ?_
  · exact hQ H none 1 none ⟨fun x hx => hx.2, .inl ⟨rfl, rfl⟩⟩ (Kp.refl _ _)
  · have s1 := k1.size
    have s2 := k2.size
    refine hQ H2 _ 0 _ ⟨fun x hx => hx.2, .inr ⟨g, g', st, _, rfl, rfl, _, _, b1.kp k2 fun _ _ => id, r2, fun x hx hx' => by omega, fun x hx => ?_, fun x hx => hx.2⟩⟩ (k1.trans k2 fun _ h => h.elim)
    rcases hx with hx | hx <;> omega
theorem step2 {P : Nat → Prop} {H : Hp} {b r : Option Addr} {n : Nat} {o : OP5} {Q : Bool → Hp → Prop} (h : Two P H b r n) (hr : (!r.isNone) = true) (hn : n ≤ 1000000) (hQ : ∀ H', Two (Ext P H.size H'.size) H' b r (n + 1) → Kp P H H' → Q true H') : F11 b r o.kind o.on o.run o.m.1 o.m.2 H Q := by
  rcases h.2 with ⟨rfl, rfl⟩ | ⟨bg, rg, st, f, rfl, rfl, h3⟩
  · cases hr
  · refine c11 h3 hn fun H' f' h' k => hQ H' ⟨fun x hx => ?_, .inr ⟨bg, rg, st, f', rfl, rfl, h'⟩⟩ k
    rcases hx with hx | hx
    · have := h.1 x hx
      have := k.size
      omega
    · exact hx.2
end Go.Hw
