/- Buffer: who holds a way; release. Own work of this session. -/
import Derived.Test.YtphnfleopkcmlaaB3
set_option linter.unusedVariables false
namespace Go.Hw
open Go

theorem count_out {A : List Ch} {c : Ch} (hn : (A.map (·.hd.num)).Nodup) (hc : c ∈ A) (p : Ch → Bool) :
    A.countP p = (A.filter fun c' => decide (c'.hd.num ≠ c.hd.num)).countP p + (if p c then 1 else 0) := by
  induction A with
  | nil => cases hc
  | cons x l ih =>
    rw [List.map_cons, List.nodup_cons] at hn
    rw [List.filter_cons]
    rcases List.mem_cons.1 hc with e | hc
    · subst e
      rw [if_neg (by simp)]
      have : l.filter (fun c' => decide (c'.hd.num ≠ c.hd.num)) = l := List.filter_eq_self.2 fun y hy => by
        have : y.hd.num ≠ c.hd.num := fun hh => hn.1 (hh ▸ List.mem_map_of_mem hy)
        simp [this]
      rw [this, List.countP_cons]
    · have hne : x.hd.num ≠ c.hd.num := fun hh => hn.1 (by rw [hh]; exact List.mem_map_of_mem hc)
      rw [if_pos (by simp [hne]), List.countP_cons, List.countP_cons, ih hn.2 hc]
      omega

/-- The number of the node ahead. -/
def Ch.up (c : Ch) : Option Nat := c.tl.head?.map (·.num)
def kids (A : List Ch) (n : Nat) : Nat := A.countP fun c => decide (c.up = some n)
def plus (en : Nat → Nat) (o : Option Nat) : Nat → Nat := fun n => en n + (if o = some n then 1 else 0)
theorem plus_none (en : Nat → Nat) : plus en none = en := by funext n; simp [plus]

/-- Who holds what. -/
structure WP (A : List Ch) (en hl : Nat → Nat) : Prop where
  nd : (A.map (·.hd.num)).Nodup
  cl : ∀ c ∈ A, ∀ x t, c.tl = x :: t → ⟨x, t⟩ ∈ A ∧ x.num < c.hd.num
  cnt : ∀ c ∈ A, hl c.hd.num = en c.hd.num + kids A c.hd.num
  pos : ∀ c ∈ A, 0 < hl c.hd.num

theorem nodup_un {A : List Ch} (h : (A.map (·.hd.num)).Nodup) {c c' : Ch} (hc : c ∈ A) (hc' : c' ∈ A) (e : c.hd.num = c'.hd.num) : c = c' := by
  induction A with
  | nil => cases hc
  | cons x l ih =>
    rw [List.map_cons, List.nodup_cons] at h
    rcases List.mem_cons.1 hc with e1 | m1 <;> rcases List.mem_cons.1 hc' with e2 | m2
    · rw [e1, e2]
    · exact absurd (by rw [← e1, e]; exact List.mem_map_of_mem m2) h.1
    · exact absurd (by rw [← e2, ← e]; exact List.mem_map_of_mem m1) h.1
    · exact ih h.2 m1 m2
theorem WP.un {A : List Ch} {en hl : Nat → Nat} (h : WP A en hl) {c c' : Ch} (hc : c ∈ A) (hc' : c' ∈ A) (e : c.hd.num = c'.hd.num) : c = c' := nodup_un h.nd hc hc' e

/-- One holder less, others left. -/
theorem WP.dec {A : List Ch} {en hl : Nat → Nat} {c : Ch} (h : WP A (plus en (some c.hd.num)) hl) (hc : c ∈ A) (h1 : 0 < hl c.hd.num - 1) : WP A en fun n => if n = c.hd.num then hl n - 1 else hl n := by
  refine ⟨h.nd, h.cl, fun c' hc' => ?_, fun c' hc' => ?_⟩
  · have := h.cnt c' hc'
    simp only [plus] at this
    by_cases e : c'.hd.num = c.hd.num
    · rw [if_pos e.symm.symm]
      rw [if_pos (by rw [e])] at this
      omega
    · rw [if_neg e]
      rw [if_neg (fun hh => e (by injection hh with hh; exact hh.symm))] at this
      omega
  · by_cases e : c'.hd.num = c.hd.num
    · simp only [e, if_true]; exact h1
    · simp only [e, if_false]; exact h.pos c' hc'

/-- The last holder gone: the way goes, and holds the one ahead no longer. -/
theorem WP.gone {A : List Ch} {en hl : Nat → Nat} {c : Ch} (h : WP A (plus en (some c.hd.num)) hl) (hc : c ∈ A) (h1 : hl c.hd.num - 1 = 0) : WP (A.filter fun c' => decide (c'.hd.num ≠ c.hd.num)) (plus en c.up) fun n => if n = c.hd.num then hl n - 1 else hl n := by
  have hmem : ∀ c', c' ∈ (A.filter fun c' => decide (c'.hd.num ≠ c.hd.num)) ↔ c' ∈ A ∧ c'.hd.num ≠ c.hd.num := fun c' => by rw [List.mem_filter]; simp
  have h0 := h.cnt c hc
  simp only [plus, if_true] at h0
  have hk : kids A c.hd.num = 0 := by omega
  refine ⟨h.nd.sublist (List.Sublist.map _ List.filter_sublist), fun c' hc' x t e => ?_, fun c' hc' => ?_, fun c' hc' => ?_⟩
  · obtain ⟨h2, h3⟩ := h.cl c' ((hmem c').1 hc').1 x t e
    refine ⟨(hmem _).2 ⟨h2, fun hh => ?_⟩, h3⟩
    have : c'.up = some c.hd.num := by unfold Ch.up; rw [e]; exact congrArg some hh
    have := List.countP_eq_zero.1 hk c' ((hmem c').1 hc').1
    simp_all
  · have hne := ((hmem c').1 hc').2
    rw [if_neg hne]
    have := h.cnt c' ((hmem c').1 hc').1
    simp only [plus] at this ⊢
    rw [if_neg (fun hh => hne (by injection hh with hh; exact hh.symm))] at this
    have hh := count_out h.nd hc (fun c => decide (c.up = some c'.hd.num))
    unfold kids at *
    rw [hh] at this
    simp only [decide_eq_true_eq] at this
    omega
  · have hne := ((hmem c').1 hc').2
    simp only [if_neg hne]
    exact h.pos c' ((hmem c').1 hc').1

/-- Each mark that is there has a way. -/
abbrev Full (N : ML Mk (Option Nat)) (A : List Ch) : Prop := ∀ e ∈ N, ∃ c ∈ A, c.hd.mark = e.1

def upOf : List W0 → Option Nat
  | [] => none
  | x :: _ => some x.num

theorem c41 {F : Nat → Prop} {H : Hp} {g nb : Nat} {N : ML Mk (Option Nat)} {A : List Ch} {hl en : Nat → Nat} {cur : List W0} {stages raised rsv : Value} {Q : Hp → Prop} (r : Row H g 71 [stages, raised, .map (some nb), rsv]) (h : WI F H nb N A hl)
    (ne : Full N A) (wp : WP A (plus en (upOf cur)) hl) (cin : ∀ x t, cur = x :: t → ⟨x, t⟩ ∈ A) (hb : ∀ c ∈ A, hl c.hd.num ≤ 1099511627776)
    (hQ : ∀ H' N' A' hl', Row H' g 71 [stages, raised, .map (some nb), rsv] → WI F H' nb N' A' hl' → Full N' A' → WP A' en hl' → (∀ c ∈ A', c ∈ A) → (∀ c ∈ A', hl' c.hd.num ≤ hl c.hd.num) → Kp F H H' → (∀ b t l, Row H b t l → t ≠ 79 → Row H' b t l) → (∀ c ∈ A, 0 < en c.hd.num → c ∈ A') → Q H') :
    F41 (some ⟨g, 0, none⟩) (ahead cur).1.1 (ahead cur).1.2 (ahead cur).2 H Q := by
  intro H1 e1 X hX
  have r1 : Row H1 H.size 32 [.int .i64 (ahead cur).1.1, .int .i64 (ahead cur).1.2] := Row.new' e1
  have k1 := (Kp.refl No H).push' e1
  suffices G : ∀ (cur : List W0) (H' : Hp) (N' : ML Mk (Option Nat)) (A' : List Ch) (hl' : Nat → Nat), Row H' g 71 [stages, raised, .map (some nb), rsv] → Row H' H.size 32 [.int .i64 (ahead cur).1.1, .int .i64 (ahead cur).1.2] → WI F H' nb N' A' hl' → Full N' A' → WP A' (plus en (upOf cur)) hl' →
      (∀ x t, cur = x :: t → ⟨x, t⟩ ∈ A') → (∀ c ∈ A', c ∈ A) → (∀ c ∈ A', hl' c.hd.num ≤ hl c.hd.num) → Kp F H H' → (∀ b t l, Row H b t l → t ≠ 79 → Row H' b t l) → (∀ c ∈ A, 0 < en c.hd.num → c ∈ A') → X (ahead cur).2 H' from
    G cur H1 N A hl (k1.row r id) r1 (h.no k1) ne wp cin (fun _ h => h) (fun _ _ => Nat.le_refl _) (k1.mono fun _ _ h => h.elim) (fun b t l hr _ => k1.row hr id) fun c hc _ => hc
  intro cur
  induction cur with
  | nil =>
    intro H' N' A' hl' rg rm h' ne' wp' _ sub le kp kr kn
    refine hX _ _ ⟨fun hh => (by cases hh), fun _ => hQ H' N' A' hl' rg h' ne' ?_ sub le kp kr kn⟩
    have : upOf ([] : List W0) = none := rfl
    rwa [this, plus_none] at wp'
  | cons x t ih =>
    intro H' N' A' hl' rg rm h' ne' wp' cin' sub le kp kr kn
    have hc : (⟨x, t⟩ : Ch) ∈ A' := cin' x t rfl
    obtain ⟨hv, hlast, hvl, hvF⟩ := h'.ver _ hc
    have hvb : ∃ b, x.sl.at b := hv.some (by
      cases hx : x.ver with
      | nil => rw [hx] at hlast; cases hlast
      | cons _ _ => simp)
    obtain ⟨vb, hvb⟩ := hvb
    have hnn : (!(ahead (x :: t)).2.b.isNone) = true := by
      have hvb : x.sl.b = some ⟨vb, 0, none⟩ := hvb
      simp [ahead, hvb]
    refine hX _ _ ⟨fun _ => ?_, fun hh => absurd (hnn.symm.trans hh) (by decide)⟩
    refine ⟨_, _, rm.all, c40 rg h' hc fun H10 k10 => ?_⟩
    have rg10 := k10.row rg id
    have rm10 := k10.row rm id
    have h10 := h'.no k10
    have hrow := (h10.row _ hc).2
    have hFad := (h10.row _ hc).1
    refine ⟨_, rfl, (hl' x.num : Int), hrow.cell_of (i := 4) rfl, _, rfl, hrow.some (i := 4) (by simp [Ch.row]), hrow.frz 4, fun H19 e19 => ?_⟩
    have hpos := wp'.pos _ hc
    have hle := le _ hc
    have hbd := hb _ (sub _ hc)
    have hpos : 0 < hl' x.num := hpos
    have hle : hl' x.num ≤ 1099511627776 := Nat.le_trans hle hbd
    rw [wr (by omega) (by omega)] at e19
    have e19 : H19 = setc H10 ⟨x.ad, 4, none⟩ (.int .i64 (((fun n => if n = x.num then hl' n - 1 else hl' n) x.num : Nat) : Int)) := by
      rw [e19]
      congr 2
      simp only [if_true]
      omega
    have h19 : WI F H19 nb N' A' (fun n => if n = x.num then hl' n - 1 else hl' n) := WI.held (c := ⟨x, t⟩) h10 hc (fun c' hc' e => wp'.un hc' hc e) e19 fun n hn => if_neg hn
    have k19 : Kp (fun b => b = x.ad) H10 H19 := (Kp.refl _ _).set' e19 (.inl rfl)
    have rg19 := rg10.set_ne' e19 (rg10.ne_type hrow (by decide))
    have rm19 := rm10.set_ne' e19 (rm10.ne_type hrow (by decide))
    have hrow19 : Row H19 x.ad 79 (Ch.row ⟨x, t⟩ (hl' x.num - 1)) := by
      have := (h19.row _ hc).2
      simp only [if_true] at this
      exact this
    have kr19 : ∀ b t l, Row H b t l → t ≠ 79 → Row H19 b t l := fun b u l hr hne => (k10.row (kr b u l hr hne) id).set_ne' e19 ((k10.row (kr b u l hr hne) id).ne_type hrow hne)
    have kp19 : Kp F H H19 := (kp.trans k10 fun _ h => h.elim).trans k19 fun b hb => .inl (hb ▸ hFad)
    refine ⟨_, rfl, ((hl' x.num - 1 : Nat) : Int), hrow19.cell_of (i := 4) rfl, fun hh => ?_, fun hh => ?_⟩
    · have hh := of_decide_eq_true hh
      exact hQ H19 N' A' _ rg19 h19 ne' (WP.dec (c := ⟨x, t⟩) wp' hc (by show 0 < hl' x.num - 1; omega)) sub (fun c hc => by
        have := le c hc
        show (if c.hd.num = x.num then hl' c.hd.num - 1 else hl' c.hd.num) ≤ _
        split <;> omega) kp19 kr19 kn
    · have hh := of_decide_eq_false hh
      have h0 : hl' x.num - 1 = 0 := by omega
      have wp19 := WP.gone (c := ⟨x, t⟩) wp' hc h0
      obtain ⟨cm, hm⟩ := h19.cm
      have hkey := h19.all _ hc
      obtain ⟨ib, I, ci, hg, hFi, hne, hI, hn, hin⟩ := h19.atm hkey
      have hg : mget N' (x.mark.1, x.mark.2) = some (some ib) := hg
      have hv19 := (h19.ver _ hc).1
      refine ⟨_, rfl, _, rg19.cell_of (i := 2) rfl, _, _, rm19.all, N', cm, MapK.of hm, c45 hv19.rd (by omega) hlast ⟨ib, I, ci, ?_, MapK.of hI, fun H41 e41 => ?_⟩⟩
      · show (mget N' (x.mark.1, x.mark.2)).getD none = _
        rw [hg]; rfl
      obtain ⟨h41, k41, hI41, hin41⟩ := WI.del (c := ⟨x, t⟩) h19 hc (fun c' hc' e => wp'.un hc' hc e) hg hne hI hn hin e41
      have rg41 := k41.row rg19 fun hh => map_norow hI _ _ _ hh rg19
      have rm41 := k41.row rm19 fun hh => map_norow hI _ _ _ hh rm19
      have hrow41 := k41.row hrow19 fun hh => map_norow hI _ _ _ hh hrow19
      have kp41 : Kp F H H41 := kp19.trans k41 fun b hb => .inl (hb ▸ hFi)
      have kr41 : ∀ b t l, Row H b t l → t ≠ 79 → Row H41 b t l := fun b u l hr hne => k41.row (kr19 b u l hr hne) fun hh => map_norow hI _ _ _ hh (kr19 b u l hr hne)
      have hmem : ∀ c', c' ∈ (A'.filter fun c' => decide (c'.hd.num ≠ x.num)) ↔ c' ∈ A' ∧ c'.hd.num ≠ x.num := fun c' => by rw [List.mem_filter]; simp
      have step : ∀ H2 N2, WI F H2 nb N2 (A'.filter fun c' => decide (c'.hd.num ≠ x.num)) (fun n => if n = x.num then hl' n - 1 else hl' n) → Full N2 (A'.filter fun c' => decide (c'.hd.num ≠ x.num)) → Kp F H H2 → Row H2 g 71 [stages, raised, .map (some nb), rsv] → Row H2 H.size 32 [.int .i64 x.mark.1, .int .i64 x.mark.2] →
          Row H2 x.ad 79 (Ch.row ⟨x, t⟩ (hl' x.num - 1)) → (∀ b t l, Row H b t l → t ≠ 79 → Row H2 b t l) → F41_2 Q X (some ⟨g, 0, none⟩) ⟨H.size, 0, none⟩ (some ⟨x.ad, 0, none⟩) H2 := by
        intro H2 N2 w2 f2 kp2 rg2 rm2 rw2 kr2
        refine ⟨_, rfl, (ahead t).1.1, (ahead t).1.2, rw2.cells (o := 1) (i := 0) rfl, _, rfl, (ahead t).2, rw2.cell_of (i := 3) rfl, rm2.mayall, fun H78 e78 => ?_⟩
        have rm78 : Row H78 H.size 32 [.int .i64 (ahead t).1.1, .int .i64 (ahead t).1.2] := rm2.fill' e78 rfl
        have hnw : ∀ b, b = H.size → F b → False := fun b hb hF => by
          have := h.lt b hF
          omega
        have k78 : Kp (fun b => b = H.size) H2 H78 := (Kp.refl _ _).sets' e78 (.inl rfl)
        have w78 := w2.kp k78 fun b hF hb => hnw b hb hF
        have rw78 := rw2.sets_ne' e78 (fun hh => hnw _ hh hFad)
        refine ⟨rw78.cell_of (i := 3) rfl, ?_⟩
        refine ih H78 N2 _ _ (rg2.sets_ne' e78 (rg2.ne_type rm2 (by decide))) rm78 w78 f2 ?_ (fun y s e => ?_) (fun c hc => sub c ((hmem c).1 hc).1) (fun c hc => ?_) (kp2.trans k78 fun b hb => .inr (by omega)) (fun b u l hr hne => (kr2 b u l hr hne).sets_ne' e78 fun hh => ?_) (fun c2 hc2 he => (hmem c2).2 ⟨kn c2 hc2 he, fun hh => ?_⟩)
        · have : upOf t = Ch.up ⟨x, t⟩ := by cases t <;> rfl
          rw [this]; exact wp19
        · have := (wp'.cl _ hc y s e)
          exact (hmem _).2 ⟨this.1, Nat.ne_of_lt this.2⟩
        · have := le c ((hmem c).1 hc).1
          show (if c.hd.num = x.num then hl' c.hd.num - 1 else hl' c.hd.num) ≤ _
          split <;> omega
        · have := hr.lt
          have : b = H.size := hh
          omega
        · have := wp'.cnt _ hc
          simp only [plus, upOf, if_true] at this
          rw [hh] at he
          omega
      refine ⟨mdel I (x.num : Int), ci, ?_, fun hz => ?_, fun hz => ?_⟩
      · show mapAt mk3 mv76 H41 ((mget N' (x.mark.1, x.mark.2)).getD none) _ _
        rw [hg]; exact hI41
      · have hz := of_decide_eq_true hz
        obtain ⟨cm41, hm41⟩ := h41.cm
        have hno : ∀ c ∈ (A'.filter fun c' => decide (c'.hd.num ≠ x.num)), c.hd.mark ≠ x.mark := by
          intro c hc hmk
          have := (hin41 (c.hd.num : Int) c.hd.p).2 ⟨c, hc, hmk, rfl, rfl⟩
          have h0 : mdel I (x.num : Int) = [] := List.eq_nil_of_length_eq_zero (by omega)
          rw [show mdel I (((⟨x, t⟩ : Ch).hd.num : Nat) : Int) = [] from h0] at this
          cases this
        refine ⟨_, rfl, _, rg41.cell_of (i := 2) rfl, _, _, rm41.all, nb, N', cm41, rfl, MapK.of hm41, fun H62 e62 => ?_⟩
        obtain ⟨h62, k62⟩ := WI.delN h41 hno hm41 e62
        refine step H62 _ h62 (fun e he => ?_) (kp41.trans k62 fun b hb => .inl (hb ▸ h41.fn)) (k62.row rg41 fun hh => map_norow hm41 _ _ _ hh rg41) (k62.row rm41 fun hh => map_norow hm41 _ _ _ hh rm41) (k62.row hrow41 fun hh => map_norow hm41 _ _ _ hh hrow41)
          fun b u l hr hne => k62.row (kr41 b u l hr hne) fun hh => map_norow hm41 _ _ _ hh (kr41 b u l hr hne)
        obtain ⟨he1, he2⟩ := (mem_mdel h41.nk).1 he
        obtain ⟨c, hc1, hc2⟩ := ne' e he1
        refine ⟨c, (hmem c).2 ⟨hc1, fun hh => he2 ?_⟩, hc2⟩
        have : c = ⟨x, t⟩ := wp'.un hc1 hc hh
        rw [← hc2, this]
      · have hz := of_decide_eq_false hz
        refine step H41 N' h41 (fun e he => ?_) kp41 rg41 rm41 hrow41 kr41
        by_cases hem : e.1 = x.mark
        · have hlen : 0 < (mdel I (x.num : Int)).length := by
            have : (mdel I (x.num : Int)).length ≠ 0 := fun hh => hz (by omega)
            omega
          obtain ⟨e', l', he'⟩ : ∃ e' l', mdel I (x.num : Int) = e' :: l' := by
            cases hd : mdel I (x.num : Int) with
            | nil => rw [hd] at hlen; simp at hlen
            | cons e' l' => exact ⟨e', l', rfl⟩
          have : mget (mdel I (x.num : Int)) e'.1 = some e'.2.1 := by rw [he', mget_cons, if_pos rfl]
          obtain ⟨c, hc1, hc2, _⟩ := (hin41 _ _).1 this
          exact ⟨c, hc1, hc2.trans hem.symm⟩
        · obtain ⟨c, hc1, hc2⟩ := ne' e he
          refine ⟨c, (hmem c).2 ⟨hc1, fun hh => hem ?_⟩, hc2⟩
          have : c = ⟨x, t⟩ := wp'.un hc1 hc hh
          rw [← hc2, this]

end Go.Hw
