/- The hand of SchemaAll. Own work of this session. -/
import Derived.Test.YtbhfkpdalilhcaaDoorP0
set_option linter.unusedVariables false
namespace Go.Hw
open Go

def atMk (i : Nat) : List Value := [.string E, .int .i64 (IntKind.i64.wrap (77 + (i : Int)))]
theorem atMk_len (i : Nat) : (atMk i).length = 2 := rfl
def vaMk (i : Nat) : List Value := [.int .i64 (IntKind.i64.wrap (77 + (i : Int))), .int .i64 0, .string E, .bool false]
theorem vaMk_len (i : Nat) : (vaMk i).length = 4 := rfl
def LAt (H : Hp) (s : Sl) (A : Atts) : Prop := ∃ b c, s = Sl.mk (some ⟨b, 0, none⟩) c c ∧ A.length < c ∧ c ≤ 9223372036854775807 ∧ Row H b 38 (A.flatMap aF.f ++ mks atMk A.length (c - A.length))
def LAv (H : Hp) (s : Sl) (A : List VT) : Prop := ∃ b c, s = Sl.mk (some ⟨b, 0, none⟩) c c ∧ A.length < c ∧ c ≤ 9223372036854775807 ∧ Row H b 35 (A.flatMap vF.f ++ mks vaMk A.length (c - A.length))
theorem LAt.kp {H H' : Hp} {s : Sl} {A : Atts} {S : Nat → Prop} (h : LAt H s A) (k : Kp S H H') (hS : ∀ b, s.at b → ¬ S b) : LAt H' s A := by
  obtain ⟨b, c, rfl, h2, h3, h4⟩ := h
  exact ⟨b, c, rfl, h2, h3, k.row h4 (hS b rfl)⟩
theorem LAv.kp {H H' : Hp} {s : Sl} {A : List VT} {S : Nat → Prop} (h : LAv H s A) (k : Kp S H H') (hS : ∀ b, s.at b → ¬ S b) : LAv H' s A := by
  obtain ⟨b, c, rfl, h2, h3, h4⟩ := h
  exact ⟨b, c, rfl, h2, h3, k.row h4 (hS b rfl)⟩
theorem LAt.rd {H : Hp} {s : Sl} {A : Atts} (h : LAt H s A) : RdL aF H (Sl.mk s.b A.length s.c) A ∧ A.length ≤ s.c := by
  obtain ⟨b, c, rfl, h2, h3, h4⟩ := h
  exact ⟨⟨rfl, h4.cells (by rw [Nat.add_zero, List.drop_zero, List.take_left])⟩, Nat.le_of_lt h2⟩
theorem LAv.rd {H : Hp} {s : Sl} {A : List VT} (h : LAv H s A) : RdL vF H (Sl.mk s.b A.length s.c) A := by
  obtain ⟨b, c, rfl, h2, h3, h4⟩ := h
  exact ⟨rfl, h4.cells (by rw [Nat.add_zero, List.drop_zero, List.take_left])⟩
theorem rowc {H : Hp} {b t i : Nat} {l : List Value} {v : Value} (r : Row H b t l) (h : l[i]? = some v) : cell H (Addr.add ⟨b, 0, none⟩ i) = some v := by rw [add_mk]; exact r.cell_of (by rw [Nat.zero_add]; exact h)
theorem over_drop (l v : List Value) (o : Nat) (h : o + v.length ≤ l.length) : (over l o v).drop (o + v.length) = l.drop (o + v.length) := by
  unfold over
  have e : (l.take o ++ v).length = o + v.length := by rw [List.length_append, List.length_take]; omega
  rw [← e, List.drop_left]
/-- The hand: two slices. -/
structure HH (H : Hp) (hb : Nat) (ta tv : Sl) : Prop where
  row : Row H hb 60 [Sl.v ta, Sl.v tv]
  sa : Slot H 38 2 ta
  sv : Slot H 35 4 tv
section
variable {H : Hp} {hb : Nat} {ta tv : Sl}
theorem HH.kp {H' : Hp} {S : Nat → Prop} (h : HH H hb ta tv) (k : Kp S H H') (h1 : ¬ S hb) (h2 : ∀ b, ta.at b → ¬ S b) (h3 : ∀ b, tv.at b → ¬ S b) : HH H' hb ta tv := ⟨k.row h.row h1, h.sa.kp k h2, h.sv.kp k h3⟩
theorem HH.no {H' : Hp} (h : HH H hb ta tv) (k : Kp No H H') : HH H' hb ta tv := h.kp k id (fun _ _ => id) fun _ _ => id
/-- A type's list laid in the hand. -/
theorem c39 {name : ByteArray} {sl : Sl} {A : Atts} {Q : ByteArray → Sl → Hp → Prop} (hh : HH H hb ta tv) (src : ∀ H', Kp (fun b => b = hb ∨ ta.at b) H H' → RdL aF H' sl A) (hl : A.length ≤ 4194304)
    (hQ : ∀ s H', HH H' hb s tv → LAt H' s A → Kp (fun b => b = hb ∨ ta.at b) H H' → (∀ b, s.at b → ta.at b ∨ H.size ≤ b) → Q name (Sl.mk s.b A.length s.c) H') : F39 (some ⟨hb, 0, none⟩) name sl H Q := by
  have hn := (src H (Kp.refl _ _)).n
  intro H1 e1 H3 e3
  have k1 : Kp No H H1 := (Kp.refl _ _).push' e1
  have k3 : Kp No H H3 := k1.push' e3
  have s1 := size_push' e1
  have s3 := size_push' e3
  have r1 : Row H3 H.size 27 [.string name, Sl.v sl] := (Row.new' e1).push' e3
  have r2 : Row H3 H1.size 27 [.string E, Sl.v Sl.nil] := Row.new' e3
  have hh3 := hh.no k3
  have hbl := hh.row.lt
  have one : ∀ (y : Sl) (Hx : Hp), Row Hx hb 60 [Sl.v y, Sl.v tv] → Slot Hx 38 2 y → (∀ b, y.at b → ta.at b) → Kp (fun b => b = hb) H3 Hx → F39_1 Q (some ⟨hb, 0, none⟩) ⟨H.size, 0, none⟩ ⟨H1.size, 0, none⟩ (sl.n : Int) Hx := fun y Hx rh hy hya kx => by
    have r1x := kx.row r1 (by show H.size ≠ hb; omega)
    have r2x := kx.row r2 (by show H1.size ≠ hb; omega)
    have kH : Kp (fun b => b = hb ∨ ta.at b) H Hx := (k3.mono fun _ _ h => h.elim).trans kx fun b e => .inl (.inl e)
    refine ⟨_, rfl, y, rh.cell_of (i := 0) rfl, Nat.le_refl _, Nat.zero_le _, Nat.le_refl _, sl, rowc (i := 1) r1x rfl, ?_⟩
    refine app1 (F := aF) (bytes := 24) hy (src Hx kH) rfl (by omega) (by omega) fun r33 H31 hr33 k31 ha31 => ?_
    have kt31 : KT [38] Hx H31 := KT.of k31 fun b g => by obtain ⟨l, g⟩ := hy.row g; exact ⟨38, l, by simp, g⟩
    have rh31 := kt31.row rh (by decide)
    refine ⟨rh31.cell_of (i := 0) rfl, ?_⟩
    refine appN (F := aF) (M := [((E, 0) : ByteArray × Int), ((E, 0) : ByteArray × Int)]) (bytes := 24) (n := 2) (K2 := fun w H37 => F39_L3 Q (some ⟨hb, 0, none⟩) ⟨H.size, 0, none⟩ ⟨H1.size, 0, none⟩ (sl.n : Int) w (sl.n : Int) H37) hr33 rfl rfl (by decide) (by simp; omega) (by simp; omega) fun b c sp H37 hc hmx hrow hlen k37 hb37 => ?_
    have kt37 : KT [38] H31 H37 := KT.of k37 fun b g => by obtain ⟨l, g⟩ := hr33.row g; exact ⟨38, _, by simp, g⟩
    have kt := kt31.trans kt37
    have k0 : Kp (fun b => b = hb ∨ ta.at b) H H37 := (kH.trans k31 fun b g => .inl (.inr (hya b g))).trans k37 fun b g => (ha31 b g).imp (fun g => .inr (hya b g)) fun g => by have := kH.size; omega
    have hbS : ta.at b ∨ H.size ≤ b := by
      have := kH.size
      have := k31.size
      rcases hb37 with g | g
      · exact (ha31 b g).imp (hya b) fun g => by omega
      · exact .inr (by omega)
    have hfl := fl_len aF.len A
    rw [List.length_append, hfl] at hlen
    intro X3 hX3
    rw [hn]
    refine fill atMk atMk_len (n0 := 0) (b := b) (c := c) (k := 2) (t := 38) (s := Sl.mk (some ⟨b, 0, none⟩) c c) rfl rfl hmx (C := F39_2 Q (some ⟨hb, 0, none⟩) ⟨H.size, 0, none⟩ ⟨H1.size, 0, none⟩ (sl.n : Int) (Sl.mk (some ⟨b, 0, none⟩) c c)) (fun y H _ g => hX3 _ _ g) (c - A.length) A.length (A.flatMap aF.f) sp H37 (Nat.zero_le _) (by omega) (by omega) (by rw [Nat.sub_mul]; omega) hrow fun H2 rr2 k2 => ?_
    have kt2 : KT [38] H37 H2 := KT.of k2 fun b' g => ⟨38, _, by simp, g ▸ hrow⟩
    have ktx := kt.trans kt2
    have rh2 := ktx.row rh (by decide)
    have r1y := ktx.row r1x (by decide)
    have r2y := ktx.row r2x (by decide)
    refine ⟨_, rfl, ?_⟩
    skip
    refine ⟨rh2.some (by simp), rh2.frz _, fun H65 e65 => ⟨by omega, by omega, ?_, Nat.le_refl _, ?_⟩⟩
    · show (sl.n : Int).toNat ≤ c; omega
    have rh65 := rh2.set' (i := 0) e65
    have k65 : Kp (fun x => x = hb) H2 H65 := (Kp.refl (fun x => x = hb) H2).set' e65 (.inl rfl)
    have kt65 : KT [60] H2 H65 := KT.of k65 fun b' g => ⟨60, _, by simp, g ▸ rh2⟩
    have r1z := kt65.row r1y (by decide)
    have r2z := kt65.row r2y (by decide)
    rw [add_mk]
    refine ⟨r1z.some (by simp), r1z.frz _, fun H73 e73 => ?_⟩
    have r73 := r1z.set' (i := 1) e73
    rw [hn, show (A.length : Int).toNat = A.length from by omega, cutN] at r73
    have r73' := r2z.set_ne' e73 (by show H1.size ≠ H.size; omega)
    refine ⟨_, _, r73.all, r73'.mayw (by simp), fun H80 e80 => ?_⟩
    have r80 := r73'.fill' e80 rfl
    refine ⟨_, _, r80.all, ?_⟩
    have k80 : Kp (fun x => x = H.size ∨ x = H1.size) H65 H80 := ((Kp.refl (fun x => x = H.size ∨ x = H1.size) H65).set' e73 (.inl (.inl rfl))).trans ((Kp.refl (fun x => x = H.size ∨ x = H1.size) H73).sets' e80 (.inl (.inr rfl))) fun b g => .inl g
    have kt80 : KT [27] H65 H80 := KT.of k80 fun b g => by
      rcases g with rfl | rfl
      · exact ⟨27, _, by simp, r1z⟩
      · exact ⟨27, _, by simp, r2z⟩
    have kt280 : KT [60, 27] H2 H80 := KT.trans (kt65.mono fun t ht => by simp at ht ⊢; exact .inl ht) (kt80.mono fun t ht => by simp at ht ⊢; exact .inr ht)
    have rr80 := kt280.row rr2 (by decide)
    have so : Slot Hx 35 4 tv := by
      obtain ⟨l, o⟩ := hh3.sv
      exact ⟨l, (KT.of (T := [60]) kx fun b g => ⟨60, _, by simp, g ▸ hh3.row⟩).own o (by decide)⟩
    have so80 : Slot H80 35 4 tv := so.imp fun _ o => kt280.own (ktx.own o (by decide)) (by decide)
    refine hQ (Sl.mk (some ⟨b, 0, none⟩) c c) H80 ⟨kt80.row rh65 (by decide), rr80.slot (by rw [List.length_append, hfl, mks_len atMk_len, ← Nat.add_mul]; congr 1; omega) hmx, so80⟩ ⟨b, c, rfl, hc, hmx, rr80⟩ ?_ fun b' g => by rw [sl_at g]; exact hbS
    exact ((k0.trans k2 fun b' e => by subst e; exact hbS.imp .inr id).trans k65 fun b e => .inl (.inl e)).trans k80 fun b g => .inr (by rcases g with rfl | rfl <;> omega)
  have ta3 : ∀ b, ta.at b → b ≠ hb := fun b g e => by subst e; obtain ⟨l, g⟩ := hh.sa.row g; exact absurd (g.inj hh.row).2 (by decide)
  refine ⟨sl, rowc (i := 1) r1 rfl, _, rfl, ta, hh3.row.cell_of (i := 0) rfl, fun _ => ⟨_, rfl, ?_⟩, fun _ => one ta H3 hh3.row hh3.sa (fun _ h => h) (Kp.refl _ _)⟩
  skip
  refine ⟨hh3.row.some (by simp), hh3.row.frz _, fun H18 e18 => ?_⟩
  exact one Sl.nil H18 (hh3.row.set' (i := 0) e18) (Slot.nil _ _ _) (fun b h => by cases h) ((Kp.refl (fun x => x = hb) H3).set' e18 (.inl rfl))
/-- It is as it was; it is written over. -/
theorem c41 {name : ByteArray} {sl : Sl} {A : Atts} {Q : Bool → Hp → Prop} (hh : HH H hb ta tv) (la : LAt H ta A) (src : ∀ H', Kp ta.at H H' → RdL aF H' sl A) (hl : A.length ≤ 4194304) (hQ : ∀ H', HH H' hb ta tv → Kp ta.at H H' → Q true H') : F41 (some ⟨hb, 0, none⟩) name sl H Q := by
  have hn := (src H (Kp.refl _ _)).n
  intro H1 e1
  have k1 : Kp No H H1 := (Kp.refl _ _).push' e1
  have s1 := size_push' e1
  have r1 : Row H1 H.size 27 [.string name, Sl.v sl] := Row.new' e1
  obtain ⟨b, c, eS, hc, hmx, hrow⟩ := la
  have hat : ta.at b := by rw [eS]; rfl
  have hln : (A.flatMap aF.f ++ mks atMk A.length (c - A.length)).length = c * 2 := by
    rw [List.length_append, fl_len aF.len, mks_len atMk_len, ← Nat.add_mul]; congr 1; omega
  have bsz := hrow.lt
  have hne : b ≠ hb := fun e => by subst e; exact absurd (hrow.inj hh.row).2 (by decide)
  intro X2 hX2
  suffices G : ∀ (d i : Nat) (l' : List Value) (H' : Hp), i + d = c → Row H' b 38 l' → l'.length = c * 2 → l'.drop (i * 2) = (A.flatMap aF.f ++ mks atMk A.length (c - A.length)).drop (i * 2) → Kp (fun x => x = b) H1 H' → X2 true (i : Int) H' from
    G c 0 _ H1 (by omega) (k1.row hrow id) hln rfl (Kp.refl _ _)
  intro d
  have kall : ∀ {Hx}, Kp (fun x => x = b) H1 Hx → Kp ta.at H Hx := fun k => (k1.mono fun _ _ h => h.elim).trans k fun b' e => .inl (by subst e; exact hat)
  have ch : ∀ {Hx}, Kp (fun x => x = b) H1 Hx → cell Hx ⟨hb, 0, none⟩ = some (Sl.v (Sl.mk (some ⟨b, 0, none⟩) c c)) := fun k => by
    have := (k.row ((hh.no k1).row) (fun e => hne e.symm)).cell_of (i := 0) rfl
    rw [eS] at this
    exact this
  have cs : ∀ {Hx}, Kp (fun x => x = b) H1 Hx → cell Hx (Addr.add ⟨H.size, 0, none⟩ 1) = some (Sl.v sl) := fun k => by rw [add_mk]; exact (k.row r1 (by show H.size ≠ b; omega)).cell_of rfl
  induction d with
  | zero =>
    intro i l' H' hi hr hl' he k
    refine hX2 _ _ _ ⟨_, rfl, _, ch k, fun g => absurd (of_decide_eq_true g) (by show ¬ (i : Int) < (c : Int); omega), fun _ => ?_⟩
    have kk := kall k
    refine hQ H' ⟨kk.row hh.row fun g => absurd g fun g => by obtain ⟨l, g⟩ := hh.sa.row g; exact absurd (g.inj hh.row).2 (by decide), ?_, ?_⟩ kk
    · rw [eS]; exact hr.slot hl' hmx
    · exact hh.sv.kp kk fun b' g g' => by obtain ⟨l, g⟩ := hh.sv.row g; obtain ⟨l2, g'⟩ := hh.sa.row g'; exact absurd (g.inj g').2 (by decide)
  | succ d ih =>
    intro i l' H' hi hr hl' he k
    have it : ((i : Nat) : Int).toNat = i := by omega
    have him : i * 2 + 2 ≤ c * 2 := by rw [← Nat.succ_mul]; exact Nat.mul_le_mul_right _ (by omega)
    have bl' := k.size
    have four : ∀ Hx, Kp (fun x => x = b) H1 Hx → Row Hx b 38 l' → F41_4 Q X2 (some ⟨hb, 0, none⟩) ⟨H.size, 0, none⟩ (i : Int) true Hx := fun Hx kx rx => by
      refine ⟨_, rfl, _, ch kx, _, rfl, by omega, by show (i : Int) < (c : Int); omega, ?_⟩
      rw [it, add_mk, Nat.zero_add]
      refine ⟨rx.mayw (by omega), fun H65 e65 => ?_⟩
      have r65 := rx.sets' e65 (by show i * 2 + 2 ≤ _; omega)
      rw [wr (by omega) (by omega), show ((i : Int) + 1) = ((i + 1 : Nat) : Int) by omega]
      refine ih (i + 1) _ H65 (by omega) r65 (by rw [length_over _ _ _ (by show i * 2 + 2 ≤ _; omega)]; exact hl') ?_ (kx.sets' e65 (.inl rfl))
      have e2 : (i + 1) * 2 = i * 2 + 2 := Nat.succ_mul _ _
      have e3 := congrArg (List.drop 2) he
      rw [List.drop_drop, List.drop_drop] at e3
      rw [e2, ← e3]
      exact over_drop l' [.string S_kept, .int .i64 0] (i * 2) (by rw [hl']; exact him)
    have three : ∀ (v : ByteArray × Int) (Hx : Hp), Kp (fun x => x = b) H1 Hx → Row Hx b 38 l' → Row Hx H'.size 38 (aF.f v) → ((A.flatMap aF.f ++ mks atMk A.length (c - A.length)).drop (i * 2)).take 2 = aF.f v → F41_3 Q X2 (some ⟨hb, 0, none⟩) ⟨H.size, 0, none⟩ true (i : Int) ⟨H'.size, 0, none⟩ Hx := fun v Hx kx rx rb hv => by
      refine ⟨fun _ => ⟨_, rfl, _, ch kx, _, rfl, by omega, by show (i : Int) < (c : Int); omega, v.1, v.2, ?_, v.1, v.2, rb.all, ?_⟩, fun g => (by cases g)⟩
      · rw [it, add_mk]
        exact rx.cells (by rw [Nat.zero_add, Nat.add_zero, he]; exact hv)
      · rw [show (seq v.1 v.1 && decide (v.2 = v.2)) = true from by simp [seq_refl]]
        exact four Hx kx rx
    refine hX2 _ _ _ ⟨_, rfl, _, ch k, fun _ => fun H12 e12 => ?_, fun g => absurd (of_decide_eq_false g) (by show ¬ ¬ (i : Int) < (c : Int); omega)⟩
    have k12 : Kp No H' H12 := (Kp.refl _ _).push' e12
    have r12 := Row.new' e12
    refine ⟨r12.mayw (by simp), fun H14 e14 => ?_⟩
    have r14 : Row H14 H'.size 38 (atMk i) := r12.fill' e14 rfl
    have k14 : Kp No H' H14 := k12.sets' e14 (.inr (Nat.le_refl _))
    have kk14 := k.trans (k14.mono fun _ _ h => h.elim) fun b h => .inl h
    refine ⟨sl, cs kk14, fun g => ?_, fun g => ?_⟩
    · have g := of_decide_eq_true g
      obtain ⟨v, gv⟩ : ∃ v, A[i]? = some v := ⟨_, List.getElem?_eq_getElem (by omega)⟩
      obtain ⟨a, ha, hlt, hcs⟩ := (src H14 (kall kk14)).get gv
      refine ⟨sl, cs kk14, a, ha, by omega, by omega, v.1, v.2, by rw [it]; exact hcs, r14.mayw (by rw [atMk_len]; omega), fun H34 e34 => ?_⟩
      have k34 : Kp No H' H34 := k14.sets' e34 (.inr (Nat.le_refl _))
      exact three v H34 (k.trans (k34.mono fun _ _ h => h.elim) fun b h => .inl h) (k34.row hr id) (r14.fill' e34 rfl) (lk_lo aF gv)
    · have g := of_decide_eq_false g
      exact three (E, IntKind.i64.wrap (77 + (i : Int))) H14 kk14 (k14.row hr id) r14 (lk_hi aF atMk_len (by omega) (by omega))
/-- A type's list laid in the hand. -/
theorem c46 {name : ByteArray} {time : Int} {sl : Sl} {A : List VT} {Q : ByteArray → Int → Sl → Hp → Prop} (hh : HH H hb ta tv) (src : ∀ H', Kp (fun b => b = hb ∨ tv.at b) H H' → RdL vF H' sl A) (hl : A.length ≤ 4194304)
    (hQ : ∀ s H', HH H' hb ta s → LAv H' s A → Kp (fun b => b = hb ∨ tv.at b) H H' → (∀ b, s.at b → tv.at b ∨ H.size ≤ b) → Q name time (Sl.mk s.b A.length s.c) H') : F46 (some ⟨hb, 0, none⟩) name time sl H Q := by
  have hn := (src H (Kp.refl _ _)).n
  intro H1 e1 H3 e3
  have k1 : Kp No H H1 := (Kp.refl _ _).push' e1
  have k3 : Kp No H H3 := k1.push' e3
  have s1 := size_push' e1
  have s3 := size_push' e3
  have r1 : Row H3 H.size 33 [.string name, .int .i64 time, Sl.v sl] := (Row.new' e1).push' e3
  have r2 : Row H3 H1.size 33 [.string E, .int .i64 0, Sl.v Sl.nil] := Row.new' e3
  have hh3 := hh.no k3
  have hbl := hh.row.lt
  have one : ∀ (y : Sl) (Hx : Hp), Row Hx hb 60 [Sl.v ta, Sl.v y] → Slot Hx 35 4 y → (∀ b, y.at b → tv.at b) → Kp (fun b => b = hb) H3 Hx → F46_1 Q (some ⟨hb, 0, none⟩) ⟨H.size, 0, none⟩ ⟨H1.size, 0, none⟩ (sl.n : Int) Hx := fun y Hx rh hy hya kx => by
    have r1x := kx.row r1 (by show H.size ≠ hb; omega)
    have r2x := kx.row r2 (by show H1.size ≠ hb; omega)
    have kH : Kp (fun b => b = hb ∨ tv.at b) H Hx := (k3.mono fun _ _ h => h.elim).trans kx fun b e => .inl (.inl e)
    refine ⟨_, rfl, y, by rw [add_mk]; exact rh.cell_of rfl, Nat.le_refl _, Nat.zero_le _, Nat.le_refl _, sl, rowc (i := 2) r1x rfl, ?_⟩
    refine app1 (F := vF) (bytes := 40) hy (src Hx kH) rfl (by omega) (by omega) fun r33 H31 hr33 k31 ha31 => ?_
    have kt31 : KT [35] Hx H31 := KT.of k31 fun b g => by obtain ⟨l, g⟩ := hy.row g; exact ⟨35, l, by simp, g⟩
    have rh31 := kt31.row rh (by decide)
    refine ⟨by rw [add_mk]; exact rh31.cell_of rfl, ?_⟩
    refine appN (F := vF) (M := [(⟨0, 0, E, false⟩ : VT), (⟨0, 0, E, false⟩ : VT)]) (bytes := 40) (n := 2) (K2 := fun w H37 => F46_L3 Q (some ⟨hb, 0, none⟩) ⟨H.size, 0, none⟩ ⟨H1.size, 0, none⟩ (sl.n : Int) w (sl.n : Int) H37) hr33 rfl rfl (by decide) (by simp; omega) (by simp; omega) fun b c sp H37 hc hmx hrow hlen k37 hb37 => ?_
    have kt37 : KT [35] H31 H37 := KT.of k37 fun b g => by obtain ⟨l, g⟩ := hr33.row g; exact ⟨35, _, by simp, g⟩
    have kt := kt31.trans kt37
    have k0 : Kp (fun b => b = hb ∨ tv.at b) H H37 := (kH.trans k31 fun b g => .inl (.inr (hya b g))).trans k37 fun b g => (ha31 b g).imp (fun g => .inr (hya b g)) fun g => by have := kH.size; omega
    have hbS : tv.at b ∨ H.size ≤ b := by
      have := kH.size
      have := k31.size
      rcases hb37 with g | g
      · exact (ha31 b g).imp (hya b) fun g => by omega
      · exact .inr (by omega)
    have hfl := fl_len vF.len A
    rw [List.length_append, hfl] at hlen
    intro X3 hX3
    rw [hn]
    refine fill vaMk vaMk_len (n0 := 0) (b := b) (c := c) (k := 4) (t := 35) (s := Sl.mk (some ⟨b, 0, none⟩) c c) rfl rfl hmx (C := F46_2 Q (some ⟨hb, 0, none⟩) ⟨H.size, 0, none⟩ ⟨H1.size, 0, none⟩ (sl.n : Int) (Sl.mk (some ⟨b, 0, none⟩) c c)) (fun y H _ g => hX3 _ _ g) (c - A.length) A.length (A.flatMap vF.f) sp H37 (Nat.zero_le _) (by omega) (by omega) (by rw [Nat.sub_mul]; omega) hrow fun H2 rr2 k2 => ?_
    have kt2 : KT [35] H37 H2 := KT.of k2 fun b' g => ⟨35, _, by simp, g ▸ hrow⟩
    have ktx := kt.trans kt2
    have rh2 := ktx.row rh (by decide)
    have r1y := ktx.row r1x (by decide)
    have r2y := ktx.row r2x (by decide)
    refine ⟨_, rfl, ?_⟩
    rw [add_mk]
    refine ⟨rh2.some (by simp), rh2.frz _, fun H65 e65 => ⟨by omega, by omega, ?_, Nat.le_refl _, ?_⟩⟩
    · show (sl.n : Int).toNat ≤ c; omega
    have rh65 := rh2.set' (i := 1) e65
    have k65 : Kp (fun x => x = hb) H2 H65 := (Kp.refl (fun x => x = hb) H2).set' e65 (.inl rfl)
    have kt65 : KT [60] H2 H65 := KT.of k65 fun b' g => ⟨60, _, by simp, g ▸ rh2⟩
    have r1z := kt65.row r1y (by decide)
    have r2z := kt65.row r2y (by decide)
    rw [add_mk]
    refine ⟨r1z.some (by simp), r1z.frz _, fun H73 e73 => ?_⟩
    have r73 := r1z.set' (i := 2) e73
    rw [hn, show (A.length : Int).toNat = A.length from by omega, cutN] at r73
    have r73' := r2z.set_ne' e73 (by show H1.size ≠ H.size; omega)
    refine ⟨_, _, _, r73.all, r73'.mayw (by simp), fun H80 e80 => ?_⟩
    have r80 := r73'.fill' e80 rfl
    refine ⟨_, _, _, r80.all, ?_⟩
    have k80 : Kp (fun x => x = H.size ∨ x = H1.size) H65 H80 := ((Kp.refl (fun x => x = H.size ∨ x = H1.size) H65).set' e73 (.inl (.inl rfl))).trans ((Kp.refl (fun x => x = H.size ∨ x = H1.size) H73).sets' e80 (.inl (.inr rfl))) fun b g => .inl g
    have kt80 : KT [33] H65 H80 := KT.of k80 fun b g => by
      rcases g with rfl | rfl
      · exact ⟨33, _, by simp, r1z⟩
      · exact ⟨33, _, by simp, r2z⟩
    have kt280 : KT [60, 33] H2 H80 := KT.trans (kt65.mono fun t ht => by simp at ht ⊢; exact .inl ht) (kt80.mono fun t ht => by simp at ht ⊢; exact .inr ht)
    have rr80 := kt280.row rr2 (by decide)
    have so : Slot Hx 38 2 ta := by
      obtain ⟨l, o⟩ := hh3.sa
      exact ⟨l, (KT.of (T := [60]) kx fun b g => ⟨60, _, by simp, g ▸ hh3.row⟩).own o (by decide)⟩
    have so80 : Slot H80 38 2 ta := so.imp fun _ o => kt280.own (ktx.own o (by decide)) (by decide)
    refine hQ (Sl.mk (some ⟨b, 0, none⟩) c c) H80 ⟨kt80.row rh65 (by decide), so80, rr80.slot (by rw [List.length_append, hfl, mks_len vaMk_len, ← Nat.add_mul]; congr 1; omega) hmx⟩ ⟨b, c, rfl, hc, hmx, rr80⟩ ?_ fun b' g => by rw [sl_at g]; exact hbS
    exact ((k0.trans k2 fun b' e => by subst e; exact hbS.imp .inr id).trans k65 fun b e => .inl (.inl e)).trans k80 fun b g => .inr (by rcases g with rfl | rfl <;> omega)
  have ta3 : ∀ b, tv.at b → b ≠ hb := fun b g e => by subst e; obtain ⟨l, g⟩ := hh.sv.row g; exact absurd (g.inj hh.row).2 (by decide)
  refine ⟨sl, rowc (i := 2) r1 rfl, _, rfl, tv, by rw [add_mk]; exact hh3.row.cell_of rfl, fun _ => ⟨_, rfl, ?_⟩, fun _ => one tv H3 hh3.row hh3.sv (fun _ h => h) (Kp.refl _ _)⟩
  rw [add_mk]
  refine ⟨hh3.row.some (by simp), hh3.row.frz _, fun H18 e18 => ?_⟩
  exact one Sl.nil H18 (hh3.row.set' (i := 1) e18) (Slot.nil _ _ _) (fun b h => by cases h) ((Kp.refl (fun x => x = hb) H3).set' e18 (.inl rfl))
/-- It is as it was; it is written over. -/
theorem c48 {name : ByteArray} {time : Int} {sl : Sl} {A : List VT} {Q : Bool → Hp → Prop} (hh : HH H hb ta tv) (la : LAv H tv A) (src : ∀ H', Kp tv.at H H' → RdL vF H' sl A) (hl : A.length ≤ 4194304) (hQ : ∀ H', HH H' hb ta tv → Kp tv.at H H' → Q true H') : F48 (some ⟨hb, 0, none⟩) name time sl H Q := by
  have hn := (src H (Kp.refl _ _)).n
  intro H1 e1
  have k1 : Kp No H H1 := (Kp.refl _ _).push' e1
  have s1 := size_push' e1
  have r1 : Row H1 H.size 33 [.string name, .int .i64 time, Sl.v sl] := Row.new' e1
  obtain ⟨b, c, eS, hc, hmx, hrow⟩ := la
  have hat : tv.at b := by rw [eS]; rfl
  have hln : (A.flatMap vF.f ++ mks vaMk A.length (c - A.length)).length = c * 4 := by
    rw [List.length_append, fl_len vF.len, mks_len vaMk_len, ← Nat.add_mul]; congr 1; omega
  have bsz := hrow.lt
  have hne : b ≠ hb := fun e => by subst e; exact absurd (hrow.inj hh.row).2 (by decide)
  intro X2 hX2
  suffices G : ∀ (d i : Nat) (l' : List Value) (H' : Hp), i + d = c → Row H' b 35 l' → l'.length = c * 4 → l'.drop (i * 4) = (A.flatMap vF.f ++ mks vaMk A.length (c - A.length)).drop (i * 4) → Kp (fun x => x = b) H1 H' → X2 true (i : Int) H' from
    G c 0 _ H1 (by omega) (k1.row hrow id) hln rfl (Kp.refl _ _)
  intro d
  have kall : ∀ {Hx}, Kp (fun x => x = b) H1 Hx → Kp tv.at H Hx := fun k => (k1.mono fun _ _ h => h.elim).trans k fun b' e => .inl (by subst e; exact hat)
  have ch : ∀ {Hx}, Kp (fun x => x = b) H1 Hx → cell Hx (Addr.add ⟨hb, 0, none⟩ 1) = some (Sl.v (Sl.mk (some ⟨b, 0, none⟩) c c)) := fun k => by
    have := (k.row ((hh.no k1).row) (fun e => hne e.symm)).cell_of (i := 1) rfl
    rw [eS] at this
    rw [add_mk]; exact this
  have cs : ∀ {Hx}, Kp (fun x => x = b) H1 Hx → cell Hx (Addr.add ⟨H.size, 0, none⟩ 2) = some (Sl.v sl) := fun k => by rw [add_mk]; exact (k.row r1 (by show H.size ≠ b; omega)).cell_of rfl
  induction d with
  | zero =>
    intro i l' H' hi hr hl' he k
    refine hX2 _ _ _ ⟨_, rfl, _, ch k, fun g => absurd (of_decide_eq_true g) (by show ¬ (i : Int) < (c : Int); omega), fun _ => ?_⟩
    have kk := kall k
    refine hQ H' ⟨kk.row hh.row fun g => absurd g fun g => by obtain ⟨l, g⟩ := hh.sv.row g; exact absurd (g.inj hh.row).2 (by decide), ?_, ?_⟩ kk
    · exact hh.sa.kp kk fun b' g g' => by obtain ⟨l, g⟩ := hh.sa.row g; obtain ⟨l2, g'⟩ := hh.sv.row g'; exact absurd (g.inj g').2 (by decide)
    · rw [eS]; exact hr.slot hl' hmx
  | succ d ih =>
    intro i l' H' hi hr hl' he k
    have it : ((i : Nat) : Int).toNat = i := by omega
    have him : i * 4 + 4 ≤ c * 4 := by rw [← Nat.succ_mul]; exact Nat.mul_le_mul_right _ (by omega)
    have bl' := k.size
    have four : ∀ Hx, Kp (fun x => x = b) H1 Hx → Row Hx b 35 l' → F48_4 Q X2 (some ⟨hb, 0, none⟩) ⟨H.size, 0, none⟩ (i : Int) true Hx := fun Hx kx rx => by
      refine ⟨_, rfl, _, ch kx, _, rfl, by omega, by show (i : Int) < (c : Int); omega, ?_⟩
      rw [it, add_mk, Nat.zero_add]
      refine ⟨rx.mayw (by omega), fun H65 e65 => ?_⟩
      have r65 := rx.sets' e65 (by show i * 4 + 4 ≤ _; omega)
      rw [wr (by omega) (by omega), show ((i : Int) + 1) = ((i + 1 : Nat) : Int) by omega]
      refine ih (i + 1) _ H65 (by omega) r65 (by rw [length_over _ _ _ (by show i * 4 + 4 ≤ _; omega)]; exact hl') ?_ (kx.sets' e65 (.inl rfl))
      have e2 : (i + 1) * 4 = i * 4 + 4 := Nat.succ_mul _ _
      have e3 := congrArg (List.drop 4) he
      rw [List.drop_drop, List.drop_drop] at e3
      rw [e2, ← e3]
      exact over_drop l' (vR 99 0 S_kept false) (i * 4) (by rw [hl']; exact him)
    have three : ∀ (v : VT) (Hx : Hp), Kp (fun x => x = b) H1 Hx → Row Hx b 35 l' → Row Hx H'.size 35 (vF.f v) → ((A.flatMap vF.f ++ mks vaMk A.length (c - A.length)).drop (i * 4)).take 4 = vF.f v → F48_3 Q X2 (some ⟨hb, 0, none⟩) ⟨H.size, 0, none⟩ true (i : Int) ⟨H'.size, 0, none⟩ Hx := fun v Hx kx rx rb hv => by
      refine ⟨fun _ => ⟨_, rfl, _, ch kx, _, rfl, by omega, by show (i : Int) < (c : Int); omega, v.k, v.n, v.s, v.b, ?_, v.k, v.n, v.s, v.b, rb.all, ?_⟩, fun g => (by cases g)⟩
      · rw [it, add_mk]
        exact rx.cells (by rw [Nat.zero_add, Nat.add_zero, he]; exact hv)
      · rw [show (decide (v.k = v.k) && (decide (v.n = v.n) && (seq v.s v.s && (v.b == v.b)))) = true from by simp [seq_refl]]
        exact four Hx kx rx
    refine hX2 _ _ _ ⟨_, rfl, _, ch k, fun _ => fun H12 e12 => ?_, fun g => absurd (of_decide_eq_false g) (by show ¬ ¬ (i : Int) < (c : Int); omega)⟩
    have k12 : Kp No H' H12 := (Kp.refl _ _).push' e12
    have r12 := Row.new' e12
    refine ⟨r12.mayw (by simp), fun H14 e14 => ?_⟩
    have r14 : Row H14 H'.size 35 (vaMk i) := r12.fill' e14 rfl
    have k14 : Kp No H' H14 := k12.sets' e14 (.inr (Nat.le_refl _))
    have kk14 := k.trans (k14.mono fun _ _ h => h.elim) fun b h => .inl h
    refine ⟨sl, cs kk14, fun g => ?_, fun g => ?_⟩
    · have g := of_decide_eq_true g
      obtain ⟨v, gv⟩ : ∃ v, A[i]? = some v := ⟨_, List.getElem?_eq_getElem (by omega)⟩
      obtain ⟨a, ha, hlt, hcs⟩ := (src H14 (kall kk14)).get gv
      refine ⟨sl, cs kk14, a, ha, by omega, by omega, v.k, v.n, v.s, v.b, by rw [it]; exact hcs, r14.mayw (by rw [vaMk_len]; omega), fun H34 e34 => ?_⟩
      have k34 : Kp No H' H34 := k14.sets' e34 (.inr (Nat.le_refl _))
      exact three v H34 (k.trans (k34.mono fun _ _ h => h.elim) fun b h => .inl h) (k34.row hr id) (r14.fill' e34 rfl) (lk_lo vF gv)
    · have g := of_decide_eq_false g
      exact three ⟨IntKind.i64.wrap (77 + (i : Int)), 0, E, false⟩ H14 kk14 (k14.row hr id) r14 (lk_hi vF vaMk_len (by omega) (by omega))
end
end Go.Hw
