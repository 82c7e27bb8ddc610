/- The law's book: lists written full, and what was appended to them. Own work of this session. -/
import Derived.Test.YtphnfleopkcmlaaK1
set_option linter.unusedVariables false
namespace Go.Hw
open Go

def s41 : Fmt Sl 41 1 := ⟨fun x => [Sl.v x], fun _ => rfl, by intro x v hv; simp at hv; rcases hv with rfl; rfl, by decide⟩
def s50 : Fmt Sl 50 1 := ⟨fun x => [Sl.v x], fun _ => rfl, by intro x v hv; simp at hv; rcases hv with rfl; rfl, by decide⟩
def mkM (i : Nat) : Mk := (1000 + ((i / 4 : Nat) : Int), 0)
def mkI (i : Nat) : Int := 1000000 + ((i / 4 : Nat) : Int)

/-- The book: all that it holds lies in blocks 'G'. -/
structure Bk (V G : Nat → Prop) (H : Hp) (bk : Nat) (MS IS : List Sl) : Prop where
  ex : ∃ msl isl tot, Row H bk 64 [Sl.v msl, Sl.v isl, .int .i64 tot] ∧ Lst s41 H msl MS ∧ Lst s50 H isl IS ∧ (∀ b, msl.at b → V b) ∧ (∀ b, isl.at b → V b)
  gb : V bk
  vg : ∀ b, V b → G b
  ms : ∀ i s, MS[i]? = some s → All mF H (mkM i) s ∧ ∀ a, s.b = some a → G a.block ∧ ¬ V a.block
  is : ∀ i s, IS[i]? = some s → All iF H (mkI i) s ∧ ∀ a, s.b = some a → G a.block ∧ ¬ V a.block
  m4 : MS.length % 4 = 0
  i4 : IS.length % 4 = 0
  lt : ∀ b, G b → b < H.size
  sz : ∀ s, s ∈ MS ∨ s ∈ IS → s.n ≤ 4100000

section
variable {V G S : Nat → Prop} {H H' : Hp} {bk : Nat} {MS IS : List Sl}
theorem Bk.kp (h : Bk V G H bk MS IS) (k : Kp S H H') (hs : Ap G S) : Bk V G H' bk MS IS := by
  obtain ⟨msl, isl, tot, h1, h2, h3, h4, h5⟩ := h.ex
  exact ⟨⟨msl, isl, tot, k.row h1 (hs _ (h.vg _ h.gb)), h2.kp k fun b hb => hs b (h.vg _ (h4 b hb)), h3.kp k fun b hb => hs b (h.vg _ (h5 b hb)), h4, h5⟩, h.gb, h.vg, fun i s hi => ⟨(h.ms i s hi).1.kp k fun a ha => hs _ ((h.ms i s hi).2 a ha).1, (h.ms i s hi).2⟩,
    fun i s hi => ⟨(h.is i s hi).1.kp k fun a ha => hs _ ((h.is i s hi).2 a ha).1, (h.is i s hi).2⟩, h.m4, h.i4, fun b hb => Nat.lt_of_lt_of_le (h.lt b hb) k.size, h.sz⟩

theorem fill_step {α : Type} {L : List α} {x : α} {i : Nat} (hi : i < L.length) : (List.replicate i x ++ L.drop i).set i x = List.replicate (i + 1) x ++ L.drop (i + 1) := by
  have h1 : (List.replicate i x).length = i := List.length_replicate
  rw [List.set_append_right _ _ (by omega), h1, Nat.sub_self, List.drop_eq_getElem_cons hi, List.set_cons_zero, ← List.replicate_append_replicate (n := i) (m := 1), List.append_assoc]
  rfl

theorem c25_4 {l g1 g2 : Sl} {x : Mk} {mb p : Nat} {Q : Hp → Prop} {H0 : Hp} (hb : Base mF H x l p) (hp : l.n + 2 ≤ p ∨ l.n ≤ p) (hn : l.n ≤ 4000000) (hm : Row H mb 32 (mF.f x)) (hmb : ¬ l.at mb) (hg1 : Got mF H x l p H0.size g1) (hg2 : Got mF H x l p H0.size g2) (hl : ∀ b, l.at b → b < H0.size) (hs : H0.size ≤ H.size)
    (hQ : ∀ H' g3 p, Base mF H' x l p → l.n ≤ p → Got mF H' x l p H0.size g1 → Got mF H' x l p H0.size g2 → Got mF H' x l p H0.size g3 → g3.n ≤ l.n + 70000 → Kp l.at H H' → F25_3 Q (some ⟨bk, 0, none⟩) l g1 g2 g3 H') : F25_L4 Q (some ⟨bk, 0, none⟩) l ⟨mb, 0, none⟩ g1 g2 l 0 H := by
  intro X hX
  suffices G : ∀ (d i p : Nat) (H' : Hp), i + d = 70000 → Base mF H' x l p → l.n + i ≤ p → Got mF H' x l p H0.size g1 → Got mF H' x l p H0.size g2 → Row H' mb 32 (mF.f x) → Kp l.at H H' → X ⟨l.b, l.n + i, l.c⟩ (i : Int) H' from
    G 70000 0 p H (by omega) hb (by omega) hg1 hg2 hm (Kp.refl _ _)
  intro d
  induction d with
  | zero =>
    intro i p H' hi hb hp hg1 hg2 hm k
    have fin : F25_3 Q (some ⟨bk, 0, none⟩) l g1 g2 ⟨l.b, l.n + i, l.c⟩ H' := hQ H' _ p hb (by omega) hg1 hg2 (.inl ⟨_, _, hp, rfl⟩) (by show l.n + i ≤ _; omega) k
    exact hX _ _ _ ⟨fun _ => ⟨fun hh => absurd (of_decide_eq_true hh) (by omega), fun _ => fin⟩, fun _ => fin⟩
  | succ d ih =>
    intro i p H' hi hb hp hg1 hg2 hm k
    have fin : F25_3 Q (some ⟨bk, 0, none⟩) l g1 g2 ⟨l.b, l.n + i, l.c⟩ H' := hQ H' _ p hb (by omega) hg1 hg2 (.inl ⟨_, _, hp, rfl⟩) (by show l.n + i ≤ _; omega) k
    refine hX _ _ _ ⟨fun hroom => ⟨fun _ => ⟨_, _, hm.all, fun H1 e1 => ?_⟩, fun _ => fin⟩, fun _ => fin⟩
    have hroom := of_decide_eq_true hroom
    have hroom : l.n + i < l.c := by
      have : ((⟨l.b, l.n + i, l.c⟩ : Sl).n : Int) = ((l.n + i : Nat) : Int) := rfl
      omega
    have k1 : Kp No H' H1 := (Kp.refl No _).push' e1
    have s1 := size_push' e1
    have bx : Row H1 H'.size 32 (mF.f x) := Row.new' e1
    have hw : IntKind.i64.wrap ((i : Int) + 1) = ((i + 1 : Nat) : Int) := by rw [wr (by omega) (by omega)]; omega
    rw [hw]
    refine Base.app (q := l.n + i) (j := 1) (p := p) (hb.kp k1 fun _ _ => id) hp (by decide) (Row.rdl1 bx) rfl (by omega) (by omega) (fun hr H2 h2 k2 => ?_) fun hgr => absurd hgr (by omega)
    exact ih (i + 1) _ H2 (by omega) h2 (by omega) ((hg1.kp k1 (Nat.le_refl _) fun _ h => h.elim).kp k2 (by omega) hl) ((hg2.kp k1 (Nat.le_refl _) fun _ h => h.elim).kp k2 (by omega) hl) (k2.row (k1.row hm id) hmb) ((k.trans k1 fun _ h => h.elim).trans k2 fun _ h => .inl h)

theorem c25 {l : Sl} {L : List Mk} {Q : Hp → Prop} (h : Bk V G H bk MS IS) (hl : Lst mF H l L) (hG : ∀ b, l.at b → ¬ G b) (hn : MS.length ≤ 8000000) (hL : L.length ≤ 4000000 - 70000)
    (hQ : ∀ H' V' l1 l2 l3 l4, Bk V' (fun b => G b ∨ l.at b ∨ (H.size ≤ b ∧ b < H'.size)) H' bk (MS ++ [l1, l2, l3, l4]) IS → Kp (fun b => G b ∨ l.at b) H H' → Q H') : F25 (some ⟨bk, 0, none⟩) l H Q := by
  obtain ⟨msl, isl, tot, hrow, hms, his, hmV, hiV⟩ := h.ex
  have hmG : ∀ b, msl.at b → G b := fun b hb => h.vg b (hmV b hb)
  have hiG : ∀ b, isl.at b → G b := fun b hb => h.vg b (hiV b hb)
  have hgb := h.vg _ h.gb
  have hmn := hms.n
  have hln := hl.n
  have hlt : ∀ b, l.at b → b < H.size := fun b hb => hl.lt hb
  have hbk : ¬ l.at bk := fun hb => hG _ hb hgb
  have hval : IntKind.i64.wrap (1000 + IntKind.i64.wrap (Int.tdiv (msl.n : Int) 4)) = 1000 + ((MS.length / 4 : Nat) : Int) := by
    have : Int.tdiv (msl.n : Int) 4 = ((MS.length / 4 : Nat) : Int) := by
      rw [Int.tdiv_eq_ediv_of_nonneg (by omega)]; omega
    rw [this, wr (x := ((MS.length / 4 : Nat) : Int)) (by omega) (by omega), wr (by omega) (by omega)]
  refine ⟨_, rfl, msl, hrow.cell_of (i := 0) rfl, ?_⟩
  rw [hval]
  intro H5 e5
  have k5 : Kp No H H5 := (Kp.refl No _).push' e5
  have s5 := size_push' e5
  have z5 : Row H5 H.size 32 [.int .i64 0, .int .i64 0] := Row.new' e5
  refine ⟨z5.mayall, fun HS eS => ?_⟩
  have sS0 := size_sets' eS
  have mS : Row HS H.size 32 (mF.f (mkM MS.length)) := z5.fill' eS rfl
  have kS : Kp No H HS := k5.trans ((Kp.refl (fun b => b = H.size) _).sets' eS (.inl rfl)) fun _ hb => .inr (by omega)
  have hlS := hl.kp kS fun _ _ => id
  have hmbl : ¬ l.at H.size := fun hh => by have := hlt _ hh; omega
  -- the list is written full
  intro X hX
  suffices G1 : ∀ (d i : Nat) (H' : Hp), i + d = L.length → Lst mF H' l (List.replicate i (mkM MS.length) ++ L.drop i) → Kp l.at HS H' → X (i : Int) H' from G1 L.length 0 HS (by omega) (by simpa using hlS) (Kp.refl _ _)
  intro d
  induction d with
  | succ d ih =>
    intro i H' hi li k
    have hlen : (List.replicate i (mkM MS.length) ++ L.drop i).length = L.length := by simp; omega
    have hw : IntKind.i64.wrap ((i : Int) + 1) = ((i + 1 : Nat) : Int) := by rw [wr (by omega) (by omega)]; omega
    obtain ⟨a, ha, hsa, hin, hmw, hset⟩ := li.set (i := i) (by omega) (mkM MS.length)
    refine hX _ _ ⟨fun _ => ⟨_, _, (k.row mS hmbl).all, a, ha, by omega, by omega, hmw, fun H25 e25 => ?_⟩, fun hh => absurd (of_decide_eq_false hh) (by omega)⟩
    obtain ⟨l25, k25⟩ := hset H25 e25
    rw [hw]
    refine ih (i + 1) H25 (by omega) ?_ (k.trans k25 fun _ h => .inl h)
    rw [fill_step (by omega)] at l25
    exact l25
  | zero =>
    intro i H' hi li k
    refine hX _ _ ⟨fun hh => absurd (of_decide_eq_true hh) (by omega), fun _ => ?_⟩
    obtain rfl : i = L.length := by omega
    rw [List.drop_eq_nil_of_le (Nat.le_refl _), List.append_nil] at li
    have hb := Base.of li
    have hall : All mF H' (mkM MS.length) l := li.all
    have hrow' : Row H' bk 64 [Sl.v msl, Sl.v isl, .int .i64 tot] := k.row (kS.row hrow id) hbk
    have bkS : Bk V G H' bk MS IS := (h.kp kS fun _ _ => id).kp k fun b hb hh => hG b hh hb
    have sS := k.size
    have sS2 := kS.size
    have mH' : Row H' H.size 32 (mF.f (mkM MS.length)) := k.row mS hmbl
    -- one more, two more
    refine ⟨_, _, mH'.all, fun H31 e31 => ?_⟩
    have k31 : Kp No H' H31 := (Kp.refl No _).push' e31
    have s31 := size_push' e31
    have b31 : Row H31 H'.size 32 (mF.f (mkM MS.length)) := Row.new' e31
    have hl0 : (⟨l.b, l.n, l.c⟩ : Sl) = l := rfl
    -- behind both
    have last : ∀ (g1 g2 : Sl) (p : Nat) (HB : Hp), Base mF HB (mkM MS.length) l p → l.n ≤ p → Got mF HB (mkM MS.length) l p H.size g1 → Got mF HB (mkM MS.length) l p H.size g2 → g1.n ≤ l.n + 2 → g2.n ≤ l.n + 2 → Kp l.at H' HB → F25_L4 Q (some ⟨bk, 0, none⟩) l ⟨H.size, 0, none⟩ g1 g2 l 0 HB := by
      intro g1 g2 p HB hbB hpB hgB1 hgB2 hz1 hz2 kB
      have sB := kB.size
      refine c25_4 (H0 := H) hbB (.inr hpB) (by omega) (kB.row mH' hmbl) hmbl hgB1 hgB2 hlt (by omega) fun HC g3 p' hbC hpC hg1 hg2 hg3 hz3 kC => ?_
      have sC := kC.size
      have kHC : Kp l.at H' HC := kB.trans kC fun _ h => .inl h
      have bkC : Bk V G HC bk MS IS := bkS.kp kHC fun b hb hh => hG b hh hb
      have rowC : Row HC bk 64 [Sl.v msl, Sl.v isl, .int .i64 tot] := kHC.row hrow' hbk
      have msC : Lst s41 HC msl MS := ((hms.kp kS fun _ _ => id).kp k fun b hb hh => hG b hh (hmG b hb)).kp kHC fun b hb hh => hG b hh (hmG b hb)
      have isC : Lst s50 HC isl IS := ((his.kp kS fun _ _ => id).kp k fun b hb hh => hG b hh (hiG b hb)).kp kHC fun b hb hh => hG b hh (hiG b hb)
      obtain ⟨a1, w1⟩ := hg1.all hbC
      obtain ⟨a2, w2⟩ := hg2.all hbC
      obtain ⟨a3, w3⟩ := hg3.all hbC
      have a0 : All mF HC (mkM MS.length) l := hbC.all hpC
      refine ⟨_, rfl, msl, rowC.cell_of (i := 0) rfl, fun H74 e74 => ?_⟩
      have k74 : Kp No HC H74 := (Kp.refl No _).push' e74
      have s74 := size_push' e74
      have x74 : Row H74 HC.size 41 ([l, g1, g2, g3].flatMap s41.f) := Row.new' e74
      refine (msC.kp k74 fun _ _ => id).append (xs := Sl.mk (some ⟨HC.size, 0, none⟩) 4 4) (M := [l, g1, g2, g3]) (Row.rdl x74 rfl 4) rfl (by simp; omega) (by simp; omega) fun r78 H76 l76 k76 hs76 => ?_
      have s76 := k76.size
      have hnm : ∀ b, msl.at b → G b := hmG
      have row76 : Row H76 bk 64 [Sl.v msl, Sl.v isl, .int .i64 tot] := k76.row (k74.row rowC id) fun hb => ((msC.kp k74 fun _ _ => id).row hb).elim fun _ hr => (k74.row rowC id).ne_type hr (by decide) rfl
      refine ⟨_, rfl, row76.some (i := 0) (by simp), row76.frz 0, fun H81 e81 => ?_⟩
      have row81 : Row H81 bk 64 [Sl.v r78, Sl.v isl, .int .i64 tot] := row76.set' (i := 0) e81
      have k81 : Kp (fun b => b = bk) H76 H81 := (Kp.refl _ _).set' e81 (.inl rfl)
      have s81 := size_set' e81
      refine ⟨_, rfl, tot, row81.cell_of (i := 2) rfl, _, rfl, row81.some (i := 2) (by simp), row81.frz 2, fun H91 e91 => ?_⟩
      have row91 : ∃ tot', Row H91 bk 64 [Sl.v r78, Sl.v isl, .int .i64 tot'] := ⟨_, row81.set' (i := 2) e91⟩
      obtain ⟨tot', row91⟩ := row91
      have k91 : Kp (fun b => b = bk) H81 H91 := (Kp.refl _ _).set' e91 (.inl rfl)
      have s91 := size_set' e91
      have kk : Kp (fun b => b = bk) H76 H91 := k81.trans k91 fun _ h => .inl h
      have kC91 : Kp (fun b => b = bk ∨ msl.at b) HC H91 := ((k74.dec fun _ h => h.elim).trans k76 fun b hb => .inl (.inr hb)).trans kk fun b hb => .inl (.inl hb)
      have vC : ∀ b, (b = bk ∨ msl.at b) → V b := fun b hb => by
        rcases hb with hb | hb
        · exact hb ▸ h.gb
        · exact hmV b hb
      have gC : ∀ b, (b = bk ∨ msl.at b) → G b := fun b hb => h.vg b (vC b hb)
      have hall' : ∀ s, All mF HC (mkM MS.length) s → (∀ a, s.b = some a → l.at a.block ∨ (H.size ≤ a.block ∧ a.block < HC.size)) → All mF H91 (mkM MS.length) s ∧ ∀ a, s.b = some a → ((G a.block ∨ l.at a.block ∨ (H.size ≤ a.block ∧ a.block < H91.size)) ∧ ¬ (V a.block ∨ (HC.size ≤ a.block ∧ a.block < H91.size))) := by
        intro s hs hw
        refine ⟨hs.kp kC91 fun a ha hh => ?_, fun a ha => ?_⟩
        · have hg := gC _ hh
          rcases hw a ha with h1 | h1
          · exact hG _ h1 hg
          · have := h.lt _ hg; omega
        · rcases hw a ha with h1 | h1
          · exact ⟨.inr (.inl h1), fun hh => by
              rcases hh with hh | hh
              · exact hG _ h1 (h.vg _ hh)
              · have := hlt _ h1; omega⟩
          · exact ⟨.inr (.inr ⟨h1.1, by omega⟩), fun hh => by
              rcases hh with hh | hh
              · have := h.lt _ (h.vg _ hh); omega
              · omega⟩
      have nr : ∀ b u m, Row HC b u m → u ≠ 64 → u ≠ 41 → ¬ (b = bk ∨ msl.at b) := fun b u m hr h1 h2 hh => by
        rcases hh with hh | hh
        · exact hr.ne_type rowC h1 hh
        · exact (msC.row hh).elim fun _ hr' => hr.ne_type hr' h2 rfl
      have f0 : ∀ a, l.b = some a → l.at a.block ∨ (H.size ≤ a.block ∧ a.block < HC.size) := fun a ha => by
        obtain ⟨b, hb⟩ : ∃ b, l.at b := by
          rcases hl.own with ⟨h0, _⟩ | ⟨b, _, h1, _⟩
          · rw [h0] at ha; cases ha
          · exact ⟨b, h1⟩
        have hb' : l.b = some ⟨b, 0, none⟩ := hb
        rw [hb'] at ha
        injection ha with ha
        rw [← ha]; exact .inl hb
      have l91 := l76.kp kk fun b hb hh => (l76.row hb).elim fun _ hr => hr.ne_type row76 (by decide) hh
      have oth := isC.kp kC91 fun b hb hh => (isC.row hb).elim fun _ hr => nr _ _ _ hr (by decide) (by decide) hh
      have hr78 : ∀ b, r78.at b → V b ∨ (HC.size ≤ b ∧ b < H91.size) := fun b hb => by
        have := l76.lt hb
        rcases hs76 b hb with hb | hb
        · exact .inl (hmV b hb)
        · exact .inr ⟨by omega, by omega⟩
      -- the book's other lists stay
      have keepM : ∀ i s, MS[i]? = some s → All mF H91 (mkM i) s ∧ ∀ a, s.b = some a → ((G a.block ∨ l.at a.block ∨ (H.size ≤ a.block ∧ a.block < H91.size)) ∧ ¬ (V a.block ∨ (HC.size ≤ a.block ∧ a.block < H91.size))) := fun i s hi => by
        obtain ⟨h1, h2⟩ := bkC.ms i s hi
        exact ⟨h1.kp kC91 fun a ha hh => (h2 a ha).2 (vC _ hh), fun a ha => ⟨.inl (h2 a ha).1, fun hh => by
          rcases hh with hh | hh
          · exact (h2 a ha).2 hh
          · have := h.lt _ (h2 a ha).1; omega⟩⟩
      have keepI : ∀ i s, IS[i]? = some s → All iF H91 (mkI i) s ∧ ∀ a, s.b = some a → ((G a.block ∨ l.at a.block ∨ (H.size ≤ a.block ∧ a.block < H91.size)) ∧ ¬ (V a.block ∨ (HC.size ≤ a.block ∧ a.block < H91.size))) := fun i s hi => by
        obtain ⟨h1, h2⟩ := bkC.is i s hi
        exact ⟨h1.kp kC91 fun a ha hh => (h2 a ha).2 (vC _ hh), fun a ha => ⟨.inl (h2 a ha).1, fun hh => by
          rcases hh with hh | hh
          · exact (h2 a ha).2 hh
          · have := h.lt _ (h2 a ha).1; omega⟩⟩
      have new : ∀ i s, (MS ++ [l, g1, g2, g3])[i]? = some s → All mF H91 (mkM i) s ∧ ∀ a, s.b = some a → ((G a.block ∨ l.at a.block ∨ (H.size ≤ a.block ∧ a.block < H91.size)) ∧ ¬ (V a.block ∨ (HC.size ≤ a.block ∧ a.block < H91.size))) := by
        intro i s hi
        by_cases hlt : i < MS.length
        · rw [List.getElem?_append_left hlt] at hi
          exact keepM i s hi
        · rw [List.getElem?_append_right (by omega)] at hi
          have h4 := h.m4
          have hi4 := (List.getElem?_eq_some_iff.1 hi).1
          have hi4 : i - MS.length < 4 := hi4
          have hmk : mkM i = mkM MS.length := by
            unfold mkM
            have : i / 4 = MS.length / 4 := by omega
            rw [this]
          rw [hmk]
          have hs : s = l ∨ s = g1 ∨ s = g2 ∨ s = g3 := by
            have := List.mem_of_getElem? hi
            simpa using this
          rcases hs with rfl | rfl | rfl | rfl
          · exact hall' _ a0 f0
          · exact hall' _ a1 w1
          · exact hall' _ a2 w2
          · exact hall' _ a3 w3
      refine hQ H91 (fun b => V b ∨ (HC.size ≤ b ∧ b < H91.size)) l g1 g2 g3 ⟨⟨r78, isl, tot', row91, l91, oth, hr78, fun b hb => .inl (hiV b hb)⟩, .inl h.gb, fun b hb => ?_, new, keepI, (by have := h.m4; simp; omega), h.i4, fun b hb => ?_, fun s hs => ?_⟩ ?_
      · rcases hb with hb | hb
        · exact .inl (h.vg b hb)
        · exact .inr (.inr ⟨by omega, hb.2⟩)
      · rcases hb with hb | hb | hb
        · have := h.lt b hb; omega
        · have := hlt b hb; omega
        · exact hb.2
      · have hold := h.sz s
        have : s ∈ MS ∨ s ∈ IS ∨ s = l ∨ s = g1 ∨ s = g2 ∨ s = g3 := by
          rcases hs with hs | hs
          · have := List.mem_append.1 hs
            rcases this with h1 | h1
            · exact .inl h1
            · have : s = l ∨ s = g1 ∨ s = g2 ∨ s = g3 := by simpa using h1
              exact .inr (.inr this)
          · exact .inr (.inl hs)
        rcases this with h1 | h1 | rfl | rfl | rfl | rfl
        · exact hold (.inl h1)
        · exact hold (.inr h1)
        · omega
        · omega
        · omega
        · omega
      · exact (((kS.dec fun _ h => h.elim).trans k fun b hb => .inl (.inr hb)).trans kHC fun b hb => .inl (.inr hb)).trans kC91 fun b hb => .inl (.inl (gC b hb))
    have second : ∀ (g1 : Sl) (p : Nat) (HA : Hp), Base mF HA (mkM MS.length) l p → l.n ≤ p → Got mF HA (mkM MS.length) l p H.size g1 → g1.n ≤ l.n + 2 → Kp l.at H' HA → ∃ (x37 : Int) (x38 : Int), cells HA ⟨H.size, 0, none⟩ [(.int .i64 x37), (.int .i64 x38)] 0 ∧ (
 ∃ (x40 : Int) (x41 : Int), cells HA ⟨H.size, 0, none⟩ [(.int .i64 x40), (.int .i64 x41)] 0 ∧ (
 ∀ H42 : Hp, H42 = Array.push HA (.cells #[(.int .i64 x37), (.int .i64 x38), (.int .i64 x40), (.int .i64 x41)] 32) → (
 AppendF H42 32 2 16 #[(.int .i64 0), (.int .i64 0)] l ((Sl.mk (some ⟨HA.size, 0, none⟩) 2 2)).b ((Sl.mk (some ⟨HA.size, 0, none⟩) 2 2)).n (fun (r46 : Sl) (H44 : Hp) => 
 F25_L4 Q (some ⟨bk, 0, none⟩) l ⟨H.size, 0, none⟩ g1 r46 l 0 H44)))) := by
      intro g1 p HA hbA hpA hgA hz1 kA
      have sA := kA.size
      refine ⟨_, _, (kA.row mH' hmbl).all, _, _, (kA.row mH' hmbl).all, fun H42 e42 => ?_⟩
      have k42 : Kp No HA H42 := (Kp.refl No _).push' e42
      have s42 := size_push' e42
      have b42 : Row H42 HA.size 32 ([mkM MS.length, mkM MS.length].flatMap mF.f) := Row.new' e42
      refine Base.app (q := l.n) (j := 2) (p := p) (xs := Sl.mk (some ⟨HA.size, 0, none⟩) 2 2) (hbA.kp k42 fun _ _ => id) hpA (by decide) (Row.rdl (L := [mkM MS.length, mkM MS.length]) b42 rfl 2) rfl (by omega) (by omega) (fun hr H2 h2 k2 => ?_) fun hgr r H2 l2 k2 hr2 => ?_
      · exact last g1 _ _ H2 h2 (by omega) ((hgA.kp k42 (Nat.le_refl _) fun _ h => h.elim).kp k2 (by omega) hlt) (.inl ⟨_, _, by omega, rfl⟩) hz1 (Nat.le_refl _) ((kA.trans k42 fun _ h => h.elim).trans k2 fun _ h => .inl h)
      · have s2 := k2.size
        refine last g1 r p H2 ((hbA.kp k42 fun _ _ => id).kp k2 fun _ _ => id) hpA ((hgA.kp k42 (Nat.le_refl _) fun _ h => h.elim).kp k2 (Nat.le_refl _) fun _ h => h.elim) (.inr ⟨l2.all, fun a ha => ?_⟩) hz1 (by have := l2.n; simp at this; omega) ((kA.trans k42 fun _ h => h.elim).trans k2 fun _ h => h.elim)
        obtain ⟨rb, hrb⟩ := l2.some (by simp)
        have hrb' : r.b = some ⟨rb, 0, none⟩ := hrb
        have h3 := hr2 _ hrb
        have h4 := l2.lt hrb
        rw [hrb'] at ha
        injection ha with ha
        rw [← ha]
        exact ⟨by show H.size ≤ rb; omega, h4⟩
    refine Base.app (q := l.n) (j := 1) (p := L.length) (xs := Sl.mk (some ⟨H'.size, 0, none⟩) 1 1) (hb.kp k31 fun _ _ => id) (by omega) (by decide) (Row.rdl1 b31) rfl (by omega) (by omega) (fun hr H2 h2 k2 => ?_) fun hgr r H2 l2 k2 hr2 => ?_
    · exact second _ _ H2 h2 (by omega) (.inl ⟨_, _, by omega, rfl⟩) (show l.n + 1 ≤ l.n + 2 by omega) ((k31.dec fun _ h => h.elim).trans k2 fun _ h => .inl h)
    · have s2 := k2.size
      refine second r L.length H2 ((hb.kp k31 fun _ _ => id).kp k2 fun _ _ => id) (by omega) (.inr ⟨l2.all, fun a ha => ?_⟩) (by have := l2.n; simp at this; omega) ((k31.dec fun _ h => h.elim).trans k2 fun _ h => h.elim)
      obtain ⟨rb, hrb⟩ := l2.some (by simp)
      have hrb' : r.b = some ⟨rb, 0, none⟩ := hrb
      have h3 := hr2 _ hrb
      have h4 := l2.lt hrb
      rw [hrb'] at ha
      injection ha with ha
      rw [← ha]
      exact ⟨by show H.size ≤ rb; omega, h4⟩

theorem c27_4 {l g1 g2 : Sl} {x : Int} {p : Nat} {Q : Hp → Prop} {H0 : Hp} (hb : Base iF H x l p) (hp : l.n + 2 ≤ p ∨ l.n ≤ p) (hn : l.n ≤ 4000000) (hg1 : Got iF H x l p H0.size g1) (hg2 : Got iF H x l p H0.size g2) (hl : ∀ b, l.at b → b < H0.size) (hs : H0.size ≤ H.size)
    (hQ : ∀ H' g3 p, Base iF H' x l p → l.n ≤ p → Got iF H' x l p H0.size g1 → Got iF H' x l p H0.size g2 → Got iF H' x l p H0.size g3 → g3.n ≤ l.n + 70000 → Kp l.at H H' → F27_3 Q (some ⟨bk, 0, none⟩) l g1 g2 g3 H') : F27_L4 Q (some ⟨bk, 0, none⟩) l x g1 g2 l 0 H := by
  intro X hX
  suffices G : ∀ (d i p : Nat) (H' : Hp), i + d = 70000 → Base iF H' x l p → l.n + i ≤ p → Got iF H' x l p H0.size g1 → Got iF H' x l p H0.size g2 → Kp l.at H H' → X ⟨l.b, l.n + i, l.c⟩ (i : Int) H' from
    G 70000 0 p H (by omega) hb (by omega) hg1 hg2 (Kp.refl _ _)
  intro d
  induction d with
  | zero =>
    intro i p H' hi hb hp hg1 hg2 k
    have fin : F27_3 Q (some ⟨bk, 0, none⟩) l g1 g2 ⟨l.b, l.n + i, l.c⟩ H' := hQ H' _ p hb (by omega) hg1 hg2 (.inl ⟨_, _, hp, rfl⟩) (by show l.n + i ≤ _; omega) k
    exact hX _ _ _ ⟨fun _ => ⟨fun hh => absurd (of_decide_eq_true hh) (by omega), fun _ => fin⟩, fun _ => fin⟩
  | succ d ih =>
    intro i p H' hi hb hp hg1 hg2 k
    have fin : F27_3 Q (some ⟨bk, 0, none⟩) l g1 g2 ⟨l.b, l.n + i, l.c⟩ H' := hQ H' _ p hb (by omega) hg1 hg2 (.inl ⟨_, _, hp, rfl⟩) (by show l.n + i ≤ _; omega) k
    refine hX _ _ _ ⟨fun hroom => ⟨fun _ => fun H1 e1 => ?_, fun _ => fin⟩, fun _ => fin⟩
    have hroom := of_decide_eq_true hroom
    have hroom : l.n + i < l.c := by
      have : ((⟨l.b, l.n + i, l.c⟩ : Sl).n : Int) = ((l.n + i : Nat) : Int) := rfl
      omega
    have k1 : Kp No H' H1 := (Kp.refl No _).push' e1
    have s1 := size_push' e1
    have bx : Row H1 H'.size 3 (iF.f x) := Row.new' e1
    have hw : IntKind.i64.wrap ((i : Int) + 1) = ((i + 1 : Nat) : Int) := by rw [wr (by omega) (by omega)]; omega
    rw [hw]
    refine Base.app (q := l.n + i) (j := 1) (p := p) (hb.kp k1 fun _ _ => id) hp (by decide) (Row.rdl1 bx) rfl (by omega) (by omega) (fun hr H2 h2 k2 => ?_) fun hgr => absurd hgr (by omega)
    exact ih (i + 1) _ H2 (by omega) h2 (by omega) ((hg1.kp k1 (Nat.le_refl _) fun _ h => h.elim).kp k2 (by omega) hl) ((hg2.kp k1 (Nat.le_refl _) fun _ h => h.elim).kp k2 (by omega) hl) ((k.trans k1 fun _ h => h.elim).trans k2 fun _ h => .inl h)

theorem c27 {l : Sl} {L : List Int} {Q : Hp → Prop} (h : Bk V G H bk MS IS) (hl : Lst iF H l L) (hG : ∀ b, l.at b → ¬ G b) (hn : IS.length ≤ 8000000) (hL : L.length ≤ 4000000 - 70000)
    (hQ : ∀ H' V' l1 l2 l3 l4, Bk V' (fun b => G b ∨ l.at b ∨ (H.size ≤ b ∧ b < H'.size)) H' bk MS (IS ++ [l1, l2, l3, l4]) → Kp (fun b => G b ∨ l.at b) H H' → Q H') : F27 (some ⟨bk, 0, none⟩) l H Q := by
  obtain ⟨msl, isl, tot, hrow, hms, his, hmV, hiV⟩ := h.ex
  have hmG : ∀ b, msl.at b → G b := fun b hb => h.vg b (hmV b hb)
  have hiG : ∀ b, isl.at b → G b := fun b hb => h.vg b (hiV b hb)
  have hgb := h.vg _ h.gb
  have hmn := his.n
  have hln := hl.n
  have hlt : ∀ b, l.at b → b < H.size := fun b hb => hl.lt hb
  have hbk : ¬ l.at bk := fun hb => hG _ hb hgb
  have hval : IntKind.i64.wrap (1000000 + IntKind.i64.wrap (Int.tdiv (isl.n : Int) 4)) = 1000000 + ((IS.length / 4 : Nat) : Int) := by
    have : Int.tdiv (isl.n : Int) 4 = ((IS.length / 4 : Nat) : Int) := by
      rw [Int.tdiv_eq_ediv_of_nonneg (by omega)]; omega
    rw [this, wr (x := ((IS.length / 4 : Nat) : Int)) (by omega) (by omega), wr (by omega) (by omega)]
  refine ⟨_, rfl, isl, hrow.cell_of (i := 1) rfl, ?_⟩
  rw [hval]
  have kS : Kp No H H := Kp.refl _ _
  have hlS := hl
  have : 1000000 + ((IS.length / 4 : Nat) : Int) = mkI IS.length := rfl
  rw [this]
  -- the list is written full
  intro X hX
  suffices G1 : ∀ (d i : Nat) (H' : Hp), i + d = L.length → Lst iF H' l (List.replicate i (mkI IS.length) ++ L.drop i) → Kp l.at H H' → X (i : Int) H' from G1 L.length 0 H (by omega) (by simpa using hlS) (Kp.refl _ _)
  intro d
  induction d with
  | succ d ih =>
    intro i H' hi li k
    have hlen : (List.replicate i (mkI IS.length) ++ L.drop i).length = L.length := by simp; omega
    have hw : IntKind.i64.wrap ((i : Int) + 1) = ((i + 1 : Nat) : Int) := by rw [wr (by omega) (by omega)]; omega
    obtain ⟨a, ha, hsa, hin, hmw0, hmw1, hset⟩ := li.set1 (i := i) (c := 0) (x := (List.replicate i (mkI IS.length) ++ L.drop i)[i]'(by omega)) (x' := mkI IS.length) (v := .int .i64 (mkI IS.length)) (List.getElem?_eq_getElem (by omega)) (by decide) rfl
    have ea : ((a.add (i * 1)).add 0) = a.add ((i : Int).toNat * 1) := by rw [add_add]; rfl
    rw [ea] at hmw0 hmw1 hset
    refine hX _ _ ⟨fun _ => ⟨a, ha, by omega, by omega, hmw0, hmw1, fun H25 e25 => ?_⟩, fun hh => absurd (of_decide_eq_false hh) (by omega)⟩
    obtain ⟨l25, k25⟩ := hset H25 e25
    rw [hw]
    refine ih (i + 1) H25 (by omega) ?_ (k.trans k25 fun _ h => .inl h)
    rw [fill_step (by omega)] at l25
    exact l25
  | zero =>
    intro i H' hi li k
    refine hX _ _ ⟨fun hh => absurd (of_decide_eq_true hh) (by omega), fun _ => ?_⟩
    obtain rfl : i = L.length := by omega
    rw [List.drop_eq_nil_of_le (Nat.le_refl _), List.append_nil] at li
    have hb := Base.of li
    have hall : All iF H' (mkI IS.length) l := li.all
    have hrow' : Row H' bk 64 [Sl.v msl, Sl.v isl, .int .i64 tot] := k.row (kS.row hrow id) hbk
    have bkS : Bk V G H' bk MS IS := (h.kp kS fun _ _ => id).kp k fun b hb hh => hG b hh hb
    have sS := k.size
    have sS2 := kS.size

    -- one more, two more
    refine fun H31 e31 => ?_
    have k31 : Kp No H' H31 := (Kp.refl No _).push' e31
    have s31 := size_push' e31
    have b31 : Row H31 H'.size 3 (iF.f (mkI IS.length)) := Row.new' e31
    have hl0 : (⟨l.b, l.n, l.c⟩ : Sl) = l := rfl
    -- behind both
    have last : ∀ (g1 g2 : Sl) (p : Nat) (HB : Hp), Base iF HB (mkI IS.length) l p → l.n ≤ p → Got iF HB (mkI IS.length) l p H.size g1 → Got iF HB (mkI IS.length) l p H.size g2 → g1.n ≤ l.n + 2 → g2.n ≤ l.n + 2 → Kp l.at H' HB → F27_L4 Q (some ⟨bk, 0, none⟩) l (mkI IS.length) g1 g2 l 0 HB := by
      intro g1 g2 p HB hbB hpB hgB1 hgB2 hz1 hz2 kB
      have sB := kB.size
      refine c27_4 (H0 := H) hbB (.inr hpB) (by omega) hgB1 hgB2 hlt (by omega) fun HC g3 p' hbC hpC hg1 hg2 hg3 hz3 kC => ?_
      have sC := kC.size
      have kHC : Kp l.at H' HC := kB.trans kC fun _ h => .inl h
      have bkC : Bk V G HC bk MS IS := bkS.kp kHC fun b hb hh => hG b hh hb
      have rowC : Row HC bk 64 [Sl.v msl, Sl.v isl, .int .i64 tot] := kHC.row hrow' hbk
      have msC : Lst s41 HC msl MS := ((hms.kp kS fun _ _ => id).kp k fun b hb hh => hG b hh (hmG b hb)).kp kHC fun b hb hh => hG b hh (hmG b hb)
      have isC : Lst s50 HC isl IS := ((his.kp kS fun _ _ => id).kp k fun b hb hh => hG b hh (hiG b hb)).kp kHC fun b hb hh => hG b hh (hiG b hb)
      obtain ⟨a1, w1⟩ := hg1.all hbC
      obtain ⟨a2, w2⟩ := hg2.all hbC
      obtain ⟨a3, w3⟩ := hg3.all hbC
      have a0 : All iF HC (mkI IS.length) l := hbC.all hpC
      refine ⟨_, rfl, isl, rowC.cell_of (i := 1) rfl, fun H74 e74 => ?_⟩
      have k74 : Kp No HC H74 := (Kp.refl No _).push' e74
      have s74 := size_push' e74
      have x74 : Row H74 HC.size 50 ([l, g1, g2, g3].flatMap s50.f) := Row.new' e74
      refine (isC.kp k74 fun _ _ => id).append (xs := Sl.mk (some ⟨HC.size, 0, none⟩) 4 4) (M := [l, g1, g2, g3]) (Row.rdl x74 rfl 4) rfl (by simp; omega) (by simp; omega) fun r78 H76 l76 k76 hs76 => ?_
      have s76 := k76.size
      have hnm : ∀ b, isl.at b → G b := hiG
      have row76 : Row H76 bk 64 [Sl.v msl, Sl.v isl, .int .i64 tot] := k76.row (k74.row rowC id) fun hb => ((isC.kp k74 fun _ _ => id).row hb).elim fun _ hr => (k74.row rowC id).ne_type hr (by decide) rfl
      refine ⟨_, rfl, row76.some (i := 1) (by simp), row76.frz 1, fun H81 e81 => ?_⟩
      have row81 : Row H81 bk 64 [Sl.v msl, Sl.v r78, .int .i64 tot] := row76.set' (i := 1) e81
      have k81 : Kp (fun b => b = bk) H76 H81 := (Kp.refl _ _).set' e81 (.inl rfl)
      have s81 := size_set' e81
      refine ⟨_, rfl, tot, row81.cell_of (i := 2) rfl, _, rfl, row81.some (i := 2) (by simp), row81.frz 2, fun H91 e91 => ?_⟩
      have row91 : ∃ tot', Row H91 bk 64 [Sl.v msl, Sl.v r78, .int .i64 tot'] := ⟨_, row81.set' (i := 2) e91⟩
      obtain ⟨tot', row91⟩ := row91
      have k91 : Kp (fun b => b = bk) H81 H91 := (Kp.refl _ _).set' e91 (.inl rfl)
      have s91 := size_set' e91
      have kk : Kp (fun b => b = bk) H76 H91 := k81.trans k91 fun _ h => .inl h
      have kC91 : Kp (fun b => b = bk ∨ isl.at b) HC H91 := ((k74.dec fun _ h => h.elim).trans k76 fun b hb => .inl (.inr hb)).trans kk fun b hb => .inl (.inl hb)
      have vC : ∀ b, (b = bk ∨ isl.at b) → V b := fun b hb => by
        rcases hb with hb | hb
        · exact hb ▸ h.gb
        · exact hiV b hb
      have gC : ∀ b, (b = bk ∨ isl.at b) → G b := fun b hb => h.vg b (vC b hb)
      have hall' : ∀ s, All iF HC (mkI IS.length) s → (∀ a, s.b = some a → l.at a.block ∨ (H.size ≤ a.block ∧ a.block < HC.size)) → All iF H91 (mkI IS.length) s ∧ ∀ a, s.b = some a → ((G a.block ∨ l.at a.block ∨ (H.size ≤ a.block ∧ a.block < H91.size)) ∧ ¬ (V a.block ∨ (HC.size ≤ a.block ∧ a.block < H91.size))) := by
        intro s hs hw
        refine ⟨hs.kp kC91 fun a ha hh => ?_, fun a ha => ?_⟩
        · have hg := gC _ hh
          rcases hw a ha with h1 | h1
          · exact hG _ h1 hg
          · have := h.lt _ hg; omega
        · rcases hw a ha with h1 | h1
          · exact ⟨.inr (.inl h1), fun hh => by
              rcases hh with hh | hh
              · exact hG _ h1 (h.vg _ hh)
              · have := hlt _ h1; omega⟩
          · exact ⟨.inr (.inr ⟨h1.1, by omega⟩), fun hh => by
              rcases hh with hh | hh
              · have := h.lt _ (h.vg _ hh); omega
              · omega⟩
      have nr : ∀ b u m, Row HC b u m → u ≠ 64 → u ≠ 50 → ¬ (b = bk ∨ isl.at b) := fun b u m hr h1 h2 hh => by
        rcases hh with hh | hh
        · exact hr.ne_type rowC h1 hh
        · exact (isC.row hh).elim fun _ hr' => hr.ne_type hr' h2 rfl
      have f0 : ∀ a, l.b = some a → l.at a.block ∨ (H.size ≤ a.block ∧ a.block < HC.size) := fun a ha => by
        obtain ⟨b, hb⟩ : ∃ b, l.at b := by
          rcases hl.own with ⟨h0, _⟩ | ⟨b, _, h1, _⟩
          · rw [h0] at ha; cases ha
          · exact ⟨b, h1⟩
        have hb' : l.b = some ⟨b, 0, none⟩ := hb
        rw [hb'] at ha
        injection ha with ha
        rw [← ha]; exact .inl hb
      have l91 := l76.kp kk fun b hb hh => (l76.row hb).elim fun _ hr => hr.ne_type row76 (by decide) hh
      have oth := msC.kp kC91 fun b hb hh => (msC.row hb).elim fun _ hr => nr _ _ _ hr (by decide) (by decide) hh
      have hr78 : ∀ b, r78.at b → V b ∨ (HC.size ≤ b ∧ b < H91.size) := fun b hb => by
        have := l76.lt hb
        rcases hs76 b hb with hb | hb
        · exact .inl (hiV b hb)
        · exact .inr ⟨by omega, by omega⟩
      -- the book's other lists stay
      have keepM : ∀ i s, MS[i]? = some s → All mF H91 (mkM i) s ∧ ∀ a, s.b = some a → ((G a.block ∨ l.at a.block ∨ (H.size ≤ a.block ∧ a.block < H91.size)) ∧ ¬ (V a.block ∨ (HC.size ≤ a.block ∧ a.block < H91.size))) := fun i s hi => by
        obtain ⟨h1, h2⟩ := bkC.ms i s hi
        exact ⟨h1.kp kC91 fun a ha hh => (h2 a ha).2 (vC _ hh), fun a ha => ⟨.inl (h2 a ha).1, fun hh => by
          rcases hh with hh | hh
          · exact (h2 a ha).2 hh
          · have := h.lt _ (h2 a ha).1; omega⟩⟩
      have keepI : ∀ i s, IS[i]? = some s → All iF H91 (mkI i) s ∧ ∀ a, s.b = some a → ((G a.block ∨ l.at a.block ∨ (H.size ≤ a.block ∧ a.block < H91.size)) ∧ ¬ (V a.block ∨ (HC.size ≤ a.block ∧ a.block < H91.size))) := fun i s hi => by
        obtain ⟨h1, h2⟩ := bkC.is i s hi
        exact ⟨h1.kp kC91 fun a ha hh => (h2 a ha).2 (vC _ hh), fun a ha => ⟨.inl (h2 a ha).1, fun hh => by
          rcases hh with hh | hh
          · exact (h2 a ha).2 hh
          · have := h.lt _ (h2 a ha).1; omega⟩⟩
      have new : ∀ i s, (IS ++ [l, g1, g2, g3])[i]? = some s → All iF H91 (mkI i) s ∧ ∀ a, s.b = some a → ((G a.block ∨ l.at a.block ∨ (H.size ≤ a.block ∧ a.block < H91.size)) ∧ ¬ (V a.block ∨ (HC.size ≤ a.block ∧ a.block < H91.size))) := by
        intro i s hi
        by_cases hlt : i < IS.length
        · rw [List.getElem?_append_left hlt] at hi
          exact keepI i s hi
        · rw [List.getElem?_append_right (by omega)] at hi
          have h4 := h.i4
          have hi4 := (List.getElem?_eq_some_iff.1 hi).1
          have hi4 : i - IS.length < 4 := hi4
          have hmk : mkI i = mkI IS.length := by
            unfold mkI
            have : i / 4 = IS.length / 4 := by omega
            rw [this]
          rw [hmk]
          have hs : s = l ∨ s = g1 ∨ s = g2 ∨ s = g3 := by
            have := List.mem_of_getElem? hi
            simpa using this
          rcases hs with rfl | rfl | rfl | rfl
          · exact hall' _ a0 f0
          · exact hall' _ a1 w1
          · exact hall' _ a2 w2
          · exact hall' _ a3 w3
      refine hQ H91 (fun b => V b ∨ (HC.size ≤ b ∧ b < H91.size)) l g1 g2 g3 ⟨⟨msl, r78, tot', row91, oth, l91, fun b hb => .inl (hmV b hb), hr78⟩, .inl h.gb, fun b hb => ?_, keepM, new, h.m4, (by have := h.i4; simp; omega), fun b hb => ?_, fun s hs => ?_⟩ ?_
      · rcases hb with hb | hb
        · exact .inl (h.vg b hb)
        · exact .inr (.inr ⟨by omega, hb.2⟩)
      · rcases hb with hb | hb | hb
        · have := h.lt b hb; omega
        · have := hlt b hb; omega
        · exact hb.2
      · have hold := h.sz s
        have : s ∈ MS ∨ s ∈ IS ∨ s = l ∨ s = g1 ∨ s = g2 ∨ s = g3 := by
          rcases hs with hs | hs
          · exact .inl hs
          · have := List.mem_append.1 hs
            rcases this with h1 | h1
            · exact .inr (.inl h1)
            · have : s = l ∨ s = g1 ∨ s = g2 ∨ s = g3 := by simpa using h1
              exact .inr (.inr this)
        rcases this with h1 | h1 | rfl | rfl | rfl | rfl
        · exact hold (.inl h1)
        · exact hold (.inr h1)
        · omega
        · omega
        · omega
        · omega
      · exact (((kS.dec fun _ h => h.elim).trans k fun b hb => .inl (.inr hb)).trans kHC fun b hb => .inl (.inr hb)).trans kC91 fun b hb => .inl (.inl (gC b hb))
    have second : ∀ (g1 : Sl) (p : Nat) (HA : Hp), Base iF HA (mkI IS.length) l p → l.n ≤ p → Got iF HA (mkI IS.length) l p H.size g1 → g1.n ≤ l.n + 2 → Kp l.at H' HA → ∀ H26 : Hp, H26 = Array.push HA (.cells #[(.int .i64 (mkI IS.length)), (.int .i64 (mkI IS.length))] 3) → (
 AppendF H26 3 1 8 #[(.int .i64 0)] l ((Sl.mk (some ⟨HA.size, 0, none⟩) 2 2)).b ((Sl.mk (some ⟨HA.size, 0, none⟩) 2 2)).n (fun (r30 : Sl) (H28 : Hp) => 
 F27_L4 Q (some ⟨bk, 0, none⟩) l (mkI IS.length) g1 r30 l 0 H28)) := by
      intro g1 p HA hbA hpA hgA hz1 kA
      have sA := kA.size
      refine fun H42 e42 => ?_
      have k42 : Kp No HA H42 := (Kp.refl No _).push' e42
      have s42 := size_push' e42
      have b42 : Row H42 HA.size 3 ([mkI IS.length, mkI IS.length].flatMap iF.f) := Row.new' e42
      refine Base.app (q := l.n) (j := 2) (p := p) (xs := Sl.mk (some ⟨HA.size, 0, none⟩) 2 2) (hbA.kp k42 fun _ _ => id) hpA (by decide) (Row.rdl (L := [mkI IS.length, mkI IS.length]) b42 rfl 2) rfl (by omega) (by omega) (fun hr H2 h2 k2 => ?_) fun hgr r H2 l2 k2 hr2 => ?_
      · exact last g1 _ _ H2 h2 (by omega) ((hgA.kp k42 (Nat.le_refl _) fun _ h => h.elim).kp k2 (by omega) hlt) (.inl ⟨_, _, by omega, rfl⟩) hz1 (Nat.le_refl _) ((kA.trans k42 fun _ h => h.elim).trans k2 fun _ h => .inl h)
      · have s2 := k2.size
        refine last g1 r p H2 ((hbA.kp k42 fun _ _ => id).kp k2 fun _ _ => id) hpA ((hgA.kp k42 (Nat.le_refl _) fun _ h => h.elim).kp k2 (Nat.le_refl _) fun _ h => h.elim) (.inr ⟨l2.all, fun a ha => ?_⟩) hz1 (by have := l2.n; simp at this; omega) ((kA.trans k42 fun _ h => h.elim).trans k2 fun _ h => h.elim)
        obtain ⟨rb, hrb⟩ := l2.some (by simp)
        have hrb' : r.b = some ⟨rb, 0, none⟩ := hrb
        have h3 := hr2 _ hrb
        have h4 := l2.lt hrb
        rw [hrb'] at ha
        injection ha with ha
        rw [← ha]
        exact ⟨by show H.size ≤ rb; omega, h4⟩
    refine Base.app (q := l.n) (j := 1) (p := L.length) (xs := Sl.mk (some ⟨H'.size, 0, none⟩) 1 1) (hb.kp k31 fun _ _ => id) (by omega) (by decide) (Row.rdl1 b31) rfl (by omega) (by omega) (fun hr H2 h2 k2 => ?_) fun hgr r H2 l2 k2 hr2 => ?_
    · exact second _ _ H2 h2 (by omega) (.inl ⟨_, _, by omega, rfl⟩) (show l.n + 1 ≤ l.n + 2 by omega) ((k31.dec fun _ h => h.elim).trans k2 fun _ h => .inl h)
    · have s2 := k2.size
      refine second r L.length H2 ((hb.kp k31 fun _ _ => id).kp k2 fun _ _ => id) (by omega) (.inr ⟨l2.all, fun a ha => ?_⟩) (by have := l2.n; simp at this; omega) ((k31.dec fun _ h => h.elim).trans k2 fun _ h => h.elim)
      obtain ⟨rb, hrb⟩ := l2.some (by simp)
      have hrb' : r.b = some ⟨rb, 0, none⟩ := hrb
      have h3 := hr2 _ hrb
      have h4 := l2.lt hrb
      rw [hrb'] at ha
      injection ha with ha
      rw [← ha]
      exact ⟨by show H.size ≤ rb; omega, h4⟩
end
end Go.Hw
