/- BufferKeeps: what the statement knows of the runs. Own work of this session. -/
import Derived.Test.YtphnfleopkcmlaaL3
set_option linter.unusedVariables false
namespace Go.Hw
open Go

/-- A known run: its handle, its row. -/
structure KR where
  h : Nat
  sl : Sl
  row : List Mk
def kF : Fmt KR 43 2 := ⟨fun x => [.int .i64 x.h, Sl.v x.sl], fun _ => rfl, by intro x v hv; simp at hv; rcases hv with rfl | rfl <;> rfl, by decide⟩

/-- A buffer is made. -/
theorem c12 {st : Int} {H : Hp} {Q : Option Addr → Hp → Prop} (hQ : ∀ H' g s, ((1 ≤ st ∧ st ≤ 8 → s = st) ∧ (¬ (1 ≤ st ∧ st ≤ 8) → s = 3)) → BI (fun b => H.size ≤ b ∧ b < H'.size) H' g s 0 (fun _ => none) → Kp No H H' → Q (some ⟨g, 0, none⟩) H') : F12 st H Q := by
  have go : ∀ s : Int, 1 ≤ s ∧ s ≤ 8 → ((1 ≤ st ∧ st ≤ 8 → s = st) ∧ (¬ (1 ≤ st ∧ st ≤ 8) → s = 3)) → F12_1 Q s H := fun s hs he => c9 (fun h => absurd hs h) fun _ H' g b k => ⟨fun hh => absurd rfl (of_decide_eq_true hh), fun _ => hQ H' g s he b k⟩
  refine ⟨fun h1 => ⟨fun _ => go 3 ⟨by decide, by decide⟩ ⟨fun h => absurd (of_decide_eq_true h1) (by omega), fun _ => rfl⟩, fun hh => (by cases hh)⟩, fun h1 => ⟨fun h2 => go 3 ⟨by decide, by decide⟩ ⟨fun h => absurd (of_decide_eq_true h2) (by omega), fun _ => rfl⟩, fun h2 => go st ?_ ⟨fun _ => rfl, fun h => absurd ?_ h⟩⟩⟩
  all_goals
    have h1 := of_decide_eq_false h1
    have h2 := of_decide_eq_false h2
    omega

/-- The place of a handle. -/
theorem c15 {H : Hp} {sl : Sl} {K : List KR} {i : Int} {Q : Int → Hp → Prop} (h : RdL kF H sl K) (hl : K.length ≤ 1000000) (q1 : ∀ (j : Nat) e, K[j]? = some e → (e.h : Int) = i → Q j H) (q2 : (∀ e ∈ K, (e.h : Int) ≠ i) → Q (-1) H) : F15 sl i H Q := by
  have hn := h.n
  intro X hX
  suffices G : ∀ (d j : Nat), j + d = K.length → (∀ k e, k < j → K[k]? = some e → (e.h : Int) ≠ i) → X (j : Int) H from G K.length 0 (by omega) fun k e hk => by omega
  intro d
  induction d with
  | zero =>
    intro j hj hno
    refine hX _ _ ⟨fun hh => absurd (of_decide_eq_true hh) (by omega), fun _ => q2 fun e he => ?_⟩
    obtain ⟨k, hk, rfl⟩ := List.getElem_of_mem he
    exact hno k _ (by omega) (List.getElem?_eq_getElem hk)
  | succ d ih =>
    intro j hj hno
    have gj : K[j]? = some (K[j]'(by omega)) := List.getElem?_eq_getElem (by omega)
    generalize K[j]'(by omega) = e at gj
    obtain ⟨p, hp, _, cp⟩ := h.get gj
    refine hX _ _ ⟨fun _ => ⟨p, hp, by omega, by omega, _, cp.1, fun hh => q1 j e gj (of_decide_eq_true hh), fun hh => ?_⟩, fun hh => absurd (of_decide_eq_false hh) (by omega)⟩
    rw [wr (by omega) (by omega)]
    refine ih (j + 1) (by omega) fun k e' hk he' => ?_
    by_cases hkj : k = j
    · subst hkj
      rw [gj] at he'
      injection he' with he'
      subst he'
      exact of_decide_eq_false hh
    · exact hno k e' (by omega) he'

/-- All but the one at a place. -/
def wo {α : Type} (K : List α) (i : Int) : List α := if i < 0 then K else K.eraseIdx i.toNat
theorem wo_step {α : Type} (L : List α) (x : α) (i : Int) : wo (L ++ [x]) i = if (L.length : Int) ≠ i then wo L i ++ [x] else wo L i := by
  unfold wo
  by_cases h0 : i < 0
  · rw [if_pos h0, if_pos h0, if_pos (by omega)]
  · rw [if_neg h0, if_neg h0]
    by_cases h1 : (L.length : Int) = i
    · rw [if_neg (fun h => h h1)]
      have : i.toNat = L.length := by omega
      rw [this, List.eraseIdx_append_of_length_le (Nat.le_refl _), List.eraseIdx_of_length_le (Nat.le_refl _)]
      simp
    · rw [if_pos h1]
      by_cases h2 : i.toNat < L.length
      · rw [List.eraseIdx_append_of_lt_length h2]
      · rw [List.eraseIdx_append_of_length_le (by omega), List.eraseIdx_of_length_le (l := L) (by omega), List.eraseIdx_of_length_le (l := [x]) (by simp; omega)]
theorem wo_len {α : Type} (K : List α) (i : Int) : (wo K i).length ≤ K.length := by
  unfold wo
  split
  · exact Nat.le_refl _
  · exact (List.eraseIdx_sublist _ _).length_le

theorem c17 {H : Hp} {sl : Sl} {K : List KR} {i : Int} {Q : Sl → Hp → Prop} (h : RdL kF H sl K) (hl : K.length ≤ 1000000) (hQ : ∀ H' r, Lst kF H' r (wo K i) → (∀ b, r.at b → H.size ≤ b) → Kp No H H' → Q r H') : F17 sl i H Q := by
  have hn := h.n
  intro X hX
  suffices G : ∀ (d j : Nat) (l : Sl) (H' : Hp), j + d = K.length → Lst kF H' l (wo (K.take j) i) → (∀ b, l.at b → H.size ≤ b) → Kp No H H' → X l (j : Int) H' from G K.length 0 Sl.nil H (by omega) (by simpa [wo] using Lst.nil kF H) (fun b hb => by cases hb) (Kp.refl _ _)
  intro d
  induction d with
  | zero =>
    intro j l H' hj la hla k
    refine hX _ _ _ ⟨fun hh => absurd (of_decide_eq_true hh) (by omega), fun _ => hQ H' l ?_ hla k⟩
    rwa [List.take_of_length_le (by omega)] at la
  | succ d ih =>
    intro j l H' hj la hla k
    have hjl : j < K.length := by omega
    have gj : K[j]? = some K[j] := List.getElem?_eq_getElem hjl
    obtain ⟨p, hp, _, cp⟩ := (h.kp0 k).get gj
    have hw : IntKind.i64.wrap ((j : Int) + 1) = ((j + 1 : Nat) : Int) := by rw [wr (by omega) (by omega)]; omega
    have ht : K.take (j + 1) = K.take j ++ [K[j]] := by simp
    have hst := wo_step (K.take j) K[j] i
    have htl : ((K.take j).length : Int) = j := by rw [List.length_take]; omega
    rw [htl, ← ht] at hst
    refine hX _ _ _ ⟨fun _ => ⟨fun hh => ⟨p, hp, by omega, by omega, _, _, cp, fun H17 e17 => ?_⟩, fun hh => ?_⟩, fun hh => absurd (of_decide_eq_false hh) (by omega)⟩
    · have hh := of_decide_eq_true hh
      rw [if_pos hh] at hst
      have k17 : Kp No H' H17 := (Kp.refl No _).push' e17
      have s17 := size_push' e17
      have bx : Row H17 H'.size 43 (kF.f K[j]) := Row.new' e17
      have hlen := wo_len (K.take j) i
      rw [List.length_take] at hlen
      have sH := k.size
      refine (la.kp k17 fun _ _ => id).append1 bx rfl (by omega) (by omega) fun r H19 l19 k19 hs19 => ?_
      unfold F17_3
      rw [hw]
      refine ih (j + 1) r H19 (by omega) (by rw [hst]; exact l19) (fun b hb => ?_) ((k.trans k17 fun _ h => h.elim).trans k19 fun b hb => .inr (hla b hb))
      rcases hs19 b hb with hb | hb
      · exact hla b hb
      · omega
    · have hh : (j : Int) = i := by
        have := of_decide_eq_false hh
        by_cases e : (j : Int) = i
        · exact e
        · exact absurd e this
      rw [if_neg (fun h => h hh)] at hst
      unfold F17_3
      rw [hw]
      exact ih (j + 1) l H' (by omega) (by rw [hst]; exact la) hla k

/-- The statement knows the runs. -/
structure Kn (K : List KR) (f : Fn) : Prop where
  nd : (K.map (·.h)).Nodup
  fa : ∀ e ∈ K, f e.h = some e.row.reverse
  all : ∀ i, f i ≠ none → ∃ e ∈ K, e.h = i

structure KJ (H0 H : Hp) (g n : Nat) (f : Fn) (sl : Sl) (K : List KR) (F B : Nat → Prop) (st : Int) : Prop where
  bi : BI F H g st n f
  ls : Lst kF H sl K
  rd : ∀ e ∈ K, RdL mF H e.sl e.row ∧ (∀ a, e.sl.b = some a → B a.block) ∧ e.row.length ≤ n + 1
  ap : Ap F B
  sa : ∀ b, sl.at b → ¬ F b ∧ ¬ B b
  bl : ∀ b, B b → b < H.size
  lo : ∀ b, F b ∨ B b ∨ sl.at b → H0.size ≤ b
  kl : K.length ≤ n
  kp : Kp No H0 H

section
variable {H0 H H' : Hp} {g n n' : Nat} {f f' : Fn} {sl : Sl} {K : List KR} {F F' B : Nat → Prop} {st : Int}

theorem KJ.op (h : KJ H0 H g n f sl K F B st) (bi' : BI F' H' g st n' f') (hF' : ∀ x, F' x → Ext F H.size H'.size x) (k : Kp F H H') (hn : n ≤ n') : KJ H0 H' g n' f' sl K F' B st := by
  have hs := h.kp.size
  have ks := k.size
  refine ⟨bi', h.ls.kp k fun b hb => (h.sa b hb).1, fun e he => ⟨(h.rd e he).1.kp k fun a ha hf => h.ap _ hf ((h.rd e he).2.1 a ha), (h.rd e he).2.1, by have := (h.rd e he).2.2; omega⟩, fun x hx hb => ?_, fun b hb => ⟨fun hx => ?_, (h.sa b hb).2⟩, fun b hb => Nat.lt_of_lt_of_le (h.bl b hb) ks, fun b hb => ?_, by have := h.kl; omega, h.kp.trans k fun b hb => .inr (h.lo b (.inl hb))⟩
  · rcases hF' x hx with hx | hx
    · exact h.ap x hx hb
    · have := h.bl x hb; omega
  · rcases hF' b hx with hx | hx
    · exact (h.sa b hb).1 hx
    · have := h.ls.lt hb; omega
  · rcases hb with hb | hb
    · rcases hF' b hb with hb | hb
      · exact h.lo b (.inl hb)
      · omega
    · exact h.lo b (.inr hb)
theorem KJ.no (h : KJ H0 H g n f sl K F B st) (k : Kp No H H') : KJ H0 H' g n f sl K F B st := h.op (h.bi.kp k fun _ _ => id) (fun _ h => .inl h) (k.dec fun _ h => h.elim) (Nat.le_refl _)
theorem KJ.more (h : KJ H0 H g n f sl K F B st) (hn : n ≤ n') : KJ H0 H g n' f sl K F B st := h.op (h.bi.more hn) (fun _ h => .inl h) (Kp.refl _ _) hn

/-- One more known run; its row lies in block 'eb'. -/
theorem KJ.app {e : KR} {eb : Nat} {r : Sl} (h : KJ H0 H g n f sl K F B st) (he : RdL mF H e.sl e.row) (hb : ∀ a, e.sl.b = some a → a.block = eb) (hF : ¬ F eb) (hs : ¬ sl.at eb) (hlt : eb < H.size) (hlo : H0.size ≤ eb) (hl : e.row.length ≤ n + 1) (hk : K.length + 1 ≤ n)
    (l : Lst kF H' r (K ++ [e])) (k : Kp sl.at H H') (hr : ∀ b, r.at b → sl.at b ∨ b = H.size) : KJ H0 H' g n f r (K ++ [e]) F (fun b => B b ∨ b = eb) st := by
  have ks := k.size
  have hz := h.kp.size
  refine ⟨h.bi.kp k fun b hb hh => (h.sa b hh).1 hb, l, fun e' he' => ?_, fun x hx hb => ?_, fun b hb => ?_, fun b hb => ?_, fun b hb => ?_, by simpa using hk, h.kp.trans k fun b hb => .inr (h.lo b (.inr (.inr hb)))⟩
  · rcases List.mem_append.1 he' with he' | he'
    · obtain ⟨h1, h2, h3⟩ := h.rd e' he'
      exact ⟨h1.kp k fun a ha hh => (h.sa _ hh).2 (h2 a ha), fun a ha => .inl (h2 a ha), h3⟩
    · rw [List.mem_singleton] at he'
      subst he'
      exact ⟨he.kp k fun a ha hh => hs (hb a ha ▸ hh), fun a ha => .inr (hb a ha), hl⟩
  · rcases hb with hb | hb
    · exact h.ap x hx hb
    · exact hF (hb ▸ hx)
  · rcases hr b hb with hb | hb
    · exact ⟨(h.sa b hb).1, fun hh => by
        rcases hh with hh | hh
        · exact (h.sa b hb).2 hh
        · exact hs (hh ▸ hb)⟩
    · refine ⟨fun hh => ?_, fun hh => ?_⟩
      · have := h.bi.lt b hh; omega
      · rcases hh with hh | hh
        · have := h.bl b hh; omega
        · omega
  · rcases hb with hb | hb
    · exact Nat.lt_of_lt_of_le (h.bl b hb) ks
    · omega
  · rcases hb with hb | (hb | hb) | hb
    · exact h.lo b (.inl hb)
    · exact h.lo b (.inr (.inl hb))
    · omega
    · rcases hr b hb with hb | hb
      · exact h.lo b (.inr (.inr hb))
      · omega
/-- Another list of some of them. -/
theorem KJ.sub {r : Sl} {K' : List KR} (h : KJ H0 H g n f sl K F B st) (hK : ∀ e ∈ K', e ∈ K) (hl : K'.length ≤ K.length) (l : Lst kF H' r K') (k : Kp No H H') (hr : ∀ b, r.at b → H.size ≤ b) : KJ H0 H' g n f r K' F B st := by
  have hz := h.kp.size
  refine ⟨h.bi.kp k fun _ _ => id, l, fun e he => ⟨(h.rd e (hK e he)).1.kp0 k, (h.rd e (hK e he)).2⟩, h.ap, fun b hb => ⟨fun hh => ?_, fun hh => ?_⟩, fun b hb => Nat.lt_of_lt_of_le (h.bl b hb) k.size, fun b hb => ?_, by have := h.kl; omega, h.kp.trans k fun _ h => h.elim⟩
  · have := h.bi.lt b hh; have := hr b hb; omega
  · have := h.bl b hh; have := hr b hb; omega
  · rcases hb with hb | hb | hb
    · exact h.lo b (.inl hb)
    · exact h.lo b (.inr (.inl hb))
    · have := hr b hb; omega

theorem runsOf_mem {f : Fn} {n i : Nat} : i ∈ runsOf f n ↔ i < n ∧ (f i).isSome = true := by
  unfold runsOf
  rw [List.mem_filter, List.mem_range]
theorem runsOf_nodup (f : Fn) (n : Nat) : (runsOf f n).Nodup := List.nodup_range.sublist List.filter_sublist
theorem BI.big {g : Nat} (h : BI F H g st n f) {i : Nat} (hi : n ≤ i) : f i = none := by
  obtain ⟨_, _, _, _, _, _, R, b, rfl⟩ := h
  have := b.rlen
  exact rows_none (by omega)
theorem runsOf_rise (f : Fn) (n : Nat) {i a b : Nat} (h1 : (runsOf f n)[i]? = some a) (h2 : (runsOf f n)[i + 1]? = some b) : a < b := by
  have hp : (runsOf f n).Pairwise (· < ·) := by
    unfold runsOf
    exact List.Pairwise.filter _ List.pairwise_lt_range
  obtain ⟨l1, e1⟩ := List.getElem?_eq_some_iff.1 h1
  obtain ⟨l2, e2⟩ := List.getElem?_eq_some_iff.1 h2
  have := List.pairwise_iff_getElem.1 hp i (i + 1) l1 l2 (by omega)
  rw [e1, e2] at this
  exact this

/-- All is as known. -/
theorem c18 {Q : Bool → Hp → Prop} (h : KJ H0 H g n f sl K F B st) (kn : Kn K f) (hn : n ≤ 1000000) (hQ : ∀ H', Kp No H H' → Q true H') : F18 (some ⟨g, 0, none⟩) sl H Q := by
  refine c21 h.bi hn fun H1 r lr hra k1 => ?_
  have h1 := h.no k1
  have hrn := lr.n
  have hln := h1.ls.n
  have hnone : ∀ i, n ≤ i → f i = none := fun i hi => h.bi.big hi
  have hlen : (runsOf f n).length = K.length := by
    rw [show K.length = (K.map (·.h)).length from by simp]
    refine nodup_len (runsOf_nodup f n) kn.nd fun i => ⟨fun hi => ?_, fun hi => ?_⟩
    · obtain ⟨_, hs⟩ := runsOf_mem.1 hi
      obtain ⟨e, he, rfl⟩ := kn.all i (by intro h; rw [h] at hs; cases hs)
      exact List.mem_map_of_mem he
    · obtain ⟨e, he, rfl⟩ := List.mem_map.1 hi
      have := kn.fa e he
      refine runsOf_mem.2 ⟨?_, by rw [this]; rfl⟩
      by_cases hl : e.h < n
      · exact hl
      · rw [hnone e.h (by omega)] at this; cases this
  have hkl := h.kl
  refine ⟨fun hh => absurd (by simp at hrn; omega) (of_decide_eq_true hh), fun _ => ?_⟩
  intro X hX
  suffices G : ∀ (d i : Nat) (H' : Hp), i + d = K.length → Kp No H1 H' → X (i : Int) H' from G K.length 0 H1 (by omega) (Kp.refl _ _)
  have hrn : r.n = K.length := by simp at hrn; omega
  intro d
  induction d with
  | zero =>
    intro i H' hi k
    exact hX _ _ ⟨fun hh => absurd (of_decide_eq_true hh) (by omega), fun _ => hQ H' (k1.trans k fun _ h => h.elim)⟩
  | succ d ih =>
    intro i H' hi k
    have hil : i < (runsOf f n).length := by omega
    have gi : (runsOf f n)[i]? = some (runsOf f n)[i] := List.getElem?_eq_getElem hil
    have hmem := List.getElem_mem hil
    generalize (runsOf f n)[i] = v at gi hmem
    have gi' : (ints (runsOf f n))[i]? = some (v : Int) := by rw [List.getElem?_map, gi]; rfl
    have lr' := lr.kp k fun _ _ => id
    have h' := h1.no k
    obtain ⟨hvn, hvs⟩ := runsOf_mem.1 hmem
    obtain ⟨p, hp, _, cp⟩ := lr'.rd.get gi'
    have hw : IntKind.i64.wrap ((i : Int) + 1) = ((i + 1 : Nat) : Int) := by rw [wr (by omega) (by omega)]; omega
    refine hX _ _ ⟨fun _ => ⟨p, hp, by omega, by omega, _, cp.1, c15 h'.ls.rd (by omega) (fun j e he hev => ?_) fun hno => ?_⟩, fun hh => absurd (of_decide_eq_false hh) (by omega)⟩
    · have hev : e.h = v := by omega
      have hjl := (List.getElem?_eq_some_iff.1 he).1
      have heK := List.mem_of_getElem? he
      have hfe := kn.fa e heK
      rw [hev] at hfe
      have two : F18_2 Q X (some ⟨g, 0, none⟩) sl r (i : Int) (j : Int) false H' := by
        refine ⟨fun hh => (by cases hh), fun _ => ⟨p, hp, by omega, by omega, _, cp.1, c22 h'.bi hn (fun hh => ?_) fun l hl hll H48 s hs hsa k48 => ?_⟩⟩
        · rw [atI_nat, hfe] at hh; cases hh
        · rw [atI_nat, hfe] at hl
          injection hl with hl
          have h48 := h'.no k48
          obtain ⟨q, hq, _, cq⟩ := h48.ls.rd.get he
          have hjn : (j : Int) < (sl.n : Int) := by have := h48.ls.n; omega
          have hr48 := (h48.rd e heK)
          refine ⟨fun hh => absurd rfl (of_decide_eq_true hh), fun _ => ⟨q, hq, by omega, hjn, e.sl, cq.2.1, ?_⟩⟩
          rw [← hl, List.reverse_reverse] at hs
          refine c23 hs.rd hr48.1 (by omega) (by omega) ?_
          rw [decide_eq_true rfl]
          refine ⟨fun hh => (by cases hh), fun _ => ?_⟩
          rw [hw]
          exact ih (i + 1) H48 (by omega) (k.trans k48 fun _ h => h.elim)
      refine ⟨fun hh => absurd (of_decide_eq_true hh) (by omega), fun _ => ⟨fun hh => ?_, fun _ => two⟩⟩
      have hi0 := of_decide_eq_true hh
      have hw1 : IntKind.i64.wrap ((i : Int) - 1) = ((i - 1 : Nat) : Int) := by rw [wr (by omega) (by omega)]; omega
      have hil' : i - 1 < (runsOf f n).length := by omega
      have g2 : (runsOf f n)[i - 1]? = some (runsOf f n)[i - 1] := List.getElem?_eq_getElem hil'
      generalize (runsOf f n)[i - 1] = u at g2
      have g2' : (ints (runsOf f n))[i - 1]? = some (u : Int) := by rw [List.getElem?_map, g2]; rfl
      obtain ⟨p2, hp2, _, cp2⟩ := lr'.rd.get g2'
      have huv := runsOf_rise f n (i := i - 1) g2 (by rw [show i - 1 + 1 = i from by omega]; exact gi)
      rw [hw1]
      refine ⟨p, hp, by omega, by omega, _, cp.1, p2, hp2, by omega, by omega, _, cp2.1, ?_⟩
      rw [decide_eq_false (by omega)]
      exact two
    · obtain ⟨e, he, hev⟩ := kn.all v (by intro hh; rw [hh] at hvs; cases hvs)
      exact absurd (by rw [hev]) (hno e he)
end
end Go.Hw
