/- BufferKeeps: the whole law. Own work of this session. -/
import Derived.Test.YtphnfleopkcmlaaL4
set_option linter.unusedVariables false
namespace Go.Hw
open Go

theorem Kn.add {K : List KR} {f : Fn} {e : KR} (h : Kn K f) (hi : IsLeast f e.h) : Kn (K ++ [e]) (upd f e.h (some e.row.reverse)) := by
  refine ⟨?_, fun e' he' => ?_, fun i hi' => ?_⟩
  · rw [List.map_append, List.nodup_append]
    refine ⟨h.nd, by simp, fun a ha b hb => ?_⟩
    obtain ⟨e', he', rfl⟩ := List.mem_map.1 ha
    simp at hb
    subst hb
    intro hh
    have := h.fa e' he'
    rw [hh, hi.1] at this
    cases this
  · rcases List.mem_append.1 he' with he' | he'
    · have h1 := h.fa e' he'
      unfold upd
      rw [if_neg, h1]
      intro hh
      rw [hh, hi.1] at h1
      cases h1
    · rw [List.mem_singleton] at he'
      subst he'
      unfold upd
      rw [if_pos rfl]
  · unfold upd at hi'
    split at hi'
    · rename_i hh
      exact ⟨e, by simp, hh.symm⟩
    · obtain ⟨e', he', h1⟩ := h.all i hi'
      exact ⟨e', List.mem_append_left _ he', h1⟩

theorem nodup_get {K : List KR} (h : (K.map (·.h)).Nodup) {i j : Nat} {a b : KR} (ha : K[i]? = some a) (hb : K[j]? = some b) (e : a.h = b.h) : i = j := by
  have h1 : (K.map (·.h))[i]? = some a.h := by rw [List.getElem?_map, ha]; rfl
  have h2 : (K.map (·.h))[j]? = some a.h := by rw [List.getElem?_map, hb, e]; rfl
  obtain ⟨l1, e1⟩ := List.getElem?_eq_some_iff.1 h1
  obtain ⟨l2, e2⟩ := List.getElem?_eq_some_iff.1 h2
  rcases Nat.lt_trichotomy i j with h3 | h3 | h3
  · have := List.pairwise_iff_getElem.1 h i j l1 l2 h3
    exact absurd (e1.trans e2.symm) this
  · exact h3
  · have := List.pairwise_iff_getElem.1 h j i l2 l1 h3
    exact absurd (e2.trans e1.symm) this

theorem Kn.del {K : List KR} {f : Fn} {e : KR} {j : Nat} (h : Kn K f) (he : K[j]? = some e) : Kn (wo K (j : Int)) (upd f e.h none) := by
  have hwo : wo K (j : Int) = K.eraseIdx j := by
    unfold wo
    rw [if_neg (by omega)]; rfl
  have hmem : ∀ x, x ∈ wo K (j : Int) ↔ x ∈ K ∧ x.h ≠ e.h := fun x => by
    rw [hwo, List.mem_eraseIdx_iff_getElem?]
    constructor
    · rintro ⟨i, hi, hx⟩
      exact ⟨List.mem_of_getElem? hx, fun hh => hi (nodup_get h.nd hx he hh)⟩
    · rintro ⟨hx, hne⟩
      obtain ⟨i, hi⟩ := List.getElem?_of_mem hx
      refine ⟨i, fun hh => ?_, hi⟩
      subst hh
      rw [he] at hi
      injection hi with hi
      exact hne (by rw [hi])
  refine ⟨?_, fun x hx => ?_, fun i hi => ?_⟩
  · rw [hwo]
    exact h.nd.sublist ((List.eraseIdx_sublist _ _).map _)
  · obtain ⟨h1, h2⟩ := (hmem x).1 hx
    unfold upd
    rw [if_neg h2]
    exact h.fa x h1
  · unfold upd at hi
    split at hi
    · exact absurd rfl hi
    · rename_i hne
      obtain ⟨x, hx, rfl⟩ := h.all i hi
      exact ⟨x, (hmem x).2 ⟨hx, hne⟩, rfl⟩

section
variable {H0 H : Hp} {g n : Nat} {f : Fn} {sl : Sl} {K : List KR} {F B : Nat → Prop} {st : Int}

/-- The state between two steps. -/
def KK (H0 H : Hp) (g n : Nat) (sl : Sl) : Prop := ∃ f K F B st, KJ H0 H g n f sl K F B st ∧ Kn K f

theorem c4_2 {Q : Bool → Hp → Prop} {X : Sl → Int → Hp → Prop} {ssl : Sl} {i : Nat} (h : KK H0 H g n sl) (hn : n ≤ 1000) (hi : i ≤ 1000) (hX : ∀ H', KK H0 H' g n sl → X sl ((i + 1 : Nat) : Int) H') : F4_2 Q X ssl (some ⟨g, 0, none⟩) (i : Int) sl H := by
  obtain ⟨f, K, F, B, st, hk, kn⟩ := h
  have hw : IntKind.i64.wrap ((i : Int) + 1) = ((i + 1 : Nat) : Int) := by rw [wr (by omega) (by omega)]; omega
  refine c18 hk kn (by omega) fun H' k => ⟨fun hh => (by cases hh), fun _ => ?_⟩
  rw [hw]
  exact hX H' ⟨f, K, F, B, st, hk.no k, kn⟩

theorem atI_some {f : Fn} {i : Int} {l : List Mk} (h : atI f i = some l) : f i.toNat = some l ∧ ((i.toNat : Nat) : Int) = i := by
  unfold atI at h
  split at h
  · cases h
  · exact ⟨h, by omega⟩
theorem Kn.no {i : Int} (kn : Kn K f) (h : atI f i = none) : ∀ e ∈ K, (e.h : Int) ≠ i := fun e he hh => by
  subst hh
  rw [atI_nat, kn.fa e he] at h
  cases h
theorem Kn.yes {i : Int} {l : List Mk} (kn : Kn K f) (h : atI f i = some l) : ¬ ∀ e ∈ K, (e.h : Int) ≠ i := fun hh => by
  obtain ⟨h1, h2⟩ := atI_some h
  obtain ⟨e, he, h3⟩ := kn.all i.toNat (by rw [h1]; simp)
  exact hh e he (by omega)

set_option maxRecDepth 10000 in
theorem c4_L {Q : Bool → Hp → Prop} {ssl : Sl} {L : List OP5} (h : KK H0 H g 0 Sl.nil) (hsl : RdL oF H0 ssl L) (hl : L.length ≤ 1000000) (hQ : ∀ H', Kp No H0 H' → Q true H') : F4_L1 Q ssl (some ⟨g, 0, none⟩) Sl.nil 0 H := by
  have hn := hsl.n
  intro X hX
  suffices G : ∀ (d i : Nat) (sl : Sl) (H : Hp), i + d = 150 → KK H0 H g i sl → X sl (i : Int) H from G 150 0 Sl.nil H (by omega) h
  intro d
  induction d with
  | zero =>
    intro i sl H hi h
    obtain ⟨f, K, F, B, st, hk, kn⟩ := h
    refine hX _ _ _ ⟨fun _ => ⟨fun hh => absurd (of_decide_eq_true hh) (by omega), fun _ => hQ H hk.kp⟩, fun _ => hQ H hk.kp⟩
  | succ d ih =>
    intro i sl H hi h
    obtain ⟨f, K, F, B, st, hk, kn⟩ := h
    refine hX _ _ _ ⟨fun hh => ⟨fun _ => ?_, fun _ => hQ H hk.kp⟩, fun _ => hQ H hk.kp⟩
    have hil := of_decide_eq_true hh
    have hil : i < L.length := by omega
    have gi : L[i]? = some L[i] := List.getElem?_eq_getElem hil
    generalize L[i] = o at gi
    obtain ⟨p, hp, _, cp⟩ := (hsl.kp0 hk.kp).get gi
    refine ⟨p, hp, by omega, by omega, o.kind, o.on, o.run, o.m.1, o.m.2, cp, fun H26 e26 => ?_⟩
    have k26 : Kp No H H26 := (Kp.refl No _).push' e26
    have s26 := size_push' e26
    have z26 : Row H26 H.size 34 [.int .i64 0, .int .i64 0, .int .i64 0, .int .i64 0, .int .i64 0] := Row.new' e26
    refine ⟨z26.mayall, fun H28 e28 => ?_⟩
    have s28 := size_sets' e28
    have hx : Row H28 H.size 34 (oF.f o) := z26.fill' e28 rfl
    have k28 : Kp No H H28 := k26.trans ((Kp.refl (fun b => b = H.size) _).sets' e28 (.inl rfl)) fun _ hb => .inr (by omega)
    have hk28 := hk.no k28
    have hxF : ¬ F H.size := fun h => by have := hk.bi.lt _ h; omega
    have hxs : ¬ sl.at H.size := fun h => by have := hk.ls.lt h; omega
    have nxt : ∀ {sl' : Sl} {H' : Hp} {n' : Nat}, n' ≤ i + 1 → KK H0 H' g n' sl' → F4_2 Q X ssl (some ⟨g, 0, none⟩) (i : Int) sl' H' := fun {sl' H' n'} hn' ⟨f, K, F, B, st, h1, h2⟩ =>
      c4_2 (n := i + 1) ⟨f, K, F, B, st, h1.more hn', h2⟩ (by omega) (by omega) fun H'' h'' => ih (i + 1) sl' H'' (by omega) h''
    have hkl := hk.kl
    have hz := hk.kp.size
    refine ⟨o.kind, hx.cell_of (i := 0) rfl, fun _ => ?_, fun _ => ⟨fun _ => ?_, fun _ => ⟨fun _ => ?_, fun _ => nxt (Nat.le_succ _) ⟨f, K, F, B, st, hk28, kn⟩⟩⟩⟩
    · refine ⟨o.m.1, o.m.2, hx.cells (o := 3) (i := 0) rfl, c13 (m := o.m) hk28.bi (by omega) (fun _ H40 k40 => ⟨fun hh => (by cases hh), fun _ => nxt (Nat.le_succ _) ⟨f, K, F, B, st, hk28.no k40, kn⟩⟩) fun _ H40 j hj b40 k40 => ⟨fun _ => ?_, fun hh => (by cases hh)⟩⟩
      have hk40 := hk28.op b40 (fun _ h => h) k40 (Nat.le_succ _)
      have hx40 := k40.row hx hxF
      have s40 := k40.size
      refine ⟨o.m.1, o.m.2, hx40.cells (o := 3) (i := 0) rfl, fun H48 e48 H50 e50 => ?_⟩
      have k48 : Kp No H40 H48 := (Kp.refl No _).push' e48
      have s48 := size_push' e48
      have k50 : Kp No H48 H50 := (Kp.refl No _).push' e50
      have s50 := size_push' e50
      have r48 : Row H48 H40.size 32 (mF.f o.m) := Row.new' e48
      have rd50 : RdL mF H50 (Sl.mk (some ⟨H40.size, 0, none⟩) 1 1) [o.m] := (Row.rdl1 r48).kp0 k50
      have bx : Row H50 H48.size 43 (kF.f ⟨j, Sl.mk (some ⟨H40.size, 0, none⟩) 1 1, [o.m]⟩) := Row.new' e50
      have hk50 := (hk40.no k48).no k50
      refine hk50.ls.append1 bx rfl (by omega) (by omega) fun r H52 l52 k52 hs52 => nxt (Nat.le_refl _) ⟨_, _, _, _, _, hk50.app (e := ⟨j, Sl.mk (some ⟨H40.size, 0, none⟩) 1 1, [o.m]⟩) (eb := H40.size) rd50 (fun a ha => ?_) (fun hh => ?_) (fun hh => ?_) (by omega) (by omega) (by simp) (by omega) l52 k52 hs52, kn.add hj⟩
      · injection ha with ha; rw [← ha]
      · have := b40.lt _ hh; omega
      · have := hk40.ls.lt hh; omega
    · refine ⟨o.run, hx.cell_of (i := 2) rfl, o.m.1, o.m.2, hx.cells (o := 3) (i := 0) rfl, c14 (m := o.m) hk28.bi (by omega) (fun hm H62 k62 => ?_) (fun l ls hm hbad H62 k62 => ?_) fun l ls hm hbad H62 j hj b62 k62 => ?_⟩
      · have hk62 := hk28.no k62
        refine ⟨o.run, (k62.row hx id).cell_of (i := 2) rfl, c15 hk62.ls.rd (by omega) (fun j e he hev => absurd hev (kn.no hm e (List.mem_of_getElem? he))) fun _ => ?_⟩
        exact ⟨fun hh => (by cases hh), fun _ => ⟨fun _ => ⟨fun hh => (by cases hh), fun _ => ⟨fun hh => (by cases hh), fun _ => nxt (Nat.le_succ _) ⟨f, K, F, B, st, hk62, kn⟩⟩⟩, fun hh => (by cases hh)⟩⟩
      · have hk62 := hk28.no k62
        refine ⟨o.run, (k62.row hx id).cell_of (i := 2) rfl, c15 hk62.ls.rd (by omega) (fun j e he hev => ?_) fun hno => absurd hno (kn.yes hm)⟩
        exact ⟨fun hh => (by cases hh), fun _ => ⟨fun hh => (by cases hh), fun _ => ⟨fun hh => (by cases hh), fun _ => ⟨fun hh => (by cases hh), fun _ => nxt (Nat.le_succ _) ⟨f, K, F, B, st, hk62, kn⟩⟩⟩⟩⟩
      · have hk62 := hk28.op b62 (fun _ h => h) k62 (Nat.le_succ _)
        have hx62 := k62.row hx hxF
        have s62 := k62.size
        refine ⟨o.run, hx62.cell_of (i := 2) rfl, c15 hk62.ls.rd (by omega) (fun q e he hev => ?_) fun hno => absurd hno (kn.yes hm)⟩
        have heK := List.mem_of_getElem? he
        have hrow : e.row = (l :: ls).reverse := by
          have h1 := kn.fa e heK
          have h2 := (atI_some hm).1
          rw [show o.run.toNat = e.h from by omega, h1] at h2
          injection h2 with h2
          rw [← h2, List.reverse_reverse]
        obtain ⟨hrd, hB, hrl⟩ := hk62.rd e heK
        have hrl : e.row.length ≤ 1 + i := by
          have := (hk28.rd e heK).2.2
          omega
        have hq : (q : Int) < (sl.n : Int) := by
          have := hk62.ls.n
          have := (List.getElem?_eq_some_iff.1 he).1
          omega
        obtain ⟨a, ha, _, ca⟩ := hk62.ls.rd.get he
        refine ⟨fun _ => ⟨fun hh => absurd (of_decide_eq_true hh) (by omega), fun _ => ⟨fun hh => (by cases hh), fun _ => ⟨fun hh => (by cases hh), fun _ => ⟨fun _ => ⟨a, ha, by omega, hq, e.sl, ca.2.1, ?_⟩, fun hh => (by cases hh)⟩⟩⟩⟩, fun hh => (by cases hh)⟩
        refine (Lst.nil mF H62).append (xs := e.sl) hrd rfl (by simp; omega) (by simp; omega) fun r98 H96 l96 k96 hs96 => ?_
        have k96' : Kp No H62 H96 := k96.dec fun b hb => by cases hb
        rw [List.nil_append] at l96
        have hx96 := k96'.row hx62 id
        have s96 := k96.size
        refine ⟨o.m.1, o.m.2, hx96.cells (o := 3) (i := 0) rfl, fun H102 e102 => ?_⟩
        have k102 : Kp No H96 H102 := (Kp.refl No _).push' e102
        have s102 := size_push' e102
        have b102 : Row H102 H96.size 32 (mF.f o.m) := Row.new' e102
        refine (l96.kp k102 fun _ _ => id).append1 b102 rfl (by omega) (by omega) fun r106 H104 l104 k104 hs104 => fun H107 e107 => ?_
        have s104 := k104.size
        have k107 : Kp No H104 H107 := (Kp.refl No _).push' e107
        have s107 := size_push' e107
        have at98 : ∀ b, r98.at b → b = H62.size := fun b hb => by
          rcases hs96 b hb with hb | hb
          · cases hb
          · exact hb
        have at106 : ∀ b, r106.at b → H62.size ≤ b := fun b hb => by
          rcases hs104 b hb with hb | hb
          · have := at98 b hb; omega
          · omega
        have kk : Kp No H62 H107 := ((k96'.trans k102 fun _ h => h.elim).trans k104 fun b hb => .inr (by have := at98 b hb; omega)).trans k107 fun _ h => h.elim
        have hk107 := hk62.no kk
        have l107 := l104.kp k107 fun _ _ => id
        obtain ⟨rb, hrb⟩ := l107.some (by simp)
        have hrb' : r106.b = some ⟨rb, 0, none⟩ := hrb
        have hrbl := at106 rb hrb
        have hrbt := l107.lt hrb
        have bx : Row H107 H104.size 43 (kF.f ⟨j, r106, e.row ++ [o.m]⟩) := Row.new' e107
        have hgoal : (o.m :: l :: ls) = (e.row ++ [o.m]).reverse := by rw [hrow]; simp
        rw [hgoal] at hk107
        refine hk107.ls.append1 bx rfl (by omega) (by omega) fun r H109 l109 k109 hs109 => nxt (Nat.le_refl _) ⟨_, _, _, _, _, hk107.app (e := ⟨j, r106, e.row ++ [o.m]⟩) (eb := rb) l107.rd (fun a ha => ?_) (fun hh => ?_) (fun hh => ?_) hrbt (by omega) (by simp; omega) (by omega) l109 k109 hs109, kn.add hj⟩
        · have ha : r106.b = some a := ha
          rw [hrb'] at ha
          injection ha with ha
          rw [← ha]
        · have := b62.lt _ hh; omega
        · have := hk62.ls.lt hh; omega
    · refine ⟨o.run, hx.cell_of (i := 2) rfl, c16 hk28.bi (by omega) (fun hm => ?_) fun l hm H115 b115 k115 => ?_⟩
      · refine ⟨o.run, hx.cell_of (i := 2) rfl, c15 hk28.ls.rd (by omega) (fun j e he hev => absurd hev (kn.no hm e (List.mem_of_getElem? he))) fun _ => ⟨fun hh => (by cases hh), fun _ => c17 hk28.ls.rd (by omega) fun H124 r l124 hra k124 => nxt (Nat.le_succ _) ⟨f, K, F, B, st, hk28.sub (fun e he => he) (Nat.le_refl _) (show Lst kF H124 r (wo K (-1)) from l124) k124 hra, kn⟩⟩⟩
      · have hk115 := hk28.op b115 (fun _ h => .inl h) k115 (Nat.le_refl _)
        refine ⟨o.run, (k115.row hx hxF).cell_of (i := 2) rfl, c15 hk115.ls.rd (by omega) (fun j e he hev => ⟨fun hh => ?_, fun _ => c17 hk115.ls.rd (by omega) fun H124 r l124 hra k124 => nxt (Nat.le_succ _) ⟨_, wo K j, F, B, st, hk115.sub (fun e he => ?_) (wo_len _ _) l124 k124 hra, ?_⟩⟩) fun hno => absurd hno (kn.yes hm)⟩
        · rw [decide_eq_true (show (0 : Int) ≤ (j : Int) by omega)] at hh
          cases hh
        · unfold wo at he
          split at he
          · exact he
          · exact List.mem_of_mem_eraseIdx he
        · have := kn.del he
          rwa [show e.h = o.run.toNat from by omega] at this

theorem c4 {p0 : Int} {ssl : Sl} {L : List OP5} {Q : Bool → Hp → Prop} (hsl : RdL oF H ssl L) (hl : L.length ≤ 1000000) (hQ : ∀ H', Kp No H H' → Q true H') : F4 p0 ssl H Q := by
  refine c8 fun H1 k1 => ⟨fun hh => (by cases hh), fun _ => c12 fun H5 g st b5 k5 => ⟨fun hh => (by cases hh), fun _ => c4_L (H0 := H) ⟨_, [], _, fun _ => False, st, ⟨b5, Lst.nil _ _, fun e he => (by cases he), fun _ _ h => h, fun b hb => (by cases hb), fun b hb => hb.elim, fun b hb => ?_, Nat.le_refl _, k1.trans k5 fun _ h => h.elim⟩, ⟨List.nodup_nil, fun e he => (by cases he), fun i hi => absurd rfl hi⟩⟩ hsl hl hQ⟩⟩
  have := k1.size
  rcases hb with hb | hb | hb
  · omega
  · exact hb.elim
  · cases hb
end
end Go.Hw
