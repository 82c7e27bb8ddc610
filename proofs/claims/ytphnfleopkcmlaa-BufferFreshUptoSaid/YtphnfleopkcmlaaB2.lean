/- Buffer: the ways on the heap. Own work of this session. -/
import Derived.Test.YtphnfleopkcmlaaB1
set_option linter.unusedVariables false
namespace Go.Hw
open Go

/-- A node's way: its number (the last place of its version), mark, block, version. -/
structure W0 where
  num : Nat
  mark : Mk
  ad : Nat
  sl : Sl
  ver : List Int
/-- A way and all ahead of it. -/
structure Ch where
  hd : W0
  tl : List W0
def ahead : List W0 → Mk × Sl
  | [] => ((0, 0), Sl.nil)
  | x :: _ => (x.mark, x.sl)
def Ch.row (c : Ch) (h : Nat) : List Value := [Sl.v c.hd.sl, .int .i64 (ahead c.tl).1.1, .int .i64 (ahead c.tl).1.2, Sl.v (ahead c.tl).2, .int .i64 h]
def W0.p (w : W0) : Option Addr := some ⟨w.ad, 0, none⟩

/-- The ways of a buffer, by mark and number. -/
structure WI (F : Nat → Prop) (H : Hp) (nb : Nat) (N : ML Mk (Option Nat)) (A : List Ch) (hl : Nat → Nat) : Prop where
  fn : F nb
  cm : ∃ c, mapAt mk32 mv94 H (some nb) N c
  nk : (mkeys N).Nodup
  inn : ∀ e ∈ N, ∃ ib I c, e.2.1 = some ib ∧ F ib ∧ ib ≠ nb ∧ mapAt mk3 mv76 H (some ib) I c ∧ (mkeys I).Nodup ∧ (∀ k a, mget I k = some a ↔ ∃ c ∈ A, c.hd.mark = e.1 ∧ (c.hd.num : Int) = k ∧ a = c.hd.p)
  sep : ∀ e ∈ N, ∀ e' ∈ N, e.2.1 = e'.2.1 → e.1 = e'.1
  all : ∀ c ∈ A, c.hd.mark ∈ mkeys N
  row : ∀ c ∈ A, F c.hd.ad ∧ Row H c.hd.ad 79 (c.row (hl c.hd.num))
  ver : ∀ c ∈ A, Lst iF H c.hd.sl c.hd.ver ∧ c.hd.ver.getLast? = some (c.hd.num : Int) ∧ c.hd.ver.length ≤ 16 ∧ ∀ b, c.hd.sl.at b → F b
  adn : ∀ c ∈ A, ∀ c' ∈ A, c.hd.ad = c'.hd.ad → c.hd.num = c'.hd.num
  lt : ∀ b, F b → b < H.size

theorem WI.kp {F S : Nat → Prop} {H H' : Hp} {nb : Nat} {N : ML Mk (Option Nat)} {A : List Ch} {hl : Nat → Nat} (h : WI F H nb N A hl) (k : Kp S H H') (hs : ∀ b, F b → ¬ S b) : WI F H' nb N A hl := by
  refine ⟨h.fn, h.cm.imp fun c m => m.kp k (hs _ h.fn), h.nk, fun e he => ?_, h.sep, h.all, fun c hc => ?_, fun c hc => ?_, h.adn, fun b hb => Nat.lt_of_lt_of_le (h.lt b hb) k.size⟩
  · obtain ⟨ib, I, c, h1, h2, h3, h4, h5, h6⟩ := h.inn e he
    exact ⟨ib, I, c, h1, h2, h3, h4.kp k (hs _ h2), h5, h6⟩
  · obtain ⟨h1, h2⟩ := h.row c hc
    exact ⟨h1, k.row h2 (hs _ h1)⟩
  · obtain ⟨h1, h2, h3, h4⟩ := h.ver c hc
    exact ⟨h1.kp k fun b hb => hs b (h4 b hb), h2, h3, h4⟩

theorem WI.no {F : Nat → Prop} {H H' : Hp} {nb : Nat} {N : ML Mk (Option Nat)} {A : List Ch} {hl : Nat → Nat} (h : WI F H nb N A hl) (k : Kp No H H') : WI F H' nb N A hl := h.kp k fun _ _ => id

/-- Another count at one way. -/
theorem WI.held {F : Nat → Prop} {H H' : Hp} {nb : Nat} {N : ML Mk (Option Nat)} {A : List Ch} {hl hl' : Nat → Nat} {c : Ch} (h : WI F H nb N A hl) (hc : c ∈ A) (un : ∀ c' ∈ A, c'.hd.num = c.hd.num → c' = c) (e : H' = setc H ⟨c.hd.ad, 4, none⟩ (.int .i64 (hl' c.hd.num)))
    (hne : ∀ n, n ≠ c.hd.num → hl' n = hl n) : WI F H' nb N A hl' := by
  have hrow := (h.row c hc).2
  have k : Kp (fun b => b = c.hd.ad) H H' := (Kp.refl _ H).set' e (.inl rfl)
  refine ⟨h.fn, h.cm.imp fun cc m => m.kp k (m.ne hrow), h.nk, fun e he => ?_, h.sep, h.all, fun c' hc' => ?_, fun c' hc' => ?_, h.adn, fun b hb => Nat.lt_of_lt_of_le (h.lt b hb) k.size⟩
  · obtain ⟨ib, I, cc, h1, h2, h3, h4, h5, h6⟩ := h.inn e he
    exact ⟨ib, I, cc, h1, h2, h3, h4.kp k (h4.ne hrow), h5, h6⟩
  · obtain ⟨h1, h2⟩ := h.row c' hc'
    refine ⟨h1, ?_⟩
    by_cases hn : c'.hd.num = c.hd.num
    · obtain rfl := un c' hc' hn
      have := h2.set' (i := 4) e
      exact this
    · rw [hne _ hn]
      exact k.row h2 fun e => hn (h.adn c' hc' c hc e)
  · obtain ⟨h1, h2, h3, h4⟩ := h.ver c' hc'
    exact ⟨h1.kp k fun b hb hS => h1.ne hrow (by decide) (hS ▸ hb), h2, h3, h4⟩

/-- Asked by its mark and version, a way is found. -/
theorem c40 {F : Nat → Prop} {H : Hp} {g nb : Nat} {N : ML Mk (Option Nat)} {A : List Ch} {hl : Nat → Nat} {c : Ch} {stages raised rsv : Value} {Q : Option Addr → Hp → Prop} (r : Row H g 71 [stages, raised, .map (some nb), rsv]) (h : WI F H nb N A hl) (hc : c ∈ A)
    (hQ : ∀ H', Kp No H H' → Q c.hd.p H') : F40 (some ⟨g, 0, none⟩) c.hd.mark.1 c.hd.mark.2 c.hd.sl H Q := by
  intro H1 e1
  have k1 := (Kp.refl No H).push' e1
  have r1 : Row H1 H.size 32 [.int .i64 c.hd.mark.1, .int .i64 c.hd.mark.2] := Row.new' e1
  have rg := k1.row r id
  have h1 := h.no k1
  obtain ⟨cm, hm⟩ := h1.cm
  obtain ⟨hv, hlast, hvl, _⟩ := h1.ver c hc
  have hkey := h1.all c hc
  obtain ⟨e, he, hek⟩ := List.mem_map.1 hkey
  obtain ⟨ib, I, ci, hib, hF, hne, hmi, hni, hin⟩ := h1.inn e he
  have hg : mget N c.hd.mark = some (some ib) := by rw [← hek, mget_of_mem h1.nk he, hib]
  have hg2 : mget I (c.hd.num : Int) = some c.hd.p := (hin _ _).2 ⟨c, hc, hek.symm, rfl, rfl⟩
  refine ⟨_, rfl, _, rg.cell_of (i := 2) rfl, _, _, r1.all, N, cm, MapK.of hm, c45 hv.rd (by omega) hlast ⟨MapK.of hm, r1.all, rg.cell_of (i := 2) rfl, I, ci, MapK.of ?_, ?_, ?_⟩⟩
  · show mapAt mk3 mv76 H1 ((mget N c.hd.mark).getD none) I ci
    rw [hg]; exact hmi
  · intro hh
    rw [hg2] at hh
    cases hh
  · intro _
    rw [hg2]
    exact ⟨_, rfl, _, ((h1.row c hc).2).cell_of (i := 0) rfl, c47 hv.rd hv.rd (by omega) ⟨fun hf => (by cases hf), fun _ => hQ H1 k1⟩⟩

end Go.Hw
