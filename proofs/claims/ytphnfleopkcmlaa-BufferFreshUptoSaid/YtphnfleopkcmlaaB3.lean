/- Buffer: the ways change: one more, one less. Own work of this session. -/
import Derived.Test.YtphnfleopkcmlaaB2
set_option linter.unusedVariables false
namespace Go.Hw
open Go

section
variable {F F2 S : Nat → Prop} {H H1 H2 H' : Hp} {nb : Nat} {N : ML Mk (Option Nat)} {A : List Ch} {hl hl' : Nat → Nat} {m : Mk} {ib ci cm : Nat} {I : ML Int (Option Addr)}

theorem WI.mono (h : WI F H nb N A hl) (hF : ∀ b, F b → F2 b) (lt : ∀ b, F2 b → b < H.size) : WI F2 H nb N A hl := by
  refine ⟨hF _ h.fn, h.cm, h.nk, fun e he => ?_, h.sep, h.all, fun c hc => ?_, fun c hc => ?_, h.adn, lt⟩
  · obtain ⟨ib, I, c, h1, h2, h3⟩ := h.inn e he
    exact ⟨ib, I, c, h1, hF _ h2, h3⟩
  · obtain ⟨h1, h2⟩ := h.row c hc
    exact ⟨hF _ h1, h2⟩
  · obtain ⟨h1, h2, h3, h4⟩ := h.ver c hc
    exact ⟨h1, h2, h3, fun b hb => hF _ (h4 b hb)⟩

theorem WI.hlc (h : WI F H nb N A hl) (e : ∀ c ∈ A, hl c.hd.num = hl' c.hd.num) : WI F H nb N A hl' :=
  ⟨h.fn, h.cm, h.nk, h.inn, h.sep, h.all, fun c hc => (by rw [← e c hc]; exact h.row c hc), h.ver, h.adn, h.lt⟩

/-- A mark's own ways. -/
abbrev Inn (A : List Ch) (m : Mk) (I : ML Int (Option Addr)) : Prop := ∀ k a, mget I k = some a ↔ ∃ c ∈ A, c.hd.mark = m ∧ (c.hd.num : Int) = k ∧ a = c.hd.p

theorem WI.atm (h : WI F H nb N A hl) (hm : m ∈ mkeys N) : ∃ ib I c, mget N m = some (some ib) ∧ F ib ∧ ib ≠ nb ∧ mapAt mk3 mv76 H (some ib) I c ∧ (mkeys I).Nodup ∧ Inn A m I := by
  obtain ⟨e, he, rfl⟩ := List.mem_map.1 hm
  obtain ⟨ib, I, c, h1, h2⟩ := h.inn e he
  exact ⟨ib, I, c, by rw [mget_of_mem h.nk he, h1], h2⟩

theorem WI.rows (h : WI F H nb N A hl) (k : Kp S H H') (hS : ∀ b t l, S b → ¬ Row H b t l) : (∀ c ∈ A, F c.hd.ad ∧ Row H' c.hd.ad 79 (c.row (hl c.hd.num))) ∧
    ∀ c ∈ A, Lst iF H' c.hd.sl c.hd.ver ∧ c.hd.ver.getLast? = some (c.hd.num : Int) ∧ c.hd.ver.length ≤ 16 ∧ ∀ b, c.hd.sl.at b → F b := by
  refine ⟨fun c hc => ?_, fun c hc => ?_⟩
  · obtain ⟨h1, h2⟩ := h.row c hc
    exact ⟨h1, k.row h2 fun hs => hS _ _ _ hs h2⟩
  · obtain ⟨h1, h2⟩ := h.ver c hc
    refine ⟨h1.kp k fun b hb hs => ?_, h2⟩
    obtain ⟨sp, hr⟩ := h1.row hb
    exact hS _ _ _ hs hr

theorem map_norow {κ ν : Type} {f : κ → Value} {g : ν → Value} {L : ML κ ν} {r c : Nat} (h : mapAt f g H (some r) L c) : ∀ b t l, b = r → ¬ Row H b t l := fun b t l e hr => h.ne (e ▸ hr) rfl

theorem WI.addN (h : WI F H nb N A hl) (hm : m ∉ mkeys N) (hN : mapAt mk32 mv94 H (some nb) N cm) (e1 : H1 = Array.push H (.map #[] 0)) (e2 : H2 = seto H1 nb (mapo mk32 mv94 (mput N cm m (some H.size)).1 (mput N cm m (some H.size)).2)) :
    WI (fun b => F b ∨ b = H.size) H2 nb (mput N cm m (some H.size)).1 A hl ∧ Kp (fun b => b = nb) H H2 := by
  have s1 := size_push' e1
  have s2 := size_seto' e2
  have k1 := (Kp.refl No H).push' e1
  have k2 : Kp (fun b => b = nb) H H2 := (k1.mono fun _ _ h => h.elim).seto' e2 (.inl rfl)
  have hnb := h.lt _ h.fn
  obtain ⟨hr, hv⟩ := h.rows k2 (map_norow hN)
  refine ⟨⟨.inl h.fn, ⟨_, mapAt.put (by omega) e2⟩, mput_nodup h.nk _ _ _, fun e he => ?_, fun e he e' he' => ?_, fun c hc => ?_, fun c hc => ⟨.inl (hr c hc).1, (hr c hc).2⟩, fun c hc => ?_, h.adn, fun b hb => ?_⟩, k2⟩
  · rw [mput_new hm, List.mem_append] at he
    rcases he with he | he
    · obtain ⟨ib, I, c, h1, h2, h3, h4, h5⟩ := h.inn e he
      exact ⟨ib, I, c, h1, .inl h2, h3, h4.kp k2 h3, h5⟩
    · rw [List.mem_singleton] at he
      subst he
      refine ⟨H.size, [], 0, rfl, .inr rfl, by omega, ?_, List.nodup_nil, fun k a => ⟨fun hh => (by cases hh), fun ⟨c, hc, hcm, _⟩ => absurd (h.all c hc) (by rw [hcm]; exact hm)⟩⟩
      exact mapAt.kp (S := fun b => b = nb) (mapAt.new e1) ((Kp.refl _ H1).seto' e2 (.inl rfl)) (by omega)
  · rw [mput_new hm, List.mem_append, List.mem_singleton] at he he'
    intro heq
    have hlt : ∀ e ∈ N, e.2.1 ≠ some H.size := fun e he hh => by
      obtain ⟨ib, I, c, h1, h2, _⟩ := h.inn e he
      rw [h1] at hh
      injection hh with hh
      have := h.lt _ h2
      omega
    rcases he with he | rfl <;> rcases he' with he' | rfl
    · exact h.sep e he e' he' heq
    · exact absurd heq (hlt e he)
    · exact absurd heq.symm (hlt e' he')
    · rfl
  · rw [mkeys_mput, if_neg hm]
    exact List.mem_append_left _ (h.all c hc)
  · obtain ⟨h1, h2, h3, h4⟩ := hv c hc
    exact ⟨h1, h2, h3, fun b hb => .inl (h4 b hb)⟩
  · rcases hb with hb | hb
    · have := h.lt b hb; omega
    · omega

theorem WI.addI {c : Ch} (h : WI F H nb N A hl) (new : ∀ c' ∈ A, c'.hd.num ≠ c.hd.num) (adn : ∀ c' ∈ A, c'.hd.ad ≠ c.hd.ad) (hF : F c.hd.ad) (hrow : Row H c.hd.ad 79 (c.row (hl c.hd.num)))
    (hver : Lst iF H c.hd.sl c.hd.ver ∧ c.hd.ver.getLast? = some (c.hd.num : Int) ∧ c.hd.ver.length ≤ 16 ∧ ∀ b, c.hd.sl.at b → F b) (hm : mget N c.hd.mark = some (some ib)) (hne : ib ≠ nb) (hI : mapAt mk3 mv76 H (some ib) I ci) (hn : (mkeys I).Nodup) (hin : Inn A c.hd.mark I)
    (e : H' = seto H ib (mapo mk3 mv76 (mput I ci (c.hd.num : Int) c.hd.p).1 (mput I ci (c.hd.num : Int) c.hd.p).2)) : WI F H' nb N (c :: A) hl ∧ Kp (fun b => b = ib) H H' := by
  have k : Kp (fun b => b = ib) H H' := (Kp.refl _ H).seto' e (.inl rfl)
  obtain ⟨hr, hv⟩ := h.rows k (map_norow hI)
  refine ⟨⟨h.fn, h.cm.imp fun c m => m.kp k (Ne.symm hne), h.nk, fun e' he => ?_, h.sep, ?_, ?_, ?_, ?_, fun b hb => Nat.lt_of_lt_of_le (h.lt b hb) k.size⟩, k⟩
  · by_cases hem : e'.1 = c.hd.mark
    · have hb : e'.2.1 = some ib := by
        have := mget_of_mem h.nk he
        rw [hem, hm] at this
        injection this with this
        exact this.symm
      obtain ⟨ib', I', c', h1, h2, h3, _⟩ := h.inn e' he
      obtain rfl : ib' = ib := by rw [h1] at hb; injection hb
      refine ⟨ib', _, _, h1, h2, h3, mapAt.put (hI.lt) e, mput_nodup hn _ _ _, fun k a => ?_⟩
      rw [mget_mput]
      by_cases hk : k = (c.hd.num : Int)
      · rw [if_pos hk]
        refine ⟨fun hh => ⟨c, List.mem_cons_self, hem.symm, hk.symm, by injection hh with hh; exact hh.symm⟩, fun ⟨c1, hc1, h4, h5, h6⟩ => ?_⟩
        rcases List.mem_cons.1 hc1 with rfl | hc1
        · rw [h6]
        · exact absurd (by omega) (new c1 hc1)
      · rw [if_neg hk, hin]
        refine ⟨fun ⟨c1, hc1, h4⟩ => ⟨c1, List.mem_cons_of_mem _ hc1, by rw [hem]; exact h4⟩, fun ⟨c1, hc1, h4, h5, h6⟩ => ?_⟩
        rcases List.mem_cons.1 hc1 with rfl | hc1
        · exact absurd h5.symm hk
        · exact ⟨c1, hc1, by rw [← hem]; exact h4, h5, h6⟩
    · obtain ⟨ib', I', c', h1, h2, h3, h4, h5, h6⟩ := h.inn e' he
      refine ⟨ib', I', c', h1, h2, h3, h4.kp k fun hh => ?_, h5, fun k a => ?_⟩
      · subst hh
        obtain ⟨e2, he2, h7, h8⟩ := mem_of_mget hm
        exact hem ((h.sep e' he e2 he2 (h1.trans h8.symm)).trans h7)
      · rw [h6]
        refine ⟨fun ⟨c1, hc1, h4⟩ => ⟨c1, List.mem_cons_of_mem _ hc1, h4⟩, fun ⟨c1, hc1, h4, h5, h6⟩ => ?_⟩
        rcases List.mem_cons.1 hc1 with rfl | hc1
        · exact absurd h4.symm hem
        · exact ⟨c1, hc1, h4, h5, h6⟩
  · intro c1 hc1
    rcases List.mem_cons.1 hc1 with rfl | hc1
    · exact mget_mem.1 ⟨_, hm⟩
    · exact h.all c1 hc1
  · intro c1 hc1
    rcases List.mem_cons.1 hc1 with rfl | hc1
    · exact ⟨hF, k.row hrow fun hh => (map_norow hI) _ _ _ hh hrow⟩
    · exact hr c1 hc1
  · intro c1 hc1
    rcases List.mem_cons.1 hc1 with rfl | hc1
    · refine ⟨hver.1.kp k fun b hb hs => ?_, hver.2⟩
      obtain ⟨sp, hr⟩ := hver.1.row hb
      exact (map_norow hI) _ _ _ hs hr
    · exact hv c1 hc1
  · intro c1 hc1 c2 hc2 heq
    rcases List.mem_cons.1 hc1 with e1 | m1 <;> rcases List.mem_cons.1 hc2 with e2 | m2
    · rw [e1, e2]
    · exact absurd (by rw [← heq, e1]) (adn c2 m2)
    · exact absurd (by rw [heq, e2]) (adn c1 m1)
    · exact h.adn c1 m1 c2 m2 heq

theorem WI.del {c : Ch} (h : WI F H nb N A hl) (hc : c ∈ A) (un : ∀ c' ∈ A, c'.hd.num = c.hd.num → c' = c) (hm : mget N c.hd.mark = some (some ib)) (hne : ib ≠ nb) (hI : mapAt mk3 mv76 H (some ib) I ci) (hn : (mkeys I).Nodup) (hin : Inn A c.hd.mark I)
    (e : H' = seto H ib (mapo mk3 mv76 (mdel I (c.hd.num : Int)) ci)) : WI F H' nb N (A.filter fun c' => decide (c'.hd.num ≠ c.hd.num)) hl ∧ Kp (fun b => b = ib) H H' ∧ mapAt mk3 mv76 H' (some ib) (mdel I (c.hd.num : Int)) ci ∧
      Inn (A.filter fun c' => decide (c'.hd.num ≠ c.hd.num)) c.hd.mark (mdel I (c.hd.num : Int)) := by
  have k : Kp (fun b => b = ib) H H' := (Kp.refl _ H).seto' e (.inl rfl)
  obtain ⟨hr, hv⟩ := h.rows k (map_norow hI)
  have hmem : ∀ c', c' ∈ (A.filter fun c' => decide (c'.hd.num ≠ c.hd.num)) ↔ c' ∈ A ∧ c'.hd.num ≠ c.hd.num := fun c' => by rw [List.mem_filter]; simp
  have hat : mapAt mk3 mv76 H' (some ib) (mdel I (c.hd.num : Int)) ci := mapAt.put hI.lt e
  have hin' : Inn (A.filter fun c' => decide (c'.hd.num ≠ c.hd.num)) c.hd.mark (mdel I (c.hd.num : Int)) := by
    intro k a
    rw [mget_mdel hn]
    by_cases hk : k = (c.hd.num : Int)
    · rw [if_pos hk]
      refine ⟨fun hh => (by cases hh), fun ⟨c1, hc1, h4, h5, h6⟩ => ?_⟩
      exact absurd (by omega) ((hmem c1).1 hc1).2
    · rw [if_neg hk, hin]
      refine ⟨fun ⟨c1, hc1, h4, h5, h6⟩ => ⟨c1, (hmem c1).2 ⟨hc1, fun hh => hk (by omega)⟩, h4, h5, h6⟩, fun ⟨c1, hc1, h4⟩ => ⟨c1, ((hmem c1).1 hc1).1, h4⟩⟩
  refine ⟨⟨h.fn, h.cm.imp fun c m => m.kp k (Ne.symm hne), h.nk, fun e' he => ?_, h.sep, fun c1 hc1 => h.all c1 ((hmem c1).1 hc1).1, fun c1 hc1 => hr c1 ((hmem c1).1 hc1).1, fun c1 hc1 => hv c1 ((hmem c1).1 hc1).1,
    fun c1 hc1 c2 hc2 => h.adn c1 ((hmem c1).1 hc1).1 c2 ((hmem c2).1 hc2).1, fun b hb => Nat.lt_of_lt_of_le (h.lt b hb) k.size⟩, k, hat, hin'⟩
  by_cases hem : e'.1 = c.hd.mark
  · have hb : e'.2.1 = some ib := by
      have := mget_of_mem h.nk he
      rw [hem, hm] at this
      injection this with this
      exact this.symm
    obtain ⟨ib', I', c', h1, h2, h3, _⟩ := h.inn e' he
    obtain rfl : ib' = ib := by rw [h1] at hb; injection hb
    refine ⟨ib', _, _, h1, h2, h3, hat, mdel_nodup hn _, ?_⟩
    rw [hem]; exact hin'
  · obtain ⟨ib', I', c', h1, h2, h3, h4, h5, h6⟩ := h.inn e' he
    refine ⟨ib', I', c', h1, h2, h3, h4.kp k fun hh => ?_, h5, fun k a => ?_⟩
    · subst hh
      obtain ⟨e2, he2, h7, h8⟩ := mem_of_mget hm
      exact hem ((h.sep e' he e2 he2 (h1.trans h8.symm)).trans h7)
    · rw [h6]
      refine ⟨fun ⟨c1, hc1, h4, h5⟩ => ⟨c1, (hmem c1).2 ⟨hc1, fun hh => ?_⟩, h4, h5⟩, fun ⟨c1, hc1, h4⟩ => ⟨c1, ((hmem c1).1 hc1).1, h4⟩⟩
      exact hem (by rw [← h4, un c1 hc1 hh])

theorem WI.delN (h : WI F H nb N A hl) (hno : ∀ c ∈ A, c.hd.mark ≠ m) (hN : mapAt mk32 mv94 H (some nb) N cm) (e : H' = seto H nb (mapo mk32 mv94 (mdel N m) cm)) : WI F H' nb (mdel N m) A hl ∧ Kp (fun b => b = nb) H H' := by
  have k : Kp (fun b => b = nb) H H' := (Kp.refl _ H).seto' e (.inl rfl)
  obtain ⟨hr, hv⟩ := h.rows k (map_norow hN)
  refine ⟨⟨h.fn, ⟨_, mapAt.put hN.lt e⟩, mdel_nodup h.nk _, fun e' he => ?_, fun e1 he1 e2 he2 => h.sep e1 ((mem_mdel h.nk).1 he1).1 e2 ((mem_mdel h.nk).1 he2).1, fun c hc => ?_, hr, hv, h.adn, fun b hb => Nat.lt_of_lt_of_le (h.lt b hb) k.size⟩, k⟩
  · obtain ⟨ib', I', c', h1, h2, h3, h4, h5⟩ := h.inn e' ((mem_mdel h.nk).1 he).1
    exact ⟨ib', I', c', h1, h2, h3, h4.kp k h3, h5⟩
  · obtain ⟨e', he', h1⟩ := List.mem_map.1 (h.all c hc)
    exact List.mem_map.2 ⟨e', (mem_mdel h.nk).2 ⟨he', by rw [h1]; exact hno c hc⟩, h1⟩
end
end Go.Hw
