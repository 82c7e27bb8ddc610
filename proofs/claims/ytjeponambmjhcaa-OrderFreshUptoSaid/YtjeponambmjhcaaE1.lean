/- A gate and its answers, each with all blocks that are its own: a step. Own work of this session. -/
import Derived.Test.YtjeponambmjhcaaD3
import Derived.Test.YtjeponambmjhcaaWalkD
set_option linter.unusedVariables false
namespace Go.Hw
open Go

/-- The block that a slice lies in. -/
def Sl.blk (s : Sl) (b : Nat) : Prop := ∃ a, s.b = some a ∧ a.block = b
theorem Sl.blk_of_at {s : Sl} {b : Nat} (h : s.at b) : s.blk b := ⟨_, h, rfl⟩
theorem Lst.at_of_blk {α : Type} {t k : Nat} {F : Fmt α t k} {H : Hp} {s : Sl} {L : List α} (h : Lst F H s L) {b : Nat} (hb : s.blk b) : s.at b := by
  obtain ⟨a, ha, rfl⟩ := hb
  rcases h.own with ⟨rfl, _⟩ | ⟨c, sp, h1, _⟩
  · cases ha
  · rw [h1] at ha
    obtain rfl : (⟨c, 0, none⟩ : Addr) = a := by simpa using ha
    exact h1
theorem RdL.kpb {α : Type} {t k : Nat} {F : Fmt α t k} {H H' : Hp} {s : Sl} {L : List α} {S : Nat → Prop} (h : RdL F H s L) (k : Kp S H H') (hs : ∀ b, s.blk b → ¬ S b) : RdL F H' s L := h.kp k fun a ha => hs _ ⟨a, ha, rfl⟩

theorem Dj.perm {E E' : List EC} (h : Dj E) (p : E.Perm E') : Dj E' := (p.pairwise_iff fun h b hb hb' => h b hb' hb).1 h

def fpv (g hb : Nat) (sl : Sl) (L : List HC) (b : Nat) : Prop := fp g hb sl b ∨ ∃ x ∈ L, x.e.sl.at b
/-- The program's gate and all its blocks. -/
def GP (H : Hp) (F : Nat → Prop) (s : St) (g : Nat) : Prop := ∃ hb sl L, PL H g hb sl s L ∧ Dj (L.map HC.e) ∧ ∀ b, F b ↔ fpv g hb sl L b
/-- An answer and all its blocks. -/
def AnsF (H : Hp) (R : Nat → Prop) (r : Sl) (evs : List EV) : Prop := ∃ E, Lst eF H r E ∧ Vals H E ∧ Dj E ∧ E.map EC.ev = evs ∧ ∀ b, R b ↔ r.at b ∨ ∃ x ∈ E, x.sl.at b

theorem Vals.kpF {S : Nat → Prop} {H H' : Hp} {E : List EC} (h : Vals H E) (k : Kp S H H') (hs : ∀ x ∈ E, ∀ b, x.sl.at b → ¬ S b) : Vals H' E := fun x hx => ⟨(h x hx).1.kp k (hs x hx), (h x hx).2⟩

theorem GP.kp {H H' : Hp} {F S : Nat → Prop} {s : St} {g : Nat} (h : GP H F s g) (k : Kp S H H') (hs : ∀ b, F b → ¬ S b) : GP H' F s g := by
  obtain ⟨hb, sl, L, p, d, f⟩ := h
  have hf : ∀ b, fp g hb sl b → ¬ S b := fun b h => hs b ((f b).2 (.inl h))
  refine ⟨hb, sl, L, ⟨k.row p.row (hf _ (.inl rfl)), k.row p.hrow (hf _ (.inr (.inl rfl))), p.lst.kp k fun b h => hf b (.inr (.inr h)), p.heap, p.vals.kpF k fun x hx b hb' => ?_, p.perm⟩, d, f⟩
  obtain ⟨y, hy, rfl⟩ := List.mem_map.1 hx
  exact hs b ((f b).2 (.inr ⟨y, hy, hb'⟩))
theorem GP.no {H H' : Hp} {F : Nat → Prop} {s : St} {g : Nat} (h : GP H F s g) (k : Kp No H H') : GP H' F s g := h.kp k fun _ _ => id
theorem GP.lt {H : Hp} {F : Nat → Prop} {s : St} {g : Nat} (h : GP H F s g) {b : Nat} (hb : F b) : b < H.size := by
  obtain ⟨hb', sl, L, p, d, f⟩ := h
  rcases (f b).1 hb with h | ⟨x, hx, h⟩
  · exact p.lt h
  · exact (p.vals x.e (List.mem_map_of_mem hx)).1.lt h
theorem AnsF.kp {H H' : Hp} {R S : Nat → Prop} {r : Sl} {evs : List EV} (h : AnsF H R r evs) (k : Kp S H H') (hs : ∀ b, R b → ¬ S b) : AnsF H' R r evs := by
  obtain ⟨E, h1, h2, h3, h4, f⟩ := h
  exact ⟨E, h1.kp k fun b hb => hs b ((f b).2 (.inl hb)), h2.kpF k fun x hx b hb => hs b ((f b).2 (.inr ⟨x, hx, hb⟩)), h3, h4, f⟩
theorem AnsF.lt {H : Hp} {R : Nat → Prop} {r : Sl} {evs : List EV} (h : AnsF H R r evs) {b : Nat} (hb : R b) : b < H.size := by
  obtain ⟨E, h1, h2, h3, h4, f⟩ := h
  rcases (f b).1 hb with h | ⟨x, hx, h⟩
  · exact h1.lt h
  · exact (h2 x hx).1.lt h
theorem AnsF.ans {H : Hp} {R : Nat → Prop} {r : Sl} {evs : List EV} (h : AnsF H R r evs) : Ans H r evs := by
  obtain ⟨E, h1, h2, h3, h4, f⟩ := h
  exact ⟨E, h1, h2, h4⟩

/-- What goes out and what stays lie apart. -/
theorem parted {H H' : Hp} {g hb : Nat} {sl sl' r : Sl} {s s' : St} {L L' O N : List HC} {F : Nat → Prop} {evs : List EV} (p : PL H g hb sl s L) (d : Dj (L.map HC.e)) (f : ∀ b, F b ↔ fpv g hb sl L b)
    (p' : PL H' g hb sl' s' L') (hr : Lst eF H' r (O.map HC.e)) (hv : Vals H' (O.map HC.e)) (he : (O.map HC.e).map EC.ev = evs) (hp : (O ++ L').Perm (L ++ N)) (hN : N = [] ∨ ∃ x, N = [x] ∧ ∀ b, x.e.sl.at b → H.size ≤ b)
    (hs : ∀ b, sl'.at b → sl.at b ∨ H.size ≤ b) (hrn : ∀ b, r.at b → H.size ≤ b) :
    ∃ F' R, GP H' F' s' g ∧ AnsF H' R r evs ∧ (∀ b, F' b → F b ∨ H.size ≤ b) ∧ (∀ b, R b → F b ∨ H.size ≤ b) ∧ ∀ b, F' b → ¬ R b := by
  have hLv : ∀ x ∈ L, ∀ b, x.e.sl.at b → F b ∧ b < H.size := fun x hx b hb' => ⟨(f b).2 (.inr ⟨x, hx, hb'⟩), (p.vals x.e (List.mem_map_of_mem hx)).1.lt hb'⟩
  have hNv : ∀ x ∈ N, ∀ b, x.e.sl.at b → H.size ≤ b := fun x hx b hb' => by
    rcases hN with rfl | ⟨y, rfl, hy⟩
    · simp at hx
    · rw [List.mem_singleton] at hx
      subst hx
      exact hy b hb'
  have hdLN : Dj ((L ++ N).map HC.e) := by
    rw [List.map_append, Dj, List.pairwise_append]
    refine ⟨d, ?_, fun x hx y hy b hxb hyb => ?_⟩
    · rcases hN with rfl | ⟨y, rfl, _⟩
      · exact List.Pairwise.nil
      · exact List.pairwise_singleton _ _
    · obtain ⟨x', hx', rfl⟩ := List.mem_map.1 hx
      obtain ⟨y', hy', rfl⟩ := List.mem_map.1 hy
      have := (hLv x' hx' b hxb).2
      have := hNv y' hy' b hyb
      omega
  have hd := hdLN.perm (hp.map HC.e).symm
  rw [List.map_append, Dj, List.pairwise_append] at hd
  have hmem : ∀ x, x ∈ O ∨ x ∈ L' → ∀ b, x.e.sl.at b → F b ∨ H.size ≤ b := fun x hx b hb' => by
    have := hp.subset (show x ∈ O ++ L' by simpa using hx)
    rcases List.mem_append.1 this with h | h
    · exact .inl (hLv x h b hb').1
    · exact .inr (hNv x h b hb')
  refine ⟨fpv g hb sl' L', fun b => r.at b ∨ ∃ x ∈ O.map HC.e, x.sl.at b, ⟨hb, sl', L', p', hd.2.1, fun _ => Iff.rfl⟩, ⟨_, hr, hv, hd.1, he, fun _ => Iff.rfl⟩, fun b h => ?_, fun b h => ?_, fun b h h' => ?_⟩
  · rcases h with (h | h | h) | ⟨x, hx, h⟩
    · exact .inl ((f b).2 (.inl (.inl h)))
    · exact .inl ((f b).2 (.inl (.inr (.inl h))))
    · exact (hs b h).imp (fun h => (f b).2 (.inl (.inr (.inr h)))) id
    · exact hmem x (.inr hx) b h
  · rcases h with h | ⟨x, hx, h⟩
    · exact .inr (hrn b h)
    · obtain ⟨x', hx', rfl⟩ := List.mem_map.1 hx
      exact hmem x' (.inl hx') b h
  · have hO : ∀ x ∈ O.map HC.e, x.sl.at b → False := fun x hx hxb => by
      rcases h with h | ⟨y, hy, h⟩
      · obtain ⟨_, rr⟩ := (hv x hx).1.row hxb
        exact p'.not49 b _ h rr
      · exact hd.2.2 x hx y.e (List.mem_map_of_mem hy) b hxb h
    rcases h' with h' | ⟨x, hx, h'⟩
    · rcases h with (h | h | h) | ⟨y, hy, h⟩
      · exact hr.ne p'.row (by decide) (h ▸ h')
      · exact hr.ne p'.hrow (by decide) (h ▸ h')
      · exact hr.disj p'.lst (by decide) h' h
      · exact hr.disj (p'.vals y.e (List.mem_map_of_mem hy)).1 (by decide) h' h
    · exact hO x hx h'

/-- What a step answers, and the gate behind it. -/
def stepF (s : St) (kd now : Int) (e : EV) : List EV × St :=
  if kd = 1 then ((push s e).1.map NE.e, (push s e).2.2) else if kd = 2 then ((advance s now).1.map NE.e, (advance s now).2.2)
  else if kd = 3 then ((flush s).1.map NE.e, (flush s).2) else if kd = 4 then ((isort s.C).map NE.e, s) else ([], s)

theorem stepF_ok {s : St} (ok : s.Ok) (kd now : Int) {e : EV} (hv : e.vs.length ≤ 1048576) : (stepF s kd now e).2.Ok ∧ (stepF s kd now e).1.length ≤ 1048576 ∧ (stepF s kd now e).2.count ≤ s.count + 1 := by
  unfold stepF
  split
  · exact ⟨push_ok ok hv, push_len ok e, push_count e⟩
  · split
    · exact ⟨advance_ok ok now, advance_len ok now, advance_count now⟩
    · split
      · exact ⟨flush_ok ok, isort_len ok, by show s.count ≤ _; omega⟩
      · split
        · exact ⟨ok, isort_len ok, by show s.count ≤ _; omega⟩
        · exact ⟨ok, by simp, by show s.count ≤ _; omega⟩

theorem c19f {H : Hp} {F : Nat → Prop} {s : St} {g : Nat} {Q : Sl → Hp → Prop} (h : GP H F s g) (ok : s.Ok)
    (hQ : ∀ r H' R, AnsF H' R r ((isort s.C).map NE.e) → Kp No H H' → (∀ b, R b → H.size ≤ b) → Q r H') : F19 (some ⟨g, 0, none⟩) H Q := by
  obtain ⟨hb, sl, L, p, d, f⟩ := h
  refine c19x p ok fun r H' E h1 h2 h3 h4 h5 k hr => hQ r H' _ ⟨E, h1, h2, h4, h3, fun _ => Iff.rfl⟩ k fun b hb => ?_
  rcases hb with h | ⟨x, hx, h⟩
  · exact hr b h
  · exact h5 x hx b h

theorem c20f {H : Hp} {F : Nat → Prop} {s : St} {g : Nat} {Q : Sl → Hp → Prop} (h : GP H F s g) (ok : s.Ok)
    (hQ : ∀ r H' F' R, GP H' F' (flush s).2 g → AnsF H' R r ((flush s).1.map NE.e) → Kp F H H' → (∀ b, F' b → F b ∨ H.size ≤ b) → (∀ b, R b → F b ∨ H.size ≤ b) → (∀ b, F' b → ¬ R b) → Q r H') : F20 (some ⟨g, 0, none⟩) H Q := by
  obtain ⟨hb, sl, L, p, d, f⟩ := h
  refine c20x p ok fun r H' sl' L' O p' hr hv he hp k hs hrn => ?_
  obtain ⟨F', R, h1, h2, h3, h4, h5⟩ := parted (N := []) p d f p' hr hv he (by simpa using hp) (.inl rfl) (fun b hb => .inl (hs b hb)) hrn
  exact hQ r H' F' R h1 h2 (k.mono fun b _ h => (f b).2 (.inl h)) h3 h4 h5

theorem c10 {H : Hp} {F : Nat → Prop} {s : St} {g : Nat} {kd now tm : Int} {on : Bool} {ty : ByteArray} {vs : Sl} {vals : List VT} {Q : Sl → Hp → Prop} (h : GP H F s g) (ok : s.Ok) (hc : s.count ≤ 9223372036854775800)
    (hv : RdL vF H vs vals) (hvg : ∀ a, vs.b = some a → a.block ≠ g) (hvl : vals.length ≤ 1048576)
    (hQ : ∀ r H' F' R, GP H' F' (stepF s kd now ⟨ty, tm, vals⟩).2 g → AnsF H' R r (stepF s kd now ⟨ty, tm, vals⟩).1 → Kp F H H' → (∀ b, F' b → F b ∨ H.size ≤ b) → (∀ b, R b → F b ∨ H.size ≤ b) → (∀ b, F' b → ¬ R b) → Q r H') :
    F10 (some ⟨g, 0, none⟩) kd on ty tm vs now H Q := by
  intro H1 e1
  have k1 := (Kp.refl No H).push' e1
  have b1 := Row.new' e1
  have s1 := size_push' e1
  obtain ⟨hb, sl, L, p, d, f⟩ := h.no k1
  have fin : ∀ {r : Sl} {H' : Hp} {sl' : Sl} {L' O N : List HC} {s' : St} {evs : List EV}, PL H' g hb sl' s' L' → Lst eF H' r (O.map HC.e) → Vals H' (O.map HC.e) → (O.map HC.e).map EC.ev = evs → (O ++ L').Perm (L ++ N) → (N = [] ∨ ∃ x, N = [x] ∧ ∀ b, x.e.sl.at b → H1.size ≤ b) →
      Kp (fp g hb sl) H1 H' → (∀ b, sl'.at b → sl.at b ∨ H1.size ≤ b) → (∀ b, r.at b → H1.size ≤ b) → stepF s kd now ⟨ty, tm, vals⟩ = (evs, s') → Q r H' := by
    intro r H' sl' L' O N s' evs p' hr hv he hp hN k hs hrn hst
    obtain ⟨F', R, h1, h2, h3, h4, h5⟩ := parted p d f p' hr hv he hp hN hs hrn
    refine hQ r H' F' R (by rw [hst]; exact h1) (by rw [hst]; exact h2) ((k1.mono (T := F) fun _ _ => False.elim).trans k fun b hb => .inl ((f b).2 (.inl hb))) (fun b hb => (h3 b hb).imp id (by omega)) (fun b hb => (h4 b hb).imp id (by omega)) h5
  refine ⟨_, b1.cell_of (i := 0) rfl, fun h1 => ?_, fun h1 => ⟨fun h2 => ?_, fun h2 => ⟨fun h3 => ?_, fun h3 => ⟨fun h4 => ?_, fun h4 => ?_⟩⟩⟩⟩
  · have e := of_decide_eq_true h1
    refine ⟨_, _, _, cells_sub (i := 2) (m := [.string ty, .int .i64 tm, Sl.v vs]) b1.all rfl, c23x p ok hc (hv.kp0 k1) hvg hvl fun r H' sl' L' O N p' hr hv he hp hN k hs hrn => ?_⟩
    exact fin p' hr hv he hp hN k hs hrn (if_pos e)
  · have e1 := of_decide_eq_false h1
    have e := of_decide_eq_true h2
    refine ⟨_, b1.cell_of (i := 5) rfl, c26x p ok fun r H' sl' L' O p' hr hv he hp k hs hrn => ?_⟩
    exact fin (N := []) p' hr hv he (by simpa using hp) (.inl rfl) k (fun b hb => .inl (hs b hb)) hrn ((if_neg e1).trans (if_pos e))
  · have e1 := of_decide_eq_false h1
    have e2 := of_decide_eq_false h2
    have e := of_decide_eq_true h3
    refine c20x p ok fun r H' sl' L' O p' hr hv he hp k hs hrn => ?_
    exact fin (N := []) p' hr hv he (by simpa using hp) (.inl rfl) k (fun b hb => .inl (hs b hb)) hrn ((if_neg e1).trans ((if_neg e2).trans (if_pos e)))
  · have e1 := of_decide_eq_false h1
    have e2 := of_decide_eq_false h2
    have e3 := of_decide_eq_false h3
    have e := of_decide_eq_true h4
    have gp : GP H1 F s g := ⟨hb, sl, L, p, d, f⟩
    refine c19f gp ok fun r H' R a k hR => ?_
    have est : stepF s kd now ⟨ty, tm, vals⟩ = ((isort s.C).map NE.e, s) := (if_neg e1).trans ((if_neg e2).trans ((if_neg e3).trans (if_pos e)))
    refine hQ r H' F R (by rw [est]; exact gp.no k) (by rw [est]; exact a) (((k1.trans k fun _ => False.elim)).mono fun _ _ => False.elim) (fun _ => .inl) (fun b hb => .inr (by have := hR b hb; omega)) fun b hb hR' => ?_
    have := hR b hR'
    have := gp.lt hb
    omega
  · have e1 := of_decide_eq_false h1
    have e2 := of_decide_eq_false h2
    have e3 := of_decide_eq_false h3
    have e4 := of_decide_eq_false h4
    have est : stepF s kd now ⟨ty, tm, vals⟩ = ([], s) := (if_neg e1).trans ((if_neg e2).trans ((if_neg e3).trans (if_neg e4)))
    refine hQ Sl.nil H1 F (fun b => Sl.nil.at b ∨ ∃ x ∈ ([] : List EC), x.sl.at b) (by rw [est]; exact h.no k1) (by rw [est]; exact ⟨[], Lst.nil _ _, fun x hx => (by simp at hx), List.Pairwise.nil, rfl, fun _ => Iff.rfl⟩) (k1.mono fun _ _ => False.elim) (fun _ => .inl) (fun b hb => ?_) fun b _ hR => ?_
    · rcases hb with h | ⟨x, hx, _⟩
      · cases h
      · simp at hx
    · rcases hR with h | ⟨x, hx, _⟩
      · cases h
      · simp at hx

end Go.Hw
