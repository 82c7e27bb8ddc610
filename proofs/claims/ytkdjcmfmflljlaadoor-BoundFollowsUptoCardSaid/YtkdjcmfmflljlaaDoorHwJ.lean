/- Maps on the heap: what stays, what changes. Own work of this session. -/
import Derived.Test.YtkdjcmfmflljlaaDoorHwI
import Derived.Test.YtkdjcmfmflljlaaDoorHwM
set_option linter.unusedVariables false
set_option linter.unusedSectionVars false
namespace Go.Hw
open Go

section
variable {κ ν : Type} [DecidableEq κ]

/-! ## the lists -/
theorem mfind_shift {k : κ} : ∀ {L : ML κ ν} {i : Nat}, mfind k L i = (mfind k L 0).map fun p => (p.1 + i, p.2)
  | [], i => rfl
  | e :: l, i => by
    unfold mfind
    by_cases h : k = e.1
    · rw [if_pos h, if_pos h]; simp
    · rw [if_neg h, if_neg h, mfind_shift (i := i + 1), mfind_shift (i := 0 + 1)]
      cases mfind k l 0 with
      | none => rfl
      | some p => simp; omega
theorem mget_cons (e : κ × ν × Nat) (l : ML κ ν) (k : κ) : mget (e :: l) k = if k = e.1 then some e.2.1 else mget l k := by
  unfold mget
  conv => lhs; unfold mfind
  by_cases h : k = e.1
  · rw [if_pos h, if_pos h]; rfl
  · rw [if_neg h, if_neg h, mfind_shift]
    cases mfind k l 0 <;> rfl
theorem mput_cons (e : κ × ν × Nat) (l : ML κ ν) (c : Nat) (k : κ) (v : ν) : (mput (e :: l) c k v).1 = if k = e.1 then (k, v, e.2.2) :: l else e :: (mput l c k v).1 := by
  unfold mput
  conv => lhs; unfold mfind
  by_cases h : k = e.1
  · rw [if_pos h, if_pos h]; rfl
  · rw [if_neg h, if_neg h, mfind_shift]
    cases mfind k l 0 with
    | none => rfl
    | some p => rfl
theorem mget_mput {L : ML κ ν} {c : Nat} {k k' : κ} {v : ν} : mget (mput L c k v).1 k' = if k' = k then some v else mget L k' := by
  induction L with
  | nil => show mget [(k, v, c)] k' = _; rw [mget_cons]
  | cons e l ih =>
    rw [mput_cons]
    by_cases h : k = e.1
    · rw [if_pos h, mget_cons, mget_cons]
      by_cases h' : k' = k
      · rw [if_pos h', if_pos h']
      · rw [if_neg h', if_neg h', if_neg fun hh => h' (hh.trans h.symm)]
    · rw [if_neg h, mget_cons, mget_cons, ih]
      by_cases h' : k' = k
      · rw [if_pos h', if_pos h', if_neg fun hh => h (h'.symm.trans hh)]
      · rw [if_neg h', if_neg h']
end

/-! ## the heap -/
section
variable {κ ν : Type} {f : κ → Value} {g : ν → Value} {H H' H1 : Hp} {r : Nat} {L : ML κ ν} {c : Nat}

theorem mapAt.lt (h : mapAt f g H (some r) L c) : r < H.size := (Array.getElem?_eq_some_iff.1 (show H[r]? = _ from h)).1
theorem mapAt.kp {S : Nat → Prop} (h : mapAt f g H (some r) L c) (k : Kp S H H') (hs : ¬ S r) : mapAt f g H' (some r) L c := (k.blk r h.lt hs).trans h
theorem mapAt.ne {b t : Nat} {l : List Value} (h : mapAt f g H (some r) L c) (k : Row H b t l) : r ≠ b := by
  intro e
  subst e
  have h : H[r]? = _ := h
  rw [show H[r]? = _ from k] at h
  cases h
theorem mapAt.new (e : H1 = Array.push H (.map #[] 0)) : mapAt f g H1 (some H.size) [] 0 := by
  subst e
  show (H.push _)[H.size]? = _
  simp [mapo]
theorem mapAt.put {L' : ML κ ν} {c' : Nat} (h : r < H.size) (e : H1 = seto H r (mapo f g L' c')) : mapAt f g H1 (some r) L' c' := by
  subst e
  show (seto H r _)[r]? = _
  simp [seto, h]
theorem Kp.seto' {S : Nat → Prop} {H0 : Hp} {o : Obj} (h : Kp S H0 H) (e : H1 = seto H r o) (hr : S r ∨ H0.size ≤ r) : Kp S H0 H1 := by
  subst e
  refine ⟨by have := h.size; simp [seto]; omega, fun k hk hs => ?_⟩
  have hne : r ≠ k := by
    intro e
    subst e
    rcases hr with hr | hr
    · exact hs hr
    · omega
  rw [← h.blk k hk hs]
  simp [seto, hne]
end

/-- 'append' onto a slice without room: a new row. -/
theorem RdL.grow {α : Type} {t k : Nat} {F : Fmt α t k} {H : Hp} {s : Sl} {L : List α} {bytes : Nat} {z : Array Value} {xs : Sl} {M : List α} {K : Sl → Hp → Prop} (h : RdL F H s L) (hx : RdL F H xs M) (hz : z.size = k) (hc : s.c < L.length + M.length)
    (hb : (L.length + M.length) * bytes ≤ 140737488355328) (h63 : L.length + M.length ≤ 9223372036854775807)
    (hK : ∀ r H', Lst F H' r (L ++ M) → Kp (fun _ => False) H H' → (∀ b, r.at b → b = H.size) → K r H') : AppendF H t k bytes z s xs.b xs.n K := by
  have hn := h.n
  have hm := hx.n
  refine ⟨L.flatMap F.f, M.flatMap F.f, by rw [fl_len F.len, hn], h.r, by rw [fl_len F.len, hm], hx.r, fl_one F M, by rw [hn, hm]; exact hb, by omega, fun hroom => absurd hroom (by omega), fun _ cap hc1 hc2 => ?_⟩
  refine hK _ _ ⟨.inr ⟨H.size, zs z (cap - (s.n + xs.n)), rfl, ?_, ?_, ?_, hc1, hc2⟩⟩ (Kp.push (Kp.refl _ _) _) fun b hb => ?_
  · rw [List.flatMap_append]; exact Row.newl _ _ _
  · rw [fl_len F.len, List.length_append, hn, hm]
  · rw [List.length_append, fl_len F.len, zs_length, hz, List.length_append, ← Nat.add_mul]
    show _ = cap * k
    congr 1; omega
  · injection hb with hb; injection hb with hb; exact hb.symm

theorem Row.plain {H : Hp} {b t o : Nat} {l : List Value} (h : Row H b t l) : Plain H (Option.some ⟨b, o, Option.none⟩) := fun a ha => by
  injection ha with ha
  subst ha
  exact ⟨_, _, h⟩
theorem Plain.none {H : Hp} : Plain H Option.none := fun a ha => by cases ha

end Go.Hw
