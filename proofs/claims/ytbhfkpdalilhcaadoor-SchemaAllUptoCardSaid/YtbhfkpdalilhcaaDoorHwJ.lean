/- Maps on the heap: what stays, what changes. Own work of this session. -/
import Derived.Test.YtbhfkpdalilhcaaDoorHwI
import Derived.Test.YtbhfkpdalilhcaaDoorHwM
set_option linter.unusedVariables false
set_option linter.unusedSectionVars false
namespace Go.Hw
open Go

section
variable {κ ν : Type} [DecidableEq κ]

/-! ## the lists -/
theorem mfind_shift {k : κ} : ∀ {L : ML κ ν} {i : Nat}, mfind k L i = (mfind k L 0).map fun p => (p.1 + i, p.2)
  | [], i => rfl
  | e :: l, i => by
    unfold mfind
    by_cases h : k = e.1
    · rw [if_pos h, if_pos h]; simp
    · rw [if_neg h, if_neg h, mfind_shift (i := i + 1), mfind_shift (i := 0 + 1)]
      cases mfind k l 0 with
      | none => rfl
      | some p => simp; omega
theorem mget_nil (k : κ) : mget ([] : ML κ ν) k = none := rfl
theorem mget_cons (e : κ × ν × Nat) (l : ML κ ν) (k : κ) : mget (e :: l) k = if k = e.1 then some e.2.1 else mget l k := by
  unfold mget
  conv => lhs; unfold mfind
  by_cases h : k = e.1
  · rw [if_pos h, if_pos h]; rfl
  · rw [if_neg h, if_neg h, mfind_shift]
    cases mfind k l 0 <;> rfl
theorem mput_cons (e : κ × ν × Nat) (l : ML κ ν) (c : Nat) (k : κ) (v : ν) : (mput (e :: l) c k v).1 = if k = e.1 then (k, v, e.2.2) :: l else e :: (mput l c k v).1 := by
  unfold mput
  conv => lhs; unfold mfind
  by_cases h : k = e.1
  · rw [if_pos h, if_pos h]; rfl
  · rw [if_neg h, if_neg h, mfind_shift]
    cases mfind k l 0 with
    | none => rfl
    | some p => rfl
theorem mdel_cons (e : κ × ν × Nat) (l : ML κ ν) (k : κ) : mdel (e :: l) k = if k = e.1 then l else e :: mdel l k := by
  unfold mdel
  conv => lhs; unfold mfind
  by_cases h : k = e.1
  · rw [if_pos h, if_pos h]; rfl
  · rw [if_neg h, if_neg h, mfind_shift]
    cases mfind k l 0 with
    | none => rfl
    | some p => rfl

def mkeys (L : ML κ ν) : List κ := L.map (·.1)

theorem mget_mem {L : ML κ ν} {k : κ} : (∃ v, mget L k = some v) ↔ k ∈ mkeys L := by
  induction L with
  | nil => simp [mget_nil, mkeys]
  | cons e l ih =>
    rw [mget_cons]
    by_cases h : k = e.1
    · rw [if_pos h]; simp [mkeys, h]
    · rw [if_neg h, ih]; simp [mkeys, h]
theorem mget_none {L : ML κ ν} {k : κ} : mget L k = none ↔ k ∉ mkeys L := by
  rw [← mget_mem]
  cases mget L k <;> simp
theorem mget_of_mem {L : ML κ ν} (hn : (mkeys L).Nodup) {e : κ × ν × Nat} (he : e ∈ L) : mget L e.1 = some e.2.1 := by
  induction L with
  | nil => cases he
  | cons x l ih =>
    rw [mget_cons]
    unfold mkeys at hn
    rw [List.map_cons, List.nodup_cons] at hn
    rcases List.mem_cons.1 he with rfl | he
    · rw [if_pos rfl]
    · rw [if_neg, ih hn.2 he]
      intro h
      exact hn.1 (h ▸ List.mem_map_of_mem he)
theorem mem_of_mget {L : ML κ ν} {k : κ} {v : ν} (h : mget L k = some v) : ∃ e ∈ L, e.1 = k ∧ e.2.1 = v := by
  induction L with
  | nil => cases h
  | cons x l ih =>
    rw [mget_cons] at h
    by_cases hk : k = x.1
    · rw [if_pos hk] at h
      injection h with h
      exact ⟨x, List.mem_cons_self, hk.symm, h⟩
    · rw [if_neg hk] at h
      obtain ⟨e, h1, h2⟩ := ih h
      exact ⟨e, List.mem_cons_of_mem _ h1, h2⟩

theorem mget_mput {L : ML κ ν} {c : Nat} {k k' : κ} {v : ν} : mget (mput L c k v).1 k' = if k' = k then some v else mget L k' := by
  induction L with
  | nil => show mget [(k, v, c)] k' = _; rw [mget_cons]
  | cons e l ih =>
    rw [mput_cons]
    by_cases h : k = e.1
    · rw [if_pos h, mget_cons, mget_cons]
      by_cases h' : k' = k
      · rw [if_pos h', if_pos h']
      · rw [if_neg h', if_neg h', if_neg fun hh => h' (hh.trans h.symm)]
    · rw [if_neg h, mget_cons, mget_cons, ih]
      by_cases h' : k' = k
      · rw [if_pos h', if_pos h', if_neg fun hh => h (h'.symm.trans hh)]
      · rw [if_neg h', if_neg h']
theorem mkeys_mput {L : ML κ ν} {c : Nat} {k : κ} {v : ν} : mkeys (mput L c k v).1 = if k ∈ mkeys L then mkeys L else mkeys L ++ [k] := by
  induction L with
  | nil => rfl
  | cons e l ih =>
    rw [mput_cons]
    by_cases h : k = e.1
    · rw [if_pos h, if_pos (by simp [mkeys, h])]
      simp [mkeys, h]
    · rw [if_neg h]
      show e.1 :: mkeys (mput l c k v).1 = _
      rw [ih]
      by_cases hk : k ∈ mkeys l
      · rw [if_pos hk, if_pos (by show k ∈ e.1 :: mkeys l; exact List.mem_cons_of_mem _ hk)]; rfl
      · rw [if_neg hk, if_neg (by show k ∉ e.1 :: mkeys l; simp [h, hk])]; rfl
theorem mput_nodup {L : ML κ ν} (h : (mkeys L).Nodup) (c : Nat) (k : κ) (v : ν) : (mkeys (mput L c k v).1).Nodup := by
  rw [mkeys_mput]
  split
  · exact h
  · rename_i hk
    rw [List.nodup_append]
    refine ⟨h, by simp, fun a ha b hb => ?_⟩
    rw [List.mem_singleton] at hb
    subst hb
    exact fun e => hk (e ▸ ha)
theorem mput_new {L : ML κ ν} {c : Nat} {k : κ} {v : ν} (hk : k ∉ mkeys L) : (mput L c k v).1 = L ++ [(k, v, c)] := by
  induction L with
  | nil => rfl
  | cons e l ih =>
    have hk : k ∉ e.1 :: mkeys l := hk
    rw [List.mem_cons, not_or] at hk
    rw [mput_cons, if_neg hk.1, ih hk.2]; rfl
theorem mem_mput {L : ML κ ν} {c : Nat} {k : κ} {v : ν} {e : κ × ν × Nat} (he : e ∈ (mput L c k v).1) : e ∈ L ∨ (e.1 = k ∧ e.2.1 = v) := by
  induction L with
  | nil => 
    have he : e ∈ [(k, v, c)] := he
    rw [List.mem_singleton] at he
    subst he; exact .inr ⟨rfl, rfl⟩
  | cons x l ih =>
    rw [mput_cons] at he
    split at he
    · rcases List.mem_cons.1 he with rfl | he
      · exact .inr ⟨rfl, rfl⟩
      · exact .inl (List.mem_cons_of_mem _ he)
    · rcases List.mem_cons.1 he with rfl | he
      · exact .inl List.mem_cons_self
      · rcases ih he with h | h
        · exact .inl (List.mem_cons_of_mem _ h)
        · exact .inr h
theorem mdel_eq {L : ML κ ν} (h : (mkeys L).Nodup) (k : κ) : mdel L k = L.filter fun e => decide (e.1 ≠ k) := by
  induction L with
  | nil => rfl
  | cons e l ih =>
    unfold mkeys at h
    rw [List.map_cons, List.nodup_cons] at h
    rw [mdel_cons, List.filter_cons]
    by_cases hk : k = e.1
    · rw [if_pos hk, if_neg (by simp [hk])]
      refine (List.filter_eq_self.2 fun x hx => ?_).symm
      have : x.1 ≠ k := fun hh => h.1 (by rw [← hk, ← hh]; exact List.mem_map_of_mem hx)
      simp [this]
    · rw [if_neg hk, if_pos (by simp; exact fun hh => hk hh.symm), ih h.2]
theorem mdel_nodup {L : ML κ ν} (h : (mkeys L).Nodup) (k : κ) : (mkeys (mdel L k)).Nodup := by
  rw [mdel_eq h]
  exact h.sublist (List.Sublist.map _ (List.filter_sublist))
theorem mget_mdel {L : ML κ ν} (h : (mkeys L).Nodup) {k k' : κ} : mget (mdel L k) k' = if k' = k then none else mget L k' := by
  induction L with
  | nil => simp [mdel, mfind, mget_nil]
  | cons e l ih =>
    have h' : (e.1 :: mkeys l).Nodup := h
    rw [List.nodup_cons] at h'
    rw [mdel_cons]
    by_cases hk : k = e.1
    · rw [if_pos hk, mget_cons]
      by_cases h2 : k' = k
      · rw [if_pos h2, mget_none, h2, hk]; exact h'.1
      · rw [if_neg h2, if_neg fun hh => h2 (hh.trans hk.symm)]
    · rw [if_neg hk, mget_cons, mget_cons, ih h'.2]
      by_cases h2 : k' = k
      · rw [if_pos h2, if_pos h2, if_neg fun hh => hk (h2.symm.trans hh)]
      · rw [if_neg h2, if_neg h2]
theorem mem_mdel {L : ML κ ν} (h : (mkeys L).Nodup) {k : κ} {e : κ × ν × Nat} : e ∈ mdel L k ↔ e ∈ L ∧ e.1 ≠ k := by
  rw [mdel_eq h, List.mem_filter]; simp
end

/-! ## the heap -/
section
variable {κ ν : Type} {f : κ → Value} {g : ν → Value} {H H' H1 : Hp} {r : Nat} {L : ML κ ν} {c : Nat}

theorem mapAt.lt (h : mapAt f g H (some r) L c) : r < H.size := (Array.getElem?_eq_some_iff.1 (show H[r]? = _ from h)).1
theorem mapAt.kp {S : Nat → Prop} (h : mapAt f g H (some r) L c) (k : Kp S H H') (hs : ¬ S r) : mapAt f g H' (some r) L c := (k.blk r h.lt hs).trans h
theorem mapAt.ne {b t : Nat} {l : List Value} (h : mapAt f g H (some r) L c) (k : Row H b t l) : r ≠ b := by
  intro e
  subst e
  have h : H[r]? = _ := h
  rw [show H[r]? = _ from k] at h
  cases h
theorem mapAt.new (e : H1 = Array.push H (.map #[] 0)) : mapAt f g H1 (some H.size) [] 0 := by
  subst e
  show (H.push _)[H.size]? = _
  simp [mapo]
theorem mapAt.put {L' : ML κ ν} {c' : Nat} (h : r < H.size) (e : H1 = seto H r (mapo f g L' c')) : mapAt f g H1 (some r) L' c' := by
  subst e
  show (seto H r _)[r]? = _
  simp [seto, h]
theorem Kp.seto' {S : Nat → Prop} {H0 : Hp} {o : Obj} (h : Kp S H0 H) (e : H1 = seto H r o) (hr : S r ∨ H0.size ≤ r) : Kp S H0 H1 := by
  subst e
  refine ⟨by have := h.size; simp [seto]; omega, fun k hk hs => ?_⟩
  have hne : r ≠ k := by
    intro e
    subst e
    rcases hr with hr | hr
    · exact hs hr
    · omega
  rw [← h.blk k hk hs]
  simp [seto, hne]
theorem size_seto' {o : Obj} (e : H1 = seto H r o) : H1.size = H.size := by subst e; simp [seto]
end

/-- 'append' onto a slice without room: a new row. -/
theorem RdL.grow {α : Type} {t k : Nat} {F : Fmt α t k} {H : Hp} {s : Sl} {L : List α} {bytes : Nat} {z : Array Value} {xs : Sl} {M : List α} {K : Sl → Hp → Prop} (h : RdL F H s L) (hx : RdL F H xs M) (hz : z.size = k) (hc : s.c < L.length + M.length)
    (hb : (L.length + M.length) * bytes ≤ 140737488355328) (h63 : L.length + M.length ≤ 9223372036854775807)
    (hK : ∀ r H', Lst F H' r (L ++ M) → Kp (fun _ => False) H H' → (∀ b, r.at b → b = H.size) → K r H') : AppendF H t k bytes z s xs.b xs.n K := by
  have hn := h.n
  have hm := hx.n
  refine ⟨L.flatMap F.f, M.flatMap F.f, by rw [fl_len F.len, hn], h.r, by rw [fl_len F.len, hm], hx.r, fl_one F M, by rw [hn, hm]; exact hb, by omega, fun hroom => absurd hroom (by omega), fun _ cap hc1 hc2 => ?_⟩
  refine hK _ _ ⟨.inr ⟨H.size, zs z (cap - (s.n + xs.n)), rfl, ?_, ?_, ?_, hc1, hc2⟩⟩ (Kp.push (Kp.refl _ _) _) fun b hb => ?_
  · rw [List.flatMap_append]; exact Row.newl _ _ _
  · rw [fl_len F.len, List.length_append, hn, hm]
  · rw [List.length_append, fl_len F.len, zs_length, hz, List.length_append, ← Nat.add_mul]
    show _ = cap * k
    congr 1; omega
  · injection hb with hb; injection hb with hb; exact hb.symm

theorem Row.plain {H : Hp} {b t o : Nat} {l : List Value} (h : Row H b t l) : Plain H (Option.some ⟨b, o, Option.none⟩) := fun a ha => by
  injection ha with ha
  subst ha
  exact ⟨_, _, h⟩
theorem Plain.none {H : Hp} : Plain H Option.none := fun a ha => by cases ha

end Go.Hw
