/- Lists of structures in memory; the steps of a heap as equations. Own work of this session. -/
import Derived.Test.YtbhfkpdalilhcaaDoorHwH
namespace Go.Hw
open Go

theorem wr {x : Int} (h1 : -9223372036854775808 ≤ x) (h2 : x ≤ 9223372036854775807) : IntKind.i64.wrap x = x := by
  have e : IntKind.i64.wrap x = if x % 18446744073709551616 ≥ 9223372036854775808 then x % 18446744073709551616 - 18446744073709551616 else x % 18446744073709551616 := by
    simp [IntKind.wrap, IntKind.bits, IntKind.signed]
  rw [e]
  split <;> omega

/-! ## the heap's steps as equations -/
section
variable {H H1 : Hp} {b t : Nat} {l : List Value} {o : Obj} {a : Addr} {v : Value} {vs : List Value} {i : Nat} {S : Nat → Prop} {H0 : Hp}
theorem Row.push' (h : Row H b t l) (e : H1 = Array.push H o) : Row H1 b t l := e ▸ h.push o
theorem Kp.push' (h : Kp S H0 H) (e : H1 = Array.push H o) : Kp S H0 H1 := e ▸ h.push o
theorem Row.new' {c : Array Value} (e : H1 = Array.push H (.cells c t)) : Row H1 H.size t c.toList := e ▸ Row.new H c t
theorem Row.set' (h : Row H b t l) (e : H1 = Hw.setc H ⟨b, i, none⟩ v) : Row H1 b t (l.set i v) := e ▸ h.set i v
theorem Row.set_ne' (h : Row H b t l) (e : H1 = Hw.setc H a v) (hne : b ≠ a.block) : Row H1 b t l := e ▸ h.set_ne hne v
theorem Kp.set' (h : Kp S H0 H) (e : H1 = Hw.setc H a v) (ha : S a.block ∨ H0.size ≤ a.block) : Kp S H0 H1 := e ▸ h.setc ha v
theorem Row.sets' (h : Row H b t l) {oo : Nat} (e : H1 = Hw.sets H ⟨b, oo, none⟩ vs 0) (hl : oo + vs.length ≤ l.length) : Row H1 b t (over l oo vs) := e ▸ h.sets (i := 0) hl
theorem Row.sets_ne' (h : Row H b t l) (e : H1 = Hw.sets H a vs i) (hne : b ≠ a.block) : Row H1 b t l := e ▸ h.sets_ne hne vs i
theorem Kp.sets' (h : Kp S H0 H) (e : H1 = Hw.sets H a vs i) (ha : S a.block ∨ H0.size ≤ a.block) : Kp S H0 H1 := e ▸ h.sets ha vs i
theorem size_push' (e : H1 = Array.push H o) : H1.size = H.size + 1 := e ▸ size_push H o
theorem size_set' (e : H1 = Hw.setc H a v) : H1.size = H.size := e ▸ size_setc H a v
theorem size_sets' (e : H1 = Hw.sets H a vs i) : H1.size = H.size := e ▸ size_sets H a vs i
theorem over_all (h : vs.length = l.length) : over l 0 vs = vs := by simp [over, h]
theorem Row.fill' (h : Row H b t l) (e : H1 = Hw.sets H ⟨b, 0, none⟩ vs 0) (hl : vs.length = l.length) : Row H1 b t vs := by
  have := h.sets' e (by omega)
  rwa [over_all hl] at this
theorem Row.all (h : Row H b t l) : Hw.cells H ⟨b, 0, none⟩ l 0 := h.cells (by simp)
theorem Row.mayall (h : Row H b t l) : Hw.mayw H ⟨b, 0, none⟩ l.length 0 := h.mayw (by omega)
end

/-! ## lists of structures -/
theorem fl_len {α : Type} {f : α → List Value} {k : Nat} (hf : ∀ x, (f x).length = k) (L : List α) : (L.flatMap f).length = L.length * k := by
  induction L with
  | nil => simp
  | cons x L ih => simp only [List.flatMap_cons, List.length_append, hf, ih, List.length_cons, Nat.succ_mul]; omega

theorem fl_drop {α : Type} {f : α → List Value} {k : Nat} (hf : ∀ x, (f x).length = k) : ∀ (L : List α) (i : Nat), (L.flatMap f).drop (i * k) = (L.drop i).flatMap f
  | [], i => by simp
  | x :: L, 0 => by simp
  | x :: L, i + 1 => by
    rw [List.flatMap_cons, Nat.succ_mul, Nat.add_comm, List.drop_append, hf, List.drop_eq_nil_of_le (by rw [hf]; omega), show k + i * k - k = i * k from by omega, fl_drop hf L i]
    rfl
theorem fl_take {α : Type} {f : α → List Value} {k : Nat} (hf : ∀ x, (f x).length = k) : ∀ (L : List α) (i : Nat), (L.flatMap f).take (i * k) = (L.take i).flatMap f
  | [], i => by simp
  | x :: L, 0 => by simp
  | x :: L, i + 1 => by
    rw [List.flatMap_cons, Nat.succ_mul, Nat.add_comm, List.take_append, hf, List.take_of_length_le (by rw [hf]; omega), show k + i * k - k = i * k from by omega, fl_take hf L i]
    rfl

theorem set_eq_over {α : Type} (L : List α) (i : Nat) (x : α) (h : i < L.length) : L.set i x = L.take i ++ [x] ++ L.drop (i + 1) := by
  rw [List.set_eq_take_append_cons_drop, if_pos h]; simp

theorem fl_set {α : Type} {f : α → List Value} {k : Nat} (hf : ∀ x, (f x).length = k) (L : List α) (sp : List Value) (i : Nat) (x : α) (h : i < L.length) : over (L.flatMap f ++ sp) (i * k) (f x) = (L.set i x).flatMap f ++ sp := by
  have hl := fl_len hf L
  have hm : i * k + k ≤ L.length * k := by rw [← Nat.succ_mul]; exact Nat.mul_le_mul_right _ h
  unfold over
  rw [List.take_append_of_le_length (by omega), List.drop_append_of_le_length (by rw [hf]; omega), fl_take hf, hf, ← Nat.succ_mul, fl_drop hf, set_eq_over _ _ _ h]
  simp

/-- How a structure lies in memory: its type's number, its cells. -/
structure Fmt (α : Type) (t k : Nat) where
  f : α → List Value
  len : ∀ x, (f x).length = k
  one : ∀ x, ∀ v ∈ f x, one v = true
  pos : 0 < k

theorem fl_one {α : Type} {t k : Nat} (F : Fmt α t k) (L : List α) : ∀ v ∈ L.flatMap F.f, Hw.one v = true := by
  intro v hv
  obtain ⟨x, _, hx⟩ := List.mem_flatMap.1 hv
  exact F.one x v hx

/-- 's' shows these structures (reading alone). -/
structure RdL {α : Type} {t k : Nat} (F : Fmt α t k) (H : Hp) (s : Sl) (L : List α) : Prop where
  n : s.n = L.length
  r : rds H s.b (L.flatMap F.f)

/-- 's' has a row of its own with these structures. -/
structure Lst {α : Type} {t k : Nat} (F : Fmt α t k) (H : Hp) (s : Sl) (L : List α) : Prop where
  own : Own H t k s (L.flatMap F.f)

theorem add_add (a : Addr) (i j : Nat) : (a.add i).add j = a.add (i + j) := by
  obtain ⟨b, o, x⟩ := a
  cases x with
  | none => simp only [add_mk, Nat.add_assoc]
  | some x =>
    unfold Addr.add
    by_cases hi : i = 0 <;> by_cases hj : j = 0 <;> simp [hi, hj, Nat.add_assoc]

theorem cells_add {H : Hp} {a : Addr} : ∀ {l : List Value} {i j : Nat}, cells H (a.add i) l j ↔ cells H a l (i + j)
  | [], _, _ => Iff.rfl
  | v :: l, i, j => by
    show (cell H ((a.add i).add j) = some v ∧ cells H (a.add i) l (j + 1)) ↔ (cell H (a.add (i + j)) = some v ∧ cells H a l (i + j + 1))
    rw [add_add, cells_add, Nat.add_assoc]

theorem cells_sub {H : Hp} {a : Addr} {l m : List Value} {i : Nat} (h : cells H a l 0) (e : (l.drop i).take m.length = m) : cells H (a.add i) m 0 := by
  rw [cells_iff] at h ⊢
  intro j v hj
  rw [Nat.zero_add, add_add]
  have : l[i + j]? = some v := by
    have := congrArg (fun x : List Value => x[j]?) e
    have hjl : j < m.length := (List.getElem?_eq_some_iff.1 hj).1
    simp only [List.getElem?_take, List.getElem?_drop, if_pos hjl, hj] at this
    exact this
  have := h (i + j) v this
  rwa [Nat.zero_add] at this

section
variable {α : Type} {t k : Nat} {F : Fmt α t k} {H H' : Hp} {s : Sl} {L : List α}
theorem Lst.n (h : Lst F H s L) : s.n = L.length := by
  have := h.own.len
  rw [fl_len F.len] at this
  exact (Nat.eq_of_mul_eq_mul_right F.pos this).symm
theorem Lst.rd (h : Lst F H s L) : RdL F H s L := ⟨h.n, h.own.rds⟩
theorem Lst.nil (F : Fmt α t k) (H : Hp) : Lst F H Sl.nil [] := ⟨Own.nil _ _ _⟩
theorem RdL.nil (F : Fmt α t k) (H : Hp) : RdL F H Sl.nil [] := ⟨rfl, rfl⟩
theorem Lst.kp {S : Nat → Prop} (h : Lst F H s L) (hk : Kp S H H') (hs : ∀ b, s.at b → ¬ S b) : Lst F H' s L := ⟨h.own.kp hk hs⟩

theorem fl_get (F : Fmt α t k) {i : Nat} {x : α} (hx : L[i]? = some x) : ((L.flatMap F.f).drop (i * k)).take (F.f x).length = F.f x := by
  rw [fl_drop F.len]
  obtain ⟨hi, rfl⟩ := List.getElem?_eq_some_iff.1 hx
  rw [List.drop_eq_getElem_cons hi, List.flatMap_cons, List.take_left]

/-- Reading place 'i'. -/
theorem RdL.get (h : RdL F H s L) {i : Nat} {x : α} (hx : L[i]? = some x) : ∃ a, s.b = some a ∧ i < s.n ∧ cells H (a.add (i * k)) (F.f x) 0 := by
  have hi : i < L.length := (List.getElem?_eq_some_iff.1 hx).1
  have hn := h.n
  have hr := h.r
  cases hb : s.b with
  | none =>
    rw [hb] at hr
    have : (L.flatMap F.f).length = 0 := by rw [show L.flatMap F.f = [] from hr]; rfl
    rw [fl_len F.len] at this
    have := Nat.mul_pos (Nat.lt_of_le_of_lt (Nat.zero_le _) hi) F.pos
    omega
  | some a =>
    rw [hb] at hr
    exact ⟨a, rfl, by omega, cells_sub hr (fl_get F hx)⟩

theorem cells_block {H : Hp} {a : Addr} {l : List Value} (h : cells H a l 0) (hl : l ≠ []) : a.block < H.size := by
  cases l with
  | nil => exact absurd rfl hl
  | cons v l =>
    have h0 := h.1
    rw [show a.add 0 = a from by unfold Addr.add; simp] at h0
    unfold cell at h0
    by_cases hb : a.block < H.size
    · exact hb
    · rw [Array.getElem?_eq_none (by omega)] at h0
      simp at h0

theorem rds_kp {S : Nat → Prop} {b : Option Addr} {l : List Value} (h : rds H b l) (hk : Kp S H H') (hs : ∀ a, b = some a → ¬ S a.block) : rds H' b l := by
  cases b with
  | none => exact h
  | some a =>
    by_cases hl : l = []
    · subst hl; trivial
    · exact hk.cells (cells_block h hl) (hs a rfl) h

theorem RdL.kp {S : Nat → Prop} (h : RdL F H s L) (hk : Kp S H H') (hs : ∀ a, s.b = some a → ¬ S a.block) : RdL F H' s L := ⟨h.n, rds_kp h.r hk hs⟩
theorem RdL.kp0 (h : RdL F H s L) (hk : Kp (fun _ => False) H H') : RdL F H' s L := h.kp hk fun _ _ => id

theorem Own.at_row {H : Hp} {t k : Nat} {s : Sl} {l : List Value} (h : Own H t k s l) {b : Nat} (hb : s.at b) : ∃ sp, Row H b t (l ++ sp) ∧ l.length = s.n * k ∧ (l ++ sp).length = s.c * k := by
  rcases h with ⟨rfl, _⟩ | ⟨c, sp, h1, h2, h3, h4, _⟩
  · cases hb
  · have : c = b := by
      have := h1.symm.trans hb
      simpa using this
    subst this
    exact ⟨sp, h2, h3, h4⟩
theorem Lst.row (h : Lst F H s L) {b : Nat} (hb : s.at b) : ∃ sp, Row H b t (L.flatMap F.f ++ sp) := (h.own.at_row hb).imp fun _ => And.left
theorem Lst.lt (h : Lst F H s L) {b : Nat} (hb : s.at b) : b < H.size := (h.row hb).elim fun _ r => r.lt
theorem Lst.ne {c u : Nat} {m : List Value} (h : Lst F H s L) (r : Row H c u m) (hne : t ≠ u) : ¬ s.at c := fun hb => (h.row hb).elim fun _ r' => r'.ne_type r hne rfl
theorem Lst.some (h : Lst F H s L) (hl : 0 < L.length) : ∃ b, s.at b := by
  rcases h.own with ⟨_, h0⟩ | ⟨b, sp, h1, _⟩
  · have := fl_len F.len L
    rw [h0] at this
    have := Nat.mul_pos hl F.pos
    simp at *; omega
  · exact ⟨b, h1⟩

/-- Writing place 'i'. -/
theorem Lst.set (h : Lst F H s L) {i : Nat} (hi : i < L.length) (x : α) : ∃ a : Addr, s.b = Option.some a ∧ s.at a.block ∧ i < s.n ∧ mayw H (a.add (i * k)) k 0 ∧ ∀ H', H' = Hw.sets H (a.add (i * k)) (F.f x) 0 → Lst F H' s (L.set i x) ∧ Kp s.at H H' := by
  have hn := h.n
  obtain ⟨b, hb⟩ := h.some (by omega)
  obtain ⟨sp, hrow, h3, h4⟩ := h.own.at_row hb
  have hl := fl_len F.len L
  have hm : i * k + k ≤ L.length * k := by rw [← Nat.succ_mul]; exact Nat.mul_le_mul_right _ hi
  refine ⟨⟨b, 0, none⟩, hb, hb, by omega, ?_, fun H' e => ⟨⟨.inr ⟨b, sp, hb, ?_, ?_, ?_⟩⟩, ?_⟩⟩
  · rw [add_mk, Nat.zero_add]
    exact hrow.mayw (by rw [List.length_append, hl]; omega)
  · rw [add_mk, Nat.zero_add] at e
    have := hrow.sets' e (by rw [F.len, List.length_append]; omega)
    rwa [fl_set F.len L sp i x hi] at this
  · rw [fl_len F.len, List.length_set, ← hl]; exact h3
  · rcases h.own with ⟨h0, _⟩ | ⟨c, sp', g1, g2, g3, g4, g5, g6⟩
    · rw [h0] at hb; cases hb
    · refine ⟨?_, g5, g6⟩
      rw [List.length_append] at h4 ⊢
      rw [fl_len F.len, List.length_set, ← hl]; exact h4
  · refine (Kp.refl _ H).sets' e (.inl ?_)
    rw [add_mk]; exact hb

theorem set_over {l m : List Value} {o c : Nat} {v : Value} (hm : (l.drop o).take m.length = m) (hc : c < m.length) (hl : o + m.length ≤ l.length) : l.set (o + c) v = over l o (m.set c v) := by
  apply List.ext_getElem?
  intro j
  have e : min o l.length = o := by omega
  have hmj : ∀ q, q < m.length → m[q]? = l[o + q]? := fun q hq => by
    have := congrArg (fun x : List Value => x[q]?) hm
    simp only [List.getElem?_take, List.getElem?_drop, if_pos hq] at this
    exact this.symm
  simp only [over, List.getElem?_set, List.getElem?_append, List.length_append, List.length_take, List.length_set, List.getElem?_take, List.getElem?_drop, e]
  by_cases h1 : j < o
  · simp [h1, show j < o + m.length from by omega, show ¬ (o + c = j) from by omega]
  · by_cases h2 : j < o + m.length
    · by_cases h3 : o + c = j
      · subst h3
        simp [show o + c < l.length from by omega, hc]
        omega
      · have := hmj (j - o) (by omega)
        rw [show o + (j - o) = j from by omega] at this
        simp [h1, h2, h3, show ¬ (c = j - o) from by omega, this]
    · have : o + m.length + (j - (o + m.length)) = j := by omega
      simp [h2, show ¬ (o + c = j) from by omega, this]

/-- Writing one part of place 'i'. -/
theorem Lst.set1 (h : Lst F H s L) {i c : Nat} {x x' : α} {v : Value} (hx : L[i]? = Option.some x) (hc : c < k) (hf : F.f x' = (F.f x).set c v) : ∃ a : Addr, s.b = Option.some a ∧ s.at a.block ∧ i < s.n ∧ (cell H ((a.add (i * k)).add c)).isSome = true ∧ frz H ((a.add (i * k)).add c) = false ∧
    ∀ H', H' = setc H ((a.add (i * k)).add c) v → Lst F H' s (L.set i x') ∧ Kp s.at H H' := by
  have hn := h.n
  have hi : i < L.length := (List.getElem?_eq_some_iff.1 hx).1
  obtain ⟨b, hb⟩ := h.some (by omega)
  obtain ⟨sp, hrow, h3, h4⟩ := h.own.at_row hb
  have hl := fl_len F.len L
  have hm : i * k + k ≤ L.length * k := by rw [← Nat.succ_mul]; exact Nat.mul_le_mul_right _ hi
  have hin : i * k + c < (L.flatMap F.f ++ sp).length := by rw [List.length_append]; omega
  have ea : ((⟨b, 0, none⟩ : Addr).add (i * k)).add c = ⟨b, i * k + c, none⟩ := by rw [add_mk, add_mk, Nat.zero_add]
  refine ⟨⟨b, 0, none⟩, hb, hb, by omega, by rw [ea]; exact hrow.some hin, by rw [ea]; exact hrow.frz _, fun H' e => ?_⟩
  rw [ea] at e
  have hr := hrow.set' e
  have hg : ((L.flatMap F.f ++ sp).drop (i * k)).take (F.f x).length = F.f x := by
    rw [List.drop_append_of_le_length (by omega), List.take_append_of_le_length (by rw [List.length_drop, F.len]; omega)]
    exact fl_get F hx
  rw [set_over hg (by rw [F.len]; exact hc) (by rw [F.len, List.length_append]; omega), ← hf, fl_set F.len L sp i x' hi] at hr
  refine ⟨⟨.inr ⟨b, sp, hb, hr, ?_, ?_⟩⟩, (Kp.refl _ H).set' e (.inl hb)⟩
  · rw [fl_len F.len, List.length_set, ← hl]; exact h3
  · rcases h.own with ⟨h0, _⟩ | ⟨c', sp', g1, g2, g3, g4, g5, g6⟩
    · rw [h0] at hb; cases hb
    · refine ⟨?_, g5, g6⟩
      rw [List.length_append] at h4 ⊢
      rw [fl_len F.len, List.length_set, ← hl]; exact h4

/-- 'append' of a list of structures; what was there is still told by the slice that was; where there is room, the row is the same. -/
theorem Lst.appendx {bytes : Nat} {z : Array Value} {xs : Sl} {M : List α} {K : Sl → Hp → Prop} (h : Lst F H s L) (hx : RdL F H xs M) (hz : z.size = k)
    (hb : (L.length + M.length) * bytes ≤ 140737488355328) (h63 : L.length + M.length ≤ 9223372036854775807)
    (hK : ∀ r H', Lst F H' r (L ++ M) → Kp s.at H H' → (∀ b, r.at b → s.at b ∨ b = H.size) → RdL F H' s L → (L.length + M.length ≤ s.c → r.b = s.b ∧ r.c = s.c) → K r H') : AppendF H t k bytes z s xs.b xs.n K := by
  have hn := h.n
  have hm := hx.n
  refine append_own h.own (by rw [fl_len F.len, hm]) hx.r (fl_one F M) hz (by rw [hn, hm]; exact hb) (by omega) fun r H' h1 _ h3 h4 h5 h6 => ?_
  refine hK r H' ⟨?_⟩ h3 h4 ⟨hn, h5⟩ (by rw [← hn, ← hm]; exact h6)
  rw [List.flatMap_append]; exact h1

/-- 'append' of a list of structures. -/
theorem Lst.append {bytes : Nat} {z : Array Value} {xs : Sl} {M : List α} {K : Sl → Hp → Prop} (h : Lst F H s L) (hx : RdL F H xs M) (hz : z.size = k)
    (hb : (L.length + M.length) * bytes ≤ 140737488355328) (h63 : L.length + M.length ≤ 9223372036854775807)
    (hK : ∀ r H', Lst F H' r (L ++ M) → Kp s.at H H' → (∀ b, r.at b → s.at b ∨ b = H.size) → K r H') : AppendF H t k bytes z s xs.b xs.n K := by
  exact h.appendx hx hz hb h63 fun r H' h1 h2 h3 _ _ => hK r H' h1 h2 h3

/-- A row of just these structures as a slice's. -/
theorem Row.rdl {b : Nat} {L : List α} {n : Nat} (h : Row H b t (L.flatMap F.f)) (hn : n = L.length) (c : Nat) : RdL F H (Sl.mk (Option.some ⟨b, 0, none⟩) n c) L := ⟨hn, h.all⟩
theorem Row.rdl1 {b : Nat} {x : α} (h : Row H b t (F.f x)) : RdL F H (Sl.mk (Option.some ⟨b, 0, none⟩) 1 1) [x] := by
  refine Row.rdl (L := [x]) ?_ rfl _
  simpa using h

/-- 'append' of one structure out of a box. -/
theorem Lst.append1 {bytes : Nat} {z : Array Value} {b : Nat} {x : α} {K : Sl → Hp → Prop} (h : Lst F H s L) (hx : Row H b t (F.f x)) (hz : z.size = k)
    (hb : (L.length + 1) * bytes ≤ 140737488355328) (h63 : L.length + 1 ≤ 9223372036854775807)
    (hK : ∀ r H', Lst F H' r (L ++ [x]) → Kp s.at H H' → (∀ b, r.at b → s.at b ∨ b = H.size) → K r H') :
    AppendF H t k bytes z s (Sl.mk (Option.some ⟨b, 0, none⟩) 1 1).b (Sl.mk (Option.some ⟨b, 0, none⟩) 1 1).n K :=
  h.append (Row.rdl1 hx) hz hb h63 hK

theorem Lst.append1x {bytes : Nat} {z : Array Value} {b : Nat} {x : α} {K : Sl → Hp → Prop} (h : Lst F H s L) (hx : Row H b t (F.f x)) (hz : z.size = k)
    (hb : (L.length + 1) * bytes ≤ 140737488355328) (h63 : L.length + 1 ≤ 9223372036854775807)
    (hK : ∀ r H', Lst F H' r (L ++ [x]) → Kp s.at H H' → (∀ b, r.at b → s.at b ∨ b = H.size) → RdL F H' s L → (L.length + 1 ≤ s.c → r.b = s.b ∧ r.c = s.c) → K r H') :
    AppendF H t k bytes z s (Sl.mk (Option.some ⟨b, 0, none⟩) 1 1).b (Sl.mk (Option.some ⟨b, 0, none⟩) 1 1).n K :=
  h.appendx (Row.rdl1 hx) hz hb h63 hK

/-- A new row of no structures, with room. -/
theorem Lst.empty {b : Nat} {sp : List Value} {c : Nat} (h : Row H b t sp) (hl : sp.length = c * k) (hc : c ≤ 9223372036854775807) : Lst F H (Sl.mk (Option.some ⟨b, 0, none⟩) 0 c) [] :=
  ⟨.inr ⟨b, sp, rfl, h, by simp, by simpa using hl, Nat.zero_le _, hc⟩⟩
end
end Go.Hw
