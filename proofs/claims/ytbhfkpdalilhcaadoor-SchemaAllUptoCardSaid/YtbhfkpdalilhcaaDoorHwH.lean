/- Heaps by rows: reading, writing, appending, what is kept. Own work of this session. -/
import Derived.Test.YtbhfkpdalilhcaaDoorHwG
namespace Go.Hw
open Go

/-- Block 'b' is this row of variables, all of which may be written. -/
def Row (H : Hp) (b : Nat) (t : TypeId) (l : List Value) : Prop := H[b]? = some (.cells l.toArray t (0, 0))

theorem add_mk (b o k : Nat) : (⟨b, o, none⟩ : Addr).add k = ⟨b, o + k, none⟩ := by
  unfold Addr.add; split
  · rename_i h; subst h; rfl
  · rfl

namespace Row
variable {H : Hp} {b t : Nat} {l : List Value}
theorem lt (h : Row H b t l) : b < H.size := (Array.getElem?_eq_some_iff.1 h).1
theorem cell (h : Row H b t l) (i : Nat) : cell H ⟨b, i, none⟩ = l[i]? := by
  unfold Row at h; simp [Hw.cell, h]
theorem cell_of (h : Row H b t l) {i : Nat} {v : Value} (hv : l[i]? = some v) : Hw.cell H ⟨b, i, none⟩ = some v := (h.cell i).trans hv
theorem frz (h : Row H b t l) (i : Nat) : frz H ⟨b, i, none⟩ = false := by
  unfold Row at h; simp [Hw.frz, h]
theorem some (h : Row H b t l) {i : Nat} (hi : i < l.length) : (Hw.cell H ⟨b, i, none⟩).isSome = true := by
  rw [h.cell, List.getElem?_eq_getElem hi]; rfl
theorem set (h : Row H b t l) (i : Nat) (v : Value) : Row (setc H ⟨b, i, none⟩ v) b t (l.set i v) := by
  unfold Row at *
  simp [setc, Array.getElem?_modify, h]
theorem set_ne (h : Row H b t l) {a : Addr} (hne : b ≠ a.block) (v : Value) : Row (setc H a v) b t l := by
  unfold Row at *
  simp only [setc, Array.getElem?_modify]
  rw [if_neg (fun e => hne e.symm)]; exact h
theorem push (h : Row H b t l) (o : Obj) : Row (H.push o) b t l := by
  have := h.lt
  unfold Row at *
  rw [Array.getElem?_push, if_neg (by omega)]; exact h
theorem ne_type (h : Row H b t l) {c u : Nat} {m : List Value} (k : Row H c u m) (hne : t ≠ u) : b ≠ c := by
  rintro rfl
  unfold Row at *
  rw [h] at k
  injection k with k
  injection k with _ k
  exact hne k
theorem inj (h : Row H b t l) {u : Nat} {m : List Value} (k : Row H b u m) : l = m ∧ t = u := by
  unfold Row at *
  rw [h] at k
  injection k with k
  injection k with k1 k2
  exact ⟨by simpa using k1, k2⟩
end Row
theorem Row.new (H : Hp) (c : Array Value) (t : TypeId) : Row (H.push (.cells c t)) H.size t c.toList := by
  simp [Row]
theorem Row.newl (H : Hp) (c : List Value) (t : TypeId) : Row (H.push (.cells c.toArray t)) H.size t c := by
  simp [Row]

/-! ## what is kept -/
/-- All blocks of 'H0' but those of 'S' are as they were. -/
structure Kp (S : Nat → Prop) (H0 H : Hp) : Prop where
  size : H0.size ≤ H.size
  blk : ∀ k, k < H0.size → ¬ S k → H[k]? = H0[k]?

namespace Kp
variable {S T : Nat → Prop} {H0 H H' : Hp}
theorem refl (S : Nat → Prop) (H : Hp) : Kp S H H := ⟨Nat.le_refl _, fun _ _ _ => rfl⟩
theorem push (h : Kp S H0 H) (o : Obj) : Kp S H0 (H.push o) := ⟨by have := h.size; simp; omega, fun k hk hs => by
  have := h.size
  rw [Array.getElem?_push, if_neg (by omega)]; exact h.blk k hk hs⟩
theorem setc (h : Kp S H0 H) {a : Addr} (ha : S a.block ∨ H0.size ≤ a.block) (v : Value) : Kp S H0 (setc H a v) := ⟨by have := h.size; simp [Hw.setc]; omega, fun k hk hs => by
  simp only [Hw.setc, Array.getElem?_modify]
  rw [if_neg]
  · exact h.blk k hk hs
  · rintro rfl
    rcases ha with ha | ha
    · exact hs ha
    · omega⟩
theorem sets (h : Kp S H0 H) {a : Addr} (ha : S a.block ∨ H0.size ≤ a.block) : ∀ (l : List Value) (i : Nat), Kp S H0 (sets H a l i) := by
  intro l
  induction l generalizing H with
  | nil => intro i; exact h
  | cons v l ih =>
    intro i
    have hb : (a.add i).block = a.block := by unfold Addr.add; split <;> rfl
    exact ih (h.setc (by rw [hb]; exact ha) v) (i + 1)
theorem trans (h : Kp S H0 H) (k : Kp T H H') (hT : ∀ b, T b → S b ∨ H0.size ≤ b) : Kp S H0 H' := ⟨Nat.le_trans h.size k.size, fun b hb hs => by
  rw [k.blk b (Nat.lt_of_lt_of_le hb h.size) (fun hT' => by rcases hT b hT' with h1 | h1; exact hs h1; omega)]
  exact h.blk b hb hs⟩
theorem mono (h : Kp S H0 H) (hT : ∀ b, b < H0.size → S b → T b) : Kp T H0 H := ⟨h.size, fun b hb hs => h.blk b hb fun h' => hs (hT b hb h')⟩
theorem row (h : Kp S H0 H) {b t : Nat} {l : List Value} (r : Row H0 b t l) (hs : ¬ S b) : Row H b t l := (h.blk b r.lt hs).trans r
theorem cell (h : Kp S H0 H) {a : Addr} (ha : a.block < H0.size) (hs : ¬ S a.block) : Hw.cell H a = Hw.cell H0 a := by
  unfold Hw.cell; rw [h.blk a.block ha hs]
theorem cells (h : Kp S H0 H) {a : Addr} (ha : a.block < H0.size) (hs : ¬ S a.block) : ∀ {l : List Value} {i : Nat}, cells H0 a l i → cells H a l i := by
  intro l
  induction l with
  | nil => intro i _; trivial
  | cons v l ih =>
    intro i ⟨h1, h2⟩
    have hb : (a.add i).block = a.block := by unfold Addr.add; split <;> rfl
    exact ⟨by rw [h.cell (by rw [hb]; exact ha) (by rw [hb]; exact hs)]; exact h1, ih h2⟩
end Kp

theorem size_push (H : Hp) (o : Obj) : (H.push o).size = H.size + 1 := by simp
theorem size_setc (H : Hp) (a : Addr) (v : Value) : (setc H a v).size = H.size := by simp [setc]
theorem size_sets (H : Hp) (a : Addr) (l : List Value) (i : Nat) : (sets H a l i).size = H.size := by
  induction l generalizing H i with
  | nil => rfl
  | cons v l ih => simp only [sets, ih, size_setc]

/-! ## rows, several cells at once -/
/-- 'l' with 'vs' laid over it from place 'i' on. -/
def over (l : List Value) (i : Nat) (vs : List Value) : List Value := l.take i ++ vs ++ l.drop (i + vs.length)

theorem over_nil (l : List Value) (i : Nat) : over l i [] = l := by simp [over]
theorem over_cons (l : List Value) (i : Nat) (v : Value) (vs : List Value) (h : i + (vs.length + 1) ≤ l.length) : over l i (v :: vs) = over (l.set i v) (i + 1) vs := by
  apply List.ext_getElem?
  intro j
  simp only [over, List.getElem?_append, List.length_append, List.length_take, List.length_cons, List.length_set, List.getElem?_take, List.getElem?_drop, List.getElem?_set, List.getElem?_cons]
  by_cases h1 : j < i
  · simp [show j < min i l.length from by omega, show j < min (i + 1) l.length from by omega, show j < i + 1 from by omega, h1, show ¬ (i = j) from by omega, show j < min i l.length + (vs.length + 1) from by omega, show j < min (i + 1) l.length + vs.length from by omega]
  · by_cases h2 : j = i
    · subst h2
      simp [show min j l.length = j from by omega, show min (j + 1) l.length = j + 1 from by omega, show j < l.length from by omega, show j < j + 1 + vs.length from by omega]
    · simp only [show min i l.length = i from by omega, show min (i + 1) l.length = i + 1 from by omega, h1, if_false, show ¬ j < i + 1 from by omega, show ¬ (j - i = 0) from by omega, show ¬ (i = i + 1 + vs.length + (j - (i + 1 + vs.length))) from by omega]
      rw [show j - (i + 1) = j - i - 1 from by omega, show i + 1 + vs.length = i + (vs.length + 1) from by omega]

theorem length_over (l : List Value) (i : Nat) (vs : List Value) (h : i + vs.length ≤ l.length) : (over l i vs).length = l.length := by
  simp [over]; omega

theorem Row.sets {H : Hp} {b t : Nat} : ∀ {vs l : List Value} {i : Nat} {o : Nat}, Row H b t l → o + i + vs.length ≤ l.length → Row (sets H ⟨b, o, none⟩ vs i) b t (over l (o + i) vs)
  | [], l, i, o, h, _ => by rw [over_nil]; exact h
  | v :: vs, l, i, o, h, hl => by
    have h1 := h.set (o + i) v
    rw [over_cons l (o + i) v vs (by simpa [Nat.add_assoc] using hl)]
    show Row (Hw.sets (setc H ((⟨b, o, none⟩ : Addr).add i) v) ⟨b, o, none⟩ vs (i + 1)) b t _
    rw [add_mk]
    have := Row.sets (vs := vs) (i := i + 1) (o := o) h1 (by simp at *; omega)
    rwa [← Nat.add_assoc] at this

theorem Row.sets_ne {H : Hp} {b t : Nat} {l : List Value} (h : Row H b t l) {a : Addr} (hne : b ≠ a.block) : ∀ (vs : List Value) (i : Nat), Row (Hw.sets H a vs i) b t l := by
  intro vs
  induction vs generalizing H with
  | nil => intro i; exact h
  | cons v vs ih =>
    intro i
    have hb : (a.add i).block = a.block := by unfold Addr.add; split <;> rfl
    exact ih (h.set_ne (by rw [hb]; exact hne) v) (i + 1)

theorem Row.mayw {H : Hp} {b t : Nat} {l : List Value} (h : Row H b t l) {o : Nat} : ∀ {m i : Nat}, o + i + m ≤ l.length → mayw H ⟨b, o, none⟩ m i
  | 0, _, _ => trivial
  | m + 1, i, hl => ⟨by rw [add_mk]; exact ⟨h.some (by omega), h.frz _⟩, Row.mayw h (by omega)⟩

theorem Row.cells {H : Hp} {b t : Nat} {l : List Value} (h : Row H b t l) {o : Nat} : ∀ {vs : List Value} {i : Nat}, (l.drop (o + i)).take vs.length = vs → cells H ⟨b, o, none⟩ vs i
  | [], _, _ => trivial
  | v :: vs, i, e => by
    have h0 : l[o + i]? = Option.some v := by
      have := congrArg (fun x : List Value => x[0]?) e
      simpa [List.getElem?_take, List.getElem?_drop] using this
    refine ⟨by rw [add_mk]; exact h.cell_of h0, Row.cells h ?_⟩
    apply List.ext_getElem?
    intro j
    have := congrArg (fun x : List Value => x[j + 1]?) e
    simp only [List.getElem?_take, List.getElem?_drop, List.length_cons, List.getElem?_cons_succ] at this
    simp only [List.getElem?_take, List.getElem?_drop]
    rw [show o + i + (j + 1) = o + (i + 1) + j from by omega] at this
    by_cases hj : j < vs.length
    · rw [if_pos (by omega)] at this; rw [if_pos hj]; exact this
    · rw [if_neg hj, List.getElem?_eq_none (by omega)]

/-! ## slices that own their row -/
def Own (H : Hp) (t k : Nat) (s : Sl) (l : List Value) : Prop :=
  (s = Sl.nil ∧ l = []) ∨ ∃ b sp, s.b = some ⟨b, 0, none⟩ ∧ Row H b t (l ++ sp) ∧ l.length = s.n * k ∧ (l ++ sp).length = s.c * k ∧ s.n ≤ s.c ∧ s.c ≤ 9223372036854775807

theorem Own.nil (H : Hp) (t k : Nat) : Own H t k Sl.nil [] := .inl ⟨rfl, rfl⟩
theorem Own.len {H : Hp} {t k : Nat} {s : Sl} {l : List Value} (h : Own H t k s l) : l.length = s.n * k := by
  rcases h with ⟨rfl, rfl⟩ | ⟨b, sp, _, _, h, _⟩
  · simp [Sl.nil]
  · exact h
theorem Own.kp {S : Nat → Prop} {H H' : Hp} {t k : Nat} {s : Sl} {l : List Value} (h : Own H t k s l) (hk : Kp S H H') (hs : ∀ b, s.b = some ⟨b, 0, none⟩ → ¬ S b) : Own H' t k s l := by
  rcases h with h | ⟨b, sp, h1, h2, h3⟩
  · exact .inl h
  · exact .inr ⟨b, sp, h1, hk.row h2 (hs b h1), h3⟩
theorem Own.rds {H : Hp} {t k : Nat} {s : Sl} {l : List Value} (h : Own H t k s l) : rds H s.b l := by
  rcases h with ⟨rfl, rfl⟩ | ⟨b, sp, h1, h2, h3, _⟩
  · rfl
  · rw [h1]
    exact h2.cells (by simp)
theorem Own.row {H : Hp} {t k : Nat} {s : Sl} {l : List Value} (h : Own H t k s l) {b : Nat} (hb : s.b = some ⟨b, 0, none⟩) : ∃ sp, Row H b t (l ++ sp) := by
  rcases h with ⟨rfl, _⟩ | ⟨c, sp, h1, h2, _⟩
  · cases hb
  · rw [h1] at hb
    obtain rfl : c = b := by simpa using hb
    exact ⟨sp, h2⟩

/-- Of a slice: which block it lies in. -/
def Sl.at (s : Sl) (b : Nat) : Prop := s.b = some ⟨b, 0, none⟩

theorem zs_length (z : Array Value) (m : Nat) : (zs z m).length = m * z.size := by simp [zs, Builtin.zeroCells]

theorem sets_at (H : Hp) (b o i : Nat) (vs : List Value) : sets H ⟨b, o + i, none⟩ vs 0 = sets H ⟨b, o, none⟩ vs i := by
  suffices h : ∀ (vs : List Value) (H : Hp) (j : Nat), sets H ⟨b, o + i, none⟩ vs j = sets H ⟨b, o, none⟩ vs (i + j) from h vs H 0
  intro vs
  induction vs with
  | nil => intro H j; rfl
  | cons v vs ih =>
    intro H j
    simp only [sets, add_mk, ih, Nat.add_assoc]

/-- 'append' onto a slice that owns its row. -/
theorem append_own {H : Hp} {t k bytes : Nat} {z : Array Value} {s : Sl} {l : List Value} {xb : Option Addr} {xn : Nat} {news : List Value} {K : Sl → Hp → Prop} (h : Own H t k s l) (hn : news.length = xn * k) (hr : rds H xb news) (h1 : ∀ v ∈ news, one v = true)
    (hz : z.size = k) (hb : (s.n + xn) * bytes ≤ 140737488355328) (h63 : s.n + xn ≤ 9223372036854775807)
    (hK : ∀ r H', Own H' t k r (l ++ news) → r.n = s.n + xn → Kp (fun b => s.at b) H H' → (∀ b, r.at b → s.at b ∨ b = H.size) → rds H' s.b l → (s.n + xn ≤ s.c → r.b = s.b ∧ r.c = s.c) → K r H') : AppendF H t k bytes z s xb xn K := by
  refine ⟨l, news, h.len, h.rds, hn, hr, h1, hb, h63, fun hroom => ?_, fun hgrow cap hc1 hc2 => ?_⟩
  · rcases h with ⟨rfl, rfl⟩ | ⟨b, sp, hs, hrow, hl, hlen, hnc, hcm⟩
    · have hx : xn = 0 := by simp [Sl.nil] at hroom; omega
      subst hx
      have hnil : news = [] := List.eq_nil_of_length_eq_zero (by simpa using hn)
      subst hnil
      exact ⟨fun a ha => (by cases ha), hK _ _ (Own.nil _ _ _) rfl (Kp.refl _ _) (fun b hb => .inl hb) rfl (fun _ => ⟨rfl, rfl⟩)⟩
    · have hfit : s.n * k + news.length ≤ (l ++ sp).length := by rw [hn, hlen, ← Nat.add_mul]; exact Nat.mul_le_mul_right _ hroom
      refine ⟨fun a ha => ?_, ?_⟩
      · rw [hs] at ha
        obtain rfl : (⟨b, 0, none⟩ : Addr) = a := by simpa using ha
        rw [add_mk, Nat.zero_add]
        exact hrow.mayw (by omega)
      · rw [hs]
        simp only [add_mk, Nat.zero_add]
        have hrow' := Row.sets (vs := news) (i := 0) (o := s.n * k) hrow (by omega)
        refine hK _ _ (.inr ⟨b, (sp.drop news.length), rfl, ?_, ?_, ?_, hroom, hcm⟩) rfl (Kp.sets (Kp.refl _ _) (.inl hs) _ _) (fun c hc => .inl (hs.trans hc)) ?_ (fun _ => ⟨hs.symm, rfl⟩)
        · have e : over (l ++ sp) (s.n * k + 0) news = l ++ news ++ sp.drop news.length := by
            simp only [over, Nat.add_zero, ← hl, List.take_left]
            rw [List.drop_append, show l.length + news.length - l.length = news.length from by omega, List.drop_eq_nil_of_le (by omega : l.length ≤ l.length + news.length)]
            simp
          rw [e] at hrow'
          exact hrow'
        · simp only [List.length_append, hl, hn, Nat.add_mul]
        · simp only [List.length_append, List.length_drop] at *; omega
        · rw [hs]
          refine hrow'.cells ?_
          simp only [over, Nat.add_zero, ← hl, List.take_left, List.drop_zero, List.append_assoc]
  · refine hK _ _ (.inr ⟨H.size, zs z (cap - (s.n + xn)), rfl, Row.newl _ _ _, ?_, ?_, hc1, hc2⟩) rfl (Kp.push (Kp.refl _ _) _) (fun b hb => .inr (by simpa [Sl.at] using hb.symm)) ?_ (fun hroom => absurd hroom (by omega))
    · simp only [List.length_append, h.len, hn, Nat.add_mul]
    · simp only [List.length_append, h.len, hn, zs_length, hz, ← Nat.add_mul]
      congr 1; omega
    · exact (h.kp (Kp.push (Kp.refl (fun _ => False) _) _) fun _ _ => id).rds

end Go.Hw
