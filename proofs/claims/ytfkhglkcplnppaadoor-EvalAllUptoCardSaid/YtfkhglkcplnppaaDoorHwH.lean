/- Heaps by rows: reading, writing, appending, what is kept. Lists of structures in memory; the steps of a heap as equations. Own work of this session. -/
import Derived.Test.YtfkhglkcplnppaaDoorHwG
namespace Go.Hw
open Go

def Row (H : Hp) (b : Nat) (t : TypeId) (l : List Value) : Prop := H[b]? = some (.cells l.toArray t (0, 0))

theorem add_mk (b o k : Nat) : (⟨b, o, none⟩ : Addr).add k = ⟨b, o + k, none⟩ := by
 unfold Addr.add; split
 ·rename_i h; subst h; rfl
 ·rfl

namespace Row
variable {H : Hp} {b t : Nat} {l : List Value}
theorem lt (h : Row H b t l) : b < H.size := (Array.getElem?_eq_some_iff.1 h).1
theorem cell (h : Row H b t l) (i : Nat) : cell H ⟨b, i, none⟩ = l[i]? := by
 unfold Row at h; simp [Hw.cell, h]
theorem cell_of (h : Row H b t l) {i : Nat} {v : Value} (hv : l[i]? = some v) : Hw.cell H ⟨b, i, none⟩ = some v := (h.cell i).trans hv
theorem frz (h : Row H b t l) (i : Nat) : frz H ⟨b, i, none⟩ = false := by
 unfold Row at h; simp [Hw.frz, h]
theorem some (h : Row H b t l) {i : Nat} (hi : i < l.length) : (Hw.cell H ⟨b, i, none⟩).isSome = true := by
 rw [h.cell, List.getElem?_eq_getElem hi]; rfl
theorem set (h : Row H b t l) (i : Nat) (v : Value) : Row (setc H ⟨b, i, none⟩ v) b t (l.set i v) := by
 unfold Row at *
 simp [setc, Array.getElem?_modify, h]
theorem set_ne (h : Row H b t l) {a : Addr} (hne : b ≠ a.block) (v : Value) : Row (setc H a v) b t l := by
 unfold Row at *
 simp only [setc, Array.getElem?_modify]
 rw [if_neg (fun e => hne e.symm)]; exact h
theorem push (h : Row H b t l) (o : Obj) : Row (H.push o) b t l := by
 have := h.lt
 unfold Row at *
 rw [Array.getElem?_push, if_neg (by omega)]; exact h
theorem ne_type (h : Row H b t l) {c u : Nat} {m : List Value} (k : Row H c u m) (hne : t ≠ u) : b ≠ c := by
 rintro rfl
 unfold Row at *
 rw [h] at k
 injection k with k
 injection k with _ k
 exact hne k
theorem inj (h : Row H b t l) {u : Nat} {m : List Value} (k : Row H b u m) : l = m ∧ t = u := by
 unfold Row at *
 rw [h] at k
 injection k with k
 injection k with k1 k2
 exact ⟨by simpa using k1, k2⟩
end Row
theorem Row.new (H : Hp) (c : Array Value) (t : TypeId) : Row (H.push (.cells c t)) H.size t c.toList := by
 simp [Row]
theorem Row.newl (H : Hp) (c : List Value) (t : TypeId) : Row (H.push (.cells c.toArray t)) H.size t c := by
 simp [Row]

structure Kp (S : Nat → Prop) (H0 H : Hp) : Prop where
 size : H0.size ≤ H.size
 blk : ∀ k, k < H0.size → ¬ S k → H[k]? = H0[k]?

namespace Kp
variable {S T : Nat → Prop} {H0 H H' : Hp}
theorem refl (S : Nat → Prop) (H : Hp) : Kp S H H := ⟨Nat.le_refl _, fun _ _ _ => rfl⟩
theorem push (h : Kp S H0 H) (o : Obj) : Kp S H0 (H.push o) := ⟨by have := h.size; simp; omega, fun k hk hs => by
 have := h.size
 rw [Array.getElem?_push, if_neg (by omega)]; exact h.blk k hk hs⟩
theorem setc (h : Kp S H0 H) {a : Addr} (ha : S a.block ∨ H0.size ≤ a.block) (v : Value) : Kp S H0 (setc H a v) := ⟨by have := h.size; simp [Hw.setc]; omega, fun k hk hs => by
 simp only [Hw.setc, Array.getElem?_modify]
 rw [if_neg]
 ·exact h.blk k hk hs
 ·rintro rfl
  rcases ha with ha | ha
  ·exact hs ha
  ·omega⟩
theorem sets (h : Kp S H0 H) {a : Addr} (ha : S a.block ∨ H0.size ≤ a.block) : ∀ (l : List Value) (i : Nat), Kp S H0 (sets H a l i) := by
 intro l
 induction l generalizing H with
 | nil => intro i; exact h
 | cons v l ih =>
  intro i
  have hb : (a.add i).block = a.block := by unfold Addr.add; split <;> rfl
  exact ih (h.setc (by rw [hb]; exact ha) v) (i + 1)
theorem trans (h : Kp S H0 H) (k : Kp T H H') (hT : ∀ b, T b → S b ∨ H0.size ≤ b) : Kp S H0 H' := ⟨Nat.le_trans h.size k.size, fun b hb hs => by
 rw [k.blk b (Nat.lt_of_lt_of_le hb h.size) (fun hT' => by rcases hT b hT' with h1 | h1; exact hs h1; omega)]
 exact h.blk b hb hs⟩
theorem mono (h : Kp S H0 H) (hT : ∀ b, b < H0.size → S b → T b) : Kp T H0 H := ⟨h.size, fun b hb hs => h.blk b hb fun h' => hs (hT b hb h')⟩
theorem row (h : Kp S H0 H) {b t : Nat} {l : List Value} (r : Row H0 b t l) (hs : ¬ S b) : Row H b t l := (h.blk b r.lt hs).trans r
theorem cell (h : Kp S H0 H) {a : Addr} (ha : a.block < H0.size) (hs : ¬ S a.block) : Hw.cell H a = Hw.cell H0 a := by
 unfold Hw.cell; rw [h.blk a.block ha hs]
theorem cells (h : Kp S H0 H) {a : Addr} (ha : a.block < H0.size) (hs : ¬ S a.block) : ∀ {l : List Value} {i : Nat}, cells H0 a l i → cells H a l i := by
 intro l
 induction l with
 | nil => intro i _; trivial
 | cons v l ih =>
  intro i ⟨h1, h2⟩
  have hb : (a.add i).block = a.block := by unfold Addr.add; split <;> rfl
  exact ⟨by rw [h.cell (by rw [hb]; exact ha) (by rw [hb]; exact hs)]; exact h1, ih h2⟩
end Kp

theorem size_push (H : Hp) (o : Obj) : (H.push o).size = H.size + 1 := by simp
def over (l : List Value) (i : Nat) (vs : List Value) : List Value := l.take i ++ vs ++ l.drop (i + vs.length)

theorem over_nil (l : List Value) (i : Nat) : over l i [] = l := by simp [over]
theorem over_cons (l : List Value) (i : Nat) (v : Value) (vs : List Value) (h : i + (vs.length + 1) ≤ l.length) : over l i (v :: vs) = over (l.set i v) (i + 1) vs := by
 apply List.ext_getElem?
 intro j
 simp only [over, List.getElem?_append, List.length_append, List.length_take, List.length_cons, List.length_set, List.getElem?_take, List.getElem?_drop, List.getElem?_set, List.getElem?_cons]
 by_cases h1 : j < i
 ·simp [show j < min i l.length from by omega, show j < min (i + 1) l.length from by omega, show j < i + 1 from by omega, h1, show ¬ (i = j) from by omega, show j < min i l.length + (vs.length + 1) from by omega, show j < min (i + 1) l.length + vs.length from by omega]
 ·by_cases h2 : j = i
  ·subst h2
   simp [show min j l.length = j from by omega, show min (j + 1) l.length = j + 1 from by omega, show j < l.length from by omega, show j < j + 1 + vs.length from by omega]
  ·simp only [show min i l.length = i from by omega, show min (i + 1) l.length = i + 1 from by omega, h1, if_false, show ¬ j < i + 1 from by omega, show ¬ (j - i = 0) from by omega, show ¬ (i = i + 1 + vs.length + (j - (i + 1 + vs.length))) from by omega]
   rw [show j - (i + 1) = j - i - 1 from by omega, show i + 1 + vs.length = i + (vs.length + 1) from by omega]

theorem length_over (l : List Value) (i : Nat) (vs : List Value) (h : i + vs.length ≤ l.length) : (over l i vs).length = l.length := by
 simp [over]; omega

theorem Row.sets {H : Hp} {b t : Nat} : ∀ {vs l : List Value} {i : Nat} {o : Nat}, Row H b t l → o + i + vs.length ≤ l.length → Row (sets H ⟨b, o, none⟩ vs i) b t (over l (o + i) vs)
 | [], l, i, o, h, _ => by rw [over_nil]; exact h
 | v :: vs, l, i, o, h, hl => by
  have h1 := h.set (o + i) v
  rw [over_cons l (o + i) v vs (by simpa [Nat.add_assoc] using hl)]
  show Row (Hw.sets (setc H ((⟨b, o, none⟩ : Addr).add i) v) ⟨b, o, none⟩ vs (i + 1)) b t _
  rw [add_mk]
  have := Row.sets (vs := vs) (i := i + 1) (o := o) h1 (by simp at *; omega)
  rwa [← Nat.add_assoc] at this

theorem Row.sets_ne {H : Hp} {b t : Nat} {l : List Value} (h : Row H b t l) {a : Addr} (hne : b ≠ a.block) : ∀ (vs : List Value) (i : Nat), Row (Hw.sets H a vs i) b t l := by
 intro vs
 induction vs generalizing H with
 | nil => intro i; exact h
 | cons v vs ih =>
  intro i
  have hb : (a.add i).block = a.block := by unfold Addr.add; split <;> rfl
  exact ih (h.set_ne (by rw [hb]; exact hne) v) (i + 1)

theorem Row.mayw {H : Hp} {b t : Nat} {l : List Value} (h : Row H b t l) {o : Nat} : ∀ {m i : Nat}, o + i + m ≤ l.length → mayw H ⟨b, o, none⟩ m i
 | 0, _, _ => trivial
 | m + 1, i, hl => ⟨by rw [add_mk]; exact ⟨h.some (by omega), h.frz _⟩, Row.mayw h (by omega)⟩

theorem Row.cells {H : Hp} {b t : Nat} {l : List Value} (h : Row H b t l) {o : Nat} : ∀ {vs : List Value} {i : Nat}, (l.drop (o + i)).take vs.length = vs → cells H ⟨b, o, none⟩ vs i
 | [], _, _ => trivial
 | v :: vs, i, e => by
  have h0 : l[o + i]? = Option.some v := by
   have := congrArg (fun x : List Value => x[0]?) e
   simpa [List.getElem?_take, List.getElem?_drop] using this
  refine ⟨by rw [add_mk]; exact h.cell_of h0, Row.cells h ?_⟩
  apply List.ext_getElem?
  intro j
  have := congrArg (fun x : List Value => x[j + 1]?) e
  simp only [List.getElem?_take, List.getElem?_drop, List.length_cons, List.getElem?_cons_succ] at this
  simp only [List.getElem?_take, List.getElem?_drop]
  rw [show o + i + (j + 1) = o + (i + 1) + j from by omega] at this
  by_cases hj : j < vs.length
  ·rw [if_pos (by omega)] at this; rw [if_pos hj]; exact this
  ·rw [if_neg hj, List.getElem?_eq_none (by omega)]

def Own (H : Hp) (t k : Nat) (s : Sl) (l : List Value) : Prop :=
 (s = Sl.nil ∧ l = []) ∨ ∃ b sp, s.b = some ⟨b, 0, none⟩ ∧ Row H b t (l ++ sp) ∧ l.length = s.n * k ∧ (l ++ sp).length = s.c * k ∧ s.n ≤ s.c ∧ s.c ≤ 9223372036854775807

theorem Own.nil (H : Hp) (t k : Nat) : Own H t k Sl.nil [] := .inl ⟨rfl, rfl⟩
theorem Own.len {H : Hp} {t k : Nat} {s : Sl} {l : List Value} (h : Own H t k s l) : l.length = s.n * k := by
 rcases h with ⟨rfl, rfl⟩ | ⟨b, sp, _, _, h, _⟩
 ·simp [Sl.nil]
 ·exact h
theorem Own.kp {S : Nat → Prop} {H H' : Hp} {t k : Nat} {s : Sl} {l : List Value} (h : Own H t k s l) (hk : Kp S H H') (hs : ∀ b, s.b = some ⟨b, 0, none⟩ → ¬ S b) : Own H' t k s l := by
 rcases h with h | ⟨b, sp, h1, h2, h3⟩
 ·exact .inl h
 ·exact .inr ⟨b, sp, h1, hk.row h2 (hs b h1), h3⟩
theorem Own.rds {H : Hp} {t k : Nat} {s : Sl} {l : List Value} (h : Own H t k s l) : rds H s.b l := by
 rcases h with ⟨rfl, rfl⟩ | ⟨b, sp, h1, h2, h3, _⟩
 ·rfl
 ·rw [h1]
  exact h2.cells (by simp)
theorem Own.row {H : Hp} {t k : Nat} {s : Sl} {l : List Value} (h : Own H t k s l) {b : Nat} (hb : s.b = some ⟨b, 0, none⟩) : ∃ sp, Row H b t (l ++ sp) := by
 rcases h with ⟨rfl, _⟩ | ⟨c, sp, h1, h2, _⟩
 ·cases hb
 ·rw [h1] at hb
  obtain rfl : c = b := by simpa using hb
  exact ⟨sp, h2⟩

def Sl.at (s : Sl) (b : Nat) : Prop := s.b = some ⟨b, 0, none⟩

theorem zs_length (z : Array Value) (m : Nat) : (zs z m).length = m * z.size := by simp [zs, Builtin.zeroCells]

theorem append_own {H : Hp} {t k bytes : Nat} {z : Array Value} {s : Sl} {l : List Value} {xb : Option Addr} {xn : Nat} {news : List Value} {K : Sl → Hp → Prop} (h : Own H t k s l) (hn : news.length = xn * k) (hr : rds H xb news) (h1 : ∀ v ∈ news, one v = true)
  (hz : z.size = k) (hb : (s.n + xn) * bytes ≤ 140737488355328) (h63 : s.n + xn ≤ 9223372036854775807)
  (hK : ∀ r H', Own H' t k r (l ++ news) → r.n = s.n + xn → Kp (fun b => s.at b) H H' → (∀ b, r.at b → s.at b ∨ b = H.size) → rds H' s.b l → (s.n + xn ≤ s.c → r.b = s.b ∧ r.c = s.c) → K r H') : AppendF H t k bytes z s xb xn K := by
 refine ⟨l, news, h.len, h.rds, hn, hr, h1, hb, h63, fun hroom => ?_, fun hgrow cap hc1 hc2 => ?_⟩
 ·rcases h with ⟨rfl, rfl⟩ | ⟨b, sp, hs, hrow, hl, hlen, hnc, hcm⟩
  ·have hx : xn = 0 := by simp [Sl.nil] at hroom; omega
   subst hx
   have hnil : news = [] := List.eq_nil_of_length_eq_zero (by simpa using hn)
   subst hnil
   exact ⟨fun a ha => (by cases ha), hK _ _ (Own.nil _ _ _) rfl (Kp.refl _ _) (fun b hb => .inl hb) rfl (fun _ => ⟨rfl, rfl⟩)⟩
  ·have hfit : s.n * k + news.length ≤ (l ++ sp).length := by rw [hn, hlen, ← Nat.add_mul]; exact Nat.mul_le_mul_right _ hroom
   refine ⟨fun a ha => ?_, ?_⟩
   ·rw [hs] at ha
    obtain rfl : (⟨b, 0, none⟩ : Addr) = a := by simpa using ha
    rw [add_mk, Nat.zero_add]
    exact hrow.mayw (by omega)
   ·rw [hs]
    simp only [add_mk, Nat.zero_add]
    have hrow' := Row.sets (vs := news) (i := 0) (o := s.n * k) hrow (by omega)
    refine hK _ _ (.inr ⟨b, (sp.drop news.length), rfl, ?_, ?_, ?_, hroom, hcm⟩) rfl (Kp.sets (Kp.refl _ _) (.inl hs) _ _) (fun c hc => .inl (hs.trans hc)) ?_ (fun _ => ⟨hs.symm, rfl⟩)
    ·have e : over (l ++ sp) (s.n * k + 0) news = l ++ news ++ sp.drop news.length := by
      simp only [over, Nat.add_zero, ← hl, List.take_left]
      rw [List.drop_append, show l.length + news.length - l.length = news.length from by omega, List.drop_eq_nil_of_le (by omega : l.length ≤ l.length + news.length)]
      simp
     rw [e] at hrow'
     exact hrow'
    ·simp only [List.length_append, hl, hn, Nat.add_mul]
    ·simp only [List.length_append, List.length_drop] at *; omega
    ·rw [hs]
     refine hrow'.cells ?_
     simp only [over, Nat.add_zero, ← hl, List.take_left, List.drop_zero, List.append_assoc]
 ·refine hK _ _ (.inr ⟨H.size, zs z (cap - (s.n + xn)), rfl, Row.newl _ _ _, ?_, ?_, hc1, hc2⟩) rfl (Kp.push (Kp.refl _ _) _) (fun b hb => .inr (by simpa [Sl.at] using hb.symm)) ?_ (fun hroom => absurd hroom (by omega))
  ·simp only [List.length_append, h.len, hn, Nat.add_mul]
  ·simp only [List.length_append, h.len, hn, zs_length, hz, ← Nat.add_mul]
   congr 1; omega
  ·exact (h.kp (Kp.push (Kp.refl (fun _ => False) _) _) fun _ _ => id).rds


theorem wr {x : Int} (h1 : -9223372036854775808 ≤ x) (h2 : x ≤ 9223372036854775807) : IntKind.i64.wrap x = x := by
 have e : IntKind.i64.wrap x = if x % 18446744073709551616 ≥ 9223372036854775808 then x % 18446744073709551616 - 18446744073709551616 else x % 18446744073709551616 := by
  simp [IntKind.wrap, IntKind.bits, IntKind.signed]
 rw [e]
 split <;> omega

section
variable {H H1 : Hp} {b t : Nat} {l : List Value} {o : Obj} {a : Addr} {v : Value} {vs : List Value} {i : Nat} {S : Nat → Prop} {H0 : Hp}
theorem Row.push' (h : Row H b t l) (e : H1 = Array.push H o) : Row H1 b t l := e ▸ h.push o
theorem Kp.push' (h : Kp S H0 H) (e : H1 = Array.push H o) : Kp S H0 H1 := e ▸ h.push o
theorem Row.new' {c : Array Value} (e : H1 = Array.push H (.cells c t)) : Row H1 H.size t c.toList := e ▸ Row.new H c t
theorem Row.set' (h : Row H b t l) (e : H1 = Hw.setc H ⟨b, i, none⟩ v) : Row H1 b t (l.set i v) := e ▸ h.set i v
theorem Row.set_ne' (h : Row H b t l) (e : H1 = Hw.setc H a v) (hne : b ≠ a.block) : Row H1 b t l := e ▸ h.set_ne hne v
theorem Kp.set' (h : Kp S H0 H) (e : H1 = Hw.setc H a v) (ha : S a.block ∨ H0.size ≤ a.block) : Kp S H0 H1 := e ▸ h.setc ha v
theorem Row.sets' (h : Row H b t l) {oo : Nat} (e : H1 = Hw.sets H ⟨b, oo, none⟩ vs 0) (hl : oo + vs.length ≤ l.length) : Row H1 b t (over l oo vs) := e ▸ h.sets (i := 0) hl
theorem Row.sets_ne' (h : Row H b t l) (e : H1 = Hw.sets H a vs i) (hne : b ≠ a.block) : Row H1 b t l := e ▸ h.sets_ne hne vs i
theorem Kp.sets' (h : Kp S H0 H) (e : H1 = Hw.sets H a vs i) (ha : S a.block ∨ H0.size ≤ a.block) : Kp S H0 H1 := e ▸ h.sets ha vs i
theorem size_push' (e : H1 = Array.push H o) : H1.size = H.size + 1 := e ▸ size_push H o
theorem over_all (h : vs.length = l.length) : over l 0 vs = vs := by simp [over, h]
theorem Row.fill' (h : Row H b t l) (e : H1 = Hw.sets H ⟨b, 0, none⟩ vs 0) (hl : vs.length = l.length) : Row H1 b t vs := by
 have := h.sets' e (by omega)
 rwa [over_all hl] at this
theorem Row.all (h : Row H b t l) : Hw.cells H ⟨b, 0, none⟩ l 0 := h.cells (by simp)
end

theorem fl_len {α : Type} {f : α → List Value} {k : Nat} (hf : ∀ x, (f x).length = k) (L : List α) : (L.flatMap f).length = L.length * k := by
 induction L with
 | nil => simp
 | cons x L ih => simp only [List.flatMap_cons, List.length_append, hf, ih, List.length_cons, Nat.succ_mul]; omega

theorem fl_drop {α : Type} {f : α → List Value} {k : Nat} (hf : ∀ x, (f x).length = k) : ∀ (L : List α) (i : Nat), (L.flatMap f).drop (i * k) = (L.drop i).flatMap f
 | [], i => by simp
 | x :: L, 0 => by simp
 | x :: L, i + 1 => by
  rw [List.flatMap_cons, Nat.succ_mul, Nat.add_comm, List.drop_append, hf, List.drop_eq_nil_of_le (by rw [hf]; omega), show k + i * k - k = i * k from by omega, fl_drop hf L i]
  rfl
theorem fl_take {α : Type} {f : α → List Value} {k : Nat} (hf : ∀ x, (f x).length = k) : ∀ (L : List α) (i : Nat), (L.flatMap f).take (i * k) = (L.take i).flatMap f
 | [], i => by simp
 | x :: L, 0 => by simp
 | x :: L, i + 1 => by
  rw [List.flatMap_cons, Nat.succ_mul, Nat.add_comm, List.take_append, hf, List.take_of_length_le (by rw [hf]; omega), show k + i * k - k = i * k from by omega, fl_take hf L i]
  rfl

theorem set_eq_over {α : Type} (L : List α) (i : Nat) (x : α) (h : i < L.length) : L.set i x = L.take i ++ [x] ++ L.drop (i + 1) := by
 rw [List.set_eq_take_append_cons_drop, if_pos h]; simp

theorem fl_set {α : Type} {f : α → List Value} {k : Nat} (hf : ∀ x, (f x).length = k) (L : List α) (sp : List Value) (i : Nat) (x : α) (h : i < L.length) : over (L.flatMap f ++ sp) (i * k) (f x) = (L.set i x).flatMap f ++ sp := by
 have hl := fl_len hf L
 have hm : i * k + k ≤ L.length * k := by rw [← Nat.succ_mul]; exact Nat.mul_le_mul_right _ h
 unfold over
 rw [List.take_append_of_le_length (by omega), List.drop_append_of_le_length (by rw [hf]; omega), fl_take hf, hf, ← Nat.succ_mul, fl_drop hf, set_eq_over _ _ _ h]
 simp

structure Fmt (α : Type) (t k : Nat) where
 f : α → List Value
 len : ∀ x, (f x).length = k
 one : ∀ x, ∀ v ∈ f x, one v = true
 pos : 0 < k

theorem fl_one {α : Type} {t k : Nat} (F : Fmt α t k) (L : List α) : ∀ v ∈ L.flatMap F.f, Hw.one v = true := by
 intro v hv
 obtain ⟨x, _, hx⟩ := List.mem_flatMap.1 hv
 exact F.one x v hx

structure RdL {α : Type} {t k : Nat} (F : Fmt α t k) (H : Hp) (s : Sl) (L : List α) : Prop where
 n : s.n = L.length
 r : rds H s.b (L.flatMap F.f)

structure Lst {α : Type} {t k : Nat} (F : Fmt α t k) (H : Hp) (s : Sl) (L : List α) : Prop where
 own : Own H t k s (L.flatMap F.f)

theorem add_add (a : Addr) (i j : Nat) : (a.add i).add j = a.add (i + j) := by
 obtain ⟨b, o, x⟩ := a
 cases x with
 | none => simp only [add_mk, Nat.add_assoc]
 | some x =>
  unfold Addr.add
  by_cases hi : i = 0 <;> by_cases hj : j = 0 <;> simp [hi, hj, Nat.add_assoc]

theorem cells_add {H : Hp} {a : Addr} : ∀ {l : List Value} {i j : Nat}, cells H (a.add i) l j ↔ cells H a l (i + j)
 | [], _, _ => Iff.rfl
 | v :: l, i, j => by
  show (cell H ((a.add i).add j) = some v ∧ cells H (a.add i) l (j + 1)) ↔ (cell H (a.add (i + j)) = some v ∧ cells H a l (i + j + 1))
  rw [add_add, cells_add, Nat.add_assoc]

theorem cells_sub {H : Hp} {a : Addr} {l m : List Value} {i : Nat} (h : cells H a l 0) (e : (l.drop i).take m.length = m) : cells H (a.add i) m 0 := by
 rw [cells_iff] at h ⊢
 intro j v hj
 rw [Nat.zero_add, add_add]
 have : l[i + j]? = some v := by
  have := congrArg (fun x : List Value => x[j]?) e
  have hjl : j < m.length := (List.getElem?_eq_some_iff.1 hj).1
  simp only [List.getElem?_take, List.getElem?_drop, if_pos hjl, hj] at this
  exact this
 have := h (i + j) v this
 rwa [Nat.zero_add] at this

section
variable {α : Type} {t k : Nat} {F : Fmt α t k} {H H' : Hp} {s : Sl} {L : List α}
theorem Lst.n (h : Lst F H s L) : s.n = L.length := by
 have := h.own.len
 rw [fl_len F.len] at this
 exact (Nat.eq_of_mul_eq_mul_right F.pos this).symm
theorem Lst.rd (h : Lst F H s L) : RdL F H s L := ⟨h.n, h.own.rds⟩
theorem Lst.nil (F : Fmt α t k) (H : Hp) : Lst F H Sl.nil [] := ⟨Own.nil _ _ _⟩
theorem RdL.nil (F : Fmt α t k) (H : Hp) : RdL F H Sl.nil [] := ⟨rfl, rfl⟩
theorem Lst.kp {S : Nat → Prop} (h : Lst F H s L) (hk : Kp S H H') (hs : ∀ b, s.at b → ¬ S b) : Lst F H' s L := ⟨h.own.kp hk hs⟩

theorem fl_get (F : Fmt α t k) {i : Nat} {x : α} (hx : L[i]? = some x) : ((L.flatMap F.f).drop (i * k)).take (F.f x).length = F.f x := by
 rw [fl_drop F.len]
 obtain ⟨hi, rfl⟩ := List.getElem?_eq_some_iff.1 hx
 rw [List.drop_eq_getElem_cons hi, List.flatMap_cons, List.take_left]

theorem RdL.get (h : RdL F H s L) {i : Nat} {x : α} (hx : L[i]? = some x) : ∃ a, s.b = some a ∧ i < s.n ∧ cells H (a.add (i * k)) (F.f x) 0 := by
 have hi : i < L.length := (List.getElem?_eq_some_iff.1 hx).1
 have hn := h.n
 have hr := h.r
 cases hb : s.b with
 | none =>
  rw [hb] at hr
  have : (L.flatMap F.f).length = 0 := by rw [show L.flatMap F.f = [] from hr]; rfl
  rw [fl_len F.len] at this
  have := Nat.mul_pos (Nat.lt_of_le_of_lt (Nat.zero_le _) hi) F.pos
  omega
 | some a =>
  rw [hb] at hr
  exact ⟨a, rfl, by omega, cells_sub hr (fl_get F hx)⟩

theorem cells_block {H : Hp} {a : Addr} {l : List Value} (h : cells H a l 0) (hl : l ≠ []) : a.block < H.size := by
 cases l with
 | nil => exact absurd rfl hl
 | cons v l =>
  have h0 := h.1
  rw [show a.add 0 = a from by unfold Addr.add; simp] at h0
  unfold cell at h0
  by_cases hb : a.block < H.size
  ·exact hb
  ·rw [Array.getElem?_eq_none (by omega)] at h0
   simp at h0

theorem rds_kp {S : Nat → Prop} {b : Option Addr} {l : List Value} (h : rds H b l) (hk : Kp S H H') (hs : ∀ a, b = some a → ¬ S a.block) : rds H' b l := by
 cases b with
 | none => exact h
 | some a =>
  by_cases hl : l = []
  ·subst hl; trivial
  ·exact hk.cells (cells_block h hl) (hs a rfl) h

theorem RdL.kp {S : Nat → Prop} (h : RdL F H s L) (hk : Kp S H H') (hs : ∀ a, s.b = some a → ¬ S a.block) : RdL F H' s L := ⟨h.n, rds_kp h.r hk hs⟩
theorem RdL.kp0 (h : RdL F H s L) (hk : Kp (fun _ => False) H H') : RdL F H' s L := h.kp hk fun _ _ => id

theorem Own.at_row {H : Hp} {t k : Nat} {s : Sl} {l : List Value} (h : Own H t k s l) {b : Nat} (hb : s.at b) : ∃ sp, Row H b t (l ++ sp) ∧ l.length = s.n * k ∧ (l ++ sp).length = s.c * k := by
 rcases h with ⟨rfl, _⟩ | ⟨c, sp, h1, h2, h3, h4, _⟩
 ·cases hb
 ·have : c = b := by
   have := h1.symm.trans hb
   simpa using this
  subst this
  exact ⟨sp, h2, h3, h4⟩
theorem Lst.row (h : Lst F H s L) {b : Nat} (hb : s.at b) : ∃ sp, Row H b t (L.flatMap F.f ++ sp) := (h.own.at_row hb).imp fun _ => And.left
theorem Lst.lt (h : Lst F H s L) {b : Nat} (hb : s.at b) : b < H.size := (h.row hb).elim fun _ r => r.lt
theorem Lst.ne {c u : Nat} {m : List Value} (h : Lst F H s L) (r : Row H c u m) (hne : t ≠ u) : ¬ s.at c := fun hb => (h.row hb).elim fun _ r' => r'.ne_type r hne rfl
theorem Lst.some (h : Lst F H s L) (hl : 0 < L.length) : ∃ b, s.at b := by
 rcases h.own with ⟨_, h0⟩ | ⟨b, sp, h1, _⟩
 ·have := fl_len F.len L
  rw [h0] at this
  have := Nat.mul_pos hl F.pos
  simp at *; omega
 ·exact ⟨b, h1⟩

theorem Lst.set (h : Lst F H s L) {i : Nat} (hi : i < L.length) (x : α) : ∃ a : Addr, s.b = Option.some a ∧ s.at a.block ∧ i < s.n ∧ mayw H (a.add (i * k)) k 0 ∧ ∀ H', H' = Hw.sets H (a.add (i * k)) (F.f x) 0 → Lst F H' s (L.set i x) ∧ Kp s.at H H' := by
 have hn := h.n
 obtain ⟨b, hb⟩ := h.some (by omega)
 obtain ⟨sp, hrow, h3, h4⟩ := h.own.at_row hb
 have hl := fl_len F.len L
 have hm : i * k + k ≤ L.length * k := by rw [← Nat.succ_mul]; exact Nat.mul_le_mul_right _ hi
 refine ⟨⟨b, 0, none⟩, hb, hb, by omega, ?_, fun H' e => ⟨⟨.inr ⟨b, sp, hb, ?_, ?_, ?_⟩⟩, ?_⟩⟩
 ·rw [add_mk, Nat.zero_add]
  exact hrow.mayw (by rw [List.length_append, hl]; omega)
 ·rw [add_mk, Nat.zero_add] at e
  have := hrow.sets' e (by rw [F.len, List.length_append]; omega)
  rwa [fl_set F.len L sp i x hi] at this
 ·rw [fl_len F.len, List.length_set, ← hl]; exact h3
 ·rcases h.own with ⟨h0, _⟩ | ⟨c, sp', g1, g2, g3, g4, g5, g6⟩
  ·rw [h0] at hb; cases hb
  ·refine ⟨?_, g5, g6⟩
   rw [List.length_append] at h4 ⊢
   rw [fl_len F.len, List.length_set, ← hl]; exact h4
 ·refine (Kp.refl _ H).sets' e (.inl ?_)
  rw [add_mk]; exact hb

theorem set_over {l m : List Value} {o c : Nat} {v : Value} (hm : (l.drop o).take m.length = m) (hc : c < m.length) (hl : o + m.length ≤ l.length) : l.set (o + c) v = over l o (m.set c v) := by
 apply List.ext_getElem?
 intro j
 have e : min o l.length = o := by omega
 have hmj : ∀ q, q < m.length → m[q]? = l[o + q]? := fun q hq => by
  have := congrArg (fun x : List Value => x[q]?) hm
  simp only [List.getElem?_take, List.getElem?_drop, if_pos hq] at this
  exact this.symm
 simp only [over, List.getElem?_set, List.getElem?_append, List.length_append, List.length_take, List.length_set, List.getElem?_take, List.getElem?_drop, e]
 by_cases h1 : j < o
 ·simp [h1, show j < o + m.length from by omega, show ¬ (o + c = j) from by omega]
 ·by_cases h2 : j < o + m.length
  ·by_cases h3 : o + c = j
   ·subst h3
    simp [show o + c < l.length from by omega, hc]
    omega
   ·have := hmj (j - o) (by omega)
    rw [show o + (j - o) = j from by omega] at this
    simp [h1, h2, h3, show ¬ (c = j - o) from by omega, this]
  ·have : o + m.length + (j - (o + m.length)) = j := by omega
   simp [h2, show ¬ (o + c = j) from by omega, this]

theorem Lst.set1 (h : Lst F H s L) {i c : Nat} {x x' : α} {v : Value} (hx : L[i]? = Option.some x) (hc : c < k) (hf : F.f x' = (F.f x).set c v) : ∃ a : Addr, s.b = Option.some a ∧ s.at a.block ∧ i < s.n ∧ (cell H ((a.add (i * k)).add c)).isSome = true ∧ frz H ((a.add (i * k)).add c) = false ∧
  ∀ H', H' = setc H ((a.add (i * k)).add c) v → Lst F H' s (L.set i x') ∧ Kp s.at H H' := by
 have hn := h.n
 have hi : i < L.length := (List.getElem?_eq_some_iff.1 hx).1
 obtain ⟨b, hb⟩ := h.some (by omega)
 obtain ⟨sp, hrow, h3, h4⟩ := h.own.at_row hb
 have hl := fl_len F.len L
 have hm : i * k + k ≤ L.length * k := by rw [← Nat.succ_mul]; exact Nat.mul_le_mul_right _ hi
 have hin : i * k + c < (L.flatMap F.f ++ sp).length := by rw [List.length_append]; omega
 have ea : ((⟨b, 0, none⟩ : Addr).add (i * k)).add c = ⟨b, i * k + c, none⟩ := by rw [add_mk, add_mk, Nat.zero_add]
 refine ⟨⟨b, 0, none⟩, hb, hb, by omega, by rw [ea]; exact hrow.some hin, by rw [ea]; exact hrow.frz _, fun H' e => ?_⟩
 rw [ea] at e
 have hr := hrow.set' e
 have hg : ((L.flatMap F.f ++ sp).drop (i * k)).take (F.f x).length = F.f x := by
  rw [List.drop_append_of_le_length (by omega), List.take_append_of_le_length (by rw [List.length_drop, F.len]; omega)]
  exact fl_get F hx
 rw [set_over hg (by rw [F.len]; exact hc) (by rw [F.len, List.length_append]; omega), ← hf, fl_set F.len L sp i x' hi] at hr
 refine ⟨⟨.inr ⟨b, sp, hb, hr, ?_, ?_⟩⟩, (Kp.refl _ H).set' e (.inl hb)⟩
 ·rw [fl_len F.len, List.length_set, ← hl]; exact h3
 ·rcases h.own with ⟨h0, _⟩ | ⟨c', sp', g1, g2, g3, g4, g5, g6⟩
  ·rw [h0] at hb; cases hb
  ·refine ⟨?_, g5, g6⟩
   rw [List.length_append] at h4 ⊢
   rw [fl_len F.len, List.length_set, ← hl]; exact h4

theorem Lst.appendx {bytes : Nat} {z : Array Value} {xs : Sl} {M : List α} {K : Sl → Hp → Prop} (h : Lst F H s L) (hx : RdL F H xs M) (hz : z.size = k)
  (hb : (L.length + M.length) * bytes ≤ 140737488355328) (h63 : L.length + M.length ≤ 9223372036854775807)
  (hK : ∀ r H', Lst F H' r (L ++ M) → Kp s.at H H' → (∀ b, r.at b → s.at b ∨ b = H.size) → RdL F H' s L → (L.length + M.length ≤ s.c → r.b = s.b ∧ r.c = s.c) → K r H') : AppendF H t k bytes z s xs.b xs.n K := by
 have hn := h.n
 have hm := hx.n
 refine append_own h.own (by rw [fl_len F.len, hm]) hx.r (fl_one F M) hz (by rw [hn, hm]; exact hb) (by omega) fun r H' h1 _ h3 h4 h5 h6 => ?_
 refine hK r H' ⟨?_⟩ h3 h4 ⟨hn, h5⟩ (by rw [← hn, ← hm]; exact h6)
 rw [List.flatMap_append]; exact h1

theorem Lst.append {bytes : Nat} {z : Array Value} {xs : Sl} {M : List α} {K : Sl → Hp → Prop} (h : Lst F H s L) (hx : RdL F H xs M) (hz : z.size = k)
  (hb : (L.length + M.length) * bytes ≤ 140737488355328) (h63 : L.length + M.length ≤ 9223372036854775807)
  (hK : ∀ r H', Lst F H' r (L ++ M) → Kp s.at H H' → (∀ b, r.at b → s.at b ∨ b = H.size) → K r H') : AppendF H t k bytes z s xs.b xs.n K := by
 exact h.appendx hx hz hb h63 fun r H' h1 h2 h3 _ _ => hK r H' h1 h2 h3

theorem Row.rdl {b : Nat} {L : List α} {n : Nat} (h : Row H b t (L.flatMap F.f)) (hn : n = L.length) (c : Nat) : RdL F H (Sl.mk (Option.some ⟨b, 0, none⟩) n c) L := ⟨hn, h.all⟩
theorem Row.rdl1 {b : Nat} {x : α} (h : Row H b t (F.f x)) : RdL F H (Sl.mk (Option.some ⟨b, 0, none⟩) 1 1) [x] := by
 refine Row.rdl (L := [x]) ?_ rfl _
 simpa using h

theorem Lst.append1 {bytes : Nat} {z : Array Value} {b : Nat} {x : α} {K : Sl → Hp → Prop} (h : Lst F H s L) (hx : Row H b t (F.f x)) (hz : z.size = k)
  (hb : (L.length + 1) * bytes ≤ 140737488355328) (h63 : L.length + 1 ≤ 9223372036854775807)
  (hK : ∀ r H', Lst F H' r (L ++ [x]) → Kp s.at H H' → (∀ b, r.at b → s.at b ∨ b = H.size) → K r H') :
  AppendF H t k bytes z s (Sl.mk (Option.some ⟨b, 0, none⟩) 1 1).b (Sl.mk (Option.some ⟨b, 0, none⟩) 1 1).n K :=
 h.append (Row.rdl1 hx) hz hb h63 hK

theorem Lst.empty {b : Nat} {sp : List Value} {c : Nat} (h : Row H b t sp) (hl : sp.length = c * k) (hc : c ≤ 9223372036854775807) : Lst F H (Sl.mk (Option.some ⟨b, 0, none⟩) 0 c) [] :=
 ⟨.inr ⟨b, sp, rfl, h, by simp, by simpa using hl, Nat.zero_le _, hc⟩⟩
end
end Go.Hw
