/- Slices filled anew (out of o11a/K1, K2, K11). Own work of this session. -/
import Derived.Test.YtbhfkpdalilhcaaDoorT21
set_option linter.unusedVariables false
namespace Go.Hw
open Go

/-- What stands behind a list's places. -/
def mks (mk : Nat → List Value) : Nat → Nat → List Value
  | _, 0 => []
  | n, d + 1 => mk n ++ mks mk (n + 1) d
theorem mks_len {mk : Nat → List Value} {k : Nat} (hk : ∀ i, (mk i).length = k) : ∀ (d n : Nat), (mks mk n d).length = d * k
  | 0, _ => by simp [mks]
  | d + 1, n => by rw [mks, List.length_append, hk, mks_len hk d, Nat.succ_mul]; omega
theorem mks_get {mk : Nat → List Value} {k : Nat} (hk : ∀ i, (mk i).length = k) : ∀ (d n i : Nat), i < d → ((mks mk n d).drop (i * k)).take k = mk (n + i)
  | 0, _, _, h => by omega
  | d + 1, n, 0, _ => by rw [mks, Nat.zero_mul, List.drop_zero, ← hk n, List.take_left]; rfl
  | d + 1, n, i + 1, h => by
    have e : (i + 1) * k = (mk n).length + i * k := by rw [hk, Nat.succ_mul]; omega
    rw [mks, e, List.drop_append, List.drop_eq_nil_of_le (by omega), Nat.add_sub_cancel_left, List.nil_append, mks_get hk d (n + 1) i (by omega)]
    rw [show n + 1 + i = n + (i + 1) from by omega]
theorem over_mid (pre sp v : List Value) : over (pre ++ sp) pre.length v = pre ++ v ++ sp.drop v.length := by
  unfold over
  rw [List.take_left, List.drop_append, List.drop_eq_nil_of_le (by omega), Nat.add_sub_cancel_left, List.nil_append]
theorem set_same {l : List Value} {i : Nat} {v : Value} (h : l[i]? = some v) : l.set i v = l := by
  apply List.ext_getElem?
  intro j
  rw [List.getElem?_set]
  by_cases e : i = j
  · subst e
    rw [if_pos rfl, h, if_pos (List.getElem?_eq_some_iff.1 h).1]
  · rw [if_neg e]

theorem lk_lo {α : Type} {t k : Nat} (F : Fmt α t k) {L : List α} {R : List Value} {i : Nat} {x : α} (hx : L[i]? = some x) : ((L.flatMap F.f ++ R).drop (i * k)).take k = F.f x := by
  have hi : i < L.length := (List.getElem?_eq_some_iff.1 hx).1
  have hl := fl_len F.len L
  have hm : i * k + k ≤ L.length * k := by rw [← Nat.succ_mul]; exact Nat.mul_le_mul_right _ hi
  rw [List.drop_append_of_le_length (by omega), List.take_append_of_le_length (by rw [List.length_drop]; omega)]
  have := fl_get F hx
  rwa [F.len] at this
theorem lk_hi {α : Type} {t k : Nat} (F : Fmt α t k) {L : List α} {mk : Nat → List Value} (hk : ∀ i, (mk i).length = k) {d i : Nat} (h1 : L.length ≤ i) (h2 : i < L.length + d) : ((L.flatMap F.f ++ mks mk L.length d).drop (i * k)).take k = mk i := by
  have hl := fl_len F.len L
  have e : i * k = (L.flatMap F.f).length + (i - L.length) * k := by rw [hl, ← Nat.add_mul]; congr 1; omega
  rw [e, List.drop_append, List.drop_eq_nil_of_le (by omega), Nat.add_sub_cancel_left, List.nil_append, mks_get hk d _ _ (by omega)]
  rw [show L.length + (i - L.length) = i from by omega]

/-! ## places from n on are filled -/
theorem fill {n0 : Nat} {k t b c : Nat} (mk : Nat → List Value) (hk : ∀ i, (mk i).length = k) {X : Int → Hp → Prop} {C : Hp → Prop} {s : Sl} (hsb : s.b = some ⟨b, 0, none⟩) (hsn : s.n = c) (hc : c ≤ 9223372036854775807)
    (hX : ∀ (y : Nat) (H : Hp), n0 ≤ y → ((decide ((y : Int) < (s.n : Int)) = true → ∃ a : Addr, s.b = some a ∧ (0 : Int) ≤ (y : Int) ∧ (y : Int) < (s.n : Int) ∧ (mayw H (a.add ((y : Int).toNat * k)) k 0 ∧ ∀ H', H' = sets H (a.add ((y : Int).toNat * k)) (mk y) 0 → X (IntKind.i64.wrap ((y : Int) + 1)) H')) ∧ (decide ((y : Int) < (s.n : Int)) = false → C H)) → X (y : Int) H) :
    ∀ (d n : Nat) (pre sp : List Value) (H : Hp), n0 ≤ n → n + d = c → pre.length = n * k → sp.length = d * k → Row H b t (pre ++ sp) → (∀ H', Row H' b t (pre ++ mks mk n d) → Kp (fun x => x = b) H H' → C H') → X (n : Int) H := by
  intro d
  induction d with
  | zero =>
    intro n pre sp H h0 hd hp hs hr hC
    refine hX _ _ h0 ⟨fun h => absurd (of_decide_eq_true h) (by omega), fun _ => hC H ?_ (Kp.refl _ _)⟩
    rw [Nat.zero_mul] at hs
    rw [List.length_eq_zero_iff.1 hs] at hr
    exact hr
  | succ d ih =>
    intro n pre sp H h0 hd hp hs hr hC
    have hn : ((n : Nat) : Int).toNat = n := by omega
    have hl : (pre ++ sp).length = (n + (d + 1)) * k := by rw [List.length_append, hp, hs, ← Nat.add_mul]
    have hm : n * k + k ≤ (n + (d + 1)) * k := by rw [← Nat.succ_mul]; exact Nat.mul_le_mul_right _ (by omega)
    refine hX _ _ h0 ⟨fun _ => ⟨⟨b, 0, none⟩, hsb, by omega, by omega, ?_, fun H' e => ?_⟩, fun h => absurd (of_decide_eq_false h) (by omega)⟩
    · rw [hn, add_mk]
      exact hr.mayw (by omega)
    · rw [hn, add_mk, Nat.zero_add] at e
      have r' := hr.sets' e (by rw [hk]; omega)
      rw [← hp, over_mid, hk] at r'
      rw [wr (by omega) (by omega), show ((n : Int) + 1) = ((n + 1 : Nat) : Int) by omega]
      refine ih (n + 1) (pre ++ mk n) (sp.drop k) H' (by omega) (by omega) (by rw [List.length_append, hp, hk, Nat.succ_mul]) (by rw [List.length_drop, hs, Nat.succ_mul]; omega) r' fun H'' r'' k'' => hC H'' ?_ (((Kp.refl (fun x => x = b) H).sets' e (.inl rfl)).trans k'' fun _ h => .inl h)
      rw [List.append_assoc] at r''
      exact r''
/-- the same, of cells. -/
theorem fill1 {n0 : Nat} {t b c : Nat} (mk : Nat → Value) {X : Int → Hp → Prop} {C : Hp → Prop} {s : Sl} (hsb : s.b = some ⟨b, 0, none⟩) (hsn : s.n = c) (hc : c ≤ 9223372036854775807)
    (hX : ∀ (y : Nat) (H : Hp), n0 ≤ y → ((decide ((y : Int) < (s.n : Int)) = true → ∃ a : Addr, s.b = some a ∧ (0 : Int) ≤ (y : Int) ∧ (y : Int) < (s.n : Int) ∧ ((cell H (a.add ((y : Int).toNat * 1))).isSome = true ∧ frz H (a.add ((y : Int).toNat * 1)) = false ∧ ∀ H', H' = setc H (a.add ((y : Int).toNat * 1)) (mk y) → X (IntKind.i64.wrap ((y : Int) + 1)) H')) ∧ (decide ((y : Int) < (s.n : Int)) = false → C H)) → X (y : Int) H) :
    ∀ (d n : Nat) (pre sp : List Value) (H : Hp), n0 ≤ n → n + d = c → pre.length = n → sp.length = d → Row H b t (pre ++ sp) → (∀ H', Row H' b t (pre ++ mks (fun i => [mk i]) n d) → Kp (fun x => x = b) H H' → C H') → X (n : Int) H := by
  intro d
  induction d with
  | zero =>
    intro n pre sp H h0 hd hp hs hr hC
    refine hX _ _ h0 ⟨fun h => absurd (of_decide_eq_true h) (by omega), fun _ => hC H ?_ (Kp.refl _ _)⟩
    rw [List.length_eq_zero_iff.1 hs] at hr
    exact hr
  | succ d ih =>
    intro n pre sp H h0 hd hp hs hr hC
    have hn : ((n : Nat) : Int).toNat * 1 = n := by omega
    have hl : (pre ++ sp).length = n + (d + 1) := by rw [List.length_append, hp, hs]
    refine hX _ _ h0 ⟨fun _ => ⟨⟨b, 0, none⟩, hsb, by omega, by omega, ?_⟩, fun h => absurd (of_decide_eq_false h) (by omega)⟩
    rw [hn, add_mk, Nat.zero_add]
    refine ⟨hr.some (by omega), hr.frz _, fun H' e => ?_⟩
    have r' := hr.set' e
    have es : (pre ++ sp).set n (mk n) = pre ++ [mk n] ++ sp.drop 1 := by
      match sp, hs with
      | v :: sp, _ => rw [← hp, List.set_append_right _ _ (Nat.le_refl _), Nat.sub_self, List.set_cons_zero, List.append_assoc]; rfl
    rw [es] at r'
    rw [wr (by omega) (by omega), show ((n : Int) + 1) = ((n + 1 : Nat) : Int) by omega]
    refine ih (n + 1) (pre ++ [mk n]) (sp.drop 1) H' (by omega) (by omega) (by rw [List.length_append, hp]; rfl) (by rw [List.length_drop, hs]; omega) r' fun H'' r'' k'' => hC H'' ?_ (((Kp.refl (fun x => x = b) H).set' e (.inl rfl)).trans k'' fun _ h => .inl h)
    rw [List.append_assoc] at r''
    exact r''

/-! ## what stays, by the types of what is written -/
def KT (T : List Nat) (H H' : Hp) : Prop := Kp (fun b => ∃ t l, t ∈ T ∧ Row H b t l) H H'
section
variable {T T' : List Nat} {H H' H'' : Hp}
theorem KT.of {S : Nat → Prop} (k : Kp S H H') (hS : ∀ b, S b → ∃ t l, t ∈ T ∧ Row H b t l) : KT T H H' := k.mono fun b _ h => hS b h
theorem KT.no (k : Kp No H H') : KT T H H' := k.mono fun _ _ h => h.elim
theorem KT.refl (T : List Nat) (H : Hp) : KT T H H := Kp.refl _ _
theorem KT.size (k : KT T H H') : H.size ≤ H'.size := Kp.size k
theorem KT.row {b t : Nat} {l : List Value} (h : KT T H H') (r : Row H b t l) (ht : t ∉ T) : Row H' b t l :=
  Kp.row h r fun ⟨t', l', h1, h2⟩ => ht ((r.inj h2).2 ▸ h1)
theorem KT.trans (h : KT T H H') (k : KT T H' H'') : KT T H H'' := by
  refine Kp.trans h k fun b ⟨t, l, h1, h2⟩ => ?_
  by_cases hb : b < H.size
  · by_cases hu : ∃ t l, t ∈ T ∧ Row H b t l
    · exact .inl hu
    · exact .inl ⟨t, l, h1, (h.blk b hb hu).symm.trans h2⟩
  · exact .inr (by omega)
theorem KT.mono (h : KT T H H') (hT : ∀ t, t ∈ T → t ∈ T') : KT T' H H' := Kp.mono h fun b _ ⟨t, l, h1, h2⟩ => ⟨t, l, hT t h1, h2⟩
theorem KT.own {t k : Nat} {s : Sl} {l : List Value} (h : KT T H H') (o : Own H t k s l) (ht : t ∉ T) : Own H' t k s l := by
  rcases o with ⟨rfl, rfl⟩ | ⟨b, sp, h1, h2, h3⟩
  · exact .inl ⟨rfl, rfl⟩
  · exact .inr ⟨b, sp, h1, h.row h2 ht, h3⟩
theorem KT.lst {α : Type} {t k : Nat} {F : Fmt α t k} {s : Sl} {L : List α} (h : KT T H H') (o : Lst F H s L) (ht : t ∉ T) : Lst F H' s L := ⟨h.own o.own ht⟩
end

/-! ## pools -/
def Slot (H : Hp) (t k : Nat) (s : Sl) : Prop := ∃ l, Own H t k s l
section
variable {H H' : Hp} {t k pt : Nat} {s : Sl}
theorem Slot.kp {S : Nat → Prop} (h : Slot H t k s) (hk : Kp S H H') (hs : ∀ b, s.at b → ¬ S b) : Slot H' t k s := h.imp fun _ o => o.kp hk hs
theorem Slot.row (h : Slot H t k s) {b : Nat} (hb : s.at b) : ∃ l, Row H b t l := h.elim fun _ o => (o.at_row hb).elim fun sp x => ⟨_, x.1⟩
theorem Slot.nil (H : Hp) (t k : Nat) : Slot H t k Sl.nil := ⟨[], Own.nil _ _ _⟩
theorem cut0 {α : Type} {F : Fmt α t k} (h : Slot H t k s) : Lst F H (Sl.cut s k 0 0 s.c) [] ∧ ∀ b, (Sl.cut s k 0 0 s.c).at b → s.at b := by
  obtain ⟨l, ⟨rfl, rfl⟩ | ⟨b, sp, h1, h2, h3, h4, h5, h6⟩⟩ := h
  · exact ⟨⟨.inl ⟨rfl, rfl⟩⟩, fun b h => h⟩
  · obtain ⟨sb, n, c⟩ := s
    simp only at h1 h2 h3 h4 h5 h6
    subst h1
    have e : Sl.cut ⟨some ⟨b, 0, none⟩, n, c⟩ k 0 0 c = ⟨some ⟨b, 0, none⟩, 0, c⟩ := by
      unfold Sl.cut
      by_cases hc : c = 0
      · rw [if_pos hc]; rfl
      · rw [if_neg hc, Nat.zero_mul]; rfl
    rw [e]
    exact ⟨Lst.empty h2 h4 h6, fun b' hb => hb⟩
theorem cutAll {α : Type} {F : Fmt α t k} {r : Sl} {L : List α} (h : Lst F H r L) (hl : 0 < L.length) : ∃ b sp, Sl.cut r k 0 r.c r.c = Sl.mk (some ⟨b, 0, none⟩) r.c r.c ∧ r.at b ∧ Row H b t (L.flatMap F.f ++ sp) ∧ (L.flatMap F.f ++ sp).length = r.c * k ∧ L.length ≤ r.c ∧ r.c ≤ 9223372036854775807 := by
  have hn := h.n
  obtain ⟨b, hb⟩ := h.some hl
  rcases h.own with ⟨h0, _⟩ | ⟨b', sp, h1, h2, h3, h4, h5, h6⟩
  · rw [h0] at hb; cases hb
  · refine ⟨b', sp, ?_, h1, h2, h4, by omega, h6⟩
    obtain ⟨sb, n, c⟩ := r
    simp only at h1 hn h5
    subst h1
    unfold Sl.cut
    rw [if_neg (by show ¬ c = 0; omega), Nat.zero_mul]
    rfl
theorem app1 {α : Type} {F : Fmt α t k} {src : Sl} {L : List α} {bytes : Nat} {z : Array Value} {K1 : Sl → Hp → Prop} (h : Slot H t k s) (hx : RdL F H src L) (hz : z.size = k) (hb : L.length * bytes ≤ 140737488355328) (h63 : L.length ≤ 9223372036854775807)
    (hK : ∀ r H', Lst F H' r L → Kp s.at H H' → (∀ b, r.at b → s.at b ∨ H.size ≤ b) → K1 r H') : AppendF H t k bytes z (Sl.cut s k 0 ((0 : Int).toNat) s.c) src.b src.n K1 := by
  obtain ⟨h1, h2⟩ := cut0 (F := F) h
  refine Lst.append h1 hx hz (by simpa using hb) (by simpa using h63) fun r H' hr hk ha => hK r H' (by simpa using hr) (hk.mono fun b _ => h2 b) fun b hb => (ha b hb).elim (fun h => .inl (h2 b h)) fun h => .inr (Nat.le_of_eq h.symm)
theorem appN {α : Type} {F : Fmt α t k} {r : Sl} {L : List α} {M : List α} {bytes n : Nat} {z : Array Value} {K2 : Sl → Hp → Prop} (h : Lst F H r L) (hz : z.size = k) (hn : n = M.length) (hM : 0 < M.length) (hb : (L.length + M.length) * bytes ≤ 140737488355328) (h63 : L.length + M.length ≤ 9223372036854775807)
    (hK : ∀ b c sp H62, L.length < c → c ≤ 9223372036854775807 → Row H62 b t (L.flatMap F.f ++ sp) → (L.flatMap F.f ++ sp).length = c * k → Kp r.at H H62 → (r.at b ∨ H.size ≤ b) → K2 (Sl.mk (some ⟨b, 0, none⟩) c c) H62) :
    ∀ H60 : Hp, H60 = Array.push H (.cells (M.flatMap F.f).toArray t) → AppendF H60 t k bytes z r (Sl.mk (some ⟨H.size, 0, none⟩) n n).b (Sl.mk (some ⟨H.size, 0, none⟩) n n).n
      (fun (r64 : Sl) (H62 : Hp) => (0 : Int) ≤ ((r64).c : Int) ∧ 0 ≤ ((r64).c : Int).toNat ∧ ((r64).c : Int).toNat ≤ (r64).c ∧ (r64).c ≤ (r64).c ∧ (K2 (Sl.cut r64 k 0 (((r64).c : Int).toNat) ((r64).c)) H62)) := by
  intro H60 e60
  have k60 : Kp r.at H H60 := (Kp.refl _ _).push' e60
  have s60 := size_push' e60
  have hbox : Row H60 H.size t (M.flatMap F.f) := Row.new' e60
  have h60 : Lst F H60 r L := h.kp ((Kp.refl (fun _ => False) H).push' e60) fun _ _ => id
  refine Lst.append h60 (Row.rdl (F := F) (L := M) hbox hn n) hz hb h63 fun r64 H62 hr hk ha => ?_
  obtain ⟨b, sp, e, hat, hrow, hlen, hle, hmx⟩ := cutAll hr (by rw [List.length_append]; omega)
  rw [List.length_append] at hle
  refine ⟨by omega, by omega, by omega, Nat.le_refl _, ?_⟩
  rw [show ((r64.c : Int)).toNat = r64.c from by omega, e]
  rw [List.flatMap_append, List.append_assoc] at hrow hlen
  refine hK b r64.c _ H62 (by omega) hmx hrow hlen (k60.trans hk fun b h => .inl h) ?_
  rcases ha b hat with h | h
  · exact .inl h
  · exact .inr (by omega)
theorem cutN (b c k n : Nat) : Sl.cut (Sl.mk (some ⟨b, 0, none⟩) c c) k 0 n c = Sl.mk (some ⟨b, 0, none⟩) n c := by
  unfold Sl.cut
  by_cases hc : c = 0
  · rw [if_pos hc]; rfl
  · rw [if_neg hc, Nat.zero_mul]; rfl
theorem Slot.same {b : Nat} {l l' : List Value} (h : Slot H t k s) (r : Row H b t l) (r' : Row H' b t l') (hl : l'.length = l.length) (kk : Kp (fun x => x = b) H H') : Slot H' t k s := by
  obtain ⟨l0, o⟩ := h
  rcases o with ⟨rfl, rfl⟩ | ⟨b', sp, g1, g2, g3, g4, g5⟩
  · exact Slot.nil _ _ _
  · by_cases e : b' = b
    · subst e
      have e1 := (g2.inj r).1
      refine ⟨l'.take (s.n * k), .inr ⟨b', l'.drop (s.n * k), g1, by rw [List.take_append_drop]; exact r', ?_, by rw [List.take_append_drop, hl, ← e1]; exact g4, g5⟩⟩
      rw [List.length_take, hl, ← e1, g4]
      exact Nat.min_eq_left (Nat.mul_le_mul_right _ g5.1)
    · exact ⟨l0, .inr ⟨b', sp, g1, kk.row g2 e, g3, g4, g5⟩⟩
/-- A place of a slice is written. -/
theorem Slot.put (h : Slot H t k s) {j : Nat} (hj : j < s.n) {row : List Value} (hrow : row.length = k) : ∃ b l, s.b = some ⟨b, 0, none⟩ ∧ Row H b t l ∧ mayw H ((⟨b, 0, none⟩ : Addr).add (j * k)) k 0 ∧
    ∀ H', H' = sets H ((⟨b, 0, none⟩ : Addr).add (j * k)) row 0 → ∃ l', Row H' b t l' ∧ l'.length = l.length ∧ Kp (fun x => x = b) H H' := by
  obtain ⟨l0, o⟩ := h
  rcases o with ⟨rfl, rfl⟩ | ⟨b, sp, g1, g2, g3, g4, g5, g6⟩
  · exact absurd hj (Nat.not_lt_zero _)
  · have hm : j * k + k ≤ s.c * k := by rw [← Nat.succ_mul]; exact Nat.mul_le_mul_right _ (by omega)
    refine ⟨b, _, g1, g2, ?_, fun H' e => ?_⟩
    · rw [add_mk, Nat.zero_add]; exact g2.mayw (by omega)
    · rw [add_mk, Nat.zero_add] at e
      exact ⟨_, g2.sets' e (by omega), length_over _ _ _ (by omega), (Kp.refl (fun x => x = b) H).sets' e (.inl rfl)⟩
end
theorem sl_at {b b' : Nat} {n c : Nat} (h : (Sl.mk (some ⟨b, 0, none⟩) n c).at b') : b' = b := by
  have h : some (⟨b, 0, none⟩ : Addr) = some ⟨b', 0, none⟩ := h
  injection h with h; injection h with h; exact h.symm
theorem Row.slot {H : Hp} {b t k c : Nat} {l : List Value} (r : Row H b t l) (hl : l.length = c * k) (hc : c ≤ 9223372036854775807) : Slot H t k (Sl.mk (Option.some ⟨b, 0, none⟩) c c) :=
  ⟨l, .inr ⟨b, [], rfl, by rw [List.append_nil]; exact r, hl, by rw [List.append_nil]; exact hl, Nat.le_refl _, hc⟩⟩

end Go.Hw
