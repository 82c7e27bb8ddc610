/- Pools of slices that are filled anew. The hand: values, an event; are they as they were? Own work of this session. -/
import Derived.Test.YtfkhglkcplnppaaDoorR9
set_option linter.unusedVariables false
namespace Go.Hw
open Go

def slP (t : Nat) : Fmt Sl t 1 := ⟨fun x => [Sl.v x], fun _ => rfl, by intro x v hv; simp at hv; rcases hv with rfl; rfl, by decide⟩
def mks (mk : Nat → List Value) : Nat → Nat → List Value
 | _, 0 => []
 | n, d + 1 => mk n ++ mks mk (n + 1) d
theorem mks_len {mk : Nat → List Value} {k : Nat} (hk : ∀ i, (mk i).length = k) : ∀ (d n : Nat), (mks mk n d).length = d * k
 | 0, _ => by simp [mks]
 | d + 1, n => by rw [mks, List.length_append, hk, mks_len hk d, Nat.succ_mul]; omega
theorem mks_get {mk : Nat → List Value} {k : Nat} (hk : ∀ i, (mk i).length = k) : ∀ (d n i : Nat), i < d → ((mks mk n d).drop (i * k)).take k = mk (n + i)
 | 0, _, _, h => by omega
 | d + 1, n, 0, _ => by rw [mks, Nat.zero_mul, List.drop_zero, ← hk n, List.take_left]; rfl
 | d + 1, n, i + 1, h => by
  have e : (i + 1) * k = (mk n).length + i * k := by rw [hk, Nat.succ_mul]; omega
  rw [mks, e, List.drop_append, List.drop_eq_nil_of_le (by omega), Nat.add_sub_cancel_left, List.nil_append, mks_get hk d (n + 1) i (by omega)]
  rw [show n + 1 + i = n + (i + 1) from by omega]
theorem over_mid (pre sp v : List Value) : over (pre ++ sp) pre.length v = pre ++ v ++ sp.drop v.length := by
 unfold over
 rw [List.take_left, List.drop_append, List.drop_eq_nil_of_le (by omega), Nat.add_sub_cancel_left, List.nil_append]
theorem set_same {l : List Value} {i : Nat} {v : Value} (h : l[i]? = some v) : l.set i v = l := by
 apply List.ext_getElem?
 intro j
 rw [List.getElem?_set]
 by_cases e : i = j
 ·subst e
  rw [if_pos rfl, h, if_pos (List.getElem?_eq_some_iff.1 h).1]
 ·rw [if_neg e]

theorem lk_lo {α : Type} {t k : Nat} (F : Fmt α t k) {L : List α} {R : List Value} {i : Nat} {x : α} (hx : L[i]? = some x) : ((L.flatMap F.f ++ R).drop (i * k)).take k = F.f x := by
 have hi : i < L.length := (List.getElem?_eq_some_iff.1 hx).1
 have hl := fl_len F.len L
 have hm : i * k + k ≤ L.length * k := by rw [← Nat.succ_mul]; exact Nat.mul_le_mul_right _ hi
 rw [List.drop_append_of_le_length (by omega), List.take_append_of_le_length (by rw [List.length_drop]; omega)]
 have := fl_get F hx
 rwa [F.len] at this
theorem lk_hi {α : Type} {t k : Nat} (F : Fmt α t k) {L : List α} {mk : Nat → List Value} (hk : ∀ i, (mk i).length = k) {d i : Nat} (h1 : L.length ≤ i) (h2 : i < L.length + d) : ((L.flatMap F.f ++ mks mk L.length d).drop (i * k)).take k = mk i := by
 have hl := fl_len F.len L
 have e : i * k = (L.flatMap F.f).length + (i - L.length) * k := by rw [hl, ← Nat.add_mul]; congr 1; omega
 rw [e, List.drop_append, List.drop_eq_nil_of_le (by omega), Nat.add_sub_cancel_left, List.nil_append, mks_get hk d _ _ (by omega)]
 rw [show L.length + (i - L.length) = i from by omega]

theorem fill {n0 : Nat} {k t b c : Nat} (mk : Nat → List Value) (hk : ∀ i, (mk i).length = k) {X : Int → Hp → Prop} {C : Hp → Prop} {s : Sl} (hsb : s.b = some ⟨b, 0, none⟩) (hsn : s.n = c) (hc : c ≤ 9223372036854775807)
  (hX : ∀ (y : Nat) (H : Hp), n0 ≤ y → ((decide ((y : Int) < (s.n : Int)) = true → ∃ a : Addr, s.b = some a ∧ (0 : Int) ≤ (y : Int) ∧ (y : Int) < (s.n : Int) ∧ (mayw H (a.add ((y : Int).toNat * k)) k 0 ∧ ∀ H', H' = sets H (a.add ((y : Int).toNat * k)) (mk y) 0 → X (IntKind.i64.wrap ((y : Int) + 1)) H')) ∧ (decide ((y : Int) < (s.n : Int)) = false → C H)) → X (y : Int) H) :
  ∀ (d n : Nat) (pre sp : List Value) (H : Hp), n0 ≤ n → n + d = c → pre.length = n * k → sp.length = d * k → Row H b t (pre ++ sp) → (∀ H', Row H' b t (pre ++ mks mk n d) → Kp (fun x => x = b) H H' → C H') → X (n : Int) H := by
 intro d
 induction d with
 | zero =>
  intro n pre sp H h0 hd hp hs hr hC
  refine hX _ _ h0 ⟨fun h => absurd (of_decide_eq_true h) (by omega), fun _ => hC H ?_ (Kp.refl _ _)⟩
  rw [Nat.zero_mul] at hs
  rw [List.length_eq_zero_iff.1 hs] at hr
  exact hr
 | succ d ih =>
  intro n pre sp H h0 hd hp hs hr hC
  have hn : ((n : Nat) : Int).toNat = n := by omega
  have hl : (pre ++ sp).length = (n + (d + 1)) * k := by rw [List.length_append, hp, hs, ← Nat.add_mul]
  have hm : n * k + k ≤ (n + (d + 1)) * k := by rw [← Nat.succ_mul]; exact Nat.mul_le_mul_right _ (by omega)
  refine hX _ _ h0 ⟨fun _ => ⟨⟨b, 0, none⟩, hsb, by omega, by omega, ?_, fun H' e => ?_⟩, fun h => absurd (of_decide_eq_false h) (by omega)⟩
  ·rw [hn, add_mk]
   exact hr.mayw (by omega)
  ·rw [hn, add_mk, Nat.zero_add] at e
   have r' := hr.sets' e (by rw [hk]; omega)
   rw [← hp, over_mid, hk] at r'
   rw [wr (by omega) (by omega), show ((n : Int) + 1) = ((n + 1 : Nat) : Int) by omega]
   refine ih (n + 1) (pre ++ mk n) (sp.drop k) H' (by omega) (by omega) (by rw [List.length_append, hp, hk, Nat.succ_mul]) (by rw [List.length_drop, hs, Nat.succ_mul]; omega) r' fun H'' r'' k'' => hC H'' ?_ (((Kp.refl (fun x => x = b) H).sets' e (.inl rfl)).trans k'' fun _ h => .inl h)
   rw [List.append_assoc] at r''
   exact r''
theorem fill1 {n0 : Nat} {t b c : Nat} (mk : Nat → Value) {X : Int → Hp → Prop} {C : Hp → Prop} {s : Sl} (hsb : s.b = some ⟨b, 0, none⟩) (hsn : s.n = c) (hc : c ≤ 9223372036854775807)
  (hX : ∀ (y : Nat) (H : Hp), n0 ≤ y → ((decide ((y : Int) < (s.n : Int)) = true → ∃ a : Addr, s.b = some a ∧ (0 : Int) ≤ (y : Int) ∧ (y : Int) < (s.n : Int) ∧ ((cell H (a.add ((y : Int).toNat * 1))).isSome = true ∧ frz H (a.add ((y : Int).toNat * 1)) = false ∧ ∀ H', H' = setc H (a.add ((y : Int).toNat * 1)) (mk y) → X (IntKind.i64.wrap ((y : Int) + 1)) H')) ∧ (decide ((y : Int) < (s.n : Int)) = false → C H)) → X (y : Int) H) :
  ∀ (d n : Nat) (pre sp : List Value) (H : Hp), n0 ≤ n → n + d = c → pre.length = n → sp.length = d → Row H b t (pre ++ sp) → (∀ H', Row H' b t (pre ++ mks (fun i => [mk i]) n d) → Kp (fun x => x = b) H H' → C H') → X (n : Int) H := by
 intro d
 induction d with
 | zero =>
  intro n pre sp H h0 hd hp hs hr hC
  refine hX _ _ h0 ⟨fun h => absurd (of_decide_eq_true h) (by omega), fun _ => hC H ?_ (Kp.refl _ _)⟩
  rw [List.length_eq_zero_iff.1 hs] at hr
  exact hr
 | succ d ih =>
  intro n pre sp H h0 hd hp hs hr hC
  have hn : ((n : Nat) : Int).toNat * 1 = n := by omega
  have hl : (pre ++ sp).length = n + (d + 1) := by rw [List.length_append, hp, hs]
  refine hX _ _ h0 ⟨fun _ => ⟨⟨b, 0, none⟩, hsb, by omega, by omega, ?_⟩, fun h => absurd (of_decide_eq_false h) (by omega)⟩
  rw [hn, add_mk, Nat.zero_add]
  refine ⟨hr.some (by omega), hr.frz _, fun H' e => ?_⟩
  have r' := hr.set' e
  have es : (pre ++ sp).set n (mk n) = pre ++ [mk n] ++ sp.drop 1 := by
   match sp, hs with
   | v :: sp, _ => rw [← hp, List.set_append_right _ _ (Nat.le_refl _), Nat.sub_self, List.set_cons_zero, List.append_assoc]; rfl
  rw [es] at r'
  rw [wr (by omega) (by omega), show ((n : Int) + 1) = ((n + 1 : Nat) : Int) by omega]
  refine ih (n + 1) (pre ++ [mk n]) (sp.drop 1) H' (by omega) (by omega) (by rw [List.length_append, hp]; rfl) (by rw [List.length_drop, hs]; omega) r' fun H'' r'' k'' => hC H'' ?_ (((Kp.refl (fun x => x = b) H).set' e (.inl rfl)).trans k'' fun _ h => .inl h)
  rw [List.append_assoc] at r''
  exact r''

def KT (T : List Nat) (H H' : Hp) : Prop := Kp (fun b => ∃ t l, t ∈ T ∧ Row H b t l) H H'
section
variable {T T' : List Nat} {H H' H'' : Hp}
theorem KT.of {S : Nat → Prop} (k : Kp S H H') (hS : ∀ b, S b → ∃ t l, t ∈ T ∧ Row H b t l) : KT T H H' := k.mono fun b _ h => hS b h
theorem KT.no (k : Kp No H H') : KT T H H' := k.mono fun _ _ h => h.elim
theorem KT.refl (T : List Nat) (H : Hp) : KT T H H := Kp.refl _ _
theorem KT.size (k : KT T H H') : H.size ≤ H'.size := Kp.size k
theorem KT.row {b t : Nat} {l : List Value} (h : KT T H H') (r : Row H b t l) (ht : t ∉ T) : Row H' b t l :=
 Kp.row h r fun ⟨t', l', h1, h2⟩ => ht ((r.inj h2).2 ▸ h1)
theorem KT.trans (h : KT T H H') (k : KT T H' H'') : KT T H H'' := by
 refine Kp.trans h k fun b ⟨t, l, h1, h2⟩ => ?_
 by_cases hb : b < H.size
 ·by_cases hu : ∃ t l, t ∈ T ∧ Row H b t l
  ·exact .inl hu
  ·exact .inl ⟨t, l, h1, (h.blk b hb hu).symm.trans h2⟩
 ·exact .inr (by omega)
theorem KT.mono (h : KT T H H') (hT : ∀ t, t ∈ T → t ∈ T') : KT T' H H' := Kp.mono h fun b _ ⟨t, l, h1, h2⟩ => ⟨t, l, hT t h1, h2⟩
theorem KT.own {t k : Nat} {s : Sl} {l : List Value} (h : KT T H H') (o : Own H t k s l) (ht : t ∉ T) : Own H' t k s l := by
 rcases o with ⟨rfl, rfl⟩ | ⟨b, sp, h1, h2, h3⟩
 ·exact .inl ⟨rfl, rfl⟩
 ·exact .inr ⟨b, sp, h1, h.row h2 ht, h3⟩
theorem KT.lst {α : Type} {t k : Nat} {F : Fmt α t k} {s : Sl} {L : List α} (h : KT T H H') (o : Lst F H s L) (ht : t ∉ T) : Lst F H' s L := ⟨h.own o.own ht⟩
end

def Slot (H : Hp) (t k : Nat) (s : Sl) : Prop := ∃ l, Own H t k s l
section
variable {H H' : Hp} {t k pt : Nat} {s : Sl}
theorem Slot.kp {S : Nat → Prop} (h : Slot H t k s) (hk : Kp S H H') (hs : ∀ b, s.at b → ¬ S b) : Slot H' t k s := h.imp fun _ o => o.kp hk hs
theorem Slot.row (h : Slot H t k s) {b : Nat} (hb : s.at b) : ∃ l, Row H b t l := h.elim fun _ o => (o.at_row hb).elim fun sp x => ⟨_, x.1⟩
theorem Slot.nil (H : Hp) (t k : Nat) : Slot H t k Sl.nil := ⟨[], Own.nil _ _ _⟩
theorem cut0 {α : Type} {F : Fmt α t k} (h : Slot H t k s) : Lst F H (Sl.cut s k 0 0 s.c) [] ∧ ∀ b, (Sl.cut s k 0 0 s.c).at b → s.at b := by
 obtain ⟨l, ⟨rfl, rfl⟩ | ⟨b, sp, h1, h2, h3, h4, h5, h6⟩⟩ := h
 ·exact ⟨⟨.inl ⟨rfl, rfl⟩⟩, fun b h => h⟩
 ·obtain ⟨sb, n, c⟩ := s
  simp only at h1 h2 h3 h4 h5 h6
  subst h1
  have e : Sl.cut ⟨some ⟨b, 0, none⟩, n, c⟩ k 0 0 c = ⟨some ⟨b, 0, none⟩, 0, c⟩ := by
   unfold Sl.cut
   by_cases hc : c = 0
   ·rw [if_pos hc]; rfl
   ·rw [if_neg hc, Nat.zero_mul]; rfl
  rw [e]
  exact ⟨Lst.empty h2 h4 h6, fun b' hb => hb⟩
theorem cutAll {α : Type} {F : Fmt α t k} {r : Sl} {L : List α} (h : Lst F H r L) (hl : 0 < L.length) : ∃ b sp, Sl.cut r k 0 r.c r.c = Sl.mk (some ⟨b, 0, none⟩) r.c r.c ∧ r.at b ∧ Row H b t (L.flatMap F.f ++ sp) ∧ (L.flatMap F.f ++ sp).length = r.c * k ∧ L.length ≤ r.c ∧ r.c ≤ 9223372036854775807 := by
 have hn := h.n
 obtain ⟨b, hb⟩ := h.some hl
 rcases h.own with ⟨h0, _⟩ | ⟨b', sp, h1, h2, h3, h4, h5, h6⟩
 ·rw [h0] at hb; cases hb
 ·refine ⟨b', sp, ?_, h1, h2, h4, by omega, h6⟩
  obtain ⟨sb, n, c⟩ := r
  simp only at h1 hn h5
  subst h1
  unfold Sl.cut
  rw [if_neg (by show ¬ c = 0; omega), Nat.zero_mul]
  rfl
theorem app1 {α : Type} {F : Fmt α t k} {src : Sl} {L : List α} {bytes : Nat} {z : Array Value} {K1 : Sl → Hp → Prop} (h : Slot H t k s) (hx : RdL F H src L) (hz : z.size = k) (hb : L.length * bytes ≤ 140737488355328) (h63 : L.length ≤ 9223372036854775807)
  (hK : ∀ r H', Lst F H' r L → Kp s.at H H' → (∀ b, r.at b → s.at b ∨ H.size ≤ b) → K1 r H') : AppendF H t k bytes z (Sl.cut s k 0 ((0 : Int).toNat) s.c) src.b src.n K1 := by
 obtain ⟨h1, h2⟩ := cut0 (F := F) h
 refine Lst.append h1 hx hz (by simpa using hb) (by simpa using h63) fun r H' hr hk ha => hK r H' (by simpa using hr) (hk.mono fun b _ => h2 b) fun b hb => (ha b hb).elim (fun h => .inl (h2 b h)) fun h => .inr (Nat.le_of_eq h.symm)
theorem app0 {α : Type} {F : Fmt α t k} {r : Sl} {L : List α} {z : α} {bytes : Nat} {K2 : Sl → Hp → Prop} (h : Lst F H r L) (hb : (L.length + 1) * bytes ≤ 140737488355328) (h63 : L.length + 1 ≤ 9223372036854775807)
  (hK : ∀ b c sp H62, L.length < c → c ≤ 9223372036854775807 → Row H62 b t (L.flatMap F.f ++ sp) → (L.flatMap F.f ++ sp).length = c * k → Kp r.at H H62 → (r.at b ∨ H.size ≤ b) → K2 (Sl.mk (some ⟨b, 0, none⟩) c c) H62) :
  ∀ H60 : Hp, H60 = Array.push H (.cells (F.f z).toArray t) → AppendF H60 t k bytes (F.f z).toArray r (Sl.mk (some ⟨H.size, 0, none⟩) 1 1).b (Sl.mk (some ⟨H.size, 0, none⟩) 1 1).n
   (fun (r64 : Sl) (H62 : Hp) => (0 : Int) ≤ ((r64).c : Int) ∧ 0 ≤ ((r64).c : Int).toNat ∧ ((r64).c : Int).toNat ≤ (r64).c ∧ (r64).c ≤ (r64).c ∧ (K2 (Sl.cut r64 k 0 (((r64).c : Int).toNat) ((r64).c)) H62)) := by
 intro H60 e60
 have k60 : Kp r.at H H60 := (Kp.refl _ _).push' e60
 have s60 := size_push' e60
 have hbox : Row H60 H.size t (F.f z) := Row.new' e60
 have h60 : Lst F H60 r L := h.kp ((Kp.refl No H).push' e60) fun _ _ => id
 refine Lst.append1 h60 hbox (by simp [F.len]) hb h63 fun r64 H62 hr hk ha => ?_
 obtain ⟨b, sp, e, hat, hrow, hlen, hle, hmx⟩ := cutAll hr (by simp)
 rw [List.length_append] at hle
 simp only [List.length_cons, List.length_nil] at hle
 refine ⟨by omega, by omega, by omega, Nat.le_refl _, ?_⟩
 rw [show ((r64.c : Int)).toNat = r64.c from by omega, e]
 rw [List.flatMap_append, List.append_assoc] at hrow hlen
 refine hK b r64.c _ H62 (by omega) hmx hrow hlen (k60.trans hk fun b h => .inl h) ?_
 rcases ha b hat with h | h
 ·exact .inl h
 ·exact .inr (by omega)
theorem rdAt {P : Sl} {S : List Sl} {x : Nat} (hP : RdL (slP pt) H P S) (hx : S[x]? = some s) : ∃ a : Addr, P.b = some a ∧ (0 : Int) ≤ (x : Int) ∧ (x : Int) < (P.n : Int) ∧ cell H (a.add ((x : Int).toNat * 1)) = some (Sl.v s) := by
 obtain ⟨a, ha, hn, hc⟩ := hP.get hx
 refine ⟨a, ha, by omega, by omega, ?_⟩
 rw [show ((x : Int)).toNat = x from by omega]
 have := hc.1
 rwa [add_add, Nat.add_zero] at this
theorem store {P : Sl} {S : List Sl} {x : Nat} (hP : Lst (slP pt) H P S) (hx : x < S.length) (new : Sl) : ∃ a : Addr, P.b = some a ∧ (0 : Int) ≤ (x : Int) ∧ (x : Int) < (P.n : Int) ∧ ((cell H (a.add ((x : Int).toNat * 1))).isSome = true ∧ frz H (a.add ((x : Int).toNat * 1)) = false ∧
  ∀ H', H' = setc H (a.add ((x : Int).toNat * 1)) (Sl.v new) → Lst (slP pt) H' P (S.set x new) ∧ Kp P.at H H') := by
 obtain ⟨a, ha, hat, hn, h1, h2, h3⟩ := hP.set1 (c := 0) (x' := new) (v := Sl.v new) (List.getElem?_eq_getElem hx) (by decide) rfl
 rw [add_add, Nat.add_zero] at h1 h2 h3
 refine ⟨a, ha, by omega, by omega, ?_⟩
 rw [show ((x : Int)).toNat = x from by omega]
 exact ⟨h1, h2, h3⟩
end
structure Pool (pt t k : Nat) (H : Hp) (P : Sl) (S : List Sl) : Prop where
 lst : Lst (slP pt) H P S
 own : ∀ (i : Nat) (s : Sl), S[i]? = some s → Slot H t k s
 dis : ∀ (i j : Nat) (s s' : Sl) (b : Nat), S[i]? = some s → S[j]? = some s' → s.at b → s'.at b → i = j
def Fr1 (hb : Nat) (P : Sl) (S : List Sl) (x b : Nat) : Prop := b = hb ∨ P.at b ∨ ∃ s, S[x]? = some s ∧ s.at b
def Fr (hb : Nat) (P : Sl) (S : List Sl) (x b : Nat) : Prop := b = hb ∨ P.at b ∨ ∃ i s, x ≤ i ∧ S[i]? = some s ∧ s.at b
theorem Fr1.fr {hb : Nat} {P : Sl} {S : List Sl} {x b : Nat} : Fr1 hb P S x b → Fr hb P S x b
 | .inl h => .inl h
 | .inr (.inl h) => .inr (.inl h)
 | .inr (.inr ⟨s, h1, h2⟩) => .inr (.inr ⟨x, s, Nat.le_refl _, h1, h2⟩)
theorem Fr.le {hb : Nat} {P : Sl} {S : List Sl} {x y b : Nat} (hxy : x ≤ y) : Fr hb P S y b → Fr hb P S x b
 | .inl h => .inl h
 | .inr (.inl h) => .inr (.inl h)
 | .inr (.inr ⟨i, s, h0, h1, h2⟩) => .inr (.inr ⟨i, s, by omega, h1, h2⟩)
section
variable {T : List Nat} {H H' : Hp} {t k pt hb x : Nat} {P P' : Sl} {S S' : List Sl}
theorem KT.pool (h : KT T H H') (p : Pool pt t k H P S) (hpt : pt ∉ T) (ht : t ∉ T) : Pool pt t k H' P S :=
 ⟨h.lst p.lst hpt, fun i s hs => (p.own i s hs).imp fun _ o => h.own o ht, p.dis⟩
theorem Pool.typ (p : Pool pt t k H P S) {R : List Value} (hr : Row H hb 32 R) {b : Nat} (h : Fr hb P S x b) : ∃ t' l, t' ∈ [32, pt, t] ∧ Row H b t' l := by
 rcases h with rfl | h | ⟨i, s, _, h1, h2⟩
 ·exact ⟨32, R, by simp, hr⟩
 ·obtain ⟨sp, h⟩ := p.lst.row h; exact ⟨pt, _, by simp, h⟩
 ·obtain ⟨l, h⟩ := (p.own i s h1).row h2; exact ⟨t, l, by simp, h⟩
theorem Pool.lt (p : Pool pt t k H P S) {R : List Value} (hr : Row H hb 32 R) {b : Nat} (h : Fr hb P S x b) : b < H.size := by
 obtain ⟨_, _, _, h⟩ := p.typ hr h; exact h.lt
def Grown (S S' : List Sl) (x : Nat) : Prop := (S' = S ∧ x < S.length) ∨ (S' = S ++ [Sl.nil] ∧ x = S.length)
theorem Grown.lt (h : Grown S S' x) : x < S'.length := by
 rcases h with ⟨rfl, h⟩ | ⟨rfl, h⟩
 ·exact h
 ·rw [List.length_append]; simp; omega
theorem Grown.old (h : Grown S S' x) {i : Nat} {s : Sl} (hi : i ≠ x) (hs : S'[i]? = some s) : S[i]? = some s := by
 rcases h with ⟨rfl, h⟩ | ⟨rfl, h⟩
 ·exact hs
 ·have := (List.getElem?_eq_some_iff.1 hs).1
  rw [List.length_append] at this
  simp only [List.length_cons, List.length_nil] at this
  rwa [List.getElem?_append_left (by omega)] at hs
theorem Grown.len (h : Grown S S' x) : S'.length ≤ max S.length (x + 1) := by
 rcases h with ⟨rfl, h⟩ | ⟨rfl, h⟩
 ·omega
 ·rw [List.length_append]; simp; omega
theorem Grown.ge (h : Grown S S' x) : S.length ≤ S'.length := by
 rcases h with ⟨rfl, h⟩ | ⟨rfl, h⟩
 ·omega
 ·rw [List.length_append]; simp
theorem Pool.upd {R : List Value} {b c : Nat} {l : List Value} (p : Pool pt t k H P S) (hr : Row H hb 32 R) (h32 : t ≠ 32) (hpt : pt ≠ t) (hg : Grown S S' x) (hl : Lst (slP pt) H' P' (S'.set x (Sl.mk (some ⟨b, 0, none⟩) c c)))
  (hrow : Row H' b t l) (hlen : l.length = c * k) (hc : c ≤ 9223372036854775807) {Z : Nat → Prop} (hk : Kp Z H H') (hZ : ∀ b, Z b → Fr1 hb P S x b ∨ ∃ t' l, t' ≠ t ∧ Row H b t' l) (hbs : (∃ s, S[x]? = some s ∧ s.at b) ∨ H.size ≤ b) (hP : ∀ b, P'.at b → P.at b ∨ H.size ≤ b) :
  Pool pt t k H' P' (S'.set x (Sl.mk (some ⟨b, 0, none⟩) c c)) ∧ (∀ b', Fr hb P' (S'.set x (Sl.mk (some ⟨b, 0, none⟩) c c)) (x + 1) b' → Fr hb P S (x + 1) b' ∨ H.size ≤ b') ∧ ¬ Fr hb P' (S'.set x (Sl.mk (some ⟨b, 0, none⟩) c c)) (x + 1) b ∧ ∀ b', Fr hb P' (S'.set x (Sl.mk (some ⟨b, 0, none⟩) c c)) 0 b' → Fr hb P S 0 b' ∨ H.size ≤ b' := by
 have old : ∀ {i : Nat} {s : Sl}, i ≠ x → (S'.set x (Sl.mk (some ⟨b, 0, none⟩) c c))[i]? = some s → S[i]? = some s := fun {i s} hi hs => by
  rw [List.getElem?_set_ne (fun e => hi e.symm)] at hs
  exact hg.old hi hs
 have at0 : (S'.set x (Sl.mk (some ⟨b, 0, none⟩) c c))[x]? = some (Sl.mk (some ⟨b, 0, none⟩) c c) := by rw [List.getElem?_set_self hg.lt]
 have nb : ∀ {i : Nat} {s : Sl}, i ≠ x → S[i]? = some s → ¬ s.at b := fun {i s} hi hs ha => by
  rcases hbs with ⟨s0, h1, h2⟩ | h
  ·exact hi (p.dis i x s s0 b hs h1 ha h2)
  ·obtain ⟨l, h'⟩ := (p.own i s hs).row ha
   have := h'.lt; omega
 have eat : ∀ {b' : Nat}, (Sl.mk (some ⟨b, 0, none⟩) c c).at b' → b' = b := fun {b'} h => by
  have h : some (⟨b, 0, none⟩ : Addr) = some ⟨b', 0, none⟩ := h
  injection h with h; injection h with h; exact h.symm
 refine ⟨⟨hl, fun i s hs => ?_, fun i j s s' b' hi hj ha hb' => ?_⟩, fun b' h => ?_, fun h => ?_, fun b' h => ?_⟩
 ·by_cases e : i = x
  ·subst e
   rw [at0] at hs; injection hs with hs; subst hs
   exact ⟨l, .inr ⟨b, [], rfl, by rw [List.append_nil]; exact hrow, hlen, by rw [List.append_nil]; exact hlen, Nat.le_refl _, hc⟩⟩
  ·have h0 := old e hs
   refine (p.own i s h0).kp hk fun b' ha hf => ?_
   obtain ⟨l', hl'⟩ := (p.own i s h0).row ha
   rcases hZ _ hf with (rfl | hf | ⟨s0, h1, h2⟩) | ⟨t', l2, h1, h2⟩
   ·exact h32 (hl'.inj hr).2
   ·obtain ⟨sp, hf⟩ := p.lst.row hf
    exact hpt (hf.inj hl').2
   ·exact e (p.dis i x s s0 b' h0 h1 ha h2)
   ·exact h1 (h2.inj hl').2
 ·by_cases ei : i = x <;> by_cases ej : j = x
  ·omega
  ·subst ei
   rw [at0] at hi; injection hi with hi; subst hi
   rw [eat ha] at hb'
   exact absurd hb' (nb ej (old ej hj))
  ·subst ej
   rw [at0] at hj; injection hj with hj; subst hj
   rw [eat hb'] at ha
   exact absurd ha (nb ei (old ei hi))
  ·exact p.dis i j s s' b' (old ei hi) (old ej hj) ha hb'
 ·rcases h with rfl | h | ⟨i, s, h0, h1, h2⟩
  ·exact .inl (.inl rfl)
  ·exact (hP b' h).imp (fun h => .inr (.inl h)) id
  ·exact .inl (.inr (.inr ⟨i, s, h0, old (by omega) h1, h2⟩))
 ·rcases h with rfl | h | ⟨i, s, h0, h1, h2⟩
  ·rcases hbs with ⟨s0, h1, h2⟩ | h
   ·obtain ⟨l', hl'⟩ := (p.own x s0 h1).row h2
    exact h32 (hl'.inj hr).2
   ·have := hr.lt; omega
  ·obtain ⟨sp, h⟩ := hl.row h
   exact hpt (h.inj hrow).2
  ·exact nb (by omega) (old (by omega) h1) h2
 ·rcases h with rfl | h | ⟨i, s, h0, h1, h2⟩
  ·exact .inl (.inl rfl)
  ·exact (hP b' h).imp (fun h => .inr (.inl h)) id
  ·by_cases e : i = x
   ·subst e
    rw [at0] at h1; injection h1 with h1; subst h1
    rw [eat h2]
    exact hbs.imp (fun ⟨s0, h1, h2⟩ => .inr (.inr ⟨_, s0, Nat.zero_le _, h1, h2⟩)) id
   ·exact .inl (.inr (.inr ⟨i, s, h0, old e h1, h2⟩))

structure Adv (hb : Nat) (H : Hp) (P : Sl) (S : List Sl) (x : Nat) (H' : Hp) (P' : Sl) (S' : List Sl) (x' : Nat) : Prop where
 k : Kp (Fr hb P S x) H H'
 f : ∀ b, Fr hb P' S' x' b → Fr hb P S x b ∨ H.size ≤ b
 z : ∀ b, Fr hb P' S' 0 b → Fr hb P S 0 b ∨ H.size ≤ b
theorem Adv.refl (hb : Nat) (H : Hp) (P : Sl) (S : List Sl) (x : Nat) : Adv hb H P S x H P S x := ⟨Kp.refl _ _, fun _ h => .inl h, fun _ h => .inl h⟩
theorem Adv.trans {P'' : Sl} {S'' : List Sl} {H'' : Hp} {x' x'' : Nat} (h : Adv hb H P S x H' P' S' x') (g : Adv hb H' P' S' x' H'' P'' S'' x'') : Adv hb H P S x H'' P'' S'' x'' := by
 have := h.k.size
 exact ⟨h.k.trans g.k fun b hb => h.f b hb, fun b hb => (g.f b hb).elim (h.f b) fun h => .inr (by omega), fun b hb => (g.z b hb).elim (h.z b) fun h => .inr (by omega)⟩
theorem Adv.pre {H1 : Hp} {x' : Nat} (k : Kp No H H1) (g : Adv hb H1 P S x H' P' S' x') : Adv hb H P S x H' P' S' x' := Adv.trans ⟨k.mono fun _ _ h => h.elim, fun _ h => .inl h, fun _ h => .inl h⟩ g
theorem Adv.post {H1 : Hp} {x' : Nat} (g : Adv hb H P S x H1 P' S' x') (hk : Kp (fun b => H.size ≤ b) H1 H') : Adv hb H P S x H' P' S' x' :=
 ⟨g.k.trans hk fun b h => .inr h, g.f, g.z⟩
theorem Adv.lo {B x' : Nat} (g : Adv hb H P S x H' P' S' x') (hB : B ≤ H.size) (h : ∀ b, Fr hb P S 0 b → B ≤ b) : ∀ b, Fr hb P' S' 0 b → B ≤ b := fun b hb => (g.z b hb).elim (h b) fun h => by omega
theorem Adv.no {H0 : Hp} {x' : Nat} (g : Adv hb H P S x H' P' S' x') (k : Kp No H0 H) (h : ∀ b, Fr hb P S 0 b → H0.size ≤ b) : Kp No H0 H' :=
 k.trans g.k fun b hb => .inr (h b (hb.le (Nat.zero_le _)))
theorem cutN (b c k n : Nat) : Sl.cut (Sl.mk (some ⟨b, 0, none⟩) c c) k 0 n c = Sl.mk (some ⟨b, 0, none⟩) n c := by
 unfold Sl.cut
 by_cases hc : c = 0
 ·rw [if_pos hc]; rfl
 ·rw [if_neg hc, Nat.zero_mul]; rfl

def TakeG (fo co : Addr → Addr) (pt : Nat) (p0 : Option Addr) (K1 : Int → Hp → Prop) (H : Hp) : Prop :=
 ∃ a1 : Addr, p0 = some a1 ∧ (∃ x4 : Int, cell H (co a1) = some (iv x4) ∧ (∃ a5 : Addr, p0 = some a5 ∧ (∃ x8 : Int, cell H (co a5) = some (iv x8) ∧ (∃ a9 : Addr, p0 = some a9 ∧ (
  (cell H (co a9)).isSome = true ∧ frz H (co a9) = false ∧ ∀ H11 : Hp, H11 = setc H (co a9) (iv (IntKind.i64.wrap (x8 + 1))) → (∃ a18 : Addr, p0 = some a18 ∧ (∃ x21 : Sl, cell H11 (fo a18) = some (Sl.v x21) ∧ (
  ((decide (x4 = ((x21).n : Int))) = true → (∃ a23 : Addr, p0 = some a23 ∧ (∃ x26 : Sl, cell H11 (fo a23) = some (Sl.v x26) ∧ (∀ H27 : Hp, H27 = Array.push H11 (.cells #[sN] pt) → (
   AppendF H27 pt 1 24 #[sN] x26 ((Sl.mk (some (bk H11)) 1 1)).b ((Sl.mk (some (bk H11)) 1 1)).n (fun (r31 : Sl) (H29 : Hp) => ∃ a32 : Addr, p0 = some a32 ∧ (
    (cell H29 (fo a32)).isSome = true ∧ frz H29 (fo a32) = false ∧ ∀ H34 : Hp, H34 = setc H29 (fo a32) (Sl.v r31) → (K1 x4 H34)))))))) ∧
  ((decide (x4 = ((x21).n : Int))) = false → (K1 x4 H11))))))))))
theorem take {fo co : Addr → Addr} {fi ci : Nat} {R : List Value} {K1 : Int → Hp → Prop} (hr : Row H hb 32 R) (hfo : fo ⟨hb, 0, none⟩ = ⟨hb, fi, none⟩) (hco : co ⟨hb, 0, none⟩ = ⟨hb, ci, none⟩) (hf : R[fi]? = some (Sl.v P)) (hc : R[ci]? = some (iv (x : Int))) (hne : ci ≠ fi)
  (hl : Lst (slP pt) H P S) (h32 : pt ≠ 32) (hx : x ≤ S.length) (hS : S.length ≤ 1099511627776)
  (hK : ∀ H' P' S', Row H' hb 32 ((R.set ci (iv ((x + 1 : Nat) : Int))).set fi (Sl.v P')) → Lst (slP pt) H' P' S' → Grown S S' x → Kp (fun b => b = hb ∨ P.at b) H H' → (∀ b, P'.at b → P.at b ∨ H.size ≤ b) → K1 (x : Int) H') :
  TakeG fo co pt (some ⟨hb, 0, none⟩) K1 H := by
 have hnb : ¬ P.at hb := fun h => by obtain ⟨sp, h⟩ := hl.row h; exact h32 (h.inj hr).2
 refine ⟨_, rfl, _, by rw [hco]; exact hr.cell_of hc, _, rfl, _, by rw [hco]; exact hr.cell_of hc, _, rfl, ?_⟩
 rw [hco]
 refine ⟨hr.some (List.getElem?_eq_some_iff.1 hc).1, hr.frz _, fun H11 e11 => ⟨_, rfl, P, ?_, ?_⟩⟩
 ·rw [hfo]
  refine (hr.set' e11).cell_of ?_
  rw [List.getElem?_set_ne hne]; exact hf
 rw [wr (by omega) (by omega), show ((x : Int) + 1) = ((x + 1 : Nat) : Int) by omega] at e11
 have r11 := hr.set' e11
 have k11 : Kp (fun b => b = hb ∨ P.at b) H H11 := (Kp.refl _ _).set' e11 (.inl (.inl rfl))
 have l11 : Lst (slP pt) H11 P S := hl.kp ((Kp.refl (fun b => b = hb) H).set' e11 (.inl rfl)) fun b h e => hnb (e ▸ h)
 have hf11 : (R.set ci (iv ((x + 1 : Nat) : Int)))[fi]? = some (Sl.v P) := by rw [List.getElem?_set_ne hne]; exact hf
 have hn := hl.n
 refine ⟨fun g => ?_, fun g => ?_⟩
 ·have g := of_decide_eq_true g
  refine ⟨_, rfl, P, by rw [hfo]; exact r11.cell_of hf11, fun H27 e27 => ?_⟩
  have k27 : Kp No H11 H27 := (Kp.refl _ _).push' e27
  have s27 := size_push' e27
  have hbox : Row H27 H11.size pt ((slP pt).f Sl.nil) := Row.new' e27
  have l27 := l11.kp k27 fun _ _ => id
  refine Lst.append1 (F := slP pt) l27 hbox rfl (by omega) (by omega) fun r H29 hr29 hk29 ha => ?_
  have r29 := hk29.row (k27.row r11 id) hnb
  refine ⟨_, rfl, ?_⟩
  rw [hfo]
  refine ⟨r29.some (List.getElem?_eq_some_iff.1 hf11).1, r29.frz _, fun H34 e34 => ?_⟩
  have hnr : ¬ r.at hb := fun h => by obtain ⟨sp, h⟩ := hr29.row h; exact h32 (h.inj r29).2
  have k29 : Kp (fun b => b = hb ∨ P.at b) H H29 := (k11.trans (k27.mono fun _ _ h => h.elim) fun b h => .inl h).trans hk29 fun b h => .inl (.inr h)
  refine hK H34 r (S ++ [Sl.nil]) (r29.set' e34) (hr29.kp ((Kp.refl (fun b => b = hb) H29).set' e34 (.inl rfl)) fun b h e => hnr (e ▸ h)) (.inr ⟨rfl, by omega⟩) ?_ fun b h => ?_
  ·exact k29.set' e34 (.inl (.inl rfl))
  ·rcases ha b h with h | h
   ·exact .inl h
   ·exact .inr (by have := k11.size; omega)
 ·have g := of_decide_eq_false g
  refine hK H11 P S ?_ l11 (.inl ⟨rfl, by omega⟩) k11 fun b h => .inl h
  rw [set_same hf11]; exact r11
def GrabG (fo co : Addr → Addr) (pt t k bytes : Nat) (z : Array Value) (p0 : Option Addr) (p1 : Sl) (K : Int → Sl → Hp → Prop) (H : Hp) : Prop :=
 TakeG fo co pt p0 (fun (x : Int) (H_1 : Hp) => ∃ a38 : Addr, p0 = some a38 ∧ (∃ x41 : Sl, cell H_1 (fo a38) = some (Sl.v x41) ∧ (∃ a42 : Addr, (x41).b = some a42 ∧ (0 : Int) ≤ x ∧ x < ((x41).n : Int) ∧ (
  ∃ x47 : Sl, cell H_1 (Addr.add a42 (x.toNat * 1)) = some (Sl.v x47) ∧ (
  ((decide ((IntKind.i64.wrap (((p1).n : Int) + 70000)) < ((x47).c : Int))) = true → (GrabF t k bytes z p1 (K x) Sl.nil H_1)) ∧
  ((decide ((IntKind.i64.wrap (((p1).n : Int) + 70000)) < ((x47).c : Int))) = false → (GrabF t k bytes z p1 (K x) x47 H_1))))))) H
where GrabF (t k bytes : Nat) (z : Array Value) (p1 : Sl) (K : Sl → Hp → Prop) (y53 : Sl) (H_2 : Hp) : Prop :=
 0 ≤ (0 : Int).toNat ∧ (0 : Int).toNat ≤ (y53).c ∧ (y53).c ≤ (y53).c ∧ (
  AppendF H_2 t k bytes z (Sl.cut y53 k 0 ((0 : Int).toNat) ((y53).c)) (p1).b (p1).n (fun (r59 : Sl) (H57 : Hp) => ∀ H60 : Hp, H60 = Array.push H57 (.cells z t) → (
   AppendF H60 t k bytes z r59 ((Sl.mk (some (bk H57)) 1 1)).b ((Sl.mk (some (bk H57)) 1 1)).n (fun (r64 : Sl) (H62 : Hp) =>
    (0 : Int) ≤ ((r64).c : Int) ∧ 0 ≤ ((r64).c : Int).toNat ∧ ((r64).c : Int).toNat ≤ (r64).c ∧ (r64).c ≤ (r64).c ∧ (K (Sl.cut r64 k 0 (((r64).c : Int).toNat) ((r64).c)) H62)))))
theorem grab {α : Type} {F : Fmt α t k} {z : α} {fo co : Addr → Addr} {fi ci bytes : Nat} {R : List Value} {K : Int → Sl → Hp → Prop} {p1 : Sl} {L : List α} (hr : Row H hb 32 R) (hfo : fo ⟨hb, 0, none⟩ = ⟨hb, fi, none⟩) (hco : co ⟨hb, 0, none⟩ = ⟨hb, ci, none⟩)
  (hf : R[fi]? = some (Sl.v P)) (hc : R[ci]? = some (iv (x : Int))) (hne : ci ≠ fi) (p : Pool pt t k H P S) (h32 : pt ≠ 32) (ht : t ≠ 32) (hpt : pt ≠ t) (hx : x ≤ S.length) (hS : S.length ≤ 1099511627776)
  (src : ∀ H', Kp (Fr1 hb P S x) H H' → RdL F H' p1 L) (hb1 : (L.length + 1) * bytes ≤ 140737488355328) (h63 : L.length + 1 ≤ 9223372036854775807)
  (hK : ∀ b c sp H' P' S', Row H' hb 32 ((R.set ci (iv ((x + 1 : Nat) : Int))).set fi (Sl.v P')) → Lst (slP pt) H' P' S' → Grown S S' x → L.length < c → c ≤ 9223372036854775807 → Row H' b t (L.flatMap F.f ++ sp) → (L.flatMap F.f ++ sp).length = c * k →
   Kp (Fr1 hb P S x) H H' → ((∃ s, S[x]? = some s ∧ s.at b) ∨ H.size ≤ b) → (∀ b, P'.at b → P.at b ∨ H.size ≤ b) → K (x : Int) (Sl.mk (some ⟨b, 0, none⟩) c c) H') :
  GrabG fo co pt t k bytes (F.f z).toArray (some ⟨hb, 0, none⟩) p1 K H := by
 refine take hr hfo hco hf hc hne p.lst h32 hx hS fun H1 P' S' r1 l1 hg k1 hP' => ?_
 have hfi : fi < R.length := (List.getElem?_eq_some_iff.1 hf).1
 obtain ⟨s, hs⟩ : ∃ s, S'[x]? = some s := ⟨_, List.getElem?_eq_getElem hg.lt⟩
 obtain ⟨a, ha, h0, hn, ca⟩ := rdAt l1.rd hs
 have src1 : RdL F H1 p1 L := src H1 (k1.mono fun b _ h => h.elim .inl fun h => .inr (.inl h))
 have go : ∀ y, Slot H1 t k y → (∀ b, y.at b → ∃ s, S[x]? = some s ∧ s.at b) → GrabG.GrabF t k bytes (F.f z).toArray p1 (K (x : Int)) y H1 := fun y hy hyb => by
  refine ⟨Nat.le_refl _, Nat.zero_le _, Nat.le_refl _, app1 hy src1 (by simp [F.len]) (Nat.le_trans (Nat.mul_le_mul_right _ (by omega)) hb1) (by omega) fun r H57 hr57 k57 ha57 => ?_⟩
  refine app0 hr57 hb1 h63 fun b c sp H62 hc hmx hrow hlen k62 hb62 => ?_
  have typ : ∀ b', y.at b' → ∃ l, Row H1 b' t l := fun b' h => hy.row h
  have n1 : ¬ y.at hb := fun h => by obtain ⟨l, h⟩ := typ _ h; exact ht (h.inj r1).2
  have n2 : ∀ b', P'.at b' → ¬ y.at b' := fun b' h h' => by
   obtain ⟨l, h'⟩ := typ _ h'
   obtain ⟨sp, h⟩ := l1.row h
   exact hpt (h.inj h').2
  have r57 := k57.row r1 n1
  have l57 := l1.kp k57 n2
  have m1 : ¬ r.at hb := fun h => by obtain ⟨sp, h⟩ := hr57.row h; exact ht (h.inj r57).2
  have m2 : ∀ b', P'.at b' → ¬ r.at b' := fun b' h h' => by
   obtain ⟨l, h'⟩ := hr57.row h'
   obtain ⟨sp, h⟩ := l57.row h
   exact hpt (h.inj h').2
  have ky : Kp (Fr1 hb P S x) H H57 := (k1.mono fun b _ h => h.elim .inl fun h => .inr (.inl h)).trans k57 fun b h => .inl (.inr (.inr (hyb b h)))
  refine hK b c sp H62 P' S' (k62.row r57 m1) (l57.kp k62 m2) hg hc hmx hrow hlen (ky.trans k62 fun b h => ?_) ?_ hP'
  ·rcases ha57 b h with h | h
   ·exact .inl (.inr (.inr (hyb b h)))
   ·exact .inr (by have := k1.size; omega)
  ·rcases hb62 with h | h
   ·rcases ha57 b h with h | h
    ·exact .inl (hyb b h)
    ·exact .inr (by have := k1.size; omega)
   ·exact .inr (by have := ky.size; omega)
 have hso : Slot H1 t k s ∧ ∀ b, s.at b → ∃ s, S[x]? = some s ∧ s.at b := by
  rcases hg with ⟨rfl, hlt⟩ | ⟨rfl, rfl⟩
  ·refine ⟨(p.own x s hs).kp k1 fun b h h' => ?_, fun b h => ⟨s, hs, h⟩⟩
   obtain ⟨l, hl⟩ := (p.own x s hs).row h
   rcases h' with rfl | h'
   ·exact ht (hl.inj hr).2
   ·obtain ⟨sp, h'⟩ := p.lst.row h'; exact hpt (h'.inj hl).2
  ·rw [List.getElem?_append_right (Nat.le_refl _), Nat.sub_self] at hs
   injection hs with hs; subst hs
   exact ⟨Slot.nil _ _ _, fun b h => by cases h⟩
 refine ⟨_, rfl, P', by rw [hfo]; exact r1.cell_of (by rw [List.getElem?_set_self (by rw [List.length_set]; exact hfi)]), a, ha, h0, hn, s, ca, fun g => ?_, fun g => ?_⟩
 ·exact go Sl.nil (Slot.nil _ _ _) fun b h => by cases h
 ·exact go s hso.1 hso.2
end

structure Hd where
 (px pv pe pa vr bd ty : Sl)
 (nx nv ne na : Nat)
def Hd.row (h : Hd) : List Value := [Sl.v h.px, Sl.v h.pv, Sl.v h.pe, Sl.v h.pa, Sl.v h.vr, Sl.v h.bd, Sl.v h.ty, iv h.nx, iv h.nv, iv h.ne, iv h.na]
def vMk (i : Nat) : List Value := vR (IntKind.i64.wrap (77 + (i : Int))) 0 bE false
theorem vMk_len (i : Nat) : (vMk i).length = 4 := rfl
def LG {α : Type} {t k : Nat} (F : Fmt α t k) (mk : Nat → List Value) (A : Nat → Prop) (H : Hp) (s : Sl) (L : List α) : Prop :=
 ∃ b c, s = Sl.mk (some ⟨b, 0, none⟩) L.length c ∧ A b ∧ L.length < c ∧ c ≤ 9223372036854775807 ∧ Row H b t (L.flatMap F.f ++ mks mk L.length (c - L.length))
section
variable {α : Type} {t k : Nat} {F : Fmt α t k} {mk : Nat → List Value} {A A' : Nat → Prop} {H H' : Hp} {s : Sl} {L : List α}
theorem LG.kp {S : Nat → Prop} (h : LG F mk A H s L) (hk : Kp S H H') (hA : ∀ b l, Row H b t l → A b → ¬ S b) (hA' : ∀ b l, Row H b t l → A b → A' b) : LG F mk A' H' s L := by
 obtain ⟨b, c, h1, h2, h3, h4, h5⟩ := h
 exact ⟨b, c, h1, hA' b _ h5 h2, h3, h4, hk.row h5 (hA b _ h5 h2)⟩
theorem LG.no (h : LG F mk A H s L) (hk : Kp No H H') : LG F mk A H' s L := h.kp hk (fun _ _ _ _ => id) fun _ _ _ h => h
theorem LG.kt {T : List Nat} (h : LG F mk A H s L) (hk : KT T H H') (ht : t ∉ T) : LG F mk A H' s L := by
 obtain ⟨b, c, h1, h2, h3, h4, h5⟩ := h
 exact ⟨b, c, h1, h2, h3, h4, hk.row h5 ht⟩
theorem LG.adv {hb x x' : Nat} {P P' : Sl} {S S' : List Sl} (h : LG F mk (fun b => ¬ Fr hb P S x b) H s L) (g : Adv hb H P S x H' P' S' x') : LG F mk (fun b => ¬ Fr hb P' S' x' b) H' s L :=
 h.kp g.k (fun b _ _ h => h) fun b _ hl h hf => (g.f b hf).elim h fun h => by have := hl.lt; omega
theorem LG.rd (h : LG F mk A H s L) : RdL F H s L := by
 obtain ⟨b, c, rfl, h2, h3, h4, h5⟩ := h
 exact ⟨rfl, h5.cells (by rw [Nat.add_zero, List.drop_zero, List.take_left])⟩
end
section
variable {H : Hp} {hb : Nat} {h : Hd} {S : List Sl}
theorem c41 {p1 : Sl} {L : List VT} {Q : Sl → Hp → Prop} (hr : Row H hb 32 h.row) (p : Pool 34 38 4 H h.pv S) (hx : h.nv ≤ S.length) (hS : S.length ≤ 1099511627776) (src : ∀ H', Kp (Fr1 hb h.pv S h.nv) H H' → RdL vF H' p1 L) (hl : L.length ≤ lim)
  (hQ : ∀ s H' P' S', Row H' hb 32 { h with pv := P', nv := h.nv + 1 }.row → Pool 34 38 4 H' P' S' → h.nv + 1 ≤ S'.length → S'.length ≤ max S.length (h.nv + 1) → Adv hb H h.pv S h.nv H' P' S' (h.nv + 1) →
   LG vF vMk (fun b => ¬ Fr hb P' S' (h.nv + 1) b) H' s L → Q s H') : F41 (some ⟨hb, 0, none⟩) p1 H Q := by
 have hl : L.length ≤ 4194304 := hl
 have hn := (src H (Kp.refl _ _)).n
 show GrabG (fun a => a.add 1) (fun a => a.add 8) 34 38 4 40 (vF.f zeroV).toArray (some ⟨hb, 0, none⟩) p1 (fun x s H62 => F41_L4 Q (some ⟨hb, 0, none⟩) x (p1.n : Int) s (p1.n : Int) H62) H
 refine grab (fi := 1) (ci := 8) hr (by rw [add_mk, Nat.zero_add]) (by rw [add_mk, Nat.zero_add]) rfl rfl (by decide) p (by decide) (by decide) (by decide) hx hS src (by omega) (by omega) fun b c sp H' P' S' r1 l1 hg hc hmx hrow hlen hk hbs hP => ?_
 intro X4 hX4
 have hfl := fl_len vF.len L
 rw [List.length_append, hfl] at hlen
 rw [hn]
 refine fill vMk vMk_len (b := b) (c := c) (k := 4) (t := 38) (s := Sl.mk (some ⟨b, 0, none⟩) c c) rfl rfl hmx (C := F41_3 Q (some ⟨hb, 0, none⟩) (h.nv : Int) (p1.n : Int) (Sl.mk (some ⟨b, 0, none⟩) c c)) (fun y H _ g => hX4 _ _ g) (c - L.length) L.length (L.flatMap vF.f) sp H' (Nat.zero_le _) (by omega) hfl (by rw [Nat.sub_mul]; omega) hrow fun H2 r2 k2 => ?_
 have kt2 : KT [38] H' H2 := KT.of k2 fun b' h => ⟨38, _, by simp, h ▸ hrow⟩
 have r2h := kt2.row r1 (by decide)
 have l2 := kt2.lst l1 (by decide)
 obtain ⟨a, ha, h0, h1, hsome, hfrz, hst⟩ := store l2 hg.lt (Sl.mk (some ⟨b, 0, none⟩) c c)
 refine ⟨_, rfl, P', ?_, a, ha, h0, h1, hsome, hfrz, fun H3 e3 => ⟨by omega, by omega, ?_, Nat.le_refl _, ?_⟩⟩
 ·rw [add_mk, Nat.zero_add]; exact r2h.cell_of rfl
 ·show (p1.n : Int).toNat ≤ c; omega
 obtain ⟨l3, k3⟩ := hst H3 e3
 have kt3 : KT [34] H2 H3 := KT.of k3 fun b' h => by obtain ⟨sp, h⟩ := l2.row h; exact ⟨34, _, by simp, h⟩
 have r3h := kt3.row r2h (by decide)
 have r3 := kt3.row r2 (by decide)
 have kf : Kp (Fr1 hb h.pv S h.nv) H H3 := (hk.trans k2 fun b' e => hbs.imp (fun h => .inr (.inr (e ▸ h))) fun h => by subst e; exact h).trans k3 fun b' h => (hP b' h).imp (fun h => .inr (.inl h)) id
 obtain ⟨p3, f3, nf, f0⟩ := p.upd hr (by decide) (by decide) hg l3 r3 (by rw [List.length_append, hfl, mks_len vMk_len, ← Nat.add_mul]; congr 1; omega) hmx kf (fun _ h => .inl h) hbs hP
 rw [hn, show (L.length : Int).toNat = L.length from by omega, cutN]
 refine hQ _ H3 P' _ r3h p3 (by rw [List.length_set]; exact hg.lt) (by rw [List.length_set]; exact hg.len) ⟨kf.mono fun _ _ h => h.fr, fun b h => (f3 b h).imp (fun h => h.le (Nat.le_succ _)) id, f0⟩ ⟨b, c, rfl, nf, hc, hmx, r3⟩
theorem veq (v : VT) : (!(decide (v.k = v.k) && (decide (v.n = v.n) && (seq v.s v.s && (v.b == v.b))))) = false := by simp [seq_self]
theorem c49 {A : Nat → Prop} {p0 p1 : Sl} {L : List VT} {Q : Bool → Hp → Prop} (h0 : RdL vF H p0 L) (h1 : LG vF vMk A H p1 L) (hl : L.length ≤ lim) (hQ : ∀ H', Kp No H H' → Q true H') : F49 p0 p1 H Q := by
 have hl : L.length ≤ 4194304 := hl
 have hn := h0.n
 obtain ⟨b, c, rfl, _, hc, hmx, hrow⟩ := h1
 have go : F49_1 Q p0 (Sl.mk (some ⟨b, 0, none⟩) L.length c) (p0.n : Int) false H := by
  refine ⟨fun h => (by cases h), fun _ => ⟨Int.natCast_nonneg _, Nat.zero_le _, by show (c : Int).toNat ≤ c; omega, Nat.le_refl _, ?_⟩⟩
  show F49_L2 Q p0 (p0.n : Int) (Sl.cut (Sl.mk (some ⟨b, 0, none⟩) L.length c) 4 0 ((c : Int).toNat) c) 0 H
  have ec : Sl.cut (Sl.mk (some ⟨b, 0, none⟩) L.length c) 4 0 ((c : Int).toNat) c = Sl.mk (some ⟨b, 0, none⟩) c c := by
   rw [show ((c : Int)).toNat = c from by omega]
   unfold Sl.cut
   rw [if_neg (by omega)]; rfl
  rw [ec]
  intro X2 hX2
  suffices G : ∀ (d i : Nat) (H' : Hp), i + d = c → Kp No H H' → X2 (i : Int) H' from G c 0 H (by omega) (Kp.refl _ _)
  intro d
  induction d with
  | zero =>
   intro i H' hi k
   exact hX2 _ _ ⟨fun g => absurd (of_decide_eq_true g) (by show ¬ (i : Int) < (c : Int); omega), fun _ => hQ H' k⟩
  | succ d ih =>
   intro i H' hi k
   have it : ((i : Nat) : Int).toNat = i := by omega
   have hr' := k.row hrow id
   have three : ∀ (v : VT) (H2 : Hp), Kp No H H2 → Row H2 H'.size 38 v.row → ((L.flatMap vF.f ++ mks vMk L.length (c - L.length)).drop (i * 4)).take 4 = v.row → F49_3 Q X2 p0 (p0.n : Int) (Sl.mk (some ⟨b, 0, none⟩) c c) (i : Int) ⟨H'.size, 0, none⟩ H2 := fun v H2 k2 r2 hv => by
    refine ⟨_, rfl, by omega, by show (i : Int) < (c : Int); omega, v.k, v.n, v.s, v.b, ?_, v.k, v.n, v.s, v.b, r2.all, fun g => ?_, fun _ => ?_⟩
    ·rw [it, add_mk]
     exact (k2.row hrow id).cells (by rw [Nat.zero_add, Nat.add_zero]; exact hv)
    ·rw [veq v] at g; cases g
    ·rw [wr (by omega) (by omega), show ((i : Int) + 1) = ((i + 1 : Nat) : Int) by omega]
     exact ih (i + 1) H2 (by omega) k2
   refine hX2 _ _ ⟨fun _ => fun H17 e17 => ?_, fun g => absurd (of_decide_eq_false g) (by show ¬ ¬ (i : Int) < (c : Int); omega)⟩
   have k17 := k.push' e17
   have r17 := Row.new' e17
   refine ⟨r17.mayw (by simp), fun H19 e19 => ?_⟩
   have r19 : Row H19 H'.size 38 (vMk i) := r17.fill' e19 rfl
   have k19 : Kp No H H19 := k17.sets' e19 (.inr k.size)
   refine ⟨fun g => ?_, fun g => ?_⟩
   ·have g := of_decide_eq_true g
    obtain ⟨v, gv⟩ : ∃ v, L[i]? = some v := ⟨_, List.getElem?_eq_getElem (by omega)⟩
    obtain ⟨a, ha, hlt, hcs⟩ := (h0.kp0 k19).get gv
    refine ⟨a, ha, by omega, by omega, v.k, v.n, v.s, v.b, by rw [it]; exact hcs, r19.mayw (by rw [vMk_len]; omega), fun H37 e37 => ?_⟩
    exact three v H37 (k19.sets' e37 (.inr k.size)) (r19.fill' e37 rfl) (lk_lo vF gv)
   ·have g := of_decide_eq_false g
    exact three ⟨IntKind.i64.wrap (77 + (i : Int)), 0, bE, false⟩ H19 k19 r19 (lk_hi vF vMk_len (by omega) (by omega))
 refine ⟨fun g => absurd (of_decide_eq_true g) (by show ¬ ((L.length : Int) ≠ (p0.n : Int)); omega), fun _ => ?_⟩
 rw [show decide (((Sl.mk (some ⟨b, 0, none⟩) L.length c).c : Int) ≤ (p0.n : Int)) = false from decide_eq_false (by show ¬ ((c : Int) ≤ (p0.n : Int)); omega)]
 exact go

theorem c27 {ty : ByteArray} {time : Int} {vals : Sl} {L : List VT} {Q : ByteArray → Int → Sl → Hp → Prop} (hr : Row H hb 32 h.row) (p : Pool 34 38 4 H h.pv S) (hx : h.nv ≤ S.length) (hS : S.length ≤ 1099511627776) (src : ∀ H', Kp (Fr1 hb h.pv S h.nv) H H' → RdL vF H' vals L) (hl : L.length ≤ lim)
  (hQ : ∀ s H' P' S', Row H' hb 32 { h with pv := P', nv := h.nv + 1 }.row → Pool 34 38 4 H' P' S' → h.nv + 1 ≤ S'.length → S'.length ≤ max S.length (h.nv + 1) → Adv hb H h.pv S h.nv H' P' S' (h.nv + 1) →
   LG vF vMk (fun b => ¬ Fr hb P' S' (h.nv + 1) b) H' s L → Q ty time s H') : F27 (some ⟨hb, 0, none⟩) ty time vals H Q := by
 intro H1 e1 H3 e3
 have k1 : Kp No H H1 := (Kp.refl _ _).push' e1
 have k3 : Kp No H H3 := k1.push' e3
 have s1 := size_push' e1
 have s3 := size_push' e3
 have r1 : Row H3 H.size 36 (tR ty time vals) := (Row.new' e1).push' e3
 have r3 : Row H3 H1.size 36 (tR bE 0 Sl.nil) := Row.new' e3
 refine ⟨vals, rowc (i := 2) r1 rfl, c41 (k3.row hr id) ((KT.no (T := []) k3).pool p (by simp) (by simp)) hx hS (fun H' k' => src H' ((k3.mono fun _ _ h => h.elim).trans k' fun b h => .inl h)) hl fun s H7 P' S' hr7 p7 hx7 hS7 g7 lv7 => ?_⟩
 have kt7 : KT [32, 34, 38] H3 H7 := KT.of g7.k fun b hb' => ((KT.no (T := []) k3).pool p (by simp) (by simp)).typ (k3.row hr id) hb'
 have r1' := kt7.row r1 (by decide)
 have r3' := kt7.row r3 (by decide)
 refine ⟨?_, ?_, fun H10 e10 => ?_⟩
 ·rw [add_mk]; exact r1'.some (by simp)
 ·rw [add_mk]; exact r1'.frz _
 rw [add_mk] at e10
 have r10 : Row H10 H.size 36 (tR ty time s) := r1'.set' e10
 have r10' := r3'.set_ne' e10 (by show H1.size ≠ H.size; omega)
 refine ⟨ty, time, s, r10.all, r10'.mayw (by simp), fun H18 e18 => ?_⟩
 have r18 : Row H18 H1.size 36 (tR ty time s) := r10'.fill' e18 rfl
 refine ⟨ty, time, s, r18.all, ?_⟩
 have k18 : Kp (fun b => b = H.size ∨ b = H1.size) H7 H18 := ((Kp.refl _ _).set' e10 (.inl (.inl rfl))).trans ((Kp.refl (fun b => b = H.size ∨ b = H1.size) _).sets' e18 (.inl (.inr rfl))) fun b h => .inl h
 have kt18 : KT [36] H7 H18 := KT.of k18 fun b h => by
  rcases h with rfl | rfl
  ·exact ⟨36, _, by simp, r1'⟩
  ·exact ⟨36, _, by simp, r3'⟩
 refine hQ s H18 P' S' (kt18.row hr7 (by decide)) (kt18.pool p7 (by decide) (by decide)) hx7 hS7 ?_ (lv7.kt kt18 (by decide))
 exact (Adv.pre k3 g7).post (k18.mono fun b _ h => by rcases h with rfl | rfl <;> omega)
def LE (A : Nat → Prop) (H : Hp) (ty : ByteArray) (time : Int) (s : Sl) (e : EvM) : Prop := ty = e.ty ∧ time = e.time ∧ LG vF vMk A H s e.vals
theorem c30 {A : Nat → Prop} {e : EvM} {vals s : Sl} {ty : ByteArray} {time : Int} {Q : Bool → Hp → Prop} (h0 : RdL vF H vals e.vals) (h1 : LE A H ty time s e) (hl : e.vals.length ≤ lim) (hQ : ∀ H', Kp No H H' → Q true H') : F30 e.ty e.time vals ty time s H Q := by
 obtain ⟨rfl, rfl, h1⟩ := h1
 intro H1 e1 H3 e3
 have k1 : Kp No H H1 := (Kp.refl _ _).push' e1
 have k3 : Kp No H H3 := k1.push' e3
 have r1 : Row H3 H.size 36 (tR e.ty e.time vals) := (Row.new' e1).push' e3
 have r3 : Row H3 H1.size 36 (tR e.ty e.time s) := Row.new' e3
 refine ⟨_, r1.cell_of (i := 0) rfl, _, r3.cell_of (i := 0) rfl, fun _ => ⟨_, rowc (i := 1) r1 rfl, _, rowc (i := 1) r3 rfl, fun _ => ⟨_, rowc (i := 2) r1 rfl, _, rowc (i := 2) r3 rfl, c49 (h0.kp0 k3) (h1.no k3) hl fun H' k => hQ H' (k3.no2 k)⟩, fun g => absurd rfl (of_decide_eq_false g)⟩, fun g => ?_⟩
 rw [seq_self] at g; cases g
end
end Go.Hw
