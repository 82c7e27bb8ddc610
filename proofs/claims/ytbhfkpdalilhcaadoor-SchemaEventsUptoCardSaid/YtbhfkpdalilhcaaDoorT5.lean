/- SchemaEvents. Own work of this session. -/
import Derived.Test.YtbhfkpdalilhcaaDoorT4
set_option linter.unusedVariables false
namespace Go.Hw
open Go

theorem chkL_ok : ∀ {V : List VT} {A : List (ByteArray × Int)}, V.length = A.length → (∀ (i : Nat) (v : VT) (a : ByteArray × Int), V[i]? = some v → A[i]? = some a → v.k = a.2 ∧ vld v = true) → chkL V A = 0
  | [], A, _, _ => by cases A <;> rfl
  | v :: V, [], h, _ => by simp at h
  | v :: V, a :: A, h, hg => by
    obtain ⟨h1, h2⟩ := hg 0 v a rfl rfl
    unfold chkL
    rw [if_neg (by rw [h1]; simp), if_neg (by rw [h2]; decide)]
    exact chkL_ok (by simpa using h) fun i v' a' hv ha => hg (i + 1) v' a' (by simpa using hv) (by simpa using ha)
theorem chkL_at : ∀ {V : List VT} {A : List (ByteArray × Int)} {i : Nat} {v : VT} {a : ByteArray × Int}, (∀ (j : Nat) (w : VT) (b : ByteArray × Int), j < i → V[j]? = some w → A[j]? = some b → w.k = b.2 ∧ vld w = true) → V[i]? = some v → A[i]? = some a → chkL V A = if v.k ≠ a.2 then 10 else if vld v = false then 12 else chkL (V.drop (i + 1)) (A.drop (i + 1))
  | [], _, _, _, _, _, hv, _ => by simp at hv
  | _ :: _, [], _, _, _, _, _, ha => by simp at ha
  | w :: V, b :: A, 0, v, a, _, hv, ha => by
    have hv : w = v := by simpa using hv
    have ha : b = a := by simpa using ha
    subst hv ha
    rfl
  | w :: V, b :: A, i + 1, v, a, hg, hv, ha => by
    obtain ⟨h1, h2⟩ := hg 0 w b (by omega) rfl rfl
    conv => lhs; unfold chkL
    rw [if_neg (by rw [h1]; simp), if_neg (by rw [h2]; decide)]
    exact chkL_at (fun j w' b' hj hw hb => hg (j + 1) w' b' (by omega) (by simpa using hw) (by simpa using hb)) (by simpa using hv) (by simpa using ha)

/-- The event being checked: its block, its values. -/
structure Ev (H0 H : Hp) (eb : Nat) (time : Int) (vs : Sl) (V : List VT) : Prop where
  row : Row H eb 33 [.string S_T, .int .i64 time, Sl.v vs]
  lv : Lst vF H vs V
  lo : H0.size ≤ eb
  g : ∀ b, vs.at b → H0.size ≤ b
  k : Kp No H0 H
theorem Ev.no {H0 H H' : Hp} {eb : Nat} {time : Int} {vs : Sl} {V : List VT} (h : Ev H0 H eb time vs V) (kk : Kp No H H') : Ev H0 H' eb time vs V := ⟨kk.row h.row id, h.lv.kp kk fun _ _ => id, h.lo, h.g, h.k.trans kk fun _ h => h.elim⟩
theorem Ev.time {H0 H H' : Hp} {eb : Nat} {time t' : Int} {vs : Sl} {V : List VT} (h : Ev H0 H eb time vs V) (e : H' = setc H (Addr.add ⟨eb, 0, none⟩ 1) (.int .i64 t')) : Ev H0 H' eb t' vs V ∧ Kp (fun x => x = eb) H H' := by
  have k : Kp (fun x => x = eb) H H' := (Kp.refl _ _).set' e (.inl rfl)
  have r : Row H' eb 33 [.string S_T, .int .i64 t', Sl.v vs] := h.row.set' e
  exact ⟨⟨r, h.lv.kp k fun x hx hh => by subst hh; exact h.lv.ne h.row (by decide) hx, h.lo, h.g, h.k.trans k fun x hx => .inr (by have := h.lo; omega)⟩, k⟩

/-- A catalog with the one type. -/
structure Cat1 (H0 H : Hp) (cb mr : Nat) (r : Sl) (A : List (ByteArray × Int)) : Prop where
  row : Row H cb 72 [.map (some mr)]
  m : mapAt mk9 mv27 H (some mr) [(S_T, (S_T, r), 0)] 1
  la : Lst aF H r A
theorem Cat1.kp {S : Nat → Prop} {H0 H H' : Hp} {cb mr : Nat} {r : Sl} {A : List (ByteArray × Int)} (h : Cat1 H0 H cb mr r A) (k : Kp S H H') (hs : ∀ x, S x → x ≠ cb ∧ x ≠ mr ∧ ¬ r.at x) : Cat1 H0 H' cb mr r A :=
  ⟨k.row h.row fun hh => (hs _ hh).1 rfl, h.m.kp k fun hh => (hs _ hh).2.1 rfl, h.la.kp k fun x hx hh => (hs x hh).2.2 hx⟩
theorem Cat1.no {H0 H H' : Hp} {cb mr : Nat} {r : Sl} {A : List (ByteArray × Int)} (h : Cat1 H0 H cb mr r A) (k : Kp No H H') : Cat1 H0 H' cb mr r A := h.kp k fun _ h => h.elim
theorem seq_tT : mget ([(S_T, (S_T, Sl.nil), 0)] : ML ByteArray (ByteArray × Sl)) S_t = none := rfl

section
variable {H0 H : Hp} {cb mr eb : Nat} {r vs : Sl} {A : List (ByteArray × Int)} {V : List VT} {time : Int}

/-- An event is checked. -/
theorem c11T {s : Sl} {W : List VT} {Q : Int → Hp → Prop} (hc : Cat1 H0 H cb mr r A) (hV : RdL vF H s W) (hl : W.length ≤ 4611686018427387904) (hQ : ∀ H', Kp No H H' → Q (chk time W A) H') : F11 (some ⟨cb, 0, none⟩) S_T time s H Q := by
  refine c11 hc.row hc.m hV hl (fun h => (by cases h)) fun n' asl h => ⟨A, ?_, hQ⟩
  have h : some (S_T, r) = some (n', asl) := h
  injection h with h
  injection h with h1 h2
  rw [← h2]; exact hc.la.rd
theorem c11t {s : Sl} {W : List VT} {Q : Int → Hp → Prop} (hc : Cat1 H0 H cb mr r A) (hV : RdL vF H s W) (hl : W.length ≤ 4611686018427387904) (hQ : ∀ H', Kp No H H' → Q 21 H') : F11 (some ⟨cb, 0, none⟩) S_t time s H Q := by
  refine c11 hc.row hc.m hV hl (fun _ => hQ) fun n' asl h => ?_
  have h : (none : Option (ByteArray × Sl)) = some (n', asl) := h
  cases h

theorem c3_6 {Q : Bool → Hp → Prop} (hc : Cat1 H0 H cb mr r A) (he : Ev H0 H eb 0 vs V) (hl : V.length ≤ 16) (hk : chk 0 V A = 12) (hQ : ∀ H', Kp No H0 H' → Q true H') : F3_6 Q (some ⟨cb, 0, none⟩) ⟨eb, 0, none⟩ H := by
  refine ⟨S_T, 0, vs, he.row.all, c11T hc he.lv.rd (by omega) fun H' k => ?_⟩
  rw [hk]
  exact hQ H' (he.k.trans k fun _ h => h.elim)

/-- The values are as the type has them. -/
def Fits (V : List VT) (A : List (ByteArray × Int)) : Prop := V.length = A.length ∧ ∀ (i : Nat) (v : VT) (a : ByteArray × Int), V[i]? = some v → A[i]? = some a → v.k = a.2 ∧ vld v = true

theorem c3_5 {at_ wrong : Int} {Q : Bool → Hp → Prop} (hc : Cat1 H0 H cb mr r A) (he : Ev H0 H eb time vs V) (hA : GoodA A) (hf : Fits V A) (ht0 : 0 ≤ time) (ht1 : time ≤ 4611686018427387904) (hcb : cb ≠ eb) (hmr : mr ≠ eb) (hcl : cb < H.size) (hml : mr < H.size) (hw0 : 0 ≤ wrong) (hw1 : wrong ≤ 255)
    (hQ : ∀ H', Kp No H0 H' → Q true H') : F3_5 Q at_ wrong (some ⟨cb, 0, none⟩) ⟨eb, 0, none⟩ false H := by
  have hlen := hA.len
  have hVl := hf.1
  have hvn := he.lv.n
  have rne : ∀ {H' : Hp} {m : List Value}, Lst aF H' r A → Row H' eb 33 m → ∀ x, x = eb → x ≠ cb ∧ x ≠ mr ∧ ¬ r.at x := fun hl hr x hx => by
    subst hx
    exact ⟨fun h => hcb h.symm, fun h => hmr h.symm, hl.ne hr (by decide)⟩
  refine ⟨fun h => (by cases h), fun _ => ⟨time, he.row.cell_of (i := 1) rfl, he.row.some (i := 1) (by simp), he.row.frz 1, fun H117 e117 => ?_⟩⟩
  rw [wr (x := -1 - time) (by omega) (by omega)] at e117
  obtain ⟨v117, k117⟩ := he.time e117
  have c117 := hc.kp k117 (rne hc.la he.row)
  refine ⟨S_T, -1 - time, vs, v117.row.all, c11T c117 v117.lv.rd (by omega) fun H125 k125 => ?_⟩
  have e23 : ∀ t : Int, (t < 0 ∨ 4611686018427387904 < t) → chk t V A = 23 := fun t h => by unfold chk; rw [if_pos h]
  rw [e23 _ (by omega)]
  have v125 := v117.no k125
  have c125 := c117.no k125
  refine ⟨fun h => absurd rfl (of_decide_eq_true h), fun _ => ⟨v125.row.some (i := 1) (by simp), v125.row.frz 1, fun H129 e129 => ?_⟩⟩
  obtain ⟨v129, k129⟩ := v125.time e129
  have c129 := c125.kp k129 (rne c125.la v125.row)
  refine ⟨S_T, _, vs, v129.row.all, c11T c129 v129.lv.rd (by omega) fun H137 k137 => ?_⟩
  rw [e23 _ (by omega)]
  have v137 := v129.no k137
  have c137 := c129.no k137
  refine ⟨fun h => absurd rfl (of_decide_eq_true h), fun _ => ⟨v137.row.some (i := 1) (by simp), v137.row.frz 1, fun H141 e141 => ?_⟩⟩
  obtain ⟨v141, k141⟩ := v137.time e141
  have c141 := c137.kp k141 (rne c137.la v137.row)
  refine ⟨vs, v141.row.cell_of (i := 2) rfl, (Lst.nil vF H141).append (xs := vs) v141.lv.rd rfl (by simp; omega) (by simp; omega) fun r149 H147 l149 k147' h149 => fun H150 e150 => ?_⟩
  have k147 : Kp No H141 H147 := k147'.mono fun x _ hx => by cases hx
  rw [List.nil_append] at l149
  have k150 : Kp No H147 H150 := (Kp.refl No _).push' e150
  have s150 := size_push' e150
  have x150 : Row H150 H147.size 35 (vF.f ⟨1, 0, E, false⟩) := Row.new' e150
  have f149 : ∀ x, r149.at x → x = H141.size := fun x hx => by
    rcases h149 x hx with hx | hx
    · cases hx
    · exact hx
  refine (l149.kp k150 fun _ _ => id).append1 x150 rfl (by omega) (by omega) fun r154 H152 l154 k152 h154 => ?_
  have s117 := k117.size
  have s125 := k125.size
  have s129 := k129.size
  have s137 := k137.size
  have s141 := k141.size
  have s147 := k147.size
  have f154 : ∀ x, r154.at x → H141.size ≤ x := fun x hx => by
    rcases h154 x hx with hx | hx
    · have := f149 x hx; omega
    · omega
  -- all since then lies in new blocks
  have kk : Kp No H141 H152 := (k147.trans k150 fun _ h => h.elim).trans k152 fun x hx => .inr (by have := f149 x hx; omega)
  have v152 := v141.no kk
  have c152 := c141.no kk
  have n154 := l154.n
  rw [List.length_append, List.length_singleton] at n154
  have e22 : ∀ W : List VT, W.length ≠ A.length → chk 0 W A = 22 := fun W h => by unfold chk; rw [if_neg (by omega), if_pos h]
  refine c11T c152 l154.rd (by simp; omega) fun H155 k155 => ?_
  rw [e22 _ (by simp; omega)]
  have v155 := v152.no k155
  have c155 := c152.no k155
  have l155 := l154.kp k155 fun _ _ => id
  refine ⟨fun h => absurd rfl (of_decide_eq_true h), fun _ => ⟨vs, v155.row.cell_of (i := 2) rfl, fun hz => hQ H155 v155.k, fun hz => ⟨vs, v155.row.cell_of (i := 2) rfl, ?_⟩⟩⟩
  have hz := of_decide_eq_false hz
  have hpos : 0 < V.length := by omega
  have hcap : r154.n ≤ r154.c := by
    rcases l154.own with ⟨h0, _⟩ | ⟨_, _, _, _, _, _, g5, g6⟩
    · rw [h0]; decide
    · exact g5
  have hw : IntKind.i64.wrap ((vs.n : Int) - 1) = ((V.length - 1 : Nat) : Int) := by rw [wr (by omega) (by omega)]; omega
  rw [hw, show (((V.length - 1 : Nat) : Int)).toNat = V.length - 1 from by omega]
  refine ⟨by omega, Nat.zero_le _, by omega, Nat.le_refl _, c11T c155 (l155.rd.front (i := V.length - 1) (by rw [List.length_append]; omega)) (by rw [List.length_take]; simp; omega) fun H168 k168 => ?_⟩
  rw [e22 _ (by rw [List.length_take]; simp; omega)]
  have v168 := v155.no k168
  have c168 := c155.no k168
  refine ⟨fun h => absurd rfl (of_decide_eq_true h), fun _ => ⟨vs, v168.row.cell_of (i := 2) rfl, c12 (by omega) (by omega) fun q q0 q1 => ⟨vs, v168.row.cell_of (i := 2) rfl, ?_⟩⟩⟩
  have hqn : q = ((q.toNat : Nat) : Int) := by omega
  generalize q.toNat = i at hqn
  subst hqn
  have hi : i < V.length := by omega
  have gv : V[i]? = some (V[i]'hi) := List.getElem?_eq_getElem hi
  have ga : A[i]? = some (A[i]'(by omega)) := List.getElem?_eq_getElem (by omega)
  have hfit := hf.2 i _ _ gv ga
  have hka := (hA.ok _ (List.getElem_mem (l := A) (n := i) (by omega))).2.2
  generalize V[i]'hi = v at gv hfit
  generalize A[i]'(by omega) = a at ga hfit hka
  obtain ⟨b, hb, hbn, cb'⟩ := v168.lv.rd.get gv
  have cbk : cell H168 (b.add (i * 4)) = some (.int .i64 v.k) := by
    have := cb'.1
    rwa [show (b.add (i * 4)).add 0 = b.add (i * 4) from by rw [add_add, Nat.add_zero]] at this
  -- what comes of another value in its place
  have after : ∀ {v' : VT} {H' : Hp}, Lst vF H' vs (V.set i v') → Kp vs.at H168 H' → Ev H0 H' eb 0 vs (V.set i v') ∧ Cat1 H0 H' cb mr r A := fun {v' H'} hl kk => by
    have ne3 : ∀ {x t : Nat} {m : List Value}, Row H168 x t m → t ≠ 35 → ¬ vs.at x := fun hr ht hh => (v168.lv.row hh).elim fun _ h2 => h2.ne_type hr (Ne.symm ht) rfl
    refine ⟨⟨kk.row v168.row (ne3 v168.row (by decide)), hl, v168.lo, v168.g, v168.k.trans kk fun x hx => .inr (v168.g x hx)⟩, c168.kp kk fun x hx => ⟨fun e => ?_, fun e => ?_, fun hh => ?_⟩⟩
    · subst e; exact ne3 c168.row (by decide) hx
    · subst e
      obtain ⟨sp, hrow⟩ := v168.lv.row hx
      exact c168.m.ne hrow rfl
    · exact (c168.la.row hh).elim fun _ h2 => ne3 h2 (by decide) hx
  have gset : ∀ v' : VT, (V.set i v')[i]? = some v' := fun v' => List.getElem?_set_self hi
  have before : ∀ (v' : VT) (j : Nat) (w : VT) (c : ByteArray × Int), j < i → (V.set i v')[j]? = some w → A[j]? = some c → w.k = c.2 ∧ vld w = true := fun v' j w c hj hw hc => by
    rw [List.getElem?_set_ne (by omega)] at hw
    exact hf.2 j w c hw hc
  have ck : ∀ v' : VT, chk 0 (V.set i v') A = if v'.k ≠ a.2 then 10 else if vld v' = false then 12 else chkL ((V.set i v').drop (i + 1)) (A.drop (i + 1)) := fun v' => by
    unfold chk
    rw [if_neg (by omega), if_neg (by rw [List.length_set]; omega)]
    exact chkL_at (before v') (gset v') ga
  refine ⟨b, hb, by omega, by omega, v.k, cbk, fun hm => ⟨vs, v168.row.cell_of (i := 2) rfl, ?_⟩, fun hm => ⟨fun h1 => ⟨vs, v168.row.cell_of (i := 2) rfl, ?_⟩, fun h1 => ⟨vs, v168.row.cell_of (i := 2) rfl, ?_⟩⟩⟩
  · -- of another kind
    have hd : ∃ z : Int, (z = 0 ∨ z = 1) ∧ Int.tmod (IntKind.i64.wrap (Int.tdiv (IntKind.i64.wrap wrong) 2)) 2 = z := by
      rw [wr (x := wrong) (by omega) (by omega), Int.tdiv_eq_ediv_of_nonneg hw0, wr (by omega) (by omega), Int.tmod_eq_emod_of_nonneg (by omega)]
      exact ⟨wrong / 2 % 2, by omega, rfl⟩
    obtain ⟨z, hz01, hz⟩ := hd
    rw [hz, wr (x := v.k + z) (by omega) (by omega), Int.tmod_eq_emod_of_nonneg (by omega), wr (x := 1 + (v.k + z) % 3) (by omega) (by omega)]
    obtain ⟨g1, g2⟩ := valOf_ok (k := 1 + (v.k + z) % 3) (n := 0) (s := E) (by omega) (by omega)
    refine c10 fun H188 k188 => ?_
    generalize valOf (1 + (v.k + z) % 3) 0 E = v' at g1 g2
    have v188 := v168.no k188
    have l188 := v188.lv
    obtain ⟨b2, hb2, hs2, hn2, hmay, hset⟩ := l188.set (i := i) hi v'
    refine ⟨v188.row.cell_of (i := 2) rfl, b2, hb2, by omega, by omega, hmay, fun H199 e199 => ?_⟩
    obtain ⟨l199, k199⟩ := hset H199 e199
    have kt : Kp vs.at H168 H199 := (k188.mono fun x _ hx => hx.elim).trans k199 fun x hx => .inl hx
    obtain ⟨v199, c199⟩ := after l199 kt
    refine ⟨S_T, 0, vs, v199.row.all, c11T c199 v199.lv.rd (by rw [List.length_set]; omega) fun H206 k206 => ?_⟩
    rw [ck, if_pos (by rw [g1]; omega)]
    exact hQ H206 (v199.k.trans k206 fun _ h => h.elim)
  · obtain ⟨b2, hb2, hs2, hn2, hz1, hz2, hset⟩ := v168.lv.set1 (i := i) (c := 2) (x := v) (x' := ⟨v.k, v.n, S_x, v.b⟩) (v := .string S_x) gv (by decide) rfl
    refine ⟨b2, hb2, by omega, by omega, hz1, hz2, fun H218 e218 => ?_⟩
    obtain ⟨l218, k218⟩ := hset H218 e218
    obtain ⟨v218, c218⟩ := after l218 k218
    refine c3_6 c218 v218 (by rw [List.length_set]; omega) ?_ hQ
    have hk1 := of_decide_eq_true h1
    rw [ck, if_neg (by intro h; exact h hfit.1), if_pos ?_]
    unfold vld
    rw [if_pos hk1, show seq S_x E = false from seq_false (by decide)]
    rfl
  · obtain ⟨b2, hb2, hs2, hn2, hz1, hz2, hset⟩ := v168.lv.set1 (i := i) (c := 1) (x := v) (x' := ⟨v.k, 5, v.s, v.b⟩) (v := .int .i64 5) gv (by decide) rfl
    refine ⟨b2, hb2, by omega, by omega, hz1, hz2, fun H228 e228 => ?_⟩
    obtain ⟨l228, k228⟩ := hset H228 e228
    obtain ⟨v228, c228⟩ := after l228 k228
    refine c3_6 c228 v228 (by rw [List.length_set]; omega) ?_ hQ
    have hk1 := of_decide_eq_false h1
    rw [ck, if_neg (by intro h; exact h hfit.1), if_pos ?_]
    unfold vld
    rw [if_neg hk1]
    split
    · rfl
    · split
      · rfl
      · rfl
end
end Go.Hw
