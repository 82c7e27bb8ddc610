/- DeweyScript: what a call answers, twice. Own work of this session. -/
import Derived.Test.YtmjoeilahbfonaaDoorD9
set_option linter.unusedVariables false
namespace Go.Hw
open Go

/-- What a call answers, in plain words. -/
structure Tt where
  L : List Int
  s : ByteArray
  n : Int
  yes : Bool
  e : Int
def tnil : Tt := ⟨[], ⟨#[]⟩, 0, false, 0⟩
def tbump (V : List Int) : Tt := if valid V = false then { tnil with e := 120 } else if lastOf V = 2147483647 then { tnil with e := 4 } else { tnil with L := V.dropLast ++ [lastOf V + 1] }
def tshow (V : List Int) : Tt := if valid V = false then { tnil with e := 120 } else { tnil with s := bst (sh V) }
def tread (s : ByteArray) : Tt := match rread (bytes s) [0] true with | none => { tnil with e := 120 } | some X => { tnil with L := X }
def told (k : Int) (V W : List Int) (s : ByteArray) : Tt :=
  if k = 1 then { tnil with L := V ++ [0] } else if k = 2 then tbump V else if k = 3 then { tnil with yes := leads V W } else if k = 4 then { tnil with n := compare V W } else if k = 5 then tshow V else if k = 6 then tread s else tnil
theorem read_len {s : ByteArray} {X : List Int} (h : rread (bytes s) [0] true = some X) : X.length ≤ 64 := (valid_mem (read_inv h).1).2.1
theorem told_len (k : Int) {V W : List Int} (s : ByteArray) (h : V.length ≤ 1048576) : (told k V W s).L.length ≤ 1048577 := by
  unfold told
  split
  · show (V ++ [0]).length ≤ _
    rw [List.length_append, List.length_singleton]; omega
  · split
    · unfold tbump
      split
      · exact Nat.zero_le _
      · split
        · exact Nat.zero_le _
        · show (V.dropLast ++ [lastOf V + 1]).length ≤ _
          rw [List.length_append, List.length_singleton, List.length_dropLast]; omega
    · split
      · exact Nat.zero_le _
      · split
        · exact Nat.zero_le _
        · split
          · unfold tshow
            split <;> exact Nat.zero_le _
          · split
            · unfold tread
              split
              · exact Nat.zero_le _
              · rename_i X hX
                have := read_len hX
                show X.length ≤ _
                omega
            · exact Nat.zero_le _

theorem cut_lst {H : Hp} {r : Sl} {L M : List Int} (h : Lst iF H r (L ++ M)) : Lst iF H (Sl.cut r 1 0 L.length r.c) L ∧ ∀ b, (Sl.cut r 1 0 L.length r.c).at b ↔ r.at b := by
  have e : (Sl.cut r 1 0 L.length r.c).b = r.b := by
    unfold Sl.cut
    show (if r.c = 0 then r.b else r.b.map (·.add (0 * 1))) = r.b
    split
    · rfl
    · cases r.b with
      | none => rfl
      | some a => simp [Addr.add]
  refine ⟨?_, fun b => by unfold Sl.at; rw [e]⟩
  rcases h.own with ⟨h0, h1⟩ | ⟨b, sp, h1, h2, h3, h4, h5, h6⟩
  · have := fl_len iF.len (L ++ M)
    rw [h1, List.length_append] at this
    simp at this
    have hL : L = [] := List.eq_nil_of_length_eq_zero (by omega)
    subst hL
    subst h0
    exact Lst.nil _ _
  · have hl := fl_len iF.len L
    rw [fl_len iF.len, List.length_append] at h3
    refine ⟨.inr ⟨b, M.flatMap iF.f ++ sp, e.trans h1, ?_, ?_, ?_, ?_, ?_⟩⟩
    · rw [← List.append_assoc, ← List.flatMap_append]; exact h2
    · rw [hl]; rfl
    · rw [← List.append_assoc, ← List.flatMap_append, h4]; rfl
    · show L.length - 0 ≤ r.c - 0
      omega
    · show r.c - 0 ≤ _
      omega

/-- The step with rows of its own. -/
theorem c25 {H : Hp} {k : Int} {v w : Sl} {s : ByteArray} {V W : List Int} {Q : Int → Sl → Sl → ByteArray → Hp → Prop} (hv : Iv H v V) (hw : Iv H w W) (lv : V.length ≤ 1048576) (lw : W.length ≤ 1048576)
    (hQ : ∀ v' w' H', Lst iF H' v' V → Lst iF H' w' W → (∀ b, v'.at b ∨ w'.at b → H.size ≤ b) → (∀ b, v'.at b → ¬ w'.at b) → Kp No H H' → Q k v' w' s H') : F25 k v w s H Q := by
  intro H1 e1 H3 e3
  have k1 := (Kp.refl No H).push' e1
  have s1 := size_push' e1
  have k3' : Kp No H1 H3 := (Kp.refl No _).push' e3
  have s3 := size_push' e3
  have k3 := k1.trans k3' fun _ h => h.elim
  have o3 : Row H3 H.size 41 [.int .i64 k, Sl.v v, Sl.v w, .string s] := k3'.row (Row.new' e1) id
  have z3 : Row H3 H1.size 41 [.int .i64 0, Sl.v Sl.nil, Sl.v Sl.nil, .string ⟨#[]⟩] := Row.new' e3
  have vn := hv.rd.n
  have wn := hw.rd.n
  refine ⟨v, o3.cell_of (i := 1) rfl, v, o3.cell_of (i := 1) rfl, c34 (hv.no k3) (by omega) fun r11 H9 l11 f11 c11 k9 => ?_⟩
  have s9 := k9.size
  have o9 := k9.row o3 id
  have z9 := k9.row z3 id
  have n11 := l11.n
  rw [rm_len] at n11
  have ev : ((v.n : Int)).toNat = V.length := by omega
  have ew : ((w.n : Int)).toNat = W.length := by omega
  refine ⟨o9.cell_of (i := 1) rfl, by omega, Nat.zero_le _, by omega, Nat.le_refl _, o9.some (i := 1) (by simp), o9.frz 1, fun H17 e17 => ?_⟩
  rw [ev] at e17
  obtain ⟨lc, atc⟩ := cut_lst l11
  generalize Sl.cut r11 1 0 V.length r11.c = v' at e17 lc atc
  have o17 : Row H17 H.size 41 [.int .i64 k, Sl.v v', Sl.v w, .string s] := o9.set' e17
  have k17 : Kp (fun x => x = H.size) H9 H17 := (Kp.refl _ _).set' e17 (.inl rfl)
  have s17 := size_set' e17
  have z17 := k17.row z9 (by omega)
  have lc17 := lc.kp k17 fun x hx hh => by have := f11 x ((atc x).1 hx); omega
  have kk17 : Kp No H H17 := (k3.trans k9 fun _ h => h.elim).trans k17 fun x hx => .inr (by omega)
  refine ⟨w, o17.cell_of (i := 2) rfl, w, o17.cell_of (i := 2) rfl, c34 (hw.no kk17) (by omega) fun r27 H25 l27 f27 c27 k25 => ?_⟩
  have s25 := k25.size
  have o25 := k25.row o17 id
  have z25 := k25.row z17 id
  have n27 := l27.n
  rw [rm_len] at n27
  refine ⟨o25.cell_of (i := 2) rfl, by omega, Nat.zero_le _, by omega, Nat.le_refl _, o25.some (i := 2) (by simp), o25.frz 2, fun H33 e33 => ?_⟩
  rw [ew] at e33
  obtain ⟨ld, atd⟩ := cut_lst l27
  generalize Sl.cut r27 1 0 W.length r27.c = w' at e33 ld atd
  have o33 : Row H33 H.size 41 [.int .i64 k, Sl.v v', Sl.v w', .string s] := o25.set' e33
  have k33 : Kp (fun x => x = H.size) H25 H33 := (Kp.refl _ _).set' e33 (.inl rfl)
  have s33 := size_set' e33
  have z33 := k33.row z25 (by omega)
  refine ⟨k, v', w', s, o33.all, z33.mayw (by decide), fun H42 e42 => ?_⟩
  have z42 : Row H42 H1.size 41 [.int .i64 k, Sl.v v', Sl.v w', .string s] := z33.fill' e42 rfl
  have k42 : Kp (fun x => x = H1.size) H33 H42 := (Kp.refl _ _).sets' e42 (.inl rfl)
  have fv : ∀ b, v'.at b → H3.size ≤ b := fun b hb => f11 b ((atc b).1 hb)
  have fw : ∀ b, w'.at b → H17.size ≤ b := fun b hb => f27 b ((atd b).1 hb)
  refine ⟨k, v', w', s, z42.all, hQ v' w' H42 ?_ ?_ (fun b hb => ?_) (fun b hb hb' => ?_) ?_⟩
  · exact ((lc17.kp k25 fun _ _ => id).kp k33 fun x hx hh => by have := fv x hx; omega).kp k42 fun x hx hh => by have := fv x hx; omega
  · exact (ld.kp k33 fun x hx hh => by have := fw x hx; omega).kp k42 fun x hx hh => by have := fw x hx; omega
  · rcases hb with hb | hb
    · have := fv b hb; omega
    · have := fw b hb; omega
  · have := lc17.lt hb
    have := fw b hb'
    omega
  · exact ((kk17.trans k25 fun _ h => h.elim).trans k33 fun x hx => .inr (by omega)).trans k42 fun x hx => .inr (by omega)

theorem tfin {H' : Hp} {tb : Nat} {m : List Value} {r : Sl} {L : List Int} {s : ByteArray} {n : Int} {yes : Bool} {e : Int} {Q : Sl → ByteArray → Int → Bool → Int → Hp → Prop} (hr : Row H' tb 51 m) (hm : m.length = 5) (lr : Lst iF H' r L)
    (hQ : ∀ H13, Lst iF H13 r L → Kp (fun x => x = tb) H' H13 → Q r s n yes e H13) :
    mayw H' ⟨tb, 0, none⟩ 5 0 ∧ ∀ H13 : Hp, H13 = sets H' ⟨tb, 0, none⟩ [(Sl.v r), (.string s), (.int .i64 n), (.bool yes), (.int .i64 e)] 0 →
      (∃ (x16 : Sl) (x17 : ByteArray) (x18 : Int) (x19 : Bool) (x20 : Int), cells H13 ⟨tb, 0, none⟩ [(Sl.v x16), (.string x17), (.int .i64 x18), (.bool x19), (.int .i64 x20)] 0 ∧ (Q x16 x17 x18 x19 x20 H13)) := by
  refine ⟨hr.mayw (by omega), fun H13 e13 => ?_⟩
  have r13 : Row H13 tb 51 [(Sl.v r), (.string s), (.int .i64 n), (.bool yes), (.int .i64 e)] := hr.fill' e13 (by rw [hm]; rfl)
  have k13 : Kp (fun x => x = tb) H' H13 := (Kp.refl _ _).sets' e13 (.inl rfl)
  exact ⟨r, s, n, yes, e, r13.all, hQ H13 (lr.kp k13 fun x hx hh => by subst hh; exact lr.ne hr (by decide) hx) k13⟩

/-- What the program answers. -/
theorem c26 {H : Hp} {k : Int} {v w : Sl} {s : ByteArray} {V W : List Int} {Q : Sl → ByteArray → Int → Bool → Int → Hp → Prop} (ht : TabH H) (hH : 0 < H.size) (hv : Iv H v V) (hw : Iv H w W)
    (hQ : ∀ r H', Lst iF H' r (told k V W s).L → (∀ b, r.at b → H.size ≤ b) → Kp No H H' → Q r (told k V W s).s (told k V W s).n (told k V W s).yes (told k V W s).e H') : F26 k v w s H Q := by
  intro H1 e1 H3 e3
  have k1 := (Kp.refl No H).push' e1
  have s1 := size_push' e1
  have k3' : Kp No H1 H3 := (Kp.refl No _).push' e3
  have s3 := size_push' e3
  have k3 := k1.trans k3' fun _ h => h.elim
  have o3 : Row H3 H.size 41 [.int .i64 k, Sl.v v, Sl.v w, .string s] := k3'.row (Row.new' e1) id
  have z3 : Row H3 H1.size 51 [Sl.v Sl.nil, .string ⟨#[]⟩, .int .i64 0, .bool false, .int .i64 0] := Row.new' e3
  have v3 := hv.no k3
  have w3 := hw.no k3
  have t3 := ht.kp k3 hH id
  have fin : ∀ {r : Sl} {H' : Hp} {t : Tt}, told k V W s = t → Kp No H3 H' → Lst iF H' r t.L → (∀ b, r.at b → H3.size ≤ b) → (mayw H' ⟨H1.size, 0, none⟩ 5 0 ∧ ∀ H13 : Hp, H13 = sets H' ⟨H1.size, 0, none⟩ [(Sl.v r), (.string t.s), (.int .i64 t.n), (.bool t.yes), (.int .i64 t.e)] 0 →
      (∃ (x16 : Sl) (x17 : ByteArray) (x18 : Int) (x19 : Bool) (x20 : Int), cells H13 ⟨H1.size, 0, none⟩ [(Sl.v x16), (.string x17), (.int .i64 x18), (.bool x19), (.int .i64 x20)] 0 ∧ (Q x16 x17 x18 x19 x20 H13))) := fun {r H' t} e kk lr fr => by
    subst e
    exact tfin (kk.row z3 id) rfl lr fun H13 l13 k13 => hQ r H13 l13 (fun b hb => by have := fr b hb; omega) ((k3.trans kk fun _ h => h.elim).trans k13 fun x hx => .inr (by omega))
  have nf : ∀ b, Sl.nil.at b → H3.size ≤ b := fun b hb => by cases hb
  have ln : ∀ {H'}, Lst iF H' Sl.nil [] := fun {H'} => Lst.nil _ _
  refine ⟨k, o3.cell_of (i := 0) rfl, fun hk => ?_, fun hk1 => ⟨fun hk => ?_, fun hk2 => ⟨fun hk => ?_, fun hk3 => ⟨fun hk => ?_, fun hk4 => ⟨fun hk => ?_, fun hk5 => ⟨fun hk => ?_, fun hk6 => ?_⟩⟩⟩⟩⟩⟩
  · obtain rfl := of_decide_eq_true hk
    exact ⟨v, o3.cell_of (i := 1) rfl, c12 v3 fun r H' lr kk fr => fin (t := { tnil with L := V ++ [0] }) rfl kk lr fr⟩
  · obtain rfl := of_decide_eq_true hk
    refine ⟨v, o3.cell_of (i := 1) rfl, c11 v3 (fun h => fin (t := { tnil with e := 120 }) ?_ (Kp.refl _ _) ln nf) (fun h1 h2 => fin (t := { tnil with e := 4 }) ?_ (Kp.refl _ _) ln nf) fun h1 h2 r H' lr kk fr => fin (t := { tnil with L := V.dropLast ++ [lastOf V + 1] }) ?_ kk lr fr⟩
    · show tbump V = _
      unfold tbump
      rw [if_pos h]
    · show tbump V = _
      unfold tbump
      rw [if_neg (by rw [h1]; decide), if_pos h2]
    · show tbump V = _
      unfold tbump
      rw [if_neg (by rw [h1]; decide), if_neg h2]
  · obtain rfl := of_decide_eq_true hk
    exact ⟨v, o3.cell_of (i := 1) rfl, w, o3.cell_of (i := 2) rfl, c30 v3 w3 (fin (t := { tnil with yes := leads V W }) rfl (Kp.refl _ _) ln nf)⟩
  · obtain rfl := of_decide_eq_true hk
    exact ⟨v, o3.cell_of (i := 1) rfl, w, o3.cell_of (i := 2) rfl, c14 v3 w3 (fin (t := { tnil with n := compare V W }) rfl (Kp.refl _ _) ln nf)⟩
  · obtain rfl := of_decide_eq_true hk
    refine ⟨v, o3.cell_of (i := 1) rfl, c17 v3 t3 (by omega) (fun h => fin (t := { tnil with e := 120 }) ?_ (Kp.refl _ _) ln nf) fun h H' kk => fin (t := { tnil with s := bst (sh V) }) ?_ kk ln nf⟩
    · show tshow V = _
      unfold tshow
      rw [if_pos h]
    · show tshow V = _
      unfold tshow
      rw [if_neg (by rw [h]; decide)]
  · obtain rfl := of_decide_eq_true hk
    refine ⟨s, o3.cell_of (i := 3) rfl, c18 (fun h H' kk => fin (t := { tnil with e := 120 }) ?_ kk ln nf) fun X h _ r H' lr kk fr => fin (t := { tnil with L := X }) ?_ kk lr fr⟩
    · show tread s = _
      unfold tread
      rw [h]
    · show tread s = _
      unfold tread
      rw [h]
  · refine fin (t := tnil) ?_ (Kp.refl _ _) ln nf
    unfold told
    rw [if_neg (of_decide_eq_false hk1), if_neg (of_decide_eq_false hk2), if_neg (of_decide_eq_false hk3), if_neg (of_decide_eq_false hk4), if_neg (of_decide_eq_false hk5), if_neg (of_decide_eq_false hk6)]

/-- What the document answers. -/
theorem c27 {H : Hp} {k : Int} {v w : Sl} {s : ByteArray} {V W : List Int} {Q : Sl → ByteArray → Int → Bool → Int → Hp → Prop} (ht : TabH H) (hm : MaxH H) (hv : Iv H v V) (hw : Iv H w W) (lv : V.length ≤ 1048576) (lw : W.length ≤ 1048576)
    (hQ : ∀ r H', Lst iF H' r (told k V W s).L → (∀ b, r.at b → H.size ≤ b) → Kp No H H' → Q r (told k V W s).s (told k V W s).n (told k V W s).yes (told k V W s).e H') : F27 k v w s H Q := by
  have hH := hm.size
  intro H1 e1 H3 e3
  have k1 := (Kp.refl No H).push' e1
  have s1 := size_push' e1
  have k3' : Kp No H1 H3 := (Kp.refl No _).push' e3
  have s3 := size_push' e3
  have k3 := k1.trans k3' fun _ h => h.elim
  have o3 : Row H3 H.size 41 [.int .i64 k, Sl.v v, Sl.v w, .string s] := k3'.row (Row.new' e1) id
  have z3 : Row H3 H1.size 51 [Sl.v Sl.nil, .string ⟨#[]⟩, .int .i64 0, .bool false, .int .i64 0] := Row.new' e3
  refine ⟨k, v, w, s, o3.all, c25 (hv.no k3) (hw.no k3) lv lw fun v' w' H10 l11 l12 _ _ k10 => fun H16 e16 => ?_⟩
  have s10 := k10.size
  have k16 : Kp No H10 H16 := (Kp.refl No _).push' e16
  have s16 := size_push' e16
  have r16 := Row.new' e16
  refine ⟨r16.mayw (by decide), fun H18 e18 => ?_⟩
  have o18 : Row H18 H10.size 41 [.int .i64 k, Sl.v v', Sl.v w', .string s] := r16.fill' e18 rfl
  have k18 : Kp No H10 H18 := k16.sets' e18 (.inr (Nat.le_refl _))
  have s18 := size_sets' e18
  have kk18 : Kp No H H18 := (k3.trans k10 fun _ h => h.elim).trans k18 fun _ h => h.elim
  have z18 := (k10.trans k18 fun _ h => h.elim).row z3 id
  have v18 := (l11.kp k18 fun _ _ => id).iv (by omega)
  have w18 := (l12.kp k18 fun _ _ => id).iv (by omega)
  have t18 := ht.kp kk18 (by omega) id
  have m18 := hm.kp kk18 id
  have fin : ∀ {r : Sl} {H' : Hp} {t : Tt}, told k V W s = t → Kp No H18 H' → Lst iF H' r t.L → (∀ b, r.at b → H18.size ≤ b) → (mayw H' ⟨H1.size, 0, none⟩ 5 0 ∧ ∀ H13 : Hp, H13 = sets H' ⟨H1.size, 0, none⟩ [(Sl.v r), (.string t.s), (.int .i64 t.n), (.bool t.yes), (.int .i64 t.e)] 0 →
      (∃ (x16 : Sl) (x17 : ByteArray) (x18 : Int) (x19 : Bool) (x20 : Int), cells H13 ⟨H1.size, 0, none⟩ [(Sl.v x16), (.string x17), (.int .i64 x18), (.bool x19), (.int .i64 x20)] 0 ∧ (Q x16 x17 x18 x19 x20 H13))) := fun {r H' t} e kk lr fr => by
    subst e
    exact tfin (kk.row z18 id) rfl lr fun H13 l13 k13 => hQ r H13 l13 (fun b hb => by have := fr b hb; omega) ((kk18.trans kk fun _ h => h.elim).trans k13 fun x hx => .inr (by omega))
  have nf : ∀ b, Sl.nil.at b → H18.size ≤ b := fun b hb => by cases hb
  have ln : ∀ {H'}, Lst iF H' Sl.nil [] := fun {H'} => Lst.nil _ _
  refine ⟨k, o18.cell_of (i := 0) rfl, fun hk => ?_, fun hk1 => ⟨fun hk => ?_, fun hk2 => ⟨fun hk => ?_, fun hk3 => ⟨fun hk => ?_, fun hk4 => ⟨fun hk => ?_, fun hk5 => ⟨fun hk => ?_, fun hk6 => ?_⟩⟩⟩⟩⟩⟩
  · obtain rfl := of_decide_eq_true hk
    exact ⟨v', o18.cell_of (i := 1) rfl, c35 v18 fun r H' lr kk fr => fin (t := { tnil with L := V ++ [0] }) rfl kk lr fr⟩
  · obtain rfl := of_decide_eq_true hk
    refine ⟨v', o18.cell_of (i := 1) rfl, c36 v18 (fun h => fin (t := { tnil with e := 120 }) ?_ (Kp.refl _ _) ln nf) (fun h1 h2 H' kk => fin (t := { tnil with e := 4 }) ?_ kk ln nf) fun h1 h2 r H' lr kk fr => fin (t := { tnil with L := V.dropLast ++ [lastOf V + 1] }) ?_ kk lr fr⟩
    · show tbump V = _
      unfold tbump
      rw [if_pos h]
    · show tbump V = _
      unfold tbump
      rw [if_neg (by rw [h1]; decide), if_pos h2]
    · show tbump V = _
      unfold tbump
      rw [if_neg (by rw [h1]; decide), if_neg h2]
  · obtain rfl := of_decide_eq_true hk
    exact ⟨v', o18.cell_of (i := 1) rfl, w', o18.cell_of (i := 2) rfl, c37 v18 w18 (fin (t := { tnil with yes := leads V W }) rfl (Kp.refl _ _) ln nf)⟩
  · obtain rfl := of_decide_eq_true hk
    exact ⟨v', o18.cell_of (i := 1) rfl, w', o18.cell_of (i := 2) rfl, c38 v18 w18 (fin (t := { tnil with n := compare V W }) rfl (Kp.refl _ _) ln nf)⟩
  · obtain rfl := of_decide_eq_true hk
    refine ⟨v', o18.cell_of (i := 1) rfl, c39 v18 t18 (by omega) (fun h => fin (t := { tnil with e := 120 }) ?_ (Kp.refl _ _) ln nf) fun h H' kk => fin (t := { tnil with s := bst (sh V) }) ?_ kk ln nf⟩
    · show tshow V = _
      unfold tshow
      rw [if_pos h]
    · show tshow V = _
      unfold tshow
      rw [if_neg (by rw [h]; decide)]
  · obtain rfl := of_decide_eq_true hk
    refine ⟨s, o18.cell_of (i := 3) rfl, c40 t18 m18 (fun h H' kk => fin (t := { tnil with e := 120 }) ?_ kk ln nf) fun X h _ r H' lr kk fr => fin (t := { tnil with L := X }) ?_ kk lr fr⟩
    · show tread s = _
      unfold tread
      rw [h]
    · show tread s = _
      unfold tread
      rw [h]
  · refine fin (t := tnil) ?_ (Kp.refl _ _) ln nf
    unfold told
    rw [if_neg (of_decide_eq_false hk1), if_neg (of_decide_eq_false hk2), if_neg (of_decide_eq_false hk3), if_neg (of_decide_eq_false hk4), if_neg (of_decide_eq_false hk5), if_neg (of_decide_eq_false hk6)]

theorem c28 {H : Hp} {a b : Sl} {L : List Int} {s : ByteArray} {n : Int} {yes : Bool} {e : Int} {Q : Bool → Hp → Prop} (ha : Iv H a L) (hb : Iv H b L) (hQ : ∀ H', Kp No H H' → Q true H') : F28 a s n yes e b s n yes e H Q := by
  intro H1 e1 H3 e3
  have k1 := (Kp.refl No H).push' e1
  have k3' : Kp No H1 H3 := (Kp.refl No _).push' e3
  have k3 := k1.trans k3' fun _ h => h.elim
  have o3 : Row H3 H.size 51 [Sl.v a, .string s, .int .i64 n, .bool yes, .int .i64 e] := k3'.row (Row.new' e1) id
  have z3 : Row H3 H1.size 51 [Sl.v b, .string s, .int .i64 n, .bool yes, .int .i64 e] := Row.new' e3
  refine ⟨s, o3.cell_of (i := 1) rfl, s, z3.cell_of (i := 1) rfl, fun _ => ⟨n, o3.cell_of (i := 2) rfl, n, z3.cell_of (i := 2) rfl, fun _ => ⟨yes, o3.cell_of (i := 3) rfl, yes, z3.cell_of (i := 3) rfl, fun _ => ⟨e, o3.cell_of (i := 4) rfl, e, z3.cell_of (i := 4) rfl, fun _ => ⟨a, o3.cell_of (i := 0) rfl, b, z3.cell_of (i := 0) rfl, c15 (ha.no k3) (hb.no k3) ?_⟩, fun h => absurd rfl (of_decide_eq_false h)⟩, fun h => (by rw [beq_self_eq_true] at h; cases h)⟩, fun h => absurd rfl (of_decide_eq_false h)⟩, fun h => (by rw [seq_refl] at h; cases h)⟩
  rw [decide_eq_true rfl]
  exact hQ H3 k3
theorem c29 {H : Hp} {a : Sl} {s : ByteArray} {n : Int} {yes : Bool} {e : Int} {Q : Int → Hp → Prop} (hQ : ∀ x H', Kp No H H' → Q x H') : F29 a s n yes e H Q := by
  intro H1 e1
  have k1 := (Kp.refl No H).push' e1
  have o1 : Row H1 H.size 51 [Sl.v a, .string s, .int .i64 n, .bool yes, .int .i64 e] := Row.new' e1
  exact ⟨a, o1.cell_of (i := 0) rfl, s, o1.cell_of (i := 1) rfl, hQ _ H1 k1⟩
end Go.Hw
