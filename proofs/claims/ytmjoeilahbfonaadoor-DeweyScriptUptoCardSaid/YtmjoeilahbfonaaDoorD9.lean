/- DeweyAll. Own work of this session. -/
import Derived.Test.YtmjoeilahbfonaaDoorD8
set_option linter.unusedVariables false
namespace Go.Hw
open Go

theorem made_zero : ∀ m : Nat, (made #[(.int .i64 0)] m).toList = (List.replicate m (0 : Int)).flatMap iF.f
  | m => by
    unfold made Builtin.zeroCells
    rw [Array.toList_map, Array.toList_range]
    apply List.ext_getElem?
    intro i
    have e : (List.replicate m (0 : Int)).flatMap iF.f = List.replicate m (Value.int .i64 0) := by
      induction m with
      | zero => rfl
      | succ m ih => rw [List.replicate_succ, List.flatMap_cons, ih]; rfl
    rw [e]
    simp only [List.getElem?_map]
    by_cases hi : i < m
    · rw [List.getElem?_range (by simpa using hi), List.getElem?_replicate, if_pos hi]
      show some ((#[(Value.int .i64 0)] : Array Value)[i % 1]!) = _
      rw [Nat.mod_one]
      rfl
    · rw [List.getElem?_eq_none (by simp; omega), List.getElem?_eq_none (by simp; omega)]
      rfl

/-- The marks behind a row. -/
def marks : List Int := (List.range 66).map fun (k : Nat) => -71 - (k : Int)
theorem marks_len : marks.length = 66 := by simp [marks]
def rm (L : List Int) : List Int := L ++ marks
theorem rm_len (L : List Int) : (rm L).length = L.length + 66 := by simp [rm, marks_len]
theorem rm_lo {L : List Int} {i : Nat} (h : i < L.length) : (rm L)[i]? = L[i]? := List.getElem?_append_left h
theorem rm_hi {L : List Int} {i : Nat} (h : L.length ≤ i) (h2 : i < L.length + 66) : (rm L)[i]? = some (-71 - (i : Int) + (L.length : Int)) := by
  unfold rm
  rw [List.getElem?_append_right h]
  unfold marks
  rw [List.getElem?_map, List.getElem?_range (by omega)]
  show some (-71 - ((i - L.length : Nat) : Int)) = _
  congr 1
  omega

section
variable {H : Hp} {p q r : Sl} {L M : List Int}

theorem cut_iv (h : Lst iF H r (L ++ M)) (hL : L.length ≤ 2097152) : Iv H (Sl.cut r 1 0 L.length r.c) L := by
  have hn := h.n
  rw [List.length_append] at hn
  have hc : r.n ≤ r.c := by
    rcases h.own with ⟨h0, _⟩ | ⟨_, _, _, _, _, _, g5, g6⟩
    · rw [h0]; decide
    · exact g5
  refine ⟨⟨by show L.length - 0 = _; omega, ?_⟩, by show L.length - 0 ≤ r.c - 0; omega, hL⟩
  have hr := h.rd.r
  have e : (Sl.cut r 1 0 L.length r.c).b = r.b := by
    unfold Sl.cut
    show (if r.c = 0 then r.b else r.b.map (·.add (0 * 1))) = r.b
    split
    · rfl
    · cases r.b with
      | none => rfl
      | some a => simp [Addr.add]
  rw [e]
  cases hb : r.b with
  | none =>
    rw [hb] at hr
    have hr : (L ++ M).flatMap iF.f = [] := hr
    have := fl_len iF.len (L ++ M)
    rw [hr, List.length_append] at this
    simp at this
    have : L = [] := List.eq_nil_of_length_eq_zero (by omega)
    subst this
    rfl
  | some a =>
    rw [hb] at hr
    have hr : cells H a ((L ++ M).flatMap iF.f) 0 := hr
    show cells H a (L.flatMap iF.f) 0
    have := cells_sub (i := 0) (m := L.flatMap iF.f) hr (by
      rw [List.drop_zero, List.flatMap_append, List.take_left])
    rwa [show a.add 0 = a from by unfold Addr.add; simp] at this

theorem c34 {Q : Sl → Hp → Prop} (h : Iv H p L) (hl : L.length ≤ 2000000) (hQ : ∀ r H', Lst iF H' r (rm L) → (∀ b, r.at b → H.size ≤ b) → r.n = r.c → Kp No H H' → Q r H') : F34 p H Q := by
  have hn := h.rd.n
  have hw : IntKind.i64.wrap ((p.n : Int) + 66) = ((L.length + 66 : Nat) : Int) := by rw [wr (by omega) (by omega)]; omega
  unfold F34
  rw [hw]
  refine ⟨by omega, by omega, by omega, by omega, fun H1 e1 => ?_⟩
  have hw2 : (((L.length + 66 : Nat) : Int)).toNat = L.length + 66 := by omega
  rw [hw2] at e1 ⊢
  have k1 := (Kp.refl No H).push' e1
  have s1 := size_push' e1
  have r1 : Row H1 H.size 3 ((List.replicate (L.length + 66) (0 : Int)).flatMap iF.f) := by
    rw [← made_zero]
    exact Row.new' e1
  have l1 : Lst iF H1 (Sl.mk (some ⟨H.size, 0, none⟩) (L.length + 66) (L.length + 66)) (List.replicate (L.length + 66) 0) := by
    refine ⟨.inr ⟨H.size, [], rfl, by rw [List.append_nil]; exact r1, ?_, ?_, Nat.le_refl _, show L.length + 66 ≤ 9223372036854775807 by omega⟩⟩
    · rw [fl_len iF.len, List.length_replicate]
    · rw [List.append_nil, fl_len iF.len, List.length_replicate]
  have hat : ∀ b, (Sl.mk (some ⟨H.size, 0, none⟩) (L.length + 66) (L.length + 66)).at b → H.size ≤ b := fun b hb => by
    have hb : (some ⟨H.size, 0, none⟩ : Option Addr) = some ⟨b, 0, none⟩ := hb
    injection hb with hb
    injection hb with hb
    omega
  have hsn : (Sl.mk (some ⟨H.size, 0, none⟩) (L.length + 66) (L.length + 66)).n = L.length + 66 := rfl
  have hsc : (Sl.mk (some ⟨H.size, 0, none⟩) (L.length + 66) (L.length + 66)).c = L.length + 66 := rfl
  generalize (Sl.mk (some ⟨H.size, 0, none⟩) (L.length + 66) (L.length + 66)) = g at l1 hat hsn hsc ⊢
  intro X hX
  have hrl := rm_len L
  suffices G : ∀ (d i : Nat) (H' : Hp), i + d = L.length + 66 → Lst iF H' g ((rm L).take i ++ List.replicate (L.length + 66 - i) 0) → Kp No H H' → X (i : Int) H' from
    G (L.length + 66) 0 H1 (by omega) (by simpa using l1) k1
  intro d
  induction d with
  | zero =>
    intro i H' hi lg k
    obtain rfl : i = L.length + 66 := by omega
    rw [List.take_of_length_le (by omega), Nat.sub_self, List.replicate_zero, List.append_nil] at lg
    exact hX _ _ ⟨fun hh => absurd (of_decide_eq_true hh) (by omega), fun _ => hQ g H' lg hat (by omega) k⟩
  | succ d ih =>
    intro i H' hi lg k
    have hti : ((rm L).take i).length = i := by rw [List.length_take]; omega
    have g0 : ((rm L).take i ++ List.replicate (L.length + 66 - i) 0)[i]? = some 0 := by
      rw [List.getElem?_append_right (by omega), List.getElem?_replicate, if_pos (by omega)]
    have hset : ∀ x, (rm L)[i]? = some x → ((rm L).take i ++ List.replicate (L.length + 66 - i) 0).set i x = (rm L).take (i + 1) ++ List.replicate (L.length + 66 - (i + 1)) 0 := fun x hx => by
      rw [List.set_append, if_neg (by omega), hti, Nat.sub_self, List.take_add_one, hx, show L.length + 66 - i = (L.length + 66 - (i + 1)) + 1 from by omega, List.replicate_succ, List.set_cons_zero]
      simp
    have hwv : IntKind.i64.wrap (IntKind.i64.wrap (-71 - (i : Int)) + (p.n : Int)) = -71 - (i : Int) + (L.length : Int) := by
      rw [wr (x := -71 - (i : Int)) (by omega) (by omega), wr (by omega) (by omega)]; omega
    obtain ⟨a, ha, hs, hin, hz1, hz2, hst⟩ := lg.set1 (i := i) (c := 0) (x := 0) (x' := -71 - (i : Int) + (L.length : Int)) (v := .int .i64 (-71 - (i : Int) + (L.length : Int))) g0 (by decide) rfl
    have ea : ((a.add (i * 1)).add 0) = a.add (((i : Int)).toNat * 1) := by rw [add_add]; rfl
    rw [ea] at hz1 hz2 hst
    refine hX _ _ ⟨fun _ => ⟨a, ha, by omega, by omega, hz1, hz2, fun H21 e21 => ?_⟩, fun hh => absurd (of_decide_eq_false hh) (by omega)⟩
    rw [hwv] at e21
    obtain ⟨l21, k21⟩ := hst H21 e21
    have kk21 : Kp No H H21 := k.trans k21 fun b hb => .inr (hat b hb)
    have three : ∀ H36, Lst iF H36 g ((rm L).take (i + 1) ++ List.replicate (L.length + 66 - (i + 1)) 0) → Kp No H H36 → F34_3 Q X p (p.n : Int) g (i : Int) H36 := fun H36 l36 k36 => by
      show X (IntKind.i64.wrap ((i : Int) + 1)) H36
      rw [wr (by omega) (by omega)]
      exact ih (i + 1) H36 (by omega) l36 k36
    refine ⟨fun hh => ?_, fun hh => three H21 ?_ kk21⟩
    · have hlt := of_decide_eq_true hh
      have gi : L[i]? = some (L[i]'(by omega)) := List.getElem?_eq_getElem (by omega)
      generalize L[i]'(by omega) = x at gi
      obtain ⟨c, hc, _, cc⟩ := (h.no kk21).rd.get gi
      have g1 : (((rm L).take i ++ List.replicate (L.length + 66 - i) 0).set i (-71 - (i : Int) + (L.length : Int)))[i]? = some (-71 - (i : Int) + (L.length : Int)) := by
        rw [List.getElem?_set_self]
        rw [List.length_append, List.length_replicate, hti]; omega
      obtain ⟨a', ha', hs', hin', hz1', hz2', hst'⟩ := l21.set1 (i := i) (c := 0) (x := -71 - (i : Int) + (L.length : Int)) (x' := x) (v := .int .i64 x) g1 (by decide) rfl
      have ea' : ((a'.add (i * 1)).add 0) = a'.add (((i : Int)).toNat * 1) := by rw [add_add]; rfl
      rw [ea'] at hz1' hz2' hst'
      refine ⟨c, hc, by omega, by omega, x, cc.1, a', ha', by omega, by omega, hz1', hz2', fun H36 e36 => ?_⟩
      obtain ⟨l36, k36⟩ := hst' H36 e36
      rw [List.set_set, hset x (by rw [rm_lo (by omega)]; exact gi)] at l36
      exact three H36 l36 (kk21.trans k36 fun b hb => .inr (hat b hb))
    · have hge := of_decide_eq_false hh
      rw [hset _ (rm_hi (by omega) (by omega))] at l21
      exact l21
end

/-- A step. -/
structure OP where
  k : Int
  v : Sl
  w : Sl
  s : ByteArray
  V : List Int
  W : List Int
def opF : Fmt OP 41 4 := ⟨fun x => [.int .i64 x.k, Sl.v x.v, Sl.v x.w, .string x.s], fun _ => rfl, by
  intro x v hv
  simp only [List.mem_cons, List.not_mem_nil, or_false] at hv
  rcases hv with rfl | rfl | rfl | rfl <;> rfl, by decide⟩
/-- A step's rows are read. -/
structure OpIv (H : Hp) (o : OP) : Prop where
  v : Iv H o.v o.V
  w : Iv H o.w o.W
  lv : o.V.length ≤ 1048576
  lw : o.W.length ≤ 1048576
theorem OpIv.no {H H' : Hp} {o : OP} (h : OpIv H o) (k : Kp No H H') : OpIv H' o := ⟨h.v.no k, h.w.no k, h.lv, h.lw⟩

theorem c19 {H : Hp} {o : OP} {Q : Bool → Hp → Prop} (ht : TabH H) (hm : MaxH H) (h : OpIv H o) (hQ : ∀ H', Kp No H H' → Q true H') : F19 o.k o.v o.w o.s H Q := by
  obtain ⟨k, v, w, s, V, W⟩ := o
  obtain ⟨hv, hw, lv, lw⟩ := h
  replace hv : Iv H v V := hv
  replace hw : Iv H w W := hw
  replace lv : V.length ≤ 1048576 := lv
  replace lw : W.length ≤ 1048576 := lw
  have hH := hm.size
  intro H1 e1
  have k1 := (Kp.refl No H).push' e1
  have s1 := size_push' e1
  have r1 : Row H1 H.size 41 [.int .i64 k, Sl.v v, Sl.v w, .string s] := Row.new' e1
  have row : ∀ {H'}, Kp No H1 H' → Row H' H.size 41 [.int .i64 k, Sl.v v, Sl.v w, .string s] := fun kk => kk.row r1 id
  have c0 : ∀ {H'}, Kp No H1 H' → cell H' ⟨H.size, 0, none⟩ = some (.int .i64 k) := fun kk => (row kk).cell_of rfl
  have c1 : ∀ {H'}, Kp No H1 H' → cell H' (Addr.add ⟨H.size, 0, none⟩ 1) = some (Sl.v v) := fun kk => (row kk).cell_of rfl
  have c2 : ∀ {H'}, Kp No H1 H' → cell H' (Addr.add ⟨H.size, 0, none⟩ 2) = some (Sl.v w) := fun kk => (row kk).cell_of rfl
  have c3 : ∀ {H'}, Kp No H1 H' → cell H' (Addr.add ⟨H.size, 0, none⟩ 3) = some (.string s) := fun kk => (row kk).cell_of rfl
  have v1 := hv.no k1
  have w1 := hw.no k1
  have t1 := ht.kp k1 (by omega) id
  have m1 := hm.kp k1 id
  refine ⟨v, c1 (Kp.refl _ _), c34 v1 (by omega) fun r7 H5 l7 _ _ k5 => ⟨w, c2 k5, c34 (w1.no k5) (by omega) fun r12 H10 l12 _ _ k10' => ?_⟩⟩
  have k10 : Kp No H1 H10 := k5.trans k10' fun _ h => h.elim
  have l7 := l7.kp k10' fun _ _ => id
  have vn := hv.rd.n
  have wn := hw.rd.n
  have r7n := l7.n
  have r12n := l12.n
  rw [rm_len] at r7n r12n
  have hc7 : r7.n ≤ r7.c := (l7.iv (by rw [rm_len]; omega)).c
  have hc12 : r12.n ≤ r12.c := (l12.iv (by rw [rm_len]; omega)).c
  have e1' : ((v.n : Int)).toNat = V.length := by omega
  have e2' : ((w.n : Int)).toNat = W.length := by omega
  have av : Iv H10 (Sl.cut r7 1 0 ((v.n : Int)).toNat r7.c) V := by rw [e1']; exact cut_iv l7 (by omega)
  have aw : Iv H10 (Sl.cut r12 1 0 ((w.n : Int)).toNat r12.c) W := by rw [e2']; exact cut_iv l12 (by omega)
  have fin : ∀ {H'}, Kp No H10 H' → F19_1 Q ⟨H.size, 0, none⟩ r7 r12 true H' := fun {Hx} kx => by
    have kkx : Kp No H1 Hx := k10.trans kx fun _ h => h.elim
    refine ⟨fun _ => ⟨v, c1 kkx, c34 (v1.no kkx) (by omega) fun r123 H121 l123 _ _ k121 => ?_⟩, fun h => (by cases h)⟩
    have i7 := ((l7.kp kx fun _ _ => id).kp k121 fun _ _ => id).iv (by rw [rm_len]; omega)
    refine c15 i7 (l123.iv (by rw [rm_len]; omega)) ?_
    rw [decide_eq_true rfl]
    have kk121 : Kp No H1 H121 := kkx.trans k121 fun _ h => h.elim
    refine ⟨fun _ => ⟨w, c2 kk121, c34 (w1.no kk121) (by omega) fun r133 H131 l133 _ _ k131 => ?_⟩, fun h => (by cases h)⟩
    have i12 := (((l12.kp kx fun _ _ => id).kp k121 fun _ _ => id).kp k131 fun _ _ => id).iv (by rw [rm_len]; omega)
    refine c15 i12 (l133.iv (by rw [rm_len]; omega)) ?_
    rw [decide_eq_true rfl]
    exact hQ H131 ((k1.trans kk121 fun _ h => h.elim).trans k131 fun _ h => h.elim)
  have s10 := k10.size
  have t10 := t1.kp k10 (by omega) id
  have m10 := m1.kp k10 id
  refine ⟨v, c1 k10, by omega, Nat.zero_le _, by omega, Nat.le_refl _, w, c2 k10, by omega, Nat.zero_le _, by omega, Nat.le_refl _, k, c0 k10, fun hk => ?_, fun hk => ⟨fun hk => ?_, fun hk => ⟨fun hk => ?_, fun hk => ⟨fun hk => ?_, fun hk => ⟨fun hk => ?_, fun hk => ⟨fun hk => ?_, fun hk => fin (Kp.refl _ _)⟩⟩⟩⟩⟩⟩
  · refine ⟨v, c1 k10, c12 av fun r35 H33 l35 k33 _ => ?_⟩
    have kk33 : Kp No H1 H33 := k10.trans k33 fun _ h => h.elim
    refine ⟨c1 kk33, c35 (v1.no kk33) fun r39 H37 l39 k37 _ => ?_⟩
    refine c15 ((l35.kp k37 fun _ _ => id).iv (by simp; omega)) (l39.iv (by simp; omega)) ?_
    rw [decide_eq_true rfl]
    exact fin (k33.trans k37 fun _ h => h.elim)
  · refine c11 av (fun hv0 => ⟨v, c1 k10, ?_⟩) (fun hv0 hl0 => ⟨v, c1 k10, ?_⟩) fun hv0 hl0 r47 H45 l47 k45 _ => ?_
    · refine c36 (v1.no k10) (fun _ => ?_) (fun h => by rw [hv0] at h; cases h) (fun h => by rw [hv0] at h; cases h)
      refine c15 (Iv.nil _) (Iv.nil _) ?_
      rw [decide_eq_true rfl]
      refine ⟨fun _ => ?_, fun h => (by cases h)⟩
      rw [decide_eq_true rfl]
      exact fin (Kp.refl _ _)
    · refine c36 (v1.no k10) (fun h => by rw [hv0] at h; cases h) (fun _ _ H' k' => ?_) (fun _ h => absurd hl0 h)
      refine c15 (Iv.nil _) (Iv.nil _) ?_
      rw [decide_eq_true rfl]
      refine ⟨fun _ => ?_, fun h => (by cases h)⟩
      rw [decide_eq_true rfl]
      exact fin k'
    · have kk45 : Kp No H1 H45 := k10.trans k45 fun _ h => h.elim
      refine ⟨v, c1 kk45, c36 (v1.no kk45) (fun h => by rw [hv0] at h; cases h) (fun _ h => absurd h hl0) fun _ _ r53 H51 l53 k51 _ => ?_⟩
      refine c15 ((l47.kp k51 fun _ _ => id).iv (by simp; omega)) (l53.iv (by simp; omega)) ?_
      rw [decide_eq_true rfl]
      refine ⟨fun _ => ?_, fun h => (by cases h)⟩
      rw [decide_eq_true rfl]
      exact fin (k45.trans k51 fun _ h => h.elim)
  · refine ⟨v, c1 k10, w, c2 k10, c30 av aw ⟨c2 k10, c1 k10, c37 (v1.no k10) (w1.no k10) ?_⟩⟩
    rw [beq_self_eq_true]
    exact fin (Kp.refl _ _)
  · refine ⟨v, c1 k10, w, c2 k10, c14 av aw ⟨c2 k10, c1 k10, c38 (v1.no k10) (w1.no k10) ?_⟩⟩
    rw [decide_eq_true rfl]
    exact fin (Kp.refl _ _)
  · refine c17 av t10 (by omega) (fun hv0 => ⟨v, c1 k10, ?_⟩) fun hv0 H87 k87 => ?_
    · refine c39 (v1.no k10) t10 (by omega) (fun _ => ?_) (fun h => by rw [hv0] at h; cases h)
      rw [seq_refl]
      refine ⟨fun _ => ?_, fun h => (by cases h)⟩
      rw [decide_eq_true rfl]
      exact fin (Kp.refl _ _)
    · have kk87 : Kp No H1 H87 := k10.trans k87 fun _ h => h.elim
      refine ⟨v, c1 kk87, c39 (v1.no kk87) (t10.kp k87 (by omega) id) (by have := k87.size; omega) (fun h => by rw [hv0] at h; cases h) fun _ H93 k93 => ?_⟩
      rw [seq_refl]
      refine ⟨fun _ => ?_, fun h => (by cases h)⟩
      rw [decide_eq_true rfl]
      exact fin (k87.trans k93 fun _ h => h.elim)
  · refine ⟨s, c3 k10, c18 (fun hn H102 k102 => ?_) fun X hX hX64 r H102 lr k102 _ => ?_⟩
    · have kk102 : Kp No H1 H102 := k10.trans k102 fun _ h => h.elim
      refine ⟨s, c3 kk102, c40 (t10.kp k102 (by omega) id) (m10.kp k102 id) (fun _ H108 k108 => ?_) (fun Y hY => by rw [hn] at hY; cases hY)⟩
      refine c15 (Iv.nil _) (Iv.nil _) ?_
      rw [decide_eq_true rfl]
      refine ⟨fun _ => ?_, fun h => (by cases h)⟩
      rw [decide_eq_true rfl]
      exact fin (k102.trans k108 fun _ h => h.elim)
    · have kk102 : Kp No H1 H102 := k10.trans k102 fun _ h => h.elim
      refine ⟨s, c3 kk102, c40 (t10.kp k102 (by omega) id) (m10.kp k102 id) (fun hn => by rw [hn] at hX; cases hX) fun Y hY _ r' H108 lr' k108 _ => ?_⟩
      rw [hX] at hY
      injection hY with hY
      subst hY
      refine c15 ((lr.kp k108 fun _ _ => id).iv (by omega)) (lr'.iv (by omega)) ?_
      rw [decide_eq_true rfl]
      refine ⟨fun _ => ?_, fun h => (by cases h)⟩
      rw [decide_eq_true rfl]
      exact fin (k102.trans k108 fun _ h => h.elim)

theorem c6 {H : Hp} {sl : Sl} {Ops : List OP} {Q : Bool → Hp → Prop} (ht : TabH H) (hm : MaxH H) (h : RdL opF H sl Ops) (ho : ∀ o ∈ Ops, OpIv H o) (hl : Ops.length ≤ 2000000) (hQ : ∀ H', Kp No H H' → Q true H') : F6 sl H Q := by
  have hH := hm.size
  have hn := h.n
  refine c9 ht (by omega) fun H1 k1 => ⟨fun hh => (by cases hh), fun _ => ?_⟩
  intro X hX
  suffices G : ∀ (d i : Nat) (H' : Hp), i + d = Ops.length → Kp No H H' → X (i : Int) H' from G Ops.length 0 H1 (by omega) k1
  intro d
  induction d with
  | zero =>
    intro i H' hi k
    exact hX _ _ ⟨fun hh => absurd (of_decide_eq_true hh) (by omega), fun _ => hQ H' k⟩
  | succ d ih =>
    intro i H' hi k
    have gi : Ops[i]? = some (Ops[i]'(by omega)) := List.getElem?_eq_getElem (by omega)
    have hmem : Ops[i]'(by omega) ∈ Ops := List.getElem_mem _
    generalize Ops[i]'(by omega) = o at gi hmem
    obtain ⟨a, hab, _, ca⟩ := (h.kp0 k).get gi
    refine hX _ _ ⟨fun _ => ⟨a, hab, by omega, by omega, o.k, o.v, o.w, o.s, ca, c19 (ht.kp k (by omega) id) (hm.kp k id) ((ho o hmem).no k) fun H17 k17 => ⟨fun hh => (by cases hh), fun _ => ?_⟩⟩, fun hh => absurd (of_decide_eq_false hh) (by omega)⟩
    rw [wr (by omega) (by omega)]
    exact ih (i + 1) H17 (by omega) (k.trans k17 fun _ h => h.elim)
end Go.Hw
