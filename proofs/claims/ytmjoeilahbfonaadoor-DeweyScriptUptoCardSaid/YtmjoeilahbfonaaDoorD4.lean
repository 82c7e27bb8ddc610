/- DeweyFamilies: the law. Own work of this session. -/
import Derived.Test.YtmjoeilahbfonaaDoorD3
set_option linter.unusedVariables false
namespace Go.Hw
open Go

theorem bst_102 : bst (sh [1, 0, 2]) = S_1_0_2 := by
  have d : ∀ n : Nat, n < 10 → dig (n : Int) = [48 + (n : Int)] := fun n hn => by
    unfold dig Lib.itoa
    rw [if_neg (by omega)]
    show (Lib.decDigits n).map _ = _
    rw [Lib.decDigits_one hn]
    simp
    omega
  have d1 := d 1 (by decide)
  have d0 := d 0 (by decide)
  have d2 := d 2 (by decide)
  unfold sh sh sh
  rw [show dig 1 = [49] from d1, show dig 0 = [48] from d0, show dig 2 = [50] from d2]
  rfl

theorem seq_refl (s : ByteArray) : seq s s = true := by unfold seq; simp

/-- A literal list. -/
theorem lit3 {H H1 : Hp} {L : List Int} {n : Nat} (hL : L.length ≤ 2097152) (hn : n = L.length) (e : H1 = Array.push H (.cells (L.map (Value.int .i64)).toArray 3)) : Iv H1 ⟨some ⟨H.size, 0, none⟩, n, n⟩ L := by
  have hf : L.flatMap iF.f = L.map (Value.int .i64) := by
    clear e hn hL
    induction L with
    | nil => rfl
    | cons x l ih => rw [List.flatMap_cons, ih]; rfl
  have r : Row H1 H.size 3 (L.flatMap iF.f) := by
    rw [hf]
    subst e
    exact Row.newl _ _ _
  exact ⟨r.rdl hn n, Nat.le_refl _, hL⟩

/-- Calls whose answers the document fixes. -/
theorem c9 {H : Hp} {Q : Bool → Hp → Prop} (ht : TabH H) (hH : 0 < H.size) (hQ : ∀ H', Kp No H H' → Q true H') : F9 H Q := by
  intro H1 e1
  have k1 := (Kp.refl No H).push' e1
  have v1 : Iv H1 _ [1, 0, 2] := lit3 (n := 3) (by decide) rfl e1
  refine c11 v1 (fun h => (by cases h)) (fun _ h => absurd h (by decide)) fun _ _ r5 H3 l5 k3 _ => fun H7 e7 => ?_
  have kk3 := k1.trans k3 fun _ h => h.elim
  have k7 : Kp No H3 H7 := (Kp.refl No _).push' e7
  have v7 : Iv H7 _ [1, 0, 2] := lit3 (n := 3) (by decide) rfl e7
  have kk7 := kk3.trans k7 fun _ h => h.elim
  have s7 := kk7.size
  refine c17 v7 (ht.kp kk7 hH id) (by omega) (fun h => (by cases h)) fun _ H9 k9 => ?_
  have kk9 := kk7.trans k9 fun _ h => h.elim
  refine c18 (fun h => (by cases h)) fun V hV _ r15 H13 l15 k13 _ => ?_
  have kk13 := kk9.trans k13 fun _ h => h.elim
  have hV : V = [1, 0, 2] := by injection hV with hV; exact hV.symm
  subst hV
  rw [bst_102]
  refine ⟨fun _ H19 e19 => ?_, fun h => (by cases h)⟩
  have k19 : Kp No H13 H19 := (Kp.refl No _).push' e19
  have v19 : Iv H19 _ [1, 0, 3] := lit3 (n := 3) (by decide) rfl e19
  have kk19 := kk13.trans k19 fun _ h => h.elim
  have w5 := (((l5.kp k7 fun _ _ => id).kp k9 fun _ _ => id).kp k13 fun _ _ => id).kp k19 fun _ _ => id
  refine c15 (w5.iv (by decide)) v19 ⟨fun _ => ⟨fun _ => ⟨fun _ => ⟨fun _ H32 e32 => ?_, fun h => (by cases h)⟩, fun h => (by rw [seq_refl] at h; cases h)⟩, fun h => (by cases h)⟩, fun h => (by cases h)⟩
  have k32 : Kp No H19 H32 := (Kp.refl No _).push' e32
  have v32 : Iv H32 _ [1, 0, 2] := lit3 (n := 3) (by decide) rfl e32
  have kk32 := kk19.trans k32 fun _ h => h.elim
  refine c15 (((l15.kp k19 fun _ _ => id).kp k32 fun _ _ => id).iv (by decide)) v32 ⟨fun _ H39 e39 => ?_, fun h => (by cases h)⟩
  have k39 : Kp No H32 H39 := (Kp.refl No _).push' e39
  have v39 : Iv H39 _ [1] := lit3 (n := 1) (by decide) rfl e39
  refine c12 v39 fun r43 H41 l43 k41 _ => fun H44 e44 => ?_
  have kk41 := (kk32.trans k39 fun _ h => h.elim).trans k41 fun _ h => h.elim
  have k44 : Kp No H41 H44 := (Kp.refl No _).push' e44
  have v44 : Iv H44 _ [1, 0] := lit3 (n := 2) (by decide) rfl e44
  refine c15 ((l43.kp k44 fun _ _ => id).iv (by decide)) v44 ⟨fun _ H51 e51 => fun H53 e53 => ?_, fun h => (by cases h)⟩
  have k51 : Kp No H44 H51 := (Kp.refl No _).push' e51
  have v51 : Iv H51 _ [1, 0] := lit3 (n := 2) (by decide) rfl e51
  have k53 : Kp No H51 H53 := (Kp.refl No _).push' e53
  have v53 : Iv H53 _ [1, 0, 2] := lit3 (n := 3) (by decide) rfl e53
  refine c30 (v51.no k53) v53 ⟨fun _ H60 e60 => fun H62 e62 => ?_, fun h => (by cases h)⟩
  have k60 : Kp No H53 H60 := (Kp.refl No _).push' e60
  have v60 : Iv H60 _ [1, 0] := lit3 (n := 2) (by decide) rfl e60
  have k62 : Kp No H60 H62 := (Kp.refl No _).push' e62
  have v62 : Iv H62 _ [1] := lit3 (n := 1) (by decide) rfl e62
  refine c14 (v60.no k62) v62 ?_
  have := hQ H62 (((((kk41.trans k44 fun _ h => h.elim).trans k51 fun _ h => h.elim).trans k53 fun _ h => h.elim).trans k60 fun _ h => h.elim).trans k62 fun _ h => h.elim)
  exact this

section
variable {H : Hp} {p q r : Sl} {a b c v more : List Int}

theorem leads_false {a b : List Int} (h : ¬ Leads a b) : leads a b = false := by
  rw [Bool.eq_false_iff]
  exact fun hh => h (leads_iff.1 hh)

/-- P12.7 of three rows. -/
theorem c13 {Q : Bool → Hp → Prop} (ha : Iv H p a) (hb : Iv H q b) (hc : Iv H r c) (hQ : Q true H) : F13 p q r H Q := by
  have hna := ha.rd.n
  have hnb := hb.rd.n
  have hnc := hc.rd.n
  have h0 : leads a a = decide ((0 : Int) < (p.n : Int)) := by
    by_cases e : a = []
    · subst e
      simp at hna
      rw [hna]; rfl
    · have := List.length_pos_iff.2 e
      rw [leads_iff.2 (Leads.refl e), decide_eq_true (by omega)]
  have two : ∀ y : Bool, (y = true → Leads a c) → F13_2 Q p r y H := fun y hy => ⟨fun h => c16 ha hc (by rw [leads_iff.2 (hy h)]; exact hQ), fun _ => hQ⟩
  have one : F13_1 Q p q r false H := by
    refine ⟨fun h => (by cases h), fun _ => c16 ha hb ⟨fun h1 => c16 hb hc ⟨fun h2 => ?_, fun _ => two false fun h => (by cases h)⟩, fun _ => two false fun h => (by cases h)⟩⟩
    have l1 := leads_iff.1 h1
    have l2 := leads_iff.1 h2
    exact ⟨fun h3 => two true fun _ => l1.trans l2 (.inl (by have := of_decide_eq_true h3; omega)), fun h3 => two _ fun h4 => l1.trans l2 (.inr (by have := of_decide_eq_true h4; omega))⟩
  refine c16 ha ha ?_
  rw [h0, beq_self_eq_true]
  refine ⟨fun h => (by cases h), fun _ => c16 ha hb ⟨fun h1 => c16 hb ha ⟨fun h2 => c15 ha hb ?_, fun _ => one⟩, fun _ => one⟩⟩
  rw [(leads_iff.1 h1).anti (leads_iff.1 h2), decide_eq_true rfl]
  exact one

/-- P12.7 of one version: what Extend and Bump make of it. -/
theorem c10 {Q : Bool → Hp → Prop} (hv : Iv H p v) (hm : Iv H q more) (hl : v.length + more.length ≤ 2000000) (hQ : ∀ H', Kp No H H' → Q true H') : F10 p q H Q := by
  have hn := hv.rd.n
  refine c12 hv fun x H1 lx k1 hx => ?_
  have lxi := lx.iv (by simp; omega)
  have hxn := lx.n
  rw [List.length_append, List.length_singleton] at hxn
  have v1 := hv.no k1
  have hw : IntKind.i64.wrap ((p.n : Int) + 1) = (x.n : Int) := by rw [wr (by omega) (by omega)]; omega
  rw [hw]
  refine ⟨fun h => absurd rfl (of_decide_eq_true h), fun _ => ?_⟩
  have gx : (v ++ [0])[v.length]? = some 0 := by simp
  obtain ⟨a, hab, _, ca⟩ := lx.rd.get gx
  have hpn : ((p.n : Int)).toNat = v.length := by omega
  rw [hpn]
  refine ⟨a, hab, by omega, by omega, 0, ca.1, fun h => absurd rfl (of_decide_eq_true h), fun _ => ⟨by omega, Nat.zero_le _, by have := lxi.c; omega, Nat.le_refl _, ?_⟩⟩
  have hcut : RdL iF H1 (Sl.cut x 1 0 v.length x.c) v := by
    refine ⟨by show v.length - 0 = _; omega, ?_⟩
    have e : (Sl.cut x 1 0 v.length x.c).b = x.b := by
      unfold Sl.cut
      show (if x.c = 0 then x.b else x.b.map (·.add (0 * 1))) = x.b
      split
      · rfl
      · rw [hab]; simp [Addr.add]
    rw [e]
    have hr := lx.rd.r
    rw [hab] at hr ⊢
    have hr : cells H1 a ((v ++ [0]).flatMap iF.f) 0 := hr
    show cells H1 a (v.flatMap iF.f) 0
    have := cells_sub (i := 0) (m := v.flatMap iF.f) hr (by
      rw [List.drop_zero, List.flatMap_append, List.take_left])
    rwa [show a.add 0 = a from by unfold Addr.add; simp] at this
  refine c15 ⟨hcut, by show v.length - 0 ≤ x.c - 0; have := lxi.c; omega, hv.l⟩ v1 ?_
  rw [decide_eq_true rfl]
  -- from here on
  have one : F10_1 Q p q x false H1 := by
    refine ⟨fun h => (by cases h), fun _ => c11 v1 (fun _ => ?_) (fun _ _ => ?_) fun hval hne w H2 lw k2 hw2 => ?_⟩
    · exact ⟨fun _ => hQ H1 k1, fun h => (by cases h)⟩
    · exact ⟨fun _ => hQ H1 k1, fun h => (by cases h)⟩
    · have hv0 : v ≠ [] := fun e => by rw [e] at hval; cases hval
      have hlw := up_len hv0
      have hwn := lw.n
      rw [hlw] at hwn
      refine ⟨fun h => (by cases h), fun _ => ?_⟩
      have v2 := v1.no k2
      have m2 := (hm.no k1).no k2
      have x2 := lx.kp k2 fun _ _ => id
      refine (Lst.nil iF H2).append (xs := p) v2.rd rfl (by simp; omega) (by simp; omega) fun r40 H3 l40 k3 h40 => ?_
      rw [List.nil_append] at l40
      have k3' : Kp No H2 H3 := k3.mono fun x _ hx => by cases hx
      have m3 := m2.no k3'
      refine l40.append (xs := q) m3.rd rfl (by omega) (by omega) fun r43 H4 l43 k4 h43 => ?_
      have at40 : ∀ b, r40.at b → b = H2.size := fun b hb => by
        rcases h40 b hb with hb | hb
        · cases hb
        · exact hb
      have k4' : Kp No H2 H4 := k3'.trans k4 fun b hb => .inr (by have := at40 b hb; omega)
      have v4 := v2.no k4'
      have w4 := (lw.kp k4' fun _ _ => id).iv (by rw [hlw]; omega)
      have x4 := (x2.kp k4' fun _ _ => id).iv (by simp; omega)
      have b4 := l43.iv (by rw [List.length_append]; omega)
      have kk4 : Kp No H H4 := (k1.trans k2 fun _ h => h.elim).trans k4' fun _ h => h.elim
      refine ⟨fun h => absurd (by omega) (of_decide_eq_true h), fun _ => c16 v4 w4 ?_⟩
      rw [leads_iff.2 (up1 hv0)]
      refine ⟨fun h => (by cases h), fun _ => c16 w4 v4 ?_⟩
      rw [leads_false (up2 hv0)]
      refine ⟨fun h => (by cases h), fun _ => c16 w4 b4 ?_⟩
      rw [leads_false (up3 hv0 more)]
      refine ⟨fun h => (by cases h), fun _ => c12 w4 fun y H5 ly k5 hy => ?_⟩
      have y5 := ly.iv (by rw [List.length_append, hlw]; simp; omega)
      refine c16 (v4.no k5) y5 ?_
      rw [leads_false (up4 hv0)]
      refine ⟨fun _ => c16 (x4.no k5) y5 ?_, fun h => (by cases h)⟩
      rw [leads_false (up5 hv0)]
      exact hQ H5 (kk4.trans k5 fun _ h => h.elim)
  refine ⟨fun h => (by cases h), fun _ => ⟨fun h => c16 v1 lxi ?_, fun _ => one⟩⟩
  have hv0 : v ≠ [] := fun e => by
    have := of_decide_eq_true h
    rw [e] at hn; simp at hn; omega
  rw [leads_iff.2 (Leads.front hv0 [0])]
  exact one
end
end Go.Hw
