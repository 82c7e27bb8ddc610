/- DeweyFresh. Own work of this session. -/
import Derived.Test.YtmjoeilahbfonaaDoorE3
set_option linter.unusedVariables false
namespace Go.Hw
open Go

theorem c7 {H : Hp} {sl : Sl} {Ops : List OP} {Q : Bool → Hp → Prop} (ht : TabH H) (hm : MaxH H) (h : RdL opF H sl Ops) (ho : ∀ o ∈ Ops, OpIv H o) (hl : Ops.length ≤ 1048576) (hQ : ∀ H', Kp No H H' → Q true H') : F7 sl H Q := by
  have hH := hm.size
  have hn := h.n
  refine c9 ht (by omega) fun H1 k1 => ⟨fun hh => (by cases hh), fun _ H5 e5 => ?_⟩
  have s1 := k1.size
  have k5 : Kp No H1 H5 := (Kp.refl No _).push' e5
  have b5 := Bk.new e5
  intro X hX
  suffices G1 : ∀ (d i : Nat) (G : Nat → Prop) (ls : Sl) (sz : Int) (a : Nat) (R : List BR) (H' : Hp), i + d = Ops.length → Bk G H' H1.size ls sz a R → (∀ x, G x → H.size ≤ x) → R.length ≤ i → Kp No H H' → X (i : Int) H' from
    G1 Ops.length 0 _ _ _ _ [] H5 (by omega) b5 (fun x hx => by omega) (Nat.le_refl _) (k1.trans k5 fun _ h => h.elim)
  intro d
  induction d with
  | zero =>
    intro i G ls sz a R H' hi hb hG hR k
    refine hX _ _ ⟨fun hh => absurd (of_decide_eq_true hh) (by omega), fun _ => c22 hb (by omega) ⟨fun _ => ?_, fun h => (by cases h)⟩⟩
    exact c23 (h.kp0 k) (fun o hm => (ho o hm).no k) hl fun H2 k2 => hQ H2 (k.trans k2 fun _ h => h.elim)
  | succ d ih =>
    intro i G ls sz a R H' hi hb hG hR k
    have gi : Ops[i]? = some (Ops[i]'(by omega)) := List.getElem?_eq_getElem (by omega)
    have hmem : Ops[i]'(by omega) ∈ Ops := List.getElem_mem _
    generalize Ops[i]'(by omega) = o at gi hmem
    have oiv := ho o hmem
    obtain ⟨c, hcb, hcn, cc⟩ := (h.kp0 k).get gi
    have hs := k.size
    refine hX _ _ ⟨fun _ => ?_, fun hh => absurd (of_decide_eq_false hh) (by omega)⟩
    refine ⟨c, hcb, by omega, by omega, o.k, o.v, o.w, o.s, cc, fun H22 e22 => ?_⟩
    have k22 : Kp No H' H22 := (Kp.refl No _).push' e22
    have s22' := size_push' e22
    have r22 := Row.new' e22
    refine ⟨r22.mayw (by decide), fun H24 e24 => ?_⟩
    have r24 : Row H24 H'.size 41 [.int .i64 o.k, Sl.v o.v, Sl.v o.w, .string o.s] := r22.fill' e24 rfl
    have k24 : Kp No H' H24 := k22.sets' e24 (.inr (Nat.le_refl _))
    have s24 := size_sets' e24
    have kk24 := k.trans k24 fun _ h => h.elim
    refine ⟨o.k, o.v, o.w, o.s, r24.all, c19 (ht.kp kk24 (by omega) id) (hm.kp kk24 id) (oiv.no kk24) fun H32 k32 => ⟨fun hh => (by cases hh), fun _ => ?_⟩⟩
    have s32 := k32.size
    have r32 := k32.row r24 id
    refine ⟨o.k, o.v, o.w, o.s, r32.all, fun H41 e41 => ?_⟩
    have k41 : Kp No H32 H41 := (Kp.refl No _).push' e41
    have s41 := size_push' e41
    have r41 := Row.new' e41
    refine ⟨r41.mayw (by decide), fun H43 e43 => ?_⟩
    have x43 : Row H43 H32.size 41 [.int .i64 o.k, Sl.v o.v, Sl.v o.w, .string o.s] := r41.fill' e43 rfl
    have k43 : Kp No H32 H43 := k41.sets' e43 (.inr (Nat.le_refl _))
    have s43 := size_sets' e43
    have o43 := k43.row r32 id
    have kk43 : Kp No H' H43 := (k24.trans k32 fun _ h => h.elim).trans k43 fun _ h => h.elim
    have v43 := (oiv.no (k.trans kk43 fun _ h => h.elim)).v
    have lv := oiv.lv
    have vn := v43.rd.n
    refine ⟨o.v, o43.cell_of (i := 1) rfl, (Lst.nil iF H43).append (xs := o.v) v43.rd rfl (by simp; omega) (by simp; omega) fun r50 H48 l50 k48' h50 => ?_⟩
    have k48 : Kp No H43 H48 := k48'.mono fun x _ hx => by cases hx
    rw [List.nil_append] at l50
    have s48 := k48.size
    have f50 : ∀ x, r50.at x → x = H43.size := fun x hx => by
      rcases h50 x hx with hx | hx
      · cases hx
      · exact hx
    have x48 := k48.row x43 id
    have o48 := k48.row o43 id
    refine ⟨x48.some (i := 1) (by simp), x48.frz 1, fun H51 e51 => ?_⟩
    have x51 : Row H51 H32.size 41 [.int .i64 o.k, Sl.v r50, Sl.v o.w, .string o.s] := x48.set' e51
    have k51' : Kp (fun x => x = H32.size) H48 H51 := (Kp.refl _ _).set' e51 (.inl rfl)
    have s51 := size_set' e51
    have o51 := k51'.row o48 (by omega)
    have l51 : Lst iF H51 r50 o.V := l50.kp k51' fun x hx hh => by have := f50 x hx; omega
    have k51 : Kp No H' H51 := (kk43.trans k48 fun _ h => h.elim).trans k51' fun x hx => .inr (by omega)
    refine ⟨o.k, r50, o.w, o.s, x51.all, c20 (o := ⟨o.k, r50, o.w, o.s, o.V, o.W⟩) (l51.iv (by omega)) lv fun r62 H60 L hL l62 f62 k60 => ?_⟩
    have s60 := k60.size
    have n62 := l62.n
    refine (Lst.nil iF H60).append (xs := r62) l62.rd rfl (by simp; omega) (by simp; omega) fun r65 H63 l65 k63' h65 => ?_
    have k63 : Kp No H60 H63 := k63'.mono fun x _ hx => by cases hx
    rw [List.nil_append] at l65
    have s63 := k63.size
    have f65 : ∀ x, r65.at x → x = H60.size := fun x hx => by
      rcases h65 x hx with hx | hx
      · cases hx
      · exact hx
    have l62lt : ∀ x, r62.at x → x < H60.size := fun x hx => l62.lt hx
    -- what was handed in is written over
    have x63 := (k60.trans k63 fun _ h => h.elim).row x51 id
    have o63 := (k60.trans k63 fun _ h => h.elim).row o51 id
    have v63 : Lst iF H63 r50 o.V := (l51.kp k60 fun _ _ => id).kp k63 fun _ _ => id
    have q62 : Lst iF H63 r62 L := l62.kp k63 fun _ _ => id
    have kk63 : Kp No H' H63 := (k51.trans k60 fun _ h => h.elim).trans k63 fun _ h => h.elim
    have vn50 := v63.n
    intro Y hY
    suffices G2 : ∀ (d j : Nat) (H2 : Hp), j + d = o.V.length → Lst iF H2 r50 (List.replicate j (-5) ++ o.V.drop j) → Kp r50.at H63 H2 → Y (j : Int) H2 from
      G2 o.V.length 0 H63 (by omega) (by simpa using v63) (Kp.refl _ _)
    intro d
    induction d with
    | succ d ih2 =>
      intro j H2 hj l2 k2
      have x2 := k2.row x63 fun hh => by have := f50 _ hh; omega
      have gj : (List.replicate j (-5) ++ o.V.drop j)[j]? = some (o.V[j]'(by omega)) := by
        rw [List.getElem?_append_right (by simp), List.length_replicate, Nat.sub_self, List.getElem?_drop, Nat.add_zero]
        exact List.getElem?_eq_getElem (by omega)
      obtain ⟨b, hb', hs', hin, hz1, hz2, hst⟩ := l2.set1 (i := j) (c := 0) (x := o.V[j]'(by omega)) (x' := -5) (v := .int .i64 (-5)) gj (by decide) rfl
      have ea : ((b.add (j * 1)).add 0) = b.add (((j : Int)).toNat * 1) := by rw [add_add]; rfl
      rw [ea] at hz1 hz2 hst
      refine hY _ _ ⟨r50, x2.cell_of (i := 1) rfl, fun _ => ⟨r50, x2.cell_of (i := 1) rfl, b, hb', by omega, by omega, hz1, hz2, fun H90 e90 => ?_⟩, fun hh => absurd (of_decide_eq_false hh) (by omega)⟩
      obtain ⟨l90, k90⟩ := hst H90 e90
      rw [wr (by omega) (by omega)]
      refine ih2 (j + 1) H90 (by omega) ?_ (k2.trans k90 fun x hx => .inl hx)
      have : (List.replicate j (-5) ++ o.V.drop j).set j (-5) = List.replicate (j + 1) (-5) ++ o.V.drop (j + 1) := by
        rw [List.set_append, if_neg (by simp), List.length_replicate, Nat.sub_self, List.drop_eq_getElem_cons (show j < o.V.length by omega), List.set_cons_zero, List.replicate_succ']
        simp
      rwa [this] at l90
    | zero =>
      intro j H2 hj l2 k2
      obtain rfl : j = o.V.length := by omega
      rw [List.drop_length, List.append_nil] at l2
      have x2 := k2.row x63 fun hh => by have := f50 _ hh; omega
      have o2 := k2.row o63 fun hh => by have := f50 _ hh; omega
      have s2 := k2.size
      have q2 : Lst iF H2 r62 L := q62.kp k2 fun x hx hh => by have := f50 x hh; have := l50.lt hh; have := f62 x hx; omega
      have w2 : Lst iF H2 r65 L := l65.kp k2 fun x hx hh => by have := f50 x hh; have := l50.lt hh; have := f65 x hx; omega
      have kk2 : Kp No H' H2 := kk63.trans k2 fun x hx => .inr (by have := f50 x hx; omega)
      have b2 := hb.no kk2
      have glt : ∀ x, G x → x < H'.size := hb.glt
      refine hY _ _ ⟨r50, x2.cell_of (i := 1) rfl, fun hh => absurd (of_decide_eq_true hh) (by omega), fun _ => c15 (q2.iv (by omega)) (w2.iv (by omega)) ?_⟩
      rw [decide_eq_true rfl]
      refine ⟨fun hh => (by cases hh), fun _ => c21 b2 q2 (fun x hx hg => by have := glt x hg; have := f62 x hx; omega) (by omega) (by omega) fun H98 ls' sz' a' R' hR' b98 k98 => ?_⟩
      have s98 := k98.size
      have out : ∀ x, H'.size ≤ x → x < H51.size → ¬ (G x ∨ r62.at x) := fun x h1 h2 hh => by
        rcases hh with hh | hh
        · have := glt x hh; omega
        · have := f62 x hh; omega
      have x98 := k98.row x2 (out _ (by omega) (by omega))
      have o98 := k98.row o2 (out _ (by omega) (by omega))
      have l98 : Lst iF H98 r50 (List.replicate o.V.length (-5)) := l2.kp k98 fun x hx => by have := f50 x hx; exact out x (by omega) (by have := l50.lt hx; omega)
      have kk98 : Kp No H H98 := (k.trans kk2 fun _ h => h.elim).trans k98 fun x hx => .inr (by
        rcases hx with hx | hx
        · exact hG x hx
        · have := f62 x hx; omega)
      have G98 : ∀ x, (G x ∨ r62.at x ∨ (H2.size ≤ x ∧ x < H98.size)) → H.size ≤ x := fun x hx => by
        rcases hx with hx | hx | hx
        · exact hG x hx
        · have := f62 x hx; omega
        · omega
      intro Z hZ
      suffices G3 : ∀ (d j : Nat), j + d = o.V.length → Z (j : Int) H98 from G3 o.V.length 0 (by omega)
      intro d
      induction d with
      | succ d ih3 =>
        intro j hj
        have gj : (List.replicate o.V.length (-5 : Int))[j]? = some (-5) := by rw [List.getElem?_replicate, if_pos (by omega)]
        obtain ⟨b, hb', _, cb⟩ := l98.rd.get gj
        refine hZ _ _ ⟨r50, x98.cell_of (i := 1) rfl, fun _ => ⟨r50, x98.cell_of (i := 1) rfl, b, hb', by omega, by omega, -5, cb.1, fun hh => absurd rfl (of_decide_eq_true hh), fun _ => ?_⟩, fun hh => absurd (of_decide_eq_false hh) (by omega)⟩
        rw [wr (by omega) (by omega)]
        exact ih3 (j + 1) (by omega)
      | zero =>
        intro j hj
        refine hZ _ _ ⟨r50, x98.cell_of (i := 1) rfl, fun hh => absurd (of_decide_eq_true hh) (by omega), fun _ => ⟨o.k, o.v, o.w, o.s, o98.all, c19 (ht.kp kk98 (by omega) id) (hm.kp kk98 id) (oiv.no kk98) fun H130 k130 => ⟨fun hh => (by cases hh), fun _ => ?_⟩⟩⟩
        have b130 := b98.no k130
        have fin : F7_7 Q X sl ⟨H1.size, 0, none⟩ (i : Int) false H130 := by
          refine ⟨fun hh => (by cases hh), fun _ => ?_⟩
          rw [wr (by omega) (by omega)]
          exact ih (i + 1) _ ls' sz' a' R' H130 (by omega) b130 G98 (by omega) (kk98.trans k130 fun _ h => h.elim)
        exact ⟨fun _ => c22 b130 (by omega) fin, fun _ => fin⟩
end Go.Hw
