/- eval: functions over events. Own work of this session. -/
import Derived.Test.YtfkhglkcplnppaaDoorE4
set_option linter.unusedVariables false
namespace Go.Hw
open Go

section
variable {H H0 : Hp} {p0 p1 : Sl} {p2 p3 : ByteArray} {p4 : Int} {p5 p6 : Sl} {m : EnvM}

theorem joinV {o a b : Int} (h2 : 2 ≤ o) (h4 : o ≤ 4) {Q : Int → Hp → Prop} (y : Value) (hy : ([.nilFunc, .nilFunc, (.func (.func 78) #[] #[]), (.func (.func 79) #[] #[]), (.func (.func 80) #[] #[])] : List Value)[o.toNat]? = some y) (hQ : Q (joinP o a b) H) : FV57_78_79_80 y a b H Q := by
  have : o = 2 ∨ o = 3 ∨ o = 4 := by omega
  rcases this with rfl | rfl | rfl
  · exact .inl ⟨(by simpa using hy.symm), hQ⟩
  · exact .inr (.inl ⟨(by simpa using hy.symm), hQ⟩)
  · exact .inr (.inr ⟨(by simpa using hy.symm), hQ⟩)

theorem c57 {r : ER} {q : Sl} {Q : Int → Int → ByteArray → Bool → Int → Hp → Prop} (h : EnvH H p0 p1 p2 p3 p4 p5 p6 m)
    (hQ : ∀ H', Kp No H H' → Q (aggP m r).1.k (aggP m r).1.n (aggP m r).1.s (aggP m r).1.b (aggP m r).2 H') : F57 p0 p1 p2 p3 p4 p5 p6 r.k r.o r.vk r.vi r.vs r.vb r.v r.p r.a q H Q := by
  intro H1 e1 H3 e3 H5 e5
  have k1 : Kp No H H1 := (Kp.refl _ _).push' e1
  have k3 : Kp No H H3 := k1.push' e3
  have k5 : Kp No H H5 := k3.push' e5
  have r1 : Row H5 H.size 90 [Sl.v p0, Sl.v p1, .string p2, .string p3, .int .i64 p4, Sl.v p5, Sl.v p6] := ((Row.new' e1).push' e3).push' e5
  have r2 : Row H5 H1.size 41 (r.row q) := (Row.new' e3).push' e5
  have r3 : Row H5 H3.size 38 zeroV.row := Row.new' e5
  have s1 := size_push' e1
  have s3 := size_push' e3
  have out : ∀ {Hx : Hp} (v : VT) (n : Int), Kp No H5 Hx → aggP m r = (v, n) → mayw Hx ⟨H3.size, 0, none⟩ 4 0 ∧ ∀ H' : Hp, H' = sets Hx ⟨H3.size, 0, none⟩ [(.int .i64 v.k), (.int .i64 v.n), (.string v.s), (.bool v.b)] 0 →
      (∃ (x6 : Int) (x7 : Int) (x8 : ByteArray) (x9 : Bool), cells H' ⟨H3.size, 0, none⟩ [(.int .i64 x6), (.int .i64 x7), (.string x8), (.bool x9)] 0 ∧ (Q x6 x7 x8 x9 n H')) := fun {Hx} v n k e => by
    refine ret4 (K := fun a b c d H' => Q a b c d n H') (k.row r3 id) rfl v fun H' _ k' => ?_
    have q := hQ H' ((k5.no2 k).box k' (by omega))
    rw [e] at q
    exact q
  unfold aggP at out
  -- behind the tests of the form
  have go1 : ¬ r.o < 1 → ¬ 4 < r.o → ¬ (r.p ≠ 6 ∧ r.p ≠ 7) → F57_1 Q ⟨H.size, 0, none⟩ ⟨H1.size, 0, none⟩ ⟨H3.size, 0, none⟩ false H5 := by
    intro o1 o2 o3
    rw [if_neg o1, if_neg o2, if_neg o3] at out
    refine ⟨fun h => (by cases h), fun _ => ⟨p0, p1, p2, p3, p4, p5, p6, r1.all, r.v, rowc r2 rfl, c69 h k5 (fun H17 hb k17 => ?_) fun s l H17 hb hs k17 => ?_⟩⟩
    · rw [hb] at out
      exact ⟨fun _ => ⟨fun _ => out zeroV 110 k17 rfl, fun h => (by cases h)⟩, fun h => (by cases h)⟩
    rw [hb] at out
    simp only [] at out
    obtain ⟨R, hR, hRl, hRe⟩ := hs.rows
    have hRn := hR.n
    have sm : l.length ≤ 4194304 := hs.small
    -- what is bound is there, and being taken where that is wanted
    have go2 : ∀ Hx, Kp No H5 Hx → ¬ (r.p = 7 ∧ takeP m r.v = false) → F57_2 Q ⟨H.size, 0, none⟩ ⟨H1.size, 0, none⟩ ⟨H3.size, 0, none⟩ s false Hx := by
      intro Hx kx o4
      rw [if_neg o4] at out
      have r2x := kx.row r2 id
      refine ⟨fun h => (by cases h), fun _ => ⟨r.o, rowc r2x rfl, fun g1 => ?_, fun g1 => ?_⟩⟩
      · have g1 := of_decide_eq_true g1
        rw [if_neg g1] at out
        refine ⟨r.o, rowc r2x rfl, fun H71 e71 => ?_⟩
        have k71 : Kp No Hx H71 := (Kp.refl _ _).push' e71
        have r71 := Row.new' e71
        refine ⟨r71.mayw (by simp), fun H72 e72 => ?_⟩
        have r72 : Row H72 Hx.size 120 [.nilFunc, .nilFunc, (.func (.func 78) #[] #[]), (.func (.func 79) #[] #[]), (.func (.func 80) #[] #[])] := r71.fill' e72 rfl
        have k72 : Kp No Hx H72 := k71.sets' e72 (.inr (Nat.le_refl _))
        refine ⟨_, _, _, _, _, r72.all, rowc (k72.row r2x id) rfl, by omega, by omega, ?_⟩
        have hlt : r.o.toNat < ([.nilFunc, .nilFunc, (.func (.func 78) #[] #[]), (.func (.func 79) #[] #[]), (.func (.func 80) #[] #[])] : List Value).length := by simp; omega
        refine ⟨_, List.getElem?_eq_getElem hlt, ?_⟩
        have gy := List.getElem?_eq_getElem hlt
        generalize ([.nilFunc, .nilFunc, (.func (.func 78) #[] #[]), (.func (.func 79) #[] #[]), (.func (.func 80) #[] #[])] : List Value)[r.o.toNat]'hlt = y at gy
        intro X hX
        suffices G : ∀ (d i : Nat) (n : Int) (H' : Hp), i + d = l.length → aggGo m.types r.a r.o 0 0 l = aggGo m.types r.a r.o i n (l.drop i) → Kp No H5 H' → X n (i : Int) H' from G l.length 0 0 H72 (by omega) rfl (kx.no2 k72)
        intro d
        induction d with
        | zero =>
          intro i n H' hi hg k
          rw [List.drop_of_length_le (by omega), aggGo] at hg
          rw [hg] at out
          rw [if_neg (by simp)] at out
          refine hX _ _ _ ⟨fun hh => absurd (of_decide_eq_true hh) (by omega), fun _ => ⟨fun g => ?_, fun g => ?_⟩⟩
          · have g := of_decide_eq_true g
            refine ⟨r.o, rowc (k.row r2 id) rfl, fun g5 => ?_, fun g5 => ?_⟩
            · rw [if_pos ⟨by omega, of_decide_eq_true g5⟩] at out
              exact out zeroV 110 k rfl
            · rw [if_neg (fun h => of_decide_eq_false g5 h.2)] at out
              exact out (numV n) 0 k rfl
          · have g := of_decide_eq_false g
            rw [if_neg (fun h => g (by omega))] at out
            exact ⟨fun h => (by cases h), fun _ => out (numV n) 0 k rfl⟩
        | succ d ih =>
          intro i n H' hi hg k
          have gr : R[i]? = some (R[i]'(by omega)) := List.getElem?_eq_getElem (by omega)
          generalize R[i]'(by omega) = rr at gr
          have ge : l[i]? = some (l[i]'(by omega)) := List.getElem?_eq_getElem (by omega)
          have dr : l.drop i = l[i]'(by omega) :: l.drop (i + 1) := List.drop_eq_getElem_cons (by omega)
          generalize l[i]'(by omega) = e at ge dr
          obtain ⟨a1, a2, a3⟩ := hRe i rr e gr ge
          obtain ⟨p, hp, hpn, cp⟩ := (hR.kp0 (k5.no2 k)).get gr
          rw [dr, aggGo] at hg
          have it : ((i : Int)).toNat = i := by omega
          refine hX _ _ _ ⟨fun _ => ⟨p, hp, by omega, by omega, rr.1, rr.2.1, rr.2.2, by rw [it]; exact cp, fun H128 e128 => ?_⟩, fun hh => absurd (of_decide_eq_false hh) (by omega)⟩
          have k128 := k.push' e128
          have r128 := Row.new' e128
          refine ⟨r128.mayw (by simp), fun H130 e130 => ?_⟩
          have r130 : Row H130 H'.size 36 [.string rr.1, .int .i64 rr.2.1, Sl.v rr.2.2] := r128.fill' e130 rfl
          have k130 : Kp No H5 H130 := k128.sets' e130 (.inr k.size)
          refine ⟨rr.1, rr.2.1, rr.2.2, r130.all, r.a, rowc (k130.row r2 id) rfl, p6, rowc (k130.row r1 id) rfl, ?_⟩
          rw [a1, a2]
          refine c28 (a3.kp0 (k5.no2 k130)) (h.types.no (k5.no2 k130)) fun H141 k141 H148 e148 => ?_
          generalize attrP m.types e r.a = av at hg
          have kk := k130.no2 k141
          have k148 := kk.push' e148
          have r148 := Row.new' e148
          refine ⟨r148.mayw (by simp), fun H150 e150 => ?_⟩
          have r150 : Row H150 H141.size 38 av.1.row := r148.fill' e150 rfl
          have k150 : Kp No H5 H150 := k148.sets' e150 (.inr kk.size)
          refine ⟨fun g => ?_, fun g => ⟨av.1.k, r150.cell_of rfl, fun g2 => ?_, fun g2 => ?_⟩⟩
          · have g := of_decide_eq_true g
            rw [if_pos g] at hg
            rw [hg, if_pos (show (av.2, n).1 ≠ 0 from g)] at out
            exact out zeroV av.2 k150 rfl
          · rw [if_neg (of_decide_eq_false g), if_pos (of_decide_eq_true g2)] at hg
            rw [hg, if_pos (show ((10 : Int), n).1 ≠ 0 from (by decide : (10 : Int) ≠ 0))] at out
            exact out zeroV 10 k150 rfl
          · rw [if_neg (of_decide_eq_false g), if_neg (of_decide_eq_false g2)] at hg
            refine ⟨fun g3 => ⟨av.1.n, rowc r150 rfl, ?_⟩, fun g3 => ⟨av.1.n, rowc r150 rfl, ?_⟩⟩
            · unfold F57_6
              rw [wr (by omega) (by omega)]
              have : i = 0 := by have := of_decide_eq_true g3; omega
              rw [if_pos this] at hg
              exact ih (i + 1) _ H150 (by omega) hg k150
            · refine joinV (o := r.o) (by omega) (by omega) y gy ?_
              unfold F57_6
              rw [wr (by omega) (by omega)]
              have : i ≠ 0 := by have := of_decide_eq_false g3; omega
              rw [if_neg this] at hg
              exact ih (i + 1) _ H150 (by omega) hg k150
      · have g1 : r.o = 1 := Decidable.of_not_not (of_decide_eq_false g1)
        rw [if_pos g1] at out
        have q := out (numV (l.length : Int)) 0 kx rfl
        unfold F57_3
        rw [show (s.n : Int) = (l.length : Int) from by omega]
        exact q
    have r2' := k17.row r2 id
    have r1' := k17.row r1 id
    refine ⟨fun h => (by cases h), fun _ => ⟨r.p, rowc r2' rfl, fun g => ⟨p0, p1, p2, p3, p4, p5, p6, r1'.all, r.v, rowc r2' rfl, c70 (h.no (k5.no2 k17)) fun H69 k69 => ?_⟩, fun g => ?_⟩⟩
    · have g := of_decide_eq_true g
      by_cases t : takeP m r.v = true
      · rw [t]
        exact go2 H69 (k17.no2 k69) (fun hh => by rw [t] at hh; exact absurd hh.2 (by decide))
      · have t : takeP m r.v = false := by simpa using t
        rw [t]
        rw [if_pos ⟨g, t⟩] at out
        exact ⟨fun _ => out zeroV 110 (k17.no2 k69) rfl, fun h => (by cases h)⟩
    · exact go2 H17 k17 (fun hh => of_decide_eq_false g hh.1)
  have bad : aggP m r = (zeroV, 60) → F57_1 Q ⟨H.size, 0, none⟩ ⟨H1.size, 0, none⟩ ⟨H3.size, 0, none⟩ true H5 := fun e => ⟨fun _ => out zeroV 60 (Kp.refl _ _) e, fun h => (by cases h)⟩
  unfold aggP at bad
  refine ⟨r.o, rowc r2 rfl, fun g1 => bad (by rw [if_pos (of_decide_eq_true g1)]), fun g1 => ⟨r.o, rowc r2 rfl, fun g2 => bad (by rw [if_neg (of_decide_eq_false g1), if_pos (of_decide_eq_true g2)]), fun g2 => ⟨r.p, rowc r2 rfl, fun g3 => ⟨r.p, rowc r2 rfl, ?_⟩, fun g3 => ?_⟩⟩⟩
  · by_cases g4 : r.p = 7
    · rw [decide_eq_false (fun h => h g4)]
      exact go1 (of_decide_eq_false g1) (of_decide_eq_false g2) (fun h => h.2 g4)
    · rw [decide_eq_true g4]
      exact bad (by rw [if_neg (of_decide_eq_false g1), if_neg (of_decide_eq_false g2), if_pos ⟨of_decide_eq_true g3, g4⟩])
  · exact go1 (of_decide_eq_false g1) (of_decide_eq_false g2) (fun h => of_decide_eq_false g3 h.1)
end
end Go.Hw
