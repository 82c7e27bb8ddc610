/- The document's list; lists compared. Own work of this session. -/
import Derived.Test.YtbhfkpdalilhcaaDoorT15
set_option linter.unusedVariables false
namespace Go.Hw
open Go

section
variable {H H' : Hp} {sl : Sl} {M : List (ByteArray × Sl)} {D : List CE} {B : Nat}
/-- Told, as pairs. -/
structure ToldP (H : Hp) (sl : Sl) (W : List ((ByteArray × Sl) × CE)) (B : Nat) : Prop where
  l : Lst tF H sl (W.map Prod.fst)
  a : ∀ w ∈ W, w.1.1 = w.2.n ∧ Lst aF H w.1.2 w.2.A ∧ ∀ b, w.1.2.at b → B ≤ b
  ne : (W.map Prod.fst).Pairwise fun x y => ∀ b, x.2.at b → ¬ y.2.at b
  b : ∀ b, sl.at b → B ≤ b
theorem ToldP.told {W : List ((ByteArray × Sl) × CE)} (h : ToldP H sl W B) : Told H sl (W.map Prod.fst) (W.map Prod.snd) B :=
  ⟨h.l, by simp, fun i m z hm hz => by
    rw [List.getElem?_map, Option.map_eq_some_iff] at hm hz
    obtain ⟨p, hp, rfl⟩ := hm
    obtain ⟨q, hq, rfl⟩ := hz
    rw [hp] at hq
    injection hq with hq
    subst hq
    exact h.a p (List.mem_of_getElem? hp), h.ne, h.b⟩
theorem ToldP.kp {S : Nat → Prop} {W : List ((ByteArray × Sl) × CE)} (h : ToldP H sl W B) (k : Kp S H H') (h1 : ∀ b, sl.at b → ¬ S b) (h2 : ∀ w ∈ W, ∀ b, w.1.2.at b → ¬ S b) : ToldP H' sl W B :=
  ⟨h.l.kp k h1, fun w hw => ⟨(h.a w hw).1, (h.a w hw).2.1.kp k (h2 w hw), (h.a w hw).2.2⟩, h.ne, h.b⟩
theorem ToldP.no {W : List ((ByteArray × Sl) × CE)} (h : ToldP H sl W B) (k : Kp No H H') : ToldP H' sl W B := h.kp k (fun _ _ => id) fun _ _ _ _ => id

theorem ins_swap {α : Type} (P S : List α) (p x : α) : (((P ++ [p]) ++ [x] ++ S).set (P.length + 1) p).set P.length x = P ++ [x] ++ (p :: S) := by
  apply List.ext_getElem?
  intro i
  simp only [List.getElem?_set, List.getElem?_append, List.length_append, List.length_set, List.length_singleton, List.getElem?_cons]
  by_cases h1 : i < P.length
  · simp [h1, show ¬ P.length = i by omega, show ¬ P.length + 1 = i by omega, show i < P.length + 1 by omega, show i < P.length + 1 + 1 by omega]
  · by_cases h2 : P.length = i
    · subst h2
      simp
      omega
    · by_cases h3 : P.length + 1 = i
      · subst h3
        simp
        omega
      · simp [h1, h2, h3, show ¬ i < P.length + 1 by omega, show ¬ i < P.length + 1 + 1 by omega]
        rw [show i - (P.length + 1) = (i - (P.length + 1 + 1)) + 1 by omega]
        simp
end

section
variable {H : Hp} {rb : Nat} {s : Sl} {M : List (ByteArray × Sl)} {Z : List CE}

/-- The list in which each type is put behind those with a lower name. -/
theorem c45 {Q : Sl → Hp → Prop} (h : RefH H rb s M Z) (hZ : Z.length ≤ 64) (hA : ∀ z ∈ Z, z.A.length ≤ 16)
    (hQ : ∀ sl M' D H', D.Perm Z → D.Pairwise leN → Told H' sl M' D H.size → Kp No H H' → Q sl H') : F45 (some ⟨rb, 0, none⟩) H Q := by
  have hn := h.l.n
  have hlen := h.len
  intro X hX
  suffices G : ∀ (d i : Nat) (sl : Sl) (W : List ((ByteArray × Sl) × CE)) (H' : Hp), i + d = Z.length → (W.map Prod.snd).Perm (Z.take i) → (W.map Prod.snd).Pairwise leN → ToldP H' sl W H.size → Kp No H H' → X sl (i : Int) H' from
    G Z.length 0 Sl.nil [] H (by omega) (List.Perm.refl _) List.Pairwise.nil ⟨Lst.nil _ _, (fun w hw => (by cases hw)), List.Pairwise.nil, (fun b hb => (by cases hb))⟩ (Kp.refl _ _)
  intro d
  induction d with
  | zero =>
    intro i sl W H' hi hp hs ht k
    rw [List.take_of_length_le (by omega)] at hp
    exact hX _ _ _ ⟨_, rfl, s, (h.no k).row.cell_of (i := 0) rfl, fun hh => absurd (of_decide_eq_true hh) (by omega), fun _ => hQ sl _ _ H' hp hs ht.told k⟩
  | succ d ih =>
    intro i sl W H' hi hp hs ht k
    have h' := h.no k
    have gz : Z[i]? = some (Z[i]'(by omega)) := List.getElem?_eq_getElem (by omega)
    have gm : M[i]? = some (M[i]'(by omega)) := List.getElem?_eq_getElem (by omega)
    have htk : Z.take (i + 1) = Z.take i ++ [Z[i]'(by omega)] := by simp
    have hz := h'.a i _ _ gm gz
    have hzm : Z[i]'(by omega) ∈ Z := List.getElem_mem _
    generalize Z[i]'(by omega) = z at gz htk hz hzm
    generalize M[i]'(by omega) = m at gm hz
    obtain ⟨p, hpb, hpn, cp⟩ := h'.l.rd.get gm
    have hWl : W.length = i := by
      have := hp.length_eq
      rw [List.length_map, List.length_take] at this
      omega
    have hsz := k.size
    refine hX _ _ _ ⟨_, rfl, s, h'.row.cell_of (i := 0) rfl, fun _ => ⟨_, rfl, s, h'.row.cell_of (i := 0) rfl, p, hpb, by omega, by omega, m.1, m.2, by rw [show ((i : Int)).toNat = i from by omega]; exact cp, c70 hz.2.rd (by have := hA z hzm; omega) fun r H22 lr fr k22 => fun H26 e26 => ?_⟩, fun hh => absurd (of_decide_eq_false hh) (by omega)⟩
    have k26 : Kp No H22 H26 := (Kp.refl No _).push' e26
    have s26 := size_push' e26
    have s22 := k22.size
    have x26 : Row H26 H22.size 27 (tF.f (m.1, r)) := Row.new' e26
    have kk26 := k22.no2' k26
    have t26 := ht.no kk26
    have hsl : ∀ b, sl.at b → b < H'.size := fun b hb => ht.l.lt hb
    refine t26.l.append1 x26 rfl (by simp; omega) (by simp; omega) fun r30 H28 l28 k28 g28 => ?_
    have kk28 : Kp No H H28 := (k.no2' kk26).trans k28 fun b hb => .inr (ht.b b hb)
    have nsl : ∀ {q : Sl} {C : List (ByteArray × Int)}, Lst aF H26 q C → ∀ b, q.at b → ¬ sl.at b := fun {q C} hq b hb hh => by
      obtain ⟨sp, hr⟩ := t26.l.row hh
      exact hq.ne hr (by decide) hb
    have l28 : Lst tF H28 r30 ((W ++ [((m.1, r), z)]).map Prod.fst) := by rw [List.map_append]; exact l28
    have t28 : ToldP H28 r30 (W ++ [((m.1, r), z)]) H.size := by
      refine ⟨l28, fun w hw => ?_, ?_, fun b hb => ?_⟩
      · rcases List.mem_append.1 hw with hw | hw
        · have := t26.a w hw
          exact ⟨this.1, this.2.1.kp k28 (nsl this.2.1), this.2.2⟩
        · rw [List.mem_singleton] at hw
          subst hw
          exact ⟨hz.1, (lr.kp k26 fun _ _ => id).kp k28 (nsl (lr.kp k26 fun _ _ => id)), fun b hb => by have := fr b hb; omega⟩
      · rw [List.map_append, List.pairwise_append]
        refine ⟨t26.ne, List.pairwise_singleton _ _, fun x hx y hy b hb hh => ?_⟩
        have hy : y = (m.1, r) := by simpa using hy
        subst hy
        obtain ⟨w, hw, rfl⟩ := List.mem_map.1 hx
        have h1 := (ht.a w hw).2.1.lt hb
        have := fr b hh
        omega
      · rcases g28 b hb with hb | hb
        · exact ht.b b hb
        · omega
    -- it goes down
    have hn30 : r30.n = i + 1 := by
      have := l28.n
      simp at this; omega
    rw [hn30, wr (by omega) (by omega), show ((i + 1 : Nat) : Int) - 1 = (i : Int) from by omega]
    intro Y hY
    suffices G4 : ∀ (j : Nat) (P S : List ((ByteArray × Sl) × CE)) (x : (ByteArray × Sl) × CE) (H2 : Hp), P.length = j → P.length + S.length = i → (((P ++ [x] ++ S).map Prod.snd).Perm (Z.take (i + 1))) → ((P ++ S).map Prod.snd).Pairwise leN → (∀ y ∈ S, leN x.2 y.2) → ToldP H2 r30 (P ++ [x] ++ S) H.size → Kp No H H2 → Y (j : Int) H2 from
      G4 i W [] ((m.1, r), z) H28 hWl (by simp; omega) (by
        rw [htk, List.append_nil, List.map_append]
        exact hp.append_right _) (by rw [List.append_nil]; exact hs) (fun y hy => by cases hy) (by rw [List.append_nil]; exact t28) kk28
    intro j
    induction j with
    | zero =>
      intro P S x H2 hP hPS hperm hsort hx ht2 k2
      obtain rfl : P = [] := List.eq_nil_of_length_eq_zero hP
      refine hY _ _ ⟨fun hh => absurd (of_decide_eq_true hh) (by omega), fun _ => ?_⟩
      unfold F45_3
      rw [wr (by omega) (by omega)]
      refine ih (i + 1) r30 _ H2 (by omega) hperm ?_ ht2 k2
      show (x.2 :: S.map Prod.snd).Pairwise leN
      rw [List.pairwise_cons]
      refine ⟨fun y hy => ?_, hsort⟩
      obtain ⟨w, hw, rfl⟩ := List.mem_map.1 hy
      exact hx w hw
    | succ j ihj =>
      intro P S x H2 hP hPS hperm hsort hx ht2 k2
      obtain ⟨P0, p, rfl⟩ : ∃ P0 p, P = P0 ++ [p] := ⟨P.dropLast, P.getLast (fun e => by rw [e] at hP; cases hP), (List.dropLast_concat_getLast _).symm⟩
      have hP0 : P0.length = j := by simpa using hP
      generalize hL : ((P0 ++ [p] ++ [x] ++ S).map Prod.fst) = L at *
      have hLl : L.length = i + 1 := by rw [← hL]; simp at hPS ⊢; omega
      have gx : L[j + 1]? = some x.1 := by
        rw [← hL, List.getElem?_map, List.append_assoc, List.getElem?_append_right (by simp; omega)]
        simp [hP0]
      have gp : L[j]? = some p.1 := by
        rw [← hL, List.getElem?_map, List.append_assoc, List.append_assoc, List.getElem?_append_right (by omega)]
        simp [hP0]
      have hl2 : Lst tF H2 r30 L := by rw [← hL]; exact ht2.l
      obtain ⟨bx, hbx, hbxn, cx⟩ := hl2.rd.get gx
      obtain ⟨bp, hbp, hbpn, cp2⟩ := hl2.rd.get gp
      have jt : (((j + 1 : Nat) : Int)).toNat = j + 1 := by omega
      have jm : IntKind.i64.wrap (((j + 1 : Nat) : Int) - 1) = (j : Int) := by rw [wr (by omega) (by omega)]; omega
      have jt0 : ((j : Int)).toNat = j := by omega
      have c1 : ∀ {b : Addr} {q : Nat} {v : ByteArray × Sl}, cells H2 (b.add (q * 2)) (tF.f v) 0 → cell H2 (Addr.add b (q * 2)) = some (.string v.1) := fun {b q v} hc => by
        have := hc.1
        rwa [show (b.add (q * 2)).add 0 = b.add (q * 2) from by rw [add_add, Nat.add_zero]] at this
      have hsz2 := k2.size
      refine hY _ _ ⟨fun _ => ⟨bx, hbx, by omega, by omega, x.1.1, by rw [jt]; exact c1 cx, bp, hbp, by rw [jm]; omega, by rw [jm]; omega, p.1.1, by rw [jm, jt0]; exact c1 cp2, fun hlt => ?_, fun hlt => ?_⟩, fun hh => absurd (of_decide_eq_false hh) (by omega)⟩
      · -- it is lower
        have hlt : cmpS x.2.n p.2.n < 0 := by
          rw [slt_cmp, (ht2.a x (by simp)).1, (ht2.a p (by simp)).1] at hlt
          exact of_decide_eq_true hlt
        rw [jt, jm, jt0]
        refine ⟨bx, hbx, by omega, by omega, x.1.1, x.1.2, cx, fun H57 e57 => ?_⟩
        have k57 : Kp No H2 H57 := (Kp.refl No _).push' e57
        have r57 := Row.new' e57
        refine ⟨r57.mayw (by simp), fun H59 e59 => ?_⟩
        have x59 : Row H59 H2.size 27 [.string x.1.1, Sl.v x.1.2] := r57.fill' e59 rfl
        have k59 : Kp No H2 H59 := k57.sets' e59 (.inr (Nat.le_refl _))
        have l59 := hl2.kp k59 fun _ _ => id
        have s59 := k59.size
        obtain ⟨bp2, hbp2, hbpn2, cp3⟩ := l59.rd.get gp
        obtain ⟨b1, hb1, hs1, hn1, hmay1, hset1⟩ := l59.set (i := j + 1) (by omega) p.1
        refine ⟨bp2, hbp2, by omega, by omega, p.1.1, p.1.2, cp3, b1, hb1, by omega, by omega, hmay1, fun H73 e73 => ?_⟩
        obtain ⟨l73, k73⟩ := hset1 H73 e73
        have hat : ∀ b, r30.at b → b < H2.size := fun b hb => hl2.lt hb
        have x73 := k73.row x59 fun hh => by have := hat _ hh; omega
        obtain ⟨b2, hb2, hs2, hn2, hmay2, hset2⟩ := l73.set (i := j) (by rw [List.length_set]; omega) x.1
        refine ⟨x.1.1, x.1.2, x73.all, b2, hb2, by omega, by omega, hmay2, fun H83 e83 => ?_⟩
        obtain ⟨l83, k83⟩ := hset2 H83 e83
        have kk83 : Kp r30.at H2 H83 := (k59.mono fun _ _ h => h.elim).trans k73 (fun b hb => .inl hb) |>.trans k83 fun b hb => .inl hb
        have eL : (L.set (j + 1) p.1).set j x.1 = (P0 ++ [x] ++ (p :: S)).map Prod.fst := by
          rw [← hL, ← hP0]
          have := ins_swap (P0.map Prod.fst) (S.map Prod.fst) p.1 x.1
          simp only [List.length_map] at this
          simp only [List.map_append, List.map_cons, List.map_nil]
          exact this
        rw [eL] at l83
        have mem : ∀ w, w ∈ P0 ++ [x] ++ (p :: S) ↔ w ∈ P0 ++ [p] ++ [x] ++ S := fun w => by
          simp only [List.mem_append, List.mem_cons, List.not_mem_nil, or_false]
          constructor
          · rintro ((h | h) | (h | h))
            · exact .inl (.inl (.inl h))
            · exact .inl (.inr h)
            · exact .inl (.inl (.inr h))
            · exact .inr h
          · rintro (((h | h) | h) | h)
            · exact .inl (.inl h)
            · exact .inr (.inl h)
            · exact .inl (.inr h)
            · exact .inr (.inr h)
        have hpm : (P0 ++ [x] ++ (p :: S)).Perm (P0 ++ [p] ++ [x] ++ S) := by
          simp only [List.append_assoc, List.singleton_append]
          exact List.Perm.append_left P0 (List.Perm.swap p x S)
        refine ihj P0 (p :: S) x H83 hP0 (by simp at hPS ⊢; omega) ((hpm.map Prod.snd).trans hperm) ?_ (fun y hy => ?_) ⟨l83, fun w hw => ?_, ?_, ht2.b⟩ (k2.trans kk83 fun b hb => .inr (ht2.b b hb))
        · simpa only [List.append_assoc, List.singleton_append] using hsort
        · rcases List.mem_cons.1 hy with rfl | hy
          · exact cmpS_asymm hlt
          · exact hx y hy
        · have := ht2.a w ((mem w).1 hw)
          exact ⟨this.1, this.2.1.kp kk83 fun b hb hh => by
            obtain ⟨sp, hr⟩ := hl2.row hh
            exact this.2.1.ne hr (by decide) hb, this.2.2⟩
        · exact ((hpm.map Prod.fst).pairwise_iff (fun {x y} hxy b hb hh => hxy b hh hb)).2 ht2.ne
      · -- it stands right
        have hge : leN p.2 x.2 := by
          rw [slt_cmp, (ht2.a x (by simp)).1, (ht2.a p (by simp)).1] at hlt
          exact of_decide_eq_false hlt
        unfold F45_3
        rw [wr (by omega) (by omega)]
        refine ih (i + 1) r30 _ H2 (by omega) hperm ?_ ht2 k2
        rw [List.map_append, List.pairwise_append] at hsort
        rw [List.append_assoc, List.map_append, List.pairwise_append]
        obtain ⟨h1, h2, h3⟩ := hsort
        refine ⟨h1, ?_, fun a ha b hb => ?_⟩
        · show (x.2 :: S.map Prod.snd).Pairwise leN
          rw [List.pairwise_cons]
          refine ⟨fun y hy => ?_, h2⟩
          obtain ⟨w, hw, rfl⟩ := List.mem_map.1 hy
          exact hx w hw
        · have hb : b = x.2 ∨ b ∈ S.map Prod.snd := by simpa using hb
          rcases hb with rfl | hb
          · rw [List.map_append] at h1 ha
            rcases List.mem_append.1 ha with ha | ha
            · exact leN_trans ((List.pairwise_append.1 h1).2.2 a ha p.2 (by simp)) hge
            · have : a = p.2 := by simpa using ha
              rw [this]; exact hge
          · exact h3 a ha b hb

/-- Two lists of the same types are the same. -/
theorem c44 {sl sl2 : Sl} {M2 : List (ByteArray × Sl)} {Q : Bool → Hp → Prop} (h : RdL tF H sl M) (h2 : RdL tF H sl2 M2) (hl : M.length = M2.length) (hb : M.length ≤ 4194304)
    (ha : ∀ (i : Nat) (m m2 : ByteArray × Sl), M[i]? = some m → M2[i]? = some m2 → m.1 = m2.1 ∧ ∃ A, RdL aF H m.2 A ∧ RdL aF H m2.2 A ∧ A.length ≤ 4194304) (hQ : ∀ H', Kp No H H' → Q true H') : F44 sl sl2 H Q := by
  have hn := h.n
  have hn2 := h2.n
  refine ⟨fun hh => absurd (of_decide_eq_true hh) (by omega), fun _ => ?_⟩
  intro X hX
  suffices G : ∀ (d i : Nat) (H' : Hp), i + d = M.length → Kp No H H' → X (i : Int) H' from G M.length 0 H (by omega) (Kp.refl _ _)
  intro d
  induction d with
  | zero =>
    intro i H' hi k
    exact hX _ _ ⟨fun hh => absurd (of_decide_eq_true hh) (by omega), fun _ => hQ H' k⟩
  | succ d ih =>
    intro i H' hi k
    have g1 : M[i]? = some (M[i]'(by omega)) := List.getElem?_eq_getElem (by omega)
    have g2 : M2[i]? = some (M2[i]'(by omega)) := List.getElem?_eq_getElem (by omega)
    obtain ⟨e, A, hA1, hA2, hAl⟩ := ha i _ _ g1 g2
    generalize M[i]'(by omega) = m at g1 e hA1
    generalize M2[i]'(by omega) = m2 at g2 e hA2
    obtain ⟨p, hp, hpn, cp⟩ := (h.kp0 k).get g1
    obtain ⟨q, hq, hqn, cq⟩ := (h2.kp0 k).get g2
    have it : ((i : Int)).toNat = i := by omega
    refine hX _ _ ⟨fun _ => ⟨p, hp, by omega, by omega, m.1, m.2, by rw [it]; exact cp, q, hq, by omega, by omega, m2.1, m2.2, by rw [it]; exact cq, c15 (hA1.kp0 k) (hA2.kp0 k) hAl fun y H20 hy k20 => ?_⟩, fun hh => absurd (of_decide_eq_false hh) (by omega)⟩
    have hy : y = true := hy.2 ⟨e, rfl⟩
    subst hy
    refine ⟨fun hh => (by cases hh), fun _ => ?_⟩
    rw [wr (by omega) (by omega)]
    exact ih (i + 1) H20 (by omega) (k.no2' k20)
end
end Go.Hw
