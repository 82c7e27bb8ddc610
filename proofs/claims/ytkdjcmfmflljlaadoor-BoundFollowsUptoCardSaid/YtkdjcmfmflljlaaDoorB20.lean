/- Uses; what a leaf speaks against; what follows, of numbers. Own work of this session. -/
import Derived.Test.YtkdjcmfmflljlaaDoorB18
import Derived.Test.YtkdjcmfmflljlaaDoorHwJ
set_option linter.unusedVariables false
namespace Go.Hw
open Go

def usesP (c : ER × Fo) : Bool := (leavesP c.1 c.2).all fun x => (solvP x.1 x.2).isSome
def againstP (o : Int) : List Int := if o = 6 then [8, 10] else if o = 8 then [11] else if o = 9 then [10] else if o = 10 then [9] else if o = 11 then [8] else []
def followsP (S : Sys) (kept : List Leaf) (next : Leaf) : Bool := (againstP next.o).all fun op => (solveP S (kept ++ [{ next with o := op }])).isNone
section
variable {H H0 : Hp} {r : ER} {q : Sl} {kd : Fo}
theorem c17 {Q : Bool → Hp → Prop} (k0 : Kp No H0 H) (hx : Xk H0 q kd) (hl : (leavesP r kd).length ≤ 100000) (hQ : ∀ H', Kp No H H' → Q (usesP (r, kd)) H') : F17 r.k r.o r.vk r.vi r.vs r.vb r.v r.p r.a q H Q := by
  intro H1 e1
  have k1 : Kp No H H1 := (Kp.refl No H).push' e1
  have x1 : Row H1 H.size 41 (r.row q) := Row.new' e1
  refine ⟨_, _, _, _, _, _, _, _, _, _, x1.all, c35 (k0.no2 k1) hx hl fun sl W H14 hw lv k14 => ?_⟩
  have kk := k1.no2 k14
  have hn := lv.l.n
  have hlen : W.length = (leavesP r kd).length := by rw [← hw, List.length_map]
  rw [List.length_map] at hn
  intro X hX
  suffices ∀ d i H', i + d = W.length → ((leavesP r kd).take i).all (fun x => (solvP x.1 x.2).isSome) = true → Kp No H14 H' → X i H' from this _ 0 H14 (Nat.zero_add _) (by simp) (Kp.refl _ _)
  intro d
  induction d with
  | zero =>
    intro i H' hi ha k
    refine hX _ _ ⟨fun hh => absurd (of_decide_eq_true hh) (by omega), fun _ => ?_⟩
    rw [List.take_of_length_le (by omega)] at ha
    have := hQ H' (kk.no2 k)
    rw [usesP, ha] at this
    exact this
  | succ d ih =>
    intro i H' hi ha k
    obtain ⟨w, gw⟩ : ∃ w, W[i]? = some w := ⟨_, List.getElem?_eq_getElem (by omega)⟩
    have hm := List.mem_of_getElem? gw
    have gl : (leavesP r kd)[i]? = some w.2 := by rw [← hw, List.getElem?_map, gw]; rfl
    have htk := take_snoc gl
    obtain ⟨he, hxw⟩ := lv.x w hm
    obtain ⟨a, ea, han, ca⟩ := (lv.no k).l.rd.get (show (W.map Prod.fst)[i]? = some w.1 by rw [List.getElem?_map, gw]; rfl)
    have en : ((i : Nat) : Int).toNat = i := by omega
    refine hX _ _ ⟨fun _ => ⟨a, ea, by omega, by omega, _, _, _, _, _, _, _, _, _, _, by rw [en]; exact ca, fun H36 e36 => ?_⟩, fun hh => absurd (of_decide_eq_false hh) (by omega)⟩
    have k36 : Kp No H' H36 := (Kp.refl _ _).push' e36
    have y36 : Row H36 H'.size 41 (zeroE.row Sl.nil) := Row.new' e36
    refine ⟨y36.mayw (by simp), fun H38 e38 => ?_⟩
    have y38 : Row H38 H'.size 41 (w.1.1.row w.1.2) := y36.fill' e38 rfl
    have k38 : Kp No H' H38 := k36.box ((Kp.refl _ _).sets' e38 (.inl rfl)) (Nat.le_refl _)
    rw [he] at y38
    have kA := k.no2 k38
    refine ⟨_, _, _, _, _, _, _, _, _, _, y38.all, c36 ((k0.no2 kk).no2 kA) hxw fun H52 o r1 q1 r2 q2 ok k52 hs H76 e76 => ?_⟩
    have k76 : Kp No H52 H76 := (Kp.refl _ _).push' e76
    have y76 : Row H76 H52.size 89 (sideRow 0 zeroE Sl.nil zeroE Sl.nil) := Row.new' e76
    refine ⟨y76.mayw (by simp), fun H78 e78 => ?_⟩
    have k78 : Kp No H52 H78 := k76.box ((Kp.refl _ _).sets' e78 (.inl rfl)) (Nat.le_refl _)
    have kB := (kA.no2 k52).no2 k78
    cases hp : solvP w.2.1 w.2.2 with
    | none =>
      rw [hp] at hs
      have hok : ok = false := hs
      refine ⟨fun _ => ?_, fun hh => by rw [hok] at hh; cases hh⟩
      have hu : usesP (r, kd) = false := by
        rw [Bool.eq_false_iff]
        intro hu
        have := List.all_eq_true.1 hu w.2 (List.mem_of_getElem? gl)
        rw [hp] at this; cases this
      have := hQ H78 (kk.no2 kB)
      rw [hu] at this; exact this
    | some s =>
      rw [hp] at hs
      have hok : ok = true := hs.1
      refine ⟨fun hh => (by rw [hok] at hh; cases hh), fun _ => ?_⟩
      rw [wr (by omega) (by omega), show ((i : Int) + 1) = ((i + 1 : Nat) : Int) by omega]
      refine ih (i + 1) H78 (by omega) ?_ kB
      rw [htk, List.all_append, ha]
      simp [hp]
theorem c52 {o : Int} {Q : Sl → Hp → Prop} (hQ : ∀ sl H', RdL iF H' sl (againstP o) → Kp No H H' → Q sl H') : F52 o H Q := by
  unfold againstP at hQ
  have mk : ∀ (L : List Int) (H' : Hp), H' = Array.push H (.cells (L.flatMap iF.f).toArray 3) → RdL iF H' (Sl.mk (some ⟨H.size, 0, none⟩) L.length L.length) L ∧ Kp No H H' := fun L H' e => by
    have : Row H' H.size 3 (L.flatMap iF.f) := Row.new' e
    exact ⟨this.rdl rfl _, (Kp.refl _ _).push' e⟩
  refine ⟨fun g H' e => ?_, fun g => ⟨fun g2 H' e => ?_, fun g2 => ⟨fun g3 H' e => ?_, fun g3 => ⟨fun g4 H' e => ?_, fun g4 => ⟨fun g5 H' e => ?_, fun g5 => ?_⟩⟩⟩⟩⟩
  · rw [if_pos (of_decide_eq_true g)] at hQ
    obtain ⟨h, k⟩ := mk [8, 10] H' e
    exact hQ _ H' h k
  · rw [if_neg (of_decide_eq_false g), if_pos (of_decide_eq_true g2)] at hQ
    obtain ⟨h, k⟩ := mk [11] H' e
    exact hQ _ H' h k
  · rw [if_neg (of_decide_eq_false g), if_neg (of_decide_eq_false g2), if_pos (of_decide_eq_true g3)] at hQ
    obtain ⟨h, k⟩ := mk [10] H' e
    exact hQ _ H' h k
  · rw [if_neg (of_decide_eq_false g), if_neg (of_decide_eq_false g2), if_neg (of_decide_eq_false g3), if_pos (of_decide_eq_true g4)] at hQ
    obtain ⟨h, k⟩ := mk [9] H' e
    exact hQ _ H' h k
  · rw [if_neg (of_decide_eq_false g), if_neg (of_decide_eq_false g2), if_neg (of_decide_eq_false g3), if_neg (of_decide_eq_false g4), if_pos (of_decide_eq_true g5)] at hQ
    obtain ⟨h, k⟩ := mk [8] H' e
    exact hQ _ H' h k
  · rw [if_neg (of_decide_eq_false g), if_neg (of_decide_eq_false g2), if_neg (of_decide_eq_false g3), if_neg (of_decide_eq_false g4), if_neg (of_decide_eq_false g5)] at hQ
    exact hQ Sl.nil H (RdL.nil _ _) (Kp.refl _ _)
theorem against_len (o : Int) : (againstP o).length ≤ 2 := by
  unfold againstP
  repeat' split
  all_goals simp
end

section
variable {H H0 : Hp} {p : Nat} {S : Sys} {sl vs : Sl} {z : Option Addr} {kept : List Leaf} {next : Leaf} {Q : Bool → Hp → Prop}
theorem c34 (hs : SyH H p S) (hl : RdL leafF H sl kept) (hL : kept.length ≤ 99999) (hi : ∀ l ∈ kept, l.a < S.refs.length ∧ (l.two = true → l.b < S.refs.length)) (hn : next.a < S.refs.length ∧ (next.two = true → next.b < S.refs.length)) (hk : kindP S next.a = 1)
    (hcap : sl.n ≤ sl.c) (hQ : ∀ H', Kp No H H' → Q (followsP S kept next) H') : F34 (some ⟨p, 0, none⟩) sl vs z next.o next.a next.b next.two next.v.k next.v.n next.v.s next.v.b H Q := by
  intro H1 e1 H3 e3
  have k3 : Kp No H H3 := ((Kp.refl No H).push' e1).push' e3
  have y3 : Row H3 H1.size 80 (leafF.f next) := Row.new' e3
  have s1 := size_push' e1
  have s3 := size_push' e3
  have hln := hl.n
  refine ⟨_, rowc (i := 1) y3 rfl, c44 (hs.no k3) hn.1 ⟨fun h => absurd hk (of_decide_eq_true h), fun _ => ⟨_, y3.cell_of (i := 0) rfl, c52 fun ag H96 ra k96 => ?_⟩⟩⟩
  have kk := k3.no2 k96
  have y96 := k96.row y3 id
  have han := ra.n
  have hal := against_len next.o
  intro X hX
  suffices ∀ d i H', i + d = (againstP next.o).length → ((againstP next.o).take i).all (fun op => (solveP S (kept ++ [{ next with o := op }])).isNone) = true → Kp No H96 H' → X i H' from this _ 0 H96 (Nat.zero_add _) (by simp) (Kp.refl _ _)
  intro d
  induction d with
  | zero =>
    intro i H' hi' ha k
    refine hX _ _ ⟨fun hh => absurd (of_decide_eq_true hh) (by omega), fun _ => ?_⟩
    rw [List.take_of_length_le (by omega)] at ha
    have := hQ H' (kk.no2 k)
    rw [followsP, ha] at this
    exact this
  | succ d ih =>
    intro i H' hi' ha k
    obtain ⟨op, go⟩ : ∃ op, (againstP next.o)[i]? = some op := ⟨_, List.getElem?_eq_getElem (by omega)⟩
    have htk := take_snoc go
    obtain ⟨a, ea, hab, ca⟩ := (ra.kp0 k).get go
    have en : ((i : Nat) : Int).toNat = i := by omega
    have y' := k.row y96 id
    refine hX _ _ ⟨fun _ => ⟨a, ea, by omega, by omega, _, by rw [en]; exact ca.1, _, _, _, _, _, _, _, _, y'.all, fun H121 e121 => ?_⟩, fun hh => absurd (of_decide_eq_false hh) (by omega)⟩
    have k121 : Kp No H' H121 := (Kp.refl _ _).push' e121
    have x121 : Row H121 H'.size 80 (leafF.f ⟨0, 0, 0, false, zeroV⟩) := Row.new' e121
    refine ⟨x121.mayw (by simp [leafF]), fun H123 e123 => ?_⟩
    have x123 : Row H123 H'.size 80 (leafF.f next) := x121.fill' e123 rfl
    have k123 : Kp No H' H123 := k121.box ((Kp.refl _ _).sets' e123 (.inl rfl)) (Nat.le_refl _)
    refine ⟨x123.some (by simp [leafF]), x123.frz 0, fun H126 e126 => ?_⟩
    have x126 : Row H126 H'.size 80 (leafF.f { next with o := op }) := x123.set' (i := 0) e126
    have k126 : Kp No H' H126 := k123.box ((Kp.refl _ _).set' e126 (.inl rfl)) (Nat.le_refl _)
    have kA := (kk.no2 k).no2 k126
    have e2 : ((sl.n : Nat) : Int).toNat = sl.n := by omega
    rw [e2]
    have hcut : RdL leafF H (Sl.cut sl 8 0 sl.n sl.n) kept := ⟨by show sl.n - 0 = _; omega, by
      have hr := hl.r
      unfold Sl.cut
      by_cases h0 : sl.n = 0
      · rw [if_pos h0]; exact hr
      · rw [if_neg h0]
        cases hb : sl.b with
        | none => rw [hb] at hr; exact hr
        | some a =>
          rw [hb] at hr
          have hr' : cells H a (kept.flatMap leafF.f) 0 := hr
          exact cells_add.2 (by rw [Nat.zero_mul, Nat.zero_add]; exact hr')⟩
    generalize hnx : ({ next with o := op } : Leaf) = nx at x126
    have hin : ∀ l ∈ kept ++ [nx], l.a < S.refs.length ∧ (l.two = true → l.b < S.refs.length) := fun l hl => by
      rcases List.mem_append.1 hl with hl | hl
      · exact hi l hl
      · rw [List.mem_singleton] at hl; subst hl; subst hnx; exact hn
    have run : ∀ (H2 : Hp) (r : Sl), Kp No H H2 → RdL leafF H2 r (kept ++ [nx]) → ∀ K : Sl → Option Addr → Bool → Hp → Prop, (∀ vs z H3, Kp No H2 H3 → K vs z (solveP S (kept ++ [nx])).isSome H3) → F26 (some ⟨p, 0, none⟩) r H2 K := fun H2 r k2 hr K hK =>
      c26 (hs.no k2) hr (by rw [List.length_append, List.length_singleton]; omega) hin (fun hno vs z H3 k3 => by have := hK vs z H3 k3; rw [hno] at this; exact this) fun N W vs w g gs m H3 hso _ _ k3 => by have := hK vs (some ⟨w, 0, none⟩) H3 k3; rw [hso] at this; exact this
    have done : ∀ H2, Kp No H126 H2 → F34_2 Q X (some ⟨p, 0, none⟩) sl ⟨H1.size, 0, none⟩ ag (ag.n : Int) i (solveP S (kept ++ [nx])).isSome H2 := fun H2 k2 => by
      refine ⟨fun hc => ?_, fun hc => ?_⟩
      · have hf : followsP S kept next = false := by
          rw [Bool.eq_false_iff]
          intro hf
          have := List.all_eq_true.1 hf op (List.mem_of_getElem? go)
          rw [hnx] at this
          cases hso : solveP S (kept ++ [nx]) with
          | none => rw [hso] at hc; cases hc
          | some _ => rw [hso] at this; cases this
        have := hQ H2 (kA.no2 k2)
        rw [hf] at this; exact this
      · rw [wr (by omega) (by omega), show ((i : Int) + 1) = ((i + 1 : Nat) : Int) by omega]
        refine ih (i + 1) H2 (by omega) ?_ (k.no2 (k126.no2 k2))
        rw [htk, List.all_append, ha]
        simp only [List.all_cons, List.all_nil, Bool.and_true, Bool.true_and]
        rw [hnx]
        cases hso : solveP S (kept ++ [nx]) with
        | none => rfl
        | some _ => rw [hso] at hc; cases hc
    have grow : ∀ (H2 : Hp) (b : Nat) (K : Sl → Hp → Prop), Kp No H H2 → Row H2 b 80 (leafF.f nx) → (∀ r H3, Lst leafF H3 r (kept ++ [nx]) → Kp No H2 H3 → K r H3) →
        AppendF H2 80 8 72 #[.int .i64 0, .int .i64 0, .int .i64 0, .bool false, .int .i64 0, .int .i64 0, .string (ByteArray.mk #[]), .bool false] (Sl.cut sl 8 0 sl.n sl.n) (Sl.mk (some ⟨b, 0, none⟩) 1 1).b (Sl.mk (some ⟨b, 0, none⟩) 1 1).n K := fun H2 b K k2 rb hK =>
      (hcut.kp0 k2).grow (Row.rdl1 rb) rfl (by show sl.n - 0 < _; simp; omega) (by simp; omega) (by simp; omega) fun r H3 l3 k3 _ => hK r H3 l3 k3
    have bxw : ∀ (vs : Sl) (z : Option Addr) (H2 H3 : Hp) (b : Nat) (l : List Value), Row H2 b 74 l → l.length = 2 → H126.size ≤ b → Kp No H126 H2 → H3 = sets H2 ⟨b, 0, none⟩ [Sl.v vs, .pointer z] 0 → Kp No H126 H3 := fun vs z H2 H3 b l r hl hb k2 e => k2.box ((Kp.refl _ _).sets' e (.inl rfl)) hb
    refine ⟨by omega, by omega, by omega, by omega, hcap, _, _, _, _, _, _, _, _, x126.all, ⟨fun H150 e150 => ⟨?_, fun H176 e176 => ?_⟩, fun H189 e189 => ?_⟩⟩
    · have k150 : Kp No H126 H150 := (Kp.refl _ _).push' e150
      have b150 : Row H150 H126.size 80 (leafF.f nx) := Row.new' e150
      refine grow H150 _ _ (kA.no2 k150) b150 fun r H152 l152 k152 => ⟨run H152 r (kA.no2 (k150.no2 k152)) l152.rd _ fun vs z H155 k155 H160 e160 => ?_, fun H166 e166 => ?_⟩
      · have b160 : Row H160 H155.size 74 [Sl.v Sl.nil, .pointer none] := Row.new' e160
        have kk2 := k150.no2 (k152.no2 k155)
        have := kk2.size
        exact ⟨b160.mayw (by simp), fun H162 e162 => done H162 (bxw vs z H160 H162 _ _ b160 rfl this (kk2.push' e160) e162)⟩
      · have k166 : Kp No H152 H166 := (Kp.refl _ _).push' e166
        have b166 : Row H166 H152.size 74 [Sl.v Sl.nil, .pointer none] := Row.new' e166
        refine run H166 r (kA.no2 (k150.no2 (k152.no2 k166))) (l152.rd.kp0 k166) _ fun vs z H168 k168 => ?_
        have b168 := k168.row b166 id
        have kk1 := k150.no2 k152
        have := kk1.size
        exact ⟨b168.mayw (by simp), fun H173 e173 => done H173 (bxw vs z H168 H173 _ _ b168 rfl this (kk1.no2 (k166.no2 k168)) e173)⟩
    · have k150 : Kp No H126 H150 := (Kp.refl _ _).push' e150
      have b150 : Row H150 H126.size 80 (leafF.f nx) := Row.new' e150
      have k176 : Kp No H150 H176 := (Kp.refl _ _).push' e176
      have b176 : Row H176 H150.size 74 [Sl.v Sl.nil, .pointer none] := Row.new' e176
      refine grow H176 _ _ (kA.no2 (k150.no2 k176)) (k176.row b150 id) fun r H178 l178 k178 => run H178 r (kA.no2 (k150.no2 (k176.no2 k178))) l178.rd _ fun vs z H181 k181 => ?_
      have b181 := (k178.no2 k181).row b176 id
      have := k150.size
      exact ⟨b181.mayw (by simp), fun H186 e186 => done H186 (bxw vs z H181 H186 _ _ b181 rfl this (k150.no2 (k176.no2 (k178.no2 k181))) e186)⟩
    · have k189 : Kp No H126 H189 := (Kp.refl _ _).push' e189
      have b189 : Row H189 H126.size 74 [Sl.v Sl.nil, .pointer none] := Row.new' e189
      refine ⟨(k189.row x126 id).all, fun H192 e192 => ?_⟩
      have k192 : Kp No H189 H192 := (Kp.refl _ _).push' e192
      have b192 : Row H192 H189.size 80 (leafF.f nx) := Row.new' e192
      refine grow H192 _ _ (kA.no2 (k189.no2 k192)) b192 fun r H194 l194 k194 => run H194 r (kA.no2 (k189.no2 (k192.no2 k194))) l194.rd _ fun vs z H197 k197 => ?_
      have b197 := (k192.no2 (k194.no2 k197)).row b189 id
      exact ⟨b197.mayw (by simp), fun H202 e202 => done H202 (bxw vs z H197 H202 _ _ b197 rfl (Nat.le_refl _) (k189.no2 (k192.no2 (k194.no2 k197))) e202)⟩
end
end Go.Hw
